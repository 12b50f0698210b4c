/-
  The model's operations, turned into the small language; that each does what its weakest precondition says: part 2. (Own work; seat-independent.)
-/
import Derived.Test.YtbifjffjibnjjaaDoorAbsC
set_option linter.unusedVariables false
set_option linter.unusedSimpArgs false
namespace Go.Abs
open Go

theorem RepD.bool_inv {m : Gh} {w : World} {p : Bool} {u : Value} (h : RepD m w (.v (.bool p)) u) : u = .bool p := by cases h with | v _ _ h => cases h; rfl
theorem RepD.int_inv {m : Gh} {w : World} {k : IntKind} {p : Int} {u : Value} (h : RepD m w (.v (.int k p)) u) : u = .int k p := by cases h with | v _ _ h => cases h; rfl
theorem RepD.str_inv {m : Gh} {w : World} {s : List UInt8} {u : Value} (h : RepD m w (.v (.str s)) u) : u = .string ⟨s.toArray⟩ := by cases h with | v _ _ h => cases h; rfl
theorem RepV.int_r {w : World} {F : Nat → Nat → Prop} {k : IntKind} {p : Int} {u : Value} (h : RepV w F (.int k p) u) : inR k p := by cases h; assumption
theorem RepV.str_r {w : World} {F : Nat → Nat → Prop} {s : List UInt8} {u : Value} (h : RepV w F (.str s) u) : s.length ≤ maxLen := by cases h; assumption
theorem RepD.int_r {m : Gh} {w : World} {k : IntKind} {p : Int} {u : Value} (h : RepD m w (.v (.int k p)) u) : inR k p := by cases h with | v _ _ h => exact h.int_r
theorem RepD.str_r {m : Gh} {w : World} {s : List UInt8} {u : Value} (h : RepD m w (.v (.str s)) u) : s.length ≤ maxLen := by cases h with | v _ _ h => exact h.str_r

theorem inR_wrap (k : IntKind) (n : Int) : inR k (k.wrap n) := by
  cases k <;> simp only [inR, IntKind.wrap, IntKind.min, IntKind.max, IntKind.bits, IntKind.signed] <;> simp <;> (try split) <;> omega
theorem inR_tmod {k : IntKind} {a b : Int} (h : inR k a) : inR k (a.tmod b) := by
  have key : (0 ≤ a → 0 ≤ a.tmod b ∧ a.tmod b ≤ a) ∧ (a ≤ 0 → a ≤ a.tmod b ∧ a.tmod b ≤ 0) := by
    refine ⟨fun ha => ?_, fun ha => ?_⟩
    · obtain ⟨n, rfl⟩ := Int.eq_ofNat_of_zero_le ha
      refine ⟨Int.tmod_nonneg _ ha, ?_⟩
      have h1 : ((n : Int).tmod b).natAbs ≤ n := by rw [Int.natAbs_tmod]; exact Nat.mod_le _ _
      omega
    · have h1 : (a.tmod b).natAbs ≤ a.natAbs := by rw [Int.natAbs_tmod]; exact Nat.mod_le _ _
      have h2 : (-a).tmod b = -(a.tmod b) := Int.neg_tmod _ _
      have h3 := Int.tmod_nonneg (a := -a) b (by omega)
      omega
  rcases Int.le_total 0 a with ha | ha
  · have := key.1 ha
    unfold inR at *
    have : k.min ≤ 0 := by cases k <;> decide
    omega
  · have := key.2 ha
    unfold inR at *
    have : 0 ≤ k.max := by cases k <;> decide
    omega
theorem inR_fdiv {k : IntKind} {a : Int} (n : Nat) (h : inR k a) : inR k (a.fdiv (2 ^ n)) := by
  have hp : (0 : Int) < 2 ^ n := Int.pow_pos (by omega)
  rw [Int.fdiv_eq_ediv_of_nonneg _ (by omega)]
  have key : (0 ≤ a → 0 ≤ a / 2 ^ n ∧ a / 2 ^ n ≤ a) ∧ (a ≤ 0 → a ≤ a / 2 ^ n ∧ a / 2 ^ n ≤ 0) := by
    refine ⟨fun ha => ⟨Int.ediv_nonneg ha (by omega), Int.ediv_le_self _ ha⟩, fun ha => ⟨?_, ?_⟩⟩
    · rw [Int.le_ediv_iff_mul_le hp]
      have : a * 2 ^ n ≤ a * 1 := Int.mul_le_mul_of_nonpos_left ha (by omega)
      omega
    · have := Int.ediv_le_ediv hp ha
      simpa using this
  unfold inR at *
  have h1 : k.min ≤ 0 := by cases k <;> decide
  have h2 : 0 ≤ k.max := by cases k <;> decide
  rcases Int.le_total 0 a with ha | ha
  · have := key.1 ha; omega
  · have := key.2 ha; omega
theorem inR_nat {n : Nat} (h : n ≤ maxLen) : inR .i64 n := by
  unfold maxLen at h
  simp only [inR, IntKind.min, IntKind.max, IntKind.bits, IntKind.signed]
  simp
  omega
theorem inR_byte (b : UInt8) : inR .u8 b.toNat := by
  have := b.toNat_lt
  simp only [inR, IntKind.min, IntKind.max, IntKind.bits, IntKind.signed]
  simp
  omega

section
variable {P : Program} {o : Oper}

theorem ok_mv {x : Operand} {e : E} (ho : o.op = .move x ∨ o.op = .assign x) (hx : cE x = some e) : OpOk P o (.mv e) :=
  .of_runs fun σ m w a s K hI hE hW => .still hI (by rcases ho with ho | ho <;> simp [execOp, ho]) hW (ev_rep hE hx)

theorem ok_pick {c x y : Operand} {ec ex ey : E} (ho : o.op = .pick c x y) (hc : cE c = some ec) (hx : cE x = some ex) (hy : cE y = some ey) : OpOk P o (.pick ec ex ey) := by
  refine .of_runs fun σ m w a s K hI hE hW => ?_
  simp only [WOp] at hW
  split at hW
  · rename_i p hp
    have hcv := ev_rep hE hc
    rw [hp] at hcv
    have hcv := hcv.bool_inv
    cases p with
    | true => exact .still hI (by simp [execOp, ho, hcv, asBool]) (hW.1 rfl) (ev_rep hE hx)
    | false => exact .still hI (by simp [execOp, ho, hcv, asBool]) (hW.2 rfl) (ev_rep hE hy)
  · exact hW.elim

theorem newObj_ok {σ : Sg} {m : Gh} {w : World} (hI : Inv σ m w) {cs : List D} {us : List Value} (ty : TypeId) (hl : cs.length = us.length) (h1 : ∀ u ∈ us, u.oneCell' = true)
    (hr : ∀ (i : Nat) d u, cs[i]? = some d → us[i]? = some u → RepD m w d u) :
    Inv (σ.add (.cells cs)) (m.add w.heap.size) (w.alloc (.cells us.toArray ty)) ∧ Ext m w (m.add w.heap.size) (w.alloc (.cells us.toArray ty)) ∧
      RepD (m.add w.heap.size) (w.alloc (.cells us.toArray ty)) (.ptr σ.objs.length 0) (.pointer (some ⟨w.heap.size, 0, none⟩)) :=
  ⟨hI.add _ _ (ObRep.new ty hl h1 hr), .add m w _, .ptr _ _ _ (.inl (by simp [Gh.add, ← hI.lobj]))⟩

theorem ok_alloc {e : TypeId} {i : TypeInfo} {z : Value} {x : V} (ho : o.op = .alloc e) (hi : P.info? e = some i) (hz : i.zero = some z) (hx : cV z = some x) : OpOk P o (.alloc x.cells) := by
  refine .of_runs fun σ m w a s K hI hE hW => ?_
  simp only [WOp] at hW
  obtain ⟨h1, h2, h3⟩ := (cV_rep (w := w) (F := Fz m w) hx).cellsR
  obtain ⟨hI', hX, hR⟩ := newObj_ok hI (cs := x.cells.map .v) (us := z.cells.toList) e (by simpa using h1) h3 fun j d u hd hu => by
    simp only [List.getElem?_map] at hd
    cases hc : x.cells[j]? with
    | none => simp [hc] at hd
    | some c => simp [hc] at hd; subst hd; exact .v _ _ (h2 j c u hc (by simpa using hu))
  refine ⟨_, _, _, _, _, _, ?_, .inl rfl, hW, hI', hX, hR⟩
  simp [execOp, ho, Instr.alloc, zeroValue, typeInfo, hi, hz, newVar, newRow]

theorem ok_box {e : TypeId} {x : Operand} {ex : E} (ho : o.op = .box e x) (hx : cE x = some ex) : OpOk P o (.box ex) := by
  refine .of_runs fun σ m w a s K hI hE hW => ?_
  simp only [WOp] at hW
  obtain ⟨h1, h2, h3⟩ := (ev_rep hE hx).cellsR hW.1
  obtain ⟨hI', hX, hR⟩ := newObj_ok hI (cs := (ev s ex).cells) (us := (a.eval x).cells.toList) e (by simpa using h1) h3 fun j d u hd hu => h2 j d u hd (by simpa using hu)
  refine ⟨_, _, _, _, _, _, ?_, .inl rfl, hW.2, hI', hX, hR⟩
  simp [execOp, ho, Instr.box, newVar, newRow]

/-! Building a struct -/

theorem foldl_put (off : Nat) : ∀ (vs : List Value) (j : Nat) (cells : Array Value), off + j + vs.length ≤ cells.size →
    ((vs.zipIdx j).foldl (fun cs (p : Value × Nat) => cs.setIfInBounds (off + p.2) p.1) cells).toList = cells.toList.take (off + j) ++ (vs ++ cells.toList.drop (off + j + vs.length))
  | [], j, cells, h => by simp
  | v :: vs, j, cells, h => by
    have ih := foldl_put off vs (j + 1) (cells.setIfInBounds (off + j) v) (by simp at h ⊢; omega)
    simp only [List.zipIdx_cons, List.foldl_cons]
    rw [ih]
    have := list_seg_step cells.toList (off + j) v vs (by simp at h ⊢; omega)
    simp only [Array.toList_setIfInBounds, List.length_cons]
    simpa [Nat.add_assoc, List.append_assoc] using this

theorem putAt_length {cs : List D} {off : Nat} {xs : List D} (h : off + xs.length ≤ cs.length) : (putAt cs off xs).length = cs.length := by
  simp [putAt]; omega

theorem putAt_rep {m : Gh} {w : World} {cs : List D} {us : List Value} (hl : cs.length ≤ us.length) (hr : ∀ (i : Nat) d u, cs[i]? = some d → us[i]? = some u → RepD m w d u)
    {off : Nat} {xs : List D} {vs : List Value} (hx : xs.length = vs.length) (hxr : ∀ (i : Nat) d u, xs[i]? = some d → vs[i]? = some u → RepD m w d u) (hfit : off + xs.length ≤ cs.length) :
    ∀ (i : Nat) d u, (putAt cs off xs)[i]? = some d → (us.take off ++ (vs ++ us.drop (off + vs.length)))[i]? = some u → RepD m w d u := by
  intro i d u hd hu
  unfold putAt at hd
  rcases Nat.lt_or_ge i off with hi | hi
  · rw [List.getElem?_append_left (by simp; omega), List.getElem?_take_of_lt hi] at hd
    rw [List.getElem?_append_left (by simp; omega), List.getElem?_take_of_lt hi] at hu
    exact hr i d u hd hu
  · rw [List.getElem?_append_right (by simp; omega)] at hd
    rw [List.getElem?_append_right (by simp; omega)] at hu
    simp only [List.length_take] at hd hu
    rw [show min off cs.length = off by omega] at hd
    rw [show min off us.length = off by omega] at hu
    rcases Nat.lt_or_ge (i - off) xs.length with h2 | h2
    · rw [List.getElem?_append_left h2] at hd
      rw [List.getElem?_append_left (by omega)] at hu
      exact hxr _ d u hd hu
    · rw [List.getElem?_append_right h2, List.getElem?_drop] at hd
      rw [List.getElem?_append_right (by omega), List.getElem?_drop] at hu
      rw [hx] at hd
      exact hr _ d u hd hu

theorem fill_rep {m : Gh} {w : World} (place : Nat → Option (Nat × Nat)) : ∀ (ps : List (Nat × Value)) (ds : List (Nat × Nat × D)) (cells : Array Value) (cs cs' : List D),
    ps.length = ds.length → (∀ (i : Nat) p d, ps[i]? = some p → ds[i]? = some d → place p.1 = some (d.1, d.2.1) ∧ RepD m w d.2.2 p.2) →
    cs.length = cells.size → (∀ (i : Nat) d u, cs[i]? = some d → cells[i]? = some u → RepD m w d u) → (∀ u ∈ cells.toList, u.oneCell' = true) → fillD cs ds = some cs' →
    ∃ cells', Instr.fill place cells ps = some cells' ∧ cs'.length = cells'.size ∧ (∀ (i : Nat) d u, cs'[i]? = some d → cells'[i]? = some u → RepD m w d u) ∧ ∀ u ∈ cells'.toList, u.oneCell' = true
  | [], [], cells, cs, cs', _, _, hl, hr, h1, hf => by
    simp only [fillD, Option.some.injEq] at hf
    subst hf
    exact ⟨cells, by simp [Instr.fill], hl, hr, h1⟩
  | [], d :: ds, _, _, _, h, _, _, _, _, _ => by simp at h
  | p :: ps, [], _, _, _, h, _, _, _, _, _ => by simp at h
  | (i, v) :: ps, (off, n, d) :: ds, cells, cs, cs', h, hp, hl, hr, h1, hf => by
    simp only [fillD] at hf
    split at hf
    · rename_i hc
      obtain ⟨hlies, hn, hfit⟩ := hc
      obtain ⟨hplace, hd⟩ := hp 0 (i, v) (off, n, d) rfl rfl
      have hd : RepD m w d v := hd
      obtain ⟨c1, c2, c3⟩ := hd.cellsR hlies
      have hsz : v.cells.size = n := by omega
      have hfold := foldl_put off v.cells.toList 0 cells (by simp; omega)
      have harr : v.cells.zipIdx.foldl (fun cs (c, j) => cs.setIfInBounds (off + j) c) cells = (cells.toList.take off ++ (v.cells.toList ++ cells.toList.drop (off + v.cells.toList.length))).toArray := by
        apply Array.ext'
        rw [← Array.foldl_toList, Array.toList_zipIdx]
        simpa using hfold
      obtain ⟨cells', e1, e2, e3, e4⟩ := fill_rep place ps ds (cells.toList.take off ++ (v.cells.toList ++ cells.toList.drop (off + v.cells.toList.length))).toArray (putAt cs off d.cells) cs'
        (by simpa using h) (fun j p d hj hd' => hp (j + 1) p d (by simpa using hj) (by simpa using hd'))
        (by
          rw [putAt_length (by omega)]
          simp only [List.size_toArray, List.length_append, List.length_take, List.length_drop, Array.length_toList]
          omega)
        (fun j d' u hj hu => by
          refine putAt_rep (us := cells.toList) (vs := v.cells.toList) (cs := cs) (Nat.le_of_eq (by simpa using hl)) (fun i d u h1 h2 => hr i d u h1 (by simpa using h2)) (by simpa using c1) (fun i d u h1 h2 => c2 i d u h1 (by simpa using h2)) (by omega) j d' u hj (by simpa using hu))
        (fun u hu => by
          simp only [List.mem_append] at hu
          rcases hu with hu | hu | hu
          · exact h1 u (List.mem_of_mem_take hu)
          · exact c3 u hu
          · exact h1 u (List.mem_of_mem_drop hu))
        hf
      refine ⟨cells', ?_, e2, e3, e4⟩
      simp only [Instr.fill, hplace, hsz]
      rw [harr]
      have hno : ¬ (off + n > cells.size) := by omega
      simp only [hno, bne_self_eq_false, decide_false, Bool.or_self, Bool.false_eq_true, if_false, ne_eq, not_true_eq_false]
      exact e1
    · cases hf

theorem ok_build {t : TypeId} {ps : Array (Nat × Operand)} {it : TypeInfo} {fields : Array Field} {z : Value} {x : V} {places : List (Nat × Nat)} {es : List E} (ho : o.op = .build t ps)
    (hit : P.info? t = some it) (hu : P.underlying t = some (.struct fields)) (hz : it.zero = some z) (hx : cV z = some x)
    (hpl : fields.toList.mapM (fun f => (P.info? f.type).map fun i => (f.offset, i.size)) = some places)
    (hes : cEs (ps.toList.map (·.2)) = some es) {ds : List (Nat × Nat × E)} (hds : ds.length = ps.size) (hd : ∀ (i : Nat) p e, ps.toList[i]? = some p → es[i]? = some e → ∃ q, places[p.1]? = some q ∧ ds[i]? = some (q.1, q.2, e)) :
    OpOk P o (.build x.cells ds) := by
  refine .of_runs fun σ m w a s K hI hE hW => ?_
  simp only [WOp] at hW
  split at hW
  · rename_i cs hcs
    obtain ⟨h1, h2, h3⟩ := (cV_rep (w := w) (F := Fz m w) hx).cellsR
    obtain ⟨l1, l2⟩ := evs_rep hE hes
    obtain ⟨cells, e1, e2, e3, e4⟩ := fill_rep (m := m) (w := w) (places.toArray[·]?) ((ps.map fun (i, x) => (i, a.eval x)).toList) (ds.map fun p => (p.1, p.2.1, ev s p.2.2)) z.cells (x.cells.map .v) cs (by simp [hds])
      (fun i p d hp hd' => by
        simp only [Array.toList_map, List.getElem?_map] at hp hd'
        cases hpi : ps.toList[i]? with
        | none => simp [hpi] at hp
        | some q =>
          simp only [hpi, Option.map_some, Option.some.injEq] at hp
          subst hp
          have hlt : i < es.length := by rw [l1]; simpa using (List.getElem?_eq_some_iff.1 hpi).1
          obtain ⟨r, hr1, hr2⟩ := hd i q es[i] hpi (List.getElem?_eq_getElem hlt)
          rw [hr2] at hd'
          simp only [Option.map_some, Option.some.injEq] at hd'
          subst hd'
          refine ⟨by simpa using hr1, l2 i _ _ (by simp [List.getElem?_eq_getElem hlt]) ?_⟩
          simp [hpi])
      (by simpa using h1)
      (fun j d u hj hu => by
        simp only [List.getElem?_map] at hj
        cases hc : x.cells[j]? with
        | none => simp [hc] at hj
        | some c => simp [hc] at hj; subst hj; exact .v _ _ (h2 j c u hc hu))
      h3 hcs
    have hb : P.built t (ps.map fun (i, x) => (i, a.eval x)).toList = some cells := by
      simp only [Program.built, hit, hu, hz, hpl]
      exact e1
    refine .still hI ?_ hW (by have := mkAgg_rep (ds := cs) (us := cells.toList) (by simpa using e2) e4 (fun i d u h1 h2 => e3 i d u h1 (by simpa using h2)); simpa using this)
    simp [execOp, ho, run_build w t _ cells hb]
  · exact hW.elim

end
end Go.Abs
