/-
  The model's operations, turned into the small language; that each does what its weakest precondition says: part 3. (Own work; seat-independent.)
-/
import Derived.Test.YtbifjffjibnjjaaDoorAbsD
import Derived.Laws.BytesString
set_option linter.unusedVariables false
set_option linter.unusedSimpArgs false
namespace Go.Abs
open Go

theorem RepD.box {m : Gh} {w : World} {sh : Sh} {x : V} {off : Nat} {u : Value} (h : RepD m w (.v (.box sh x off)) u) : RepD m w (.imm sh x off) u := by
  cases h with
  | v _ _ hx => cases hx with
    | box _ _ _ b base us hs h1 hc hr => exact .imm _ _ _ _ _ _ hs h1 hc hr
theorem RepD.unbox {m : Gh} {w : World} {sh : Sh} {x : V} {off : Nat} {u : Value} (h : RepD m w (.imm sh x off) u) : RepD m w (.v (.box sh x off)) u := by
  cases h with
  | imm _ _ _ b base us hs h1 hc hr => exact .v _ _ (.box _ _ _ _ _ _ hs h1 hc hr)
theorem toV_rep {m : Gh} {w : World} {d : D} {u : Value} (h : RepD m w d u) : ∀ x, d.toV = some x → RepV w (Fz m w) x u := by
  have toVs_get : ∀ {ds : List D} {xs : List V}, D.toVs ds = some xs → ds.length = xs.length ∧ ∀ (i : Nat) d x, ds[i]? = some d → xs[i]? = some x → d.toV = some x := by
    intro ds
    induction ds with
    | nil => intro xs h; simp [D.toVs] at h; subst h; simp
    | cons d ds ih =>
      intro xs h
      simp only [D.toVs] at h
      split at h
      · rename_i x ys hx hy
        cases h
        obtain ⟨l, g⟩ := ih hy
        refine ⟨by simp [l], fun i d' x' hd hx' => ?_⟩
        cases i with
        | zero => simp at hd hx'; subst hd hx'; exact hx
        | succ i => simp at hd hx'; exact g i d' x' hd hx'
      · cases h
  induction h with
  | v x u hx => intro y hy; simp only [D.toV, Option.some.injEq] at hy; subst hy; exact hx
  | tsl t sh xs a len cap tk hv _ _ _ _ => intro y hy; simp only [D.toV, Option.some.injEq] at hy; subst hy; exact hv
  | agg cs us hl h1 hr ih =>
    intro y hy
    simp only [D.toV] at hy
    split at hy
    · rename_i vs hvs
      split at hy
      · rename_i hall
        cases hy
        obtain ⟨l, g⟩ := toVs_get hvs
        refine .agg vs us (by omega) (List.all_eq_true.1 hall) fun i c u hc hu => ?_
        have hlt : i < cs.length := by rw [l]; exact (List.getElem?_eq_some_iff.1 hc).1
        exact ih i cs[i] u (List.getElem?_eq_getElem hlt) hu c (g i _ c (List.getElem?_eq_getElem hlt) hc)
      · cases hy
    · cases hy
  | iface t d u _ ih =>
    intro y hy
    simp only [D.toV] at hy
    split at hy
    · rename_i x hx
      cases hy
      exact .iface t x u (ih x hx)
    · cases hy
  | _ => intro y hy; simp [D.toV] at hy

theorem toVs_get {ds : List D} {xs : List V} (h : D.toVs ds = some xs) : ds.length = xs.length ∧ ∀ (i : Nat) d x, ds[i]? = some d → xs[i]? = some x → d.toV = some x := by
  induction ds generalizing xs with
  | nil => simp [D.toVs] at h; subst h; simp
  | cons d ds ih =>
    simp only [D.toVs] at h
    split at h
    · rename_i x ys hx hy
      cases h
      obtain ⟨l, g⟩ := ih hy
      refine ⟨by simp [l], fun i d' x' hd hx' => ?_⟩
      cases i with
      | zero => simp at hd hx'; subst hd hx'; exact hx
      | succ i => simp at hd hx'; exact g i d' x' hd hx'
    · cases h

section
variable {P : Program} {o : Oper}

/-! Slice literals -/

theorem fill_dense (sz : Nat) : ∀ (vs : List Value) (k : Nat) (cells : Array Value), (∀ v ∈ vs, v.cells.size = sz) → (k + vs.length) * sz ≤ cells.size →
    Instr.fill (fun i => some (i * sz, sz)) cells ((vs.zipIdx k).map fun p => (p.2, p.1)) =
      some (cells.toList.take (k * sz) ++ ((vs.flatMap fun v => v.cells.toList) ++ cells.toList.drop ((k + vs.length) * sz))).toArray
  | [], k, cells, _, _ => by simp [Instr.fill]
  | v :: vs, k, cells, h, hfit => by
    have hv := h v (by simp)
    have hsz : (k + 1) * sz ≤ cells.size := Nat.le_trans (Nat.mul_le_mul_right _ (by simp)) hfit
    rw [Nat.add_mul, Nat.one_mul] at hsz
    have hfold := foldl_put (k * sz) v.cells.toList 0 cells (by simp; omega)
    have harr : v.cells.zipIdx.foldl (fun cs (c, j) => cs.setIfInBounds (k * sz + j) c) cells = (cells.toList.take (k * sz) ++ (v.cells.toList ++ cells.toList.drop (k * sz + v.cells.toList.length))).toArray := by
      apply Array.ext'
      rw [← Array.foldl_toList, Array.toList_zipIdx]
      simpa using hfold
    have hsize : (cells.toList.take (k * sz) ++ (v.cells.toList ++ cells.toList.drop (k * sz + v.cells.toList.length))).toArray.size = cells.size := by
      simp only [List.size_toArray, List.length_append, List.length_take, List.length_drop, Array.length_toList]
      omega
    have ih := fill_dense sz vs (k + 1) (cells.toList.take (k * sz) ++ (v.cells.toList ++ cells.toList.drop (k * sz + v.cells.toList.length))).toArray (fun x hx => h x (by simp [hx]))
      (by rw [hsize]; simpa [Nat.add_assoc, Nat.add_comm 1] using hfit)
    simp only [List.zipIdx_cons, List.map_cons, Instr.fill, hv]
    rw [harr]
    have hno : ¬ (k * sz + sz > cells.size) := by omega
    simp only [hno, bne_self_eq_false, decide_false, Bool.or_self, Bool.false_eq_true, if_false, ne_eq, not_true_eq_false]
    rw [ih]
    congr 2
    have hlv : v.cells.toList.length = sz := by simpa using hv
    have e1 : (k + 1) * sz = k * sz + sz := by rw [Nat.add_mul, Nat.one_mul]
    have e2 : (k + (v :: vs).length) * sz = (k + 1 + vs.length) * sz := by congr 1; simp; omega
    rw [e2, hlv, List.flatMap_cons]
    have t1 : (cells.toList.take (k * sz) ++ (v.cells.toList ++ cells.toList.drop (k * sz + sz))).take ((k + 1) * sz) = cells.toList.take (k * sz) ++ v.cells.toList := by
      rw [← List.append_assoc, List.take_append_of_le_length (by simp; omega)]
      apply List.take_of_length_le
      simp; omega
    have t2 : (cells.toList.take (k * sz) ++ (v.cells.toList ++ cells.toList.drop (k * sz + sz))).drop ((k + 1 + vs.length) * sz) = cells.toList.drop ((k + 1 + vs.length) * sz) := by
      rw [← List.append_assoc, List.drop_append, List.drop_drop]
      have hle : (k + 1) * sz ≤ (k + 1 + vs.length) * sz := Nat.mul_le_mul_right _ (by omega)
      have hz : (cells.toList.take (k * sz) ++ v.cells.toList).length = (k + 1) * sz := by simp; omega
      rw [List.drop_eq_nil_of_le (by omega), List.nil_append, hz]
      congr 1
      omega
    rw [t1, t2]
    simp [List.append_assoc]

theorem mksl_core {t e : TypeId} {len : Nat} {ps : Array (Nat × Operand)} {ie : TypeInfo} {z : Value} {sh : Sh} {es : List E} (ho : o.op = .buildSlice t len ps)
    (hu : P.underlying t = some (.slice e)) (hie : P.info? e = some ie) (hz : ie.zero = some z) (hsz : ie.size = shn sh) (hpos : 0 < ie.size) (hzs : z.cells.size = ie.size)
    (hlen : len = ps.size) (hidx : ps.toList.map (·.1) = List.range ps.size) (hsmall : len * ie.size ≤ 2 ^ 24) (hes : cEs (ps.toList.map (·.2)) = some es)  {σ : Sg} {m : Gh} {w : World} {a : Act} {s : List (Nat × D)} {K : D → Sg → Prop} (hI : Inv σ m w) (hE : EnvR m w s a.tmps) (hW : WOp P (.mksl sh es) s σ K) :
    ∃ (C : Array Value) (x : V), (execOp a.eval o).run P w = .ok (.value (.slice (some ⟨w.heap.size, 0, none⟩) len len)) (w.alloc (.cells C e)) ∧ K (.v x) σ ∧ (∀ fr, RepD m (w.alloc (.cells C e fr)) (.v x) (.slice (some ⟨w.heap.size, 0, none⟩) len len)) ∧
      ∃ xs, x = .sl sh true xs ∧ (V.flat xs).length = C.size ∧ xs.length = len ∧ (∀ (i : Nat) c u, (V.flat xs)[i]? = some c → C[i]? = some u → RepV w (Fz m w) c u) ∧ ∀ c ∈ V.flat xs, c.one = true := by
  simp only [WOp, WMksl] at hW
  split at hW
  · rename_i xs hxs
    obtain ⟨hall, hK⟩ := hW
    obtain ⟨l1, l2⟩ := evs_rep hE hes
    obtain ⟨l3, l4⟩ := toVs_get hxs
    have hvl : xs.length = ps.size := by rw [← l3]; simpa using l1
    have hrep : ∀ (i : Nat) x v, xs[i]? = some x → ((ps.toList.map (·.2)).map a.eval)[i]? = some v → RepV w (Fz m w) x v := by
      intro i x v hx hv
      have hlt : i < (es.map (ev s)).length := by rw [l3]; exact (List.getElem?_eq_some_iff.1 hx).1
      exact toV_rep (l2 i _ v (List.getElem?_eq_getElem hlt) hv) x (l4 i _ x (List.getElem?_eq_getElem hlt) hx)
    generalize hvs : (ps.toList.map (·.2)).map a.eval = vs at hrep
    have hvsl : vs.length = xs.length := by rw [← hvs, hvl]; simp
    have hsizes : ∀ v ∈ vs, v.cells.size = ie.size := by
      intro v hv
      obtain ⟨i, hi⟩ := List.mem_iff_getElem?.1 hv
      have hlt : i < xs.length := by rw [← hvsl]; exact (List.getElem?_eq_some_iff.1 hi).1
      have hr := hrep i xs[i] v (List.getElem?_eq_getElem hlt) hi
      have := (hall xs[i] (List.getElem_mem hlt)).1
      rw [← hr.cellsR.1, V.cells_length, this, hsz]
    have hparts : (ps.map fun (i, x) => (i, a.eval x)).toList = (vs.zipIdx 0).map fun p => (p.2, p.1) := by
      rw [← hvs]
      apply List.ext_getElem?
      intro i
      simp only [Array.toList_map, List.getElem?_map, List.getElem?_zipIdx]
      cases hpi : ps.toList[i]? with
      | none => simp
      | some q =>
        have hlt := (List.getElem?_eq_some_iff.1 hpi).1
        have hq : q.1 = i := by
          have := congrArg (·[i]?) hidx
          simp only [List.getElem?_map, hpi, Option.map_some] at this
          rw [List.getElem?_range (by simpa using hlt)] at this
          simpa using this
        simp [← hq]
    have hcells0 : ((Array.range (len * ie.size)).map (z.cells[· % z.cells.size]!)).size = len * ie.size := by simp
    have hfill := fill_dense ie.size vs 0 ((Array.range (len * ie.size)).map (z.cells[· % z.cells.size]!)) hsizes (by rw [hcells0, hlen]; simp [hvsl, hvl])
    rw [← hparts] at hfill
    have hdrop : ((Array.range (len * ie.size)).map (z.cells[· % z.cells.size]!)).toList.drop ((0 + vs.length) * ie.size) = [] := by
      apply List.drop_eq_nil_of_le
      rw [Array.length_toList, hcells0, hlen, Nat.zero_add, hvsl, hvl]
      exact Nat.le_refl _
    rw [hdrop, Nat.zero_mul, List.take_zero, List.nil_append, List.append_nil] at hfill
    have hrun : (execOp a.eval o).run P w = .ok (.value (.slice (some ⟨w.heap.size, 0, none⟩) len len)) (w.alloc (.cells (vs.flatMap fun v => v.cells.toList).toArray e)) := by
      by_cases h0 : len * ie.size = 0
      · have hl0 : len = 0 := by
          rcases Nat.mul_eq_zero.1 h0 with h | h
          · exact h
          · omega
        have hps : ps = #[] := by apply Array.eq_empty_of_size_eq_zero; omega
        have hv0 : vs = [] := List.eq_nil_of_length_eq_zero (by omega)
        subst hps hv0 hl0
        simp [execOp, ho, Instr.buildSlice, run_underlying hu, sizeOf, typeInfo, hie, Instr.fill, newRow]
        congr 2
        apply Array.eq_empty_of_size_eq_zero
        simp
      · have := hfill
        simp [execOp, ho, Instr.buildSlice, run_underlying hu, sizeOf, typeInfo, zeroValue, hie, hz, h0, show ¬ (len * ie.size > 16777216) by simpa using hsmall, newRow]
        simp only [Array.toList_map] at this
        simp [this]
    have hlenx : len = xs.length := by omega
    have hflat : ∀ (xs : List V) (vs : List Value), vs.length = xs.length → (∀ (i : Nat) x v, xs[i]? = some x → vs[i]? = some v → RepV w (Fz m w) x v) →
        (V.flat xs).length = (vs.flatMap fun v => v.cells.toList).length ∧ ∀ (i : Nat) c u, (V.flat xs)[i]? = some c → (vs.flatMap fun v => v.cells.toList)[i]? = some u → RepV w (Fz m w) c u := by
      intro xs
      induction xs with
      | nil => intro vs hl _; have : vs = [] := List.eq_nil_of_length_eq_zero (by simpa using hl); subst this; simp [V.flat]
      | cons x xs ih =>
        intro vs hl hr
        cases vs with
        | nil => simp at hl
        | cons v vs =>
          obtain ⟨i1, i2⟩ := ih vs (by simpa using hl) fun i x v hx hv => hr (i + 1) x v (by simpa using hx) (by simpa using hv)
          obtain ⟨c1, c2, _⟩ := (hr 0 x v rfl rfl).cellsR
          simp only [V.flat, List.flatMap_cons] at *
          refine ⟨by simp [c1, i1], fun i c u hc hu => ?_⟩
          rcases Nat.lt_or_ge i x.cells.length with hlt | hge
          · rw [List.getElem?_append_left hlt] at hc
            rw [List.getElem?_append_left (by simp; omega)] at hu
            exact c2 i c u hc (by simpa using hu)
          · rw [List.getElem?_append_right hge] at hc
            rw [List.getElem?_append_right (by simp; omega)] at hu
            simp only [Array.length_toList] at hu
            rw [← c1] at hu
            exact i2 _ c u hc hu
    obtain ⟨f1, f2⟩ := hflat xs vs hvsl hrep
    have hshape : ∀ x ∈ xs, x.shape = sh := fun x hx => (hall x hx).1
    have hone : ∀ c ∈ V.flat xs, c.one = true := fun c hc => by
      obtain ⟨x, hx, hcx⟩ := List.mem_flatMap.1 hc
      exact List.all_eq_true.1 (hall x hx).2 c hcx
    refine ⟨_, _, hrun, hK, fun fr => .v _ _ ?_, xs, rfl, by simpa using f1, hlenx.symm, fun i c u hc hu => f2 i c u hc (by simpa using hu), hone⟩
    have e := Ext.alloc m w (.cells (vs.flatMap fun v => v.cells.toList).toArray e fr)
    rw [hlenx]
    refine RepV.at_head (cs := vs.flatMap fun v => v.cells.toList) sh (heap_alloc_new w _) (by rw [← f1, V.flat_length hshape]) (fun i u hi => by simpa using hi)
      (fun i hi => ⟨by simp, fun hx => by have := hI.lt_block (Gh.mut_block hx); omega⟩) hshape (fun c hc => ?_) (Nat.le_refl _) ?_ (fun _ => rfl) (fun i c u hc hu => (f2 i c u hc hu).mono e.fz)
    · obtain ⟨x, hx, hcx⟩ := List.mem_flatMap.1 hc
      exact List.all_eq_true.1 (hall x hx).2 c hcx
    · have h2 : xs.length * 1 ≤ len * ie.size := by rw [hlenx]; exact Nat.mul_le_mul_left _ hpos
      simp only [maxLen]
      omega
  · exact hW.elim

theorem ok_mksl {t e : TypeId} {len : Nat} {ps : Array (Nat × Operand)} {ie : TypeInfo} {z : Value} {sh : Sh} {es : List E} (ho : o.op = .buildSlice t len ps)
    (hu : P.underlying t = some (.slice e)) (hie : P.info? e = some ie) (hz : ie.zero = some z) (hsz : ie.size = shn sh) (hpos : 0 < ie.size) (hzs : z.cells.size = ie.size)
    (hlen : len = ps.size) (hidx : ps.toList.map (·.1) = List.range ps.size) (hsmall : len * ie.size ≤ 2 ^ 24) (hes : cEs (ps.toList.map (·.2)) = some es) : OpOk P o (.mksl sh es) := by
  refine .of_runs fun σ m w a s K hI hE hW => ?_
  obtain ⟨C, x, h1, h2, h3, _⟩ := mksl_core ho hu hie hz hsz hpos hzs hlen hidx hsmall hes hI hE hW
  exact ⟨_, _, _, _, _, _, h1, .inl rfl, h2, hI.alloc _, .alloc m w _, h3 (0, 0)⟩

/-! Loads -/

theorem run_load_sh {w : World} {t : TypeId} {d : TypeDesc} {i : TypeInfo} (hu : P.underlying t = some d) (hi : P.info? t = some i) {b p : Nat} {us : Nat → Value} {sh : Sh}
    (hsh : match sh with | none => d.isRow = false | some n => d.isRow = true ∧ i.size = n) (hc : ∀ j, j < shn sh → w.cell? ⟨b, p + j, none⟩ = some (us j)) :
    (Instr.loadAt t (.pointer (some ⟨b, p, none⟩))).run P w = .ok (match sh with | none => us 0 | some n => .agg ((List.range n).map us).toArray) w := by
  cases sh with
  | none =>
    have h0 := hc 0 (by simp [shn])
    simp only [Nat.add_zero] at h0
    cases d <;> simp at hsh <;> simp [Instr.loadAt, Instr.sureAddr, loadVar, isAgg, run_underlying hu, h0]
  | some n =>
    have := run_loadAt_mid (P := P) w b p t ((List.range n).map us) d (fun j v hj => by
      simp only [List.getElem?_map] at hj
      rcases Nat.lt_or_ge j n with hlt | hge
      · rw [List.getElem?_range hlt] at hj
        cases hj
        exact hc j hlt
      · simp [hge] at hj) hu hsh.1 (by simp [hi, hsh.2])
    exact this

theorem shape_none {x : V} (h : x.shape = none) : x.cells = [x] ∧ x.one = true := by cases x <;> first | exact ⟨rfl, rfl⟩ | (simp [V.shape] at h)

theorem agg_of_shape {x : V} {n : Nat} (h : x.shape = some n) : ∃ cs, x = .agg cs ∧ cs.length = n := by cases x <;> simp [V.shape] at h; exact ⟨_, rfl, h⟩

theorem ok_load {t : TypeId} {x : Operand} {ex : E} {d : TypeDesc} {i : TypeInfo} {sh : Sh} (ho : o.op = .load t x) (hx : cE x = some ex) (hu : P.underlying t = some d) (hi : P.info? t = some i)
    (hsh : match sh with | none => d.isRow = false | some n => d.isRow = true ∧ i.size = n) : OpOk P o (.load sh ex) := by
  refine .of_runs fun σ m w a s K hI hE hW => ?_
  have hr := ev_rep hE hx
  simp only [WOp] at hW
  generalize ev s ex = dx at hW hr
  generalize hux : a.eval x = ux at hr
  have hex : ∃ dx', RepD m w dx' ux ∧ WLoad sh dx' σ (fun d => K d σ) ∧ ∀ y, dx' ≠ .v y := by
    cases dx with
    | v y => cases y with
      | box sh2 y2 off2 => exact ⟨.imm sh2 y2 off2, hr.box, hW, fun _ h => by cases h⟩
      | _ => exact hW.elim
    | _ => exact ⟨_, hr, hW, fun _ h => by cases h⟩
  clear hr hW
  obtain ⟨dx2, hr, hW, hnv⟩ := hex
  unfold WLoad at hW
  cases hr with
  | v y _ _ => exact (hnv y rfl).elim
  | imm sh' y off b base us hs h1 hc hrr =>
    dsimp only at hW
    split at hW
    · rename_i hcond
      obtain ⟨rfl, rfl⟩ := hcond
      have hrun := run_load_sh (P := P) (w := w) hu hi (b := b) (p := base + 0) (us := us) hsh (fun j hj => (hc j hj).1)
      refine .still hI (by simp only [execOp, ho, Sem.run_bind, hux, hrun, Result.andThen_ok, Sem.run_pure] <;> rfl) hW (.v _ _ ?_)
      cases sh with
      | none =>
        obtain ⟨hcs, _⟩ := shape_none hs
        exact hrr 0 y (by rw [hcs]; rfl)
      | some n =>
        obtain ⟨cs, rfl, hn⟩ := agg_of_shape hs
        refine .agg cs _ (by simp [hn]) h1 fun j c u hcj huj => ?_
        have hlt : j < n := by rw [← hn]; exact (List.getElem?_eq_some_iff.1 hcj).1
        rw [List.getElem?_map, List.getElem?_range hlt] at huj
        cases huj
        exact hrr j c hcj
    · split at hW
      · split at hW
        · rename_i c hcx
          have hlt : off < shn sh' := by rw [← hs, ← V.cells_length]; exact (List.getElem?_eq_some_iff.1 hcx).1
          have hcell0 : ∀ j, j < shn none → w.cell? ⟨b, base + off + j, none⟩ = some (us (off + j)) := by
            intro j hj
            have hj0 : j = 0 := by simp only [shn] at hj; omega
            subst hj0
            exact (hc off hlt).1
          have hrun := run_load_sh (P := P) (w := w) hu hi (b := b) (p := base + off) (us := fun j => us (off + j)) (sh := none) hsh hcell0
          refine .still hI (by simp only [execOp, ho, Sem.run_bind, hux, hrun, Result.andThen_ok, Sem.run_pure] <;> rfl) hW (.v _ _ ?_)
          exact hrr off c hcx
        · exact hW.elim
      · rename_i n _
        obtain ⟨hle, hK⟩ := hW
        have hrun := run_load_sh (P := P) (w := w) hu hi (b := b) (p := base + off) (us := fun j => us (off + j)) (sh := some n) hsh (fun j hj => by
          have := (hc (off + j) (by simp only [shn] at hj; omega)).1
          rw [← Nat.add_assoc] at this
          exact this)
        refine .still hI (by simp only [execOp, ho, Sem.run_bind, hux, hrun, Result.andThen_ok, Sem.run_pure] <;> rfl) hK (.v _ _ ?_)
        have hcl : y.cells.length = shn sh' := by rw [V.cells_length, hs]
        refine .agg _ _ (by simp; omega) (fun c hc => h1 c (List.mem_of_mem_drop (List.mem_of_mem_take hc))) fun j c u hcj huj => ?_
        rw [List.getElem?_take] at hcj
        split at hcj
        · rename_i hlt
          rw [List.getElem?_drop] at hcj
          rw [List.getElem?_map, List.getElem?_range hlt] at huj
          cases huj
          exact hrr _ c hcj
        · cases hcj
  | ptr oo off b hb =>
    dsimp only at hW
    split at hW
    · rename_i cs hcs
      split at hW
      · split at hW
        · rename_i dd hdd
          have hb := hI.live hcs (ne_nil_of_get hdd) hb
          obtain ⟨us, ty, hh, hsz, hob, _⟩ := hI.ob oo _ b hcs hb
          have hcell : ∀ j u, us[j]? = some u → w.cell? ⟨b, j, none⟩ = some u := fun j u hj => by rw [cell_of_row w b j us ty (0, 0) hh]; exact hj
          have hlt : off < us.size := Nat.lt_of_lt_of_le (List.getElem?_eq_some_iff.1 hdd).1 hsz
          have hu0 : us[off]? = some us[off] := Array.getElem?_eq_getElem hlt
          have hcell0 : ∀ j, j < shn none → w.cell? ⟨b, off + j, none⟩ = some us[off] := by
            intro j hj
            have hj0 : j = 0 := by simp only [shn] at hj; omega
            subst hj0
            exact hcell off _ hu0
          have hrun := run_load_sh (P := P) (w := w) hu hi (b := b) (p := off) (us := fun j => us[off]) (sh := none) hsh hcell0
          exact .still hI (by simp only [execOp, ho, Sem.run_bind, hux, hrun, Result.andThen_ok, Sem.run_pure] <;> rfl) hW (hob off dd _ hdd hu0).1
        · exact hW.elim
      · rename_i n
        obtain ⟨hpos, hle, hK⟩ := hW
        have hb := hI.live hcs (ne_nil_of_lt (i := off) (by omega)) hb
        obtain ⟨us, ty, hh, hsz, hob, _⟩ := hI.ob oo _ b hcs hb
        have hcell : ∀ j u, us[j]? = some u → w.cell? ⟨b, j, none⟩ = some u := fun j u hj => by rw [cell_of_row w b j us ty (0, 0) hh]; exact hj
        have hrun := run_load_sh (P := P) (w := w) hu hi (b := b) (p := off) (us := fun j => us.getD (off + j) undef) (sh := some n) hsh (fun j hj => by
          have hlt : off + j < us.size := by simp only [shn] at hj; omega
          refine hcell _ _ ?_
          simp [Array.getD, hlt])
        refine .still hI (by simp only [execOp, ho, Sem.run_bind, hux, hrun, Result.andThen_ok, Sem.run_pure] <;> rfl) hK (mkAgg_rep (by simp; omega) (fun u huu => ?_) fun j d' u hd' huj => ?_)
        · obtain ⟨j, hj, rfl⟩ := List.mem_map.1 huu
          have hjn : j < n := List.mem_range.1 hj
          have hlt : off + j < us.size := by omega
          have hlt2 : off + j < cs.length := by omega
          have := (hob (off + j) cs[off + j] us[off + j] (List.getElem?_eq_getElem hlt2) (Array.getElem?_eq_getElem hlt)).2
          simpa [Array.getD, hlt] using this
        · rw [List.getElem?_take] at hd'
          split at hd'
          · rename_i hlt
            rw [List.getElem?_drop] at hd'
            rw [List.getElem?_map, List.getElem?_range hlt] at huj
            cases huj
            have hlt2 : off + j < us.size := by omega
            refine (hob (off + j) d' _ hd' ?_).1
            simp [Array.getD, hlt2]
          · cases hd'
    · exact hW.elim
  | _ => exact hW.elim

end
end Go.Abs
