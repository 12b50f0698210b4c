/-
  The model's operations, turned into the small language; that each does what its weakest precondition says: part 3. (Own work; seat-independent.)
-/
import Derived.Test.YtbifjffjibnjjaaDoorM01
import Derived.Laws.BytesString
set_option linter.unusedVariables false
set_option linter.unusedSimpArgs false
namespace Go.Abs
open Go

theorem RepD.box {m : Gh} {w : World} {sh : Sh} {x : V} {off : Nat} {u : Value} (h : RepD m w (.v (.box sh x off)) u) : RepD m w (.imm sh x off) u := by
  cases h with
  | v _ _ hx => cases hx with
    | box _ _ _ b base us hs h1 hc hr => exact .imm _ _ _ _ _ _ hs h1 hc hr
theorem toV_rep {m : Gh} {w : World} {d : D} {u : Value} (h : RepD m w d u) : ∀ x, d.toV = some x → RepV w (Fz m w) x u := by
  have toVs_get : ∀ {ds : List D} {xs : List V}, D.toVs ds = some xs → ds.length = xs.length ∧ ∀ (i : Nat) d x, ds[i]? = some d → xs[i]? = some x → d.toV = some x := by
    intro ds
    induction ds with
    | nil => intro xs h; simp [D.toVs] at h; subst h; simp
    | cons d ds ih =>
      intro xs h
      simp only [D.toVs] at h
      split at h
      · rename_i x ys hx hy
        cases h
        obtain ⟨l, g⟩ := ih hy
        refine ⟨by simp [l], fun i d' x' hd hx' => ?_⟩
        cases i with
        | zero => simp at hd hx'; subst hd hx'; exact hx
        | succ i => simp at hd hx'; exact g i d' x' hd hx'
      · cases h
  induction h with
  | v x u hx => intro y hy; simp only [D.toV, Option.some.injEq] at hy; subst hy; exact hx
  | tsl t sh xs a len cap tk hv _ _ _ _ => intro y hy; simp only [D.toV, Option.some.injEq] at hy; subst hy; exact hv
  | agg cs us hl h1 hr ih =>
    intro y hy
    simp only [D.toV] at hy
    split at hy
    · rename_i vs hvs
      split at hy
      · rename_i hall
        cases hy
        obtain ⟨l, g⟩ := toVs_get hvs
        refine .agg vs us (by omega) (List.all_eq_true.1 hall) fun i c u hc hu => ?_
        have hlt : i < cs.length := by rw [l]; exact (List.getElem?_eq_some_iff.1 hc).1
        exact ih i cs[i] u (List.getElem?_eq_getElem hlt) hu c (g i _ c (List.getElem?_eq_getElem hlt) hc)
      · cases hy
    · cases hy
  | iface t d u _ ih =>
    intro y hy
    simp only [D.toV] at hy
    split at hy
    · rename_i x hx
      cases hy
      exact .iface t x u (ih x hx)
    · cases hy
  | _ => intro y hy; simp [D.toV] at hy

theorem toVs_get {ds : List D} {xs : List V} (h : D.toVs ds = some xs) : ds.length = xs.length ∧ ∀ (i : Nat) d x, ds[i]? = some d → xs[i]? = some x → d.toV = some x := by
  induction ds generalizing xs with
  | nil => simp [D.toVs] at h; subst h; simp
  | cons d ds ih =>
    simp only [D.toVs] at h
    split at h
    · rename_i x ys hx hy
      cases h
      obtain ⟨l, g⟩ := ih hy
      refine ⟨by simp [l], fun i d' x' hd hx' => ?_⟩
      cases i with
      | zero => simp at hd hx'; subst hd hx'; exact hx
      | succ i => simp at hd hx'; exact g i d' x' hd hx'
    · cases h

section
variable {P : Program} {o : Oper}

/-! Slice literals -/

theorem fill_dense (sz : Nat) : ∀ (vs : List Value) (k : Nat) (cells : Array Value), (∀ v ∈ vs, v.cells.size = sz) → (k + vs.length) * sz ≤ cells.size →
    Instr.fill (fun i => some (i * sz, sz)) cells ((vs.zipIdx k).map fun p => (p.2, p.1)) =
      some (cells.toList.take (k * sz) ++ ((vs.flatMap fun v => v.cells.toList) ++ cells.toList.drop ((k + vs.length) * sz))).toArray
  | [], k, cells, _, _ => by simp [Instr.fill]
  | v :: vs, k, cells, h, hfit => by
    have hv := h v (by simp)
    have hsz : (k + 1) * sz ≤ cells.size := Nat.le_trans (Nat.mul_le_mul_right _ (by simp)) hfit
    rw [Nat.add_mul, Nat.one_mul] at hsz
    have hfold := foldl_put (k * sz) v.cells.toList 0 cells (by simp; omega)
    have harr : v.cells.zipIdx.foldl (fun cs (c, j) => cs.setIfInBounds (k * sz + j) c) cells = (cells.toList.take (k * sz) ++ (v.cells.toList ++ cells.toList.drop (k * sz + v.cells.toList.length))).toArray := by
      apply Array.ext'
      rw [← Array.foldl_toList, Array.toList_zipIdx]
      simpa using hfold
    have hsize : (cells.toList.take (k * sz) ++ (v.cells.toList ++ cells.toList.drop (k * sz + v.cells.toList.length))).toArray.size = cells.size := by
      simp only [List.size_toArray, List.length_append, List.length_take, List.length_drop, Array.length_toList]
      omega
    have ih := fill_dense sz vs (k + 1) (cells.toList.take (k * sz) ++ (v.cells.toList ++ cells.toList.drop (k * sz + v.cells.toList.length))).toArray (fun x hx => h x (by simp [hx]))
      (by rw [hsize]; simpa [Nat.add_assoc, Nat.add_comm 1] using hfit)
    simp only [List.zipIdx_cons, List.map_cons, Instr.fill, hv]
    rw [harr]
    have hno : ¬ (k * sz + sz > cells.size) := by omega
    simp only [hno, bne_self_eq_false, decide_false, Bool.or_self, Bool.false_eq_true, if_false, ne_eq, not_true_eq_false]
    rw [ih]
    congr 2
    have hlv : v.cells.toList.length = sz := by simpa using hv
    have e1 : (k + 1) * sz = k * sz + sz := by rw [Nat.add_mul, Nat.one_mul]
    have e2 : (k + (v :: vs).length) * sz = (k + 1 + vs.length) * sz := by congr 1; simp; omega
    rw [e2, hlv, List.flatMap_cons]
    have t1 : (cells.toList.take (k * sz) ++ (v.cells.toList ++ cells.toList.drop (k * sz + sz))).take ((k + 1) * sz) = cells.toList.take (k * sz) ++ v.cells.toList := by
      rw [← List.append_assoc, List.take_append_of_le_length (by simp; omega)]
      apply List.take_of_length_le
      simp; omega
    have t2 : (cells.toList.take (k * sz) ++ (v.cells.toList ++ cells.toList.drop (k * sz + sz))).drop ((k + 1 + vs.length) * sz) = cells.toList.drop ((k + 1 + vs.length) * sz) := by
      rw [← List.append_assoc, List.drop_append, List.drop_drop]
      have hle : (k + 1) * sz ≤ (k + 1 + vs.length) * sz := Nat.mul_le_mul_right _ (by omega)
      have hz : (cells.toList.take (k * sz) ++ v.cells.toList).length = (k + 1) * sz := by simp; omega
      rw [List.drop_eq_nil_of_le (by omega), List.nil_append, hz]
      congr 1
      omega
    rw [t1, t2]
    simp [List.append_assoc]

theorem mksl_core {t e : TypeId} {len : Nat} {ps : Array (Nat × Operand)} {ie : TypeInfo} {z : Value} {sh : Sh} {es : List E} (ho : o.op = .buildSlice t len ps)
    (hu : P.underlying t = some (.slice e)) (hie : P.info? e = some ie) (hz : ie.zero = some z) (hsz : ie.size = shn sh) (hpos : 0 < ie.size) (hzs : z.cells.size = ie.size)
    (hlen : len = ps.size) (hidx : ps.toList.map (·.1) = List.range ps.size) (hsmall : len * ie.size ≤ 2 ^ 24) (hes : cEs (ps.toList.map (·.2)) = some es)  {σ : Sg} {m : Gh} {w : World} {a : Act} {s : List (Nat × D)} {K : D → Sg → Prop} (hI : Inv σ m w) (hE : EnvR m w s a.tmps) (hW : WOp P (.mksl sh es) s σ K) :
    ∃ (C : Array Value) (x : V), (execOp a.eval o).run P w = .ok (.value (.slice (some ⟨w.heap.size, 0, none⟩) len len)) (w.alloc (.cells C e)) ∧ K (.v x) σ ∧ (∀ fr, RepD m (w.alloc (.cells C e fr)) (.v x) (.slice (some ⟨w.heap.size, 0, none⟩) len len)) ∧
      ∃ xs, x = .sl sh true xs ∧ (V.flat xs).length = C.size ∧ xs.length = len ∧ (∀ (i : Nat) c u, (V.flat xs)[i]? = some c → C[i]? = some u → RepV w (Fz m w) c u) ∧ ∀ c ∈ V.flat xs, c.one = true := by
  simp only [WOp, WMksl] at hW
  split at hW
  · rename_i xs hxs
    obtain ⟨hall, hK⟩ := hW
    obtain ⟨l1, l2⟩ := evs_rep hE hes
    obtain ⟨l3, l4⟩ := toVs_get hxs
    have hvl : xs.length = ps.size := by rw [← l3]; simpa using l1
    have hrep : ∀ (i : Nat) x v, xs[i]? = some x → ((ps.toList.map (·.2)).map a.eval)[i]? = some v → RepV w (Fz m w) x v := by
      intro i x v hx hv
      have hlt : i < (es.map (ev s)).length := by rw [l3]; exact (List.getElem?_eq_some_iff.1 hx).1
      exact toV_rep (l2 i _ v (List.getElem?_eq_getElem hlt) hv) x (l4 i _ x (List.getElem?_eq_getElem hlt) hx)
    generalize hvs : (ps.toList.map (·.2)).map a.eval = vs at hrep
    have hvsl : vs.length = xs.length := by rw [← hvs, hvl]; simp
    have hsizes : ∀ v ∈ vs, v.cells.size = ie.size := by
      intro v hv
      obtain ⟨i, hi⟩ := List.mem_iff_getElem?.1 hv
      have hlt : i < xs.length := by rw [← hvsl]; exact (List.getElem?_eq_some_iff.1 hi).1
      have hr := hrep i xs[i] v (List.getElem?_eq_getElem hlt) hi
      have := (hall xs[i] (List.getElem_mem hlt)).1
      rw [← hr.cellsR.1, V.cells_length, this, hsz]
    have hparts : (ps.map fun (i, x) => (i, a.eval x)).toList = (vs.zipIdx 0).map fun p => (p.2, p.1) := by
      rw [← hvs]
      apply List.ext_getElem?
      intro i
      simp only [Array.toList_map, List.getElem?_map, List.getElem?_zipIdx]
      cases hpi : ps.toList[i]? with
      | none => simp
      | some q =>
        have hlt := (List.getElem?_eq_some_iff.1 hpi).1
        have hq : q.1 = i := by
          have := congrArg (·[i]?) hidx
          simp only [List.getElem?_map, hpi, Option.map_some] at this
          rw [List.getElem?_range (by simpa using hlt)] at this
          simpa using this
        simp [← hq]
    have hcells0 : ((Array.range (len * ie.size)).map (z.cells[· % z.cells.size]!)).size = len * ie.size := by simp
    have hfill := fill_dense ie.size vs 0 ((Array.range (len * ie.size)).map (z.cells[· % z.cells.size]!)) hsizes (by rw [hcells0, hlen]; simp [hvsl, hvl])
    rw [← hparts] at hfill
    have hdrop : ((Array.range (len * ie.size)).map (z.cells[· % z.cells.size]!)).toList.drop ((0 + vs.length) * ie.size) = [] := by
      apply List.drop_eq_nil_of_le
      rw [Array.length_toList, hcells0, hlen, Nat.zero_add, hvsl, hvl]
      exact Nat.le_refl _
    rw [hdrop, Nat.zero_mul, List.take_zero, List.nil_append, List.append_nil] at hfill
    have hrun : (execOp a.eval o).run P w = .ok (.value (.slice (some ⟨w.heap.size, 0, none⟩) len len)) (w.alloc (.cells (vs.flatMap fun v => v.cells.toList).toArray e)) := by
      by_cases h0 : len * ie.size = 0
      · have hl0 : len = 0 := by
          rcases Nat.mul_eq_zero.1 h0 with h | h
          · exact h
          · omega
        have hps : ps = #[] := by apply Array.eq_empty_of_size_eq_zero; omega
        have hv0 : vs = [] := List.eq_nil_of_length_eq_zero (by omega)
        subst hps hv0 hl0
        simp [execOp, ho, Instr.buildSlice, run_underlying hu, sizeOf, typeInfo, hie, Instr.fill, newRow]
        congr 2
        apply Array.eq_empty_of_size_eq_zero
        simp
      · have := hfill
        simp [execOp, ho, Instr.buildSlice, run_underlying hu, sizeOf, typeInfo, zeroValue, hie, hz, h0, show ¬ (len * ie.size > 16777216) by simpa using hsmall, newRow]
        simp only [Array.toList_map] at this
        simp [this]
    have hlenx : len = xs.length := by omega
    have hflat : ∀ (xs : List V) (vs : List Value), vs.length = xs.length → (∀ (i : Nat) x v, xs[i]? = some x → vs[i]? = some v → RepV w (Fz m w) x v) →
        (V.flat xs).length = (vs.flatMap fun v => v.cells.toList).length ∧ ∀ (i : Nat) c u, (V.flat xs)[i]? = some c → (vs.flatMap fun v => v.cells.toList)[i]? = some u → RepV w (Fz m w) c u := by
      intro xs
      induction xs with
      | nil => intro vs hl _; have : vs = [] := List.eq_nil_of_length_eq_zero (by simpa using hl); subst this; simp [V.flat]
      | cons x xs ih =>
        intro vs hl hr
        cases vs with
        | nil => simp at hl
        | cons v vs =>
          obtain ⟨i1, i2⟩ := ih vs (by simpa using hl) fun i x v hx hv => hr (i + 1) x v (by simpa using hx) (by simpa using hv)
          obtain ⟨c1, c2, _⟩ := (hr 0 x v rfl rfl).cellsR
          simp only [V.flat, List.flatMap_cons] at *
          refine ⟨by simp [c1, i1], fun i c u hc hu => ?_⟩
          rcases Nat.lt_or_ge i x.cells.length with hlt | hge
          · rw [List.getElem?_append_left hlt] at hc
            rw [List.getElem?_append_left (by simp; omega)] at hu
            exact c2 i c u hc (by simpa using hu)
          · rw [List.getElem?_append_right hge] at hc
            rw [List.getElem?_append_right (by simp; omega)] at hu
            simp only [Array.length_toList] at hu
            rw [← c1] at hu
            exact i2 _ c u hc hu
    obtain ⟨f1, f2⟩ := hflat xs vs hvsl hrep
    have hshape : ∀ x ∈ xs, x.shape = sh := fun x hx => (hall x hx).1
    have hone : ∀ c ∈ V.flat xs, c.one = true := fun c hc => by
      obtain ⟨x, hx, hcx⟩ := List.mem_flatMap.1 hc
      exact List.all_eq_true.1 (hall x hx).2 c hcx
    refine ⟨_, _, hrun, hK, fun fr => .v _ _ ?_, xs, rfl, by simpa using f1, hlenx.symm, fun i c u hc hu => f2 i c u hc (by simpa using hu), hone⟩
    have e := Ext.alloc m w (.cells (vs.flatMap fun v => v.cells.toList).toArray e fr)
    rw [hlenx]
    refine RepV.at_head (cs := vs.flatMap fun v => v.cells.toList) sh (heap_alloc_new w _) (by rw [← f1, V.flat_length hshape]) (fun i u hi => by simpa using hi)
      (fun i hi => ⟨by simp, fun hx => by have := hI.lt_block (Gh.mut_block hx); omega⟩) hshape (fun c hc => ?_) (Nat.le_refl _) ?_ (fun _ => rfl) (fun i c u hc hu => (f2 i c u hc hu).mono e.fz)
    · obtain ⟨x, hx, hcx⟩ := List.mem_flatMap.1 hc
      exact List.all_eq_true.1 (hall x hx).2 c hcx
    · have h2 : xs.length * 1 ≤ len * ie.size := by rw [hlenx]; exact Nat.mul_le_mul_left _ hpos
      simp only [maxLen]
      omega
  · exact hW.elim

theorem ok_mksl {t e : TypeId} {len : Nat} {ps : Array (Nat × Operand)} {ie : TypeInfo} {z : Value} {sh : Sh} {es : List E} (ho : o.op = .buildSlice t len ps)
    (hu : P.underlying t = some (.slice e)) (hie : P.info? e = some ie) (hz : ie.zero = some z) (hsz : ie.size = shn sh) (hpos : 0 < ie.size) (hzs : z.cells.size = ie.size)
    (hlen : len = ps.size) (hidx : ps.toList.map (·.1) = List.range ps.size) (hsmall : len * ie.size ≤ 2 ^ 24) (hes : cEs (ps.toList.map (·.2)) = some es) : OpOk P o (.mksl sh es) := by
  refine .of_runs fun σ m w a s K hI hE hW => ?_
  obtain ⟨C, x, h1, h2, h3, _⟩ := mksl_core ho hu hie hz hsz hpos hzs hlen hidx hsmall hes hI hE hW
  exact ⟨_, _, _, _, _, _, h1, .inl rfl, h2, hI.alloc _, .alloc m w _, h3 (0, 0)⟩

/-! Loads -/

theorem run_load_sh {w : World} {t : TypeId} {d : TypeDesc} {i : TypeInfo} (hu : P.underlying t = some d) (hi : P.info? t = some i) {b p : Nat} {us : Nat → Value} {sh : Sh}
    (hsh : match sh with | none => d.isRow = false | some n => d.isRow = true ∧ i.size = n) (hc : ∀ j, j < shn sh → w.cell? ⟨b, p + j, none⟩ = some (us j)) :
    (Instr.loadAt t (.pointer (some ⟨b, p, none⟩))).run P w = .ok (match sh with | none => us 0 | some n => .agg ((List.range n).map us).toArray) w := by
  cases sh with
  | none =>
    have h0 := hc 0 (by simp [shn])
    simp only [Nat.add_zero] at h0
    cases d <;> simp at hsh <;> simp [Instr.loadAt, Instr.sureAddr, loadVar, isAgg, run_underlying hu, h0]
  | some n =>
    have := run_loadAt_mid (P := P) w b p t ((List.range n).map us) d (fun j v hj => by
      simp only [List.getElem?_map] at hj
      rcases Nat.lt_or_ge j n with hlt | hge
      · rw [List.getElem?_range hlt] at hj
        cases hj
        exact hc j hlt
      · simp [hge] at hj) hu hsh.1 (by simp [hi, hsh.2])
    exact this

theorem shape_none {x : V} (h : x.shape = none) : x.cells = [x] ∧ x.one = true := by cases x <;> first | exact ⟨rfl, rfl⟩ | (simp [V.shape] at h)

theorem agg_of_shape {x : V} {n : Nat} (h : x.shape = some n) : ∃ cs, x = .agg cs ∧ cs.length = n := by cases x <;> simp [V.shape] at h; exact ⟨_, rfl, h⟩

theorem ok_load {t : TypeId} {x : Operand} {ex : E} {d : TypeDesc} {i : TypeInfo} {sh : Sh} (ho : o.op = .load t x) (hx : cE x = some ex) (hu : P.underlying t = some d) (hi : P.info? t = some i)
    (hsh : match sh with | none => d.isRow = false | some n => d.isRow = true ∧ i.size = n) : OpOk P o (.load sh ex) := by
  refine .of_runs fun σ m w a s K hI hE hW => ?_
  have hr := ev_rep hE hx
  simp only [WOp] at hW
  generalize ev s ex = dx at hW hr
  generalize hux : a.eval x = ux at hr
  have hex : ∃ dx', RepD m w dx' ux ∧ WLoad sh dx' σ (fun d => K d σ) ∧ ∀ y, dx' ≠ .v y := by
    cases dx with
    | v y => cases y with
      | box sh2 y2 off2 => exact ⟨.imm sh2 y2 off2, hr.box, hW, fun _ h => by cases h⟩
      | _ => exact hW.elim
    | _ => exact ⟨_, hr, hW, fun _ h => by cases h⟩
  clear hr hW
  obtain ⟨dx2, hr, hW, hnv⟩ := hex
  unfold WLoad at hW
  cases hr with
  | v y _ _ => exact (hnv y rfl).elim
  | imm sh' y off b base us hs h1 hc hrr =>
    dsimp only at hW
    split at hW
    · rename_i hcond
      obtain ⟨rfl, rfl⟩ := hcond
      have hrun := run_load_sh (P := P) (w := w) hu hi (b := b) (p := base + 0) (us := us) hsh (fun j hj => (hc j hj).1)
      refine .still hI (by simp only [execOp, ho, Sem.run_bind, hux, hrun, Result.andThen_ok, Sem.run_pure] <;> rfl) hW (.v _ _ ?_)
      cases sh with
      | none =>
        obtain ⟨hcs, _⟩ := shape_none hs
        exact hrr 0 y (by rw [hcs]; rfl)
      | some n =>
        obtain ⟨cs, rfl, hn⟩ := agg_of_shape hs
        refine .agg cs _ (by simp [hn]) h1 fun j c u hcj huj => ?_
        have hlt : j < n := by rw [← hn]; exact (List.getElem?_eq_some_iff.1 hcj).1
        rw [List.getElem?_map, List.getElem?_range hlt] at huj
        cases huj
        exact hrr j c hcj
    · split at hW
      · split at hW
        · rename_i c hcx
          have hlt : off < shn sh' := by rw [← hs, ← V.cells_length]; exact (List.getElem?_eq_some_iff.1 hcx).1
          have hcell0 : ∀ j, j < shn none → w.cell? ⟨b, base + off + j, none⟩ = some (us (off + j)) := by
            intro j hj
            have hj0 : j = 0 := by simp only [shn] at hj; omega
            subst hj0
            exact (hc off hlt).1
          have hrun := run_load_sh (P := P) (w := w) hu hi (b := b) (p := base + off) (us := fun j => us (off + j)) (sh := none) hsh hcell0
          refine .still hI (by simp only [execOp, ho, Sem.run_bind, hux, hrun, Result.andThen_ok, Sem.run_pure] <;> rfl) hW (.v _ _ ?_)
          exact hrr off c hcx
        · exact hW.elim
      · rename_i n _
        obtain ⟨hle, hK⟩ := hW
        have hrun := run_load_sh (P := P) (w := w) hu hi (b := b) (p := base + off) (us := fun j => us (off + j)) (sh := some n) hsh (fun j hj => by
          have := (hc (off + j) (by simp only [shn] at hj; omega)).1
          rw [← Nat.add_assoc] at this
          exact this)
        refine .still hI (by simp only [execOp, ho, Sem.run_bind, hux, hrun, Result.andThen_ok, Sem.run_pure] <;> rfl) hK (.v _ _ ?_)
        have hcl : y.cells.length = shn sh' := by rw [V.cells_length, hs]
        refine .agg _ _ (by simp; omega) (fun c hc => h1 c (List.mem_of_mem_drop (List.mem_of_mem_take hc))) fun j c u hcj huj => ?_
        rw [List.getElem?_take] at hcj
        split at hcj
        · rename_i hlt
          rw [List.getElem?_drop] at hcj
          rw [List.getElem?_map, List.getElem?_range hlt] at huj
          cases huj
          exact hrr _ c hcj
        · cases hcj
  | ptr oo off b hb =>
    dsimp only at hW
    split at hW
    · rename_i cs hcs
      split at hW
      · split at hW
        · rename_i dd hdd
          have hb := hI.live hcs (ne_nil_of_get hdd) hb
          obtain ⟨us, ty, hh, hsz, hob, _⟩ := hI.ob oo _ b hcs hb
          have hcell : ∀ j u, us[j]? = some u → w.cell? ⟨b, j, none⟩ = some u := fun j u hj => by rw [cell_of_row w b j us ty (0, 0) hh]; exact hj
          have hlt : off < us.size := Nat.lt_of_lt_of_le (List.getElem?_eq_some_iff.1 hdd).1 hsz
          have hu0 : us[off]? = some us[off] := Array.getElem?_eq_getElem hlt
          have hcell0 : ∀ j, j < shn none → w.cell? ⟨b, off + j, none⟩ = some us[off] := by
            intro j hj
            have hj0 : j = 0 := by simp only [shn] at hj; omega
            subst hj0
            exact hcell off _ hu0
          have hrun := run_load_sh (P := P) (w := w) hu hi (b := b) (p := off) (us := fun j => us[off]) (sh := none) hsh hcell0
          exact .still hI (by simp only [execOp, ho, Sem.run_bind, hux, hrun, Result.andThen_ok, Sem.run_pure] <;> rfl) hW (hob off dd _ hdd hu0).1
        · exact hW.elim
      · rename_i n
        obtain ⟨hpos, hle, hK⟩ := hW
        have hb := hI.live hcs (ne_nil_of_lt (i := off) (by omega)) hb
        obtain ⟨us, ty, hh, hsz, hob, _⟩ := hI.ob oo _ b hcs hb
        have hcell : ∀ j u, us[j]? = some u → w.cell? ⟨b, j, none⟩ = some u := fun j u hj => by rw [cell_of_row w b j us ty (0, 0) hh]; exact hj
        have hrun := run_load_sh (P := P) (w := w) hu hi (b := b) (p := off) (us := fun j => us.getD (off + j) undef) (sh := some n) hsh (fun j hj => by
          have hlt : off + j < us.size := by simp only [shn] at hj; omega
          refine hcell _ _ ?_
          simp [Array.getD, hlt])
        refine .still hI (by simp only [execOp, ho, Sem.run_bind, hux, hrun, Result.andThen_ok, Sem.run_pure] <;> rfl) hK (mkAgg_rep (by simp; omega) (fun u huu => ?_) fun j d' u hd' huj => ?_)
        · obtain ⟨j, hj, rfl⟩ := List.mem_map.1 huu
          have hjn : j < n := List.mem_range.1 hj
          have hlt : off + j < us.size := by omega
          have hlt2 : off + j < cs.length := by omega
          have := (hob (off + j) cs[off + j] us[off + j] (List.getElem?_eq_getElem hlt2) (Array.getElem?_eq_getElem hlt)).2
          simpa [Array.getD, hlt] using this
        · rw [List.getElem?_take] at hd'
          split at hd'
          · rename_i hlt
            rw [List.getElem?_drop] at hd'
            rw [List.getElem?_map, List.getElem?_range hlt] at huj
            cases huj
            have hlt2 : off + j < us.size := by omega
            refine (hob (off + j) d' _ hd' ?_).1
            simp [Array.getD, hlt2]
          · cases hd'
    · exact hW.elim
  | _ => exact hW.elim

end
end Go.Abs

/-
  The model's operations, turned into the small language; that each does what its weakest precondition says: part 4. (Own work; seat-independent.)
-/
set_option linter.unusedVariables false
set_option linter.unusedSimpArgs false
namespace Go.Abs
open Go

section
variable {P : Program} {o : Oper}

theorem ok_store {t : TypeId} {x y : Operand} {ex ey : E} {i : TypeInfo} {n : Nat} (ho : o.op = .store t x y) (hx : cE x = some ex) (hy : cE y = some ey) (hi : P.info? t = some i) (hn : i.size = n) : OpOk P o (.store n ex ey) := by
  refine .of_runs fun σ m w a s K hI hE hW => ?_
  have hr := ev_rep hE hx
  have hry := ev_rep hE hy
  simp only [WOp] at hW
  generalize ev s ex = dx at hW hr
  generalize ev s ey = dy at hW hry
  generalize hux : a.eval x = ux at hr
  generalize huy : a.eval y = uy at hry
  have core : ∀ (oo off b : Nat) (cs : List D) (us : Array Value) (ty : TypeId) (X : Ob), ux = .pointer (some ⟨b, off, none⟩) → m.objs[oo]? = some (some b) → w.heap[b]? = some (.cells us ty (0, 0)) → cs.length ≤ us.size →
      (∀ (i : Nat) d u, cs[i]? = some d → us[i]? = some u → RepD m w d u ∧ u.oneCell' = true) → dy.lies = true → dy.cells.length = n → 0 < n → off + n ≤ cs.length →
      (∀ w', ObRep m w' (.cells (putAt cs off dy.cells)) b → ObRep m w' X b) → K .undef (σ.put oo X) → Runs1 P o σ m w a K := by
    intro oo off b cs us ty X hptr hb hh hsz hob hlies hlen hpos hfit hX hK
    subst hptr
    obtain ⟨c1, c2, c3⟩ := hry.cellsR hlies
    have hst := run_storeCells_at P b off ty uy.cells.toList 0 us w hh (by simp; omega) c3
    simp only [Nat.add_zero] at hst
    have hmem : b ∈ m.objb := Gh.mem_objb.2 (List.mem_of_getElem? hb)
    have e := Ext.setRow (m := m) (w := w) (us.toList.take off ++ uy.cells.toList ++ us.toList.drop (off + uy.cells.toList.length)).toArray hmem
    have hI' := hI.setRow hb (us.toList.take off ++ uy.cells.toList ++ us.toList.drop (off + uy.cells.toList.length)).toArray X (hX _
      (have hall := row_one (us := us.toList) (vs := uy.cells.toList) (off := off) (R := fun d u => RepD m w d u) (fun i d u h1 h2 => hob i d u h1 (by simpa using h2)) c3 (by simp; omega) (by simpa using hsz)
      ⟨_, ty, setRow_heap w b us _ ty (0, 0) hh, by
        rw [putAt_length (by omega)]
        simp only [List.size_toArray, List.length_append, List.length_take, List.length_drop, Array.length_toList]
        omega, fun j d u hd hu => by
        rw [List.getElem?_toArray] at hu
        have hjl : j < cs.length := by
          have := (List.getElem?_eq_some_iff.1 hd).1
          rwa [putAt_length (by omega)] at this
        have h1 := hall j u hu hjl
        rw [List.append_assoc] at hu
        exact ⟨(putAt_rep (us := us.toList) (vs := uy.cells.toList) (by simp; omega) (fun i d u h1 h2 => (hob i d u h1 (by simpa using h2)).1) (by simpa using c1)
          (fun i d u h1 h2 => c2 i d u h1 (by simpa using h2)) (by omega) j d u hd hu).mono e, h1⟩, trivial⟩))
    refine ⟨.skip, undef, _, m, .undef, _, ?_, .inr ⟨rfl, rfl⟩, hK, hI', e, .tup [] [] rfl (by simp)⟩
    have hsize : uy.cells.size = i.size := by omega
    have hq : (sizeOf t).run P w = .ok i.size w := by simp [sizeOf, typeInfo, hi]
    have hsv : (storeVar t ⟨b, off, none⟩ uy).run P w = .ok () (w.setRow b (us.toList.take off ++ uy.cells.toList ++ us.toList.drop (off + uy.cells.toList.length)).toArray) := by
      simp only [storeVar, Sem.run_bind, hq, Result.andThen_ok, hsize, ne_eq, not_true_eq_false, if_false, Sem.run_ite, hst]
    simp only [execOp, ho, hux, huy, Instr.storeAt, Instr.sureAddr, Sem.run_bind, Sem.run_pure, Result.andThen_ok, hsv]
  unfold WStore at hW
  cases hr with
  | ptr oo off b hb =>
    dsimp only at hW
    split at hW
    · rename_i cs hcs
      obtain ⟨hlies, hlen, hpos, hfit, hK⟩ := hW
      have hb := hI.live hcs (ne_nil_of_lt (i := off) (by omega)) hb
      obtain ⟨us, ty, hh, hsz, hob, hone⟩ := hI.ob oo _ b hcs hb
      exact core oo off b cs us ty _ rfl hb hh hsz hob hlies hlen hpos hfit (fun _ h => h) hK
    · exact hW.elim
  | v y _ hy =>
    cases hy with
    | adr b off =>
      obtain ⟨oo, cs, hcs, hlies, hlen, hpos, hfit, hK⟩ := hW
      obtain ⟨hb, us, ty, hh, hsz, hob⟩ := hI.known hcs
      exact core oo off b cs us ty (.known b (putAt cs off dy.cells)) rfl hb hh hsz hob hlies hlen hpos hfit (fun _ h => ⟨rfl, h⟩) hK
    | _ => exact hW.elim
  | _ => exact hW.elim

theorem ok_nilck {x : Operand} {ex : E} (ho : o.op = .nilCheck x) (hx : cE x = some ex) : OpOk P o (.nilck ex) := by
  refine .of_runs fun σ m w a s K hI hE hW => ?_
  have hr := ev_rep hE hx
  simp only [WOp] at hW
  generalize ev s ex = dx at hW hr
  generalize hux : a.eval x = ux at hr
  unfold WNil at hW
  cases hr with
  | ptr oo off b hb => exact .still hI (by simp [execOp, ho, hux]) hW (.ptr oo off b hb)
  | imm sh y off b base us h1 h2 h3 h4 => exact .still hI (by simp [execOp, ho, hux]) hW (.imm sh y off b base us h1 h2 h3 h4)
  | fn f caps us h1 h2 => exact .still hI (by simp [execOp, ho, hux]) hW (.fn f caps us h1 h2)
  | bfn f d u h1 => exact .still hI (by simp [execOp, ho, hux]) hW (.bfn f d u h1)
  | iface t d u h1 => exact .still hI (by simp [execOp, ho, hux]) hW (.iface t d u h1)
  | v y u hy =>
    cases hy with
    | iface t v u hv => exact .still (u := .iface t u) hI (by simp [execOp, ho, hux]) hW (.v _ _ (.iface t v u hv))
    | fn f => exact .still (u := .func (.func f) #[] #[]) hI (by simp [execOp, ho, hux]) hW (.v _ _ (.fn f))
    | box sh y off b base us h1 h2 h3 h4 => exact .still (u := .pointer (some ⟨b, base + off, none⟩)) hI (by simp [execOp, ho, hux]) hW (.v _ _ (.box sh y off b base us h1 h2 h3 h4))
    | adr b off => exact .still (u := .pointer (some ⟨b, off, none⟩)) hI (by simp [execOp, ho, hux]) hW (.v _ _ (.adr b off))
    | _ => exact hW.elim
  | _ => exact hW.elim

theorem ok_un {op : UnOp} {t : TypeId} {x : Operand} {ex : E} (ho : o.op = .unOp op t x) (hx : cE x = some ex) : OpOk P o (.un op ex) := by
  refine .of_runs fun σ m w a s K hI hE hW => ?_
  have hr := ev_rep hE hx
  simp only [WOp] at hW
  generalize ev s ex = dx at hW hr
  unfold WUn at hW
  split at hW
  · have hu := hr.bool_inv
    exact .still hI (by simp [execOp, ho, hu, Op.unary]) hW (.v _ _ (.bool _))
  · have hu := hr.int_inv
    exact .still hI (by simp [execOp, ho, hu, Op.unary, Op.intArith]) hW (.v _ _ (.int _ _ (inR_wrap _ _)))
  · have hu := hr.int_inv
    exact .still hI (by simp [execOp, ho, hu, Op.unary, Op.intBits]) hW (.v _ _ (.int _ _ (inR_wrap _ _)))
  · exact hW.elim

theorem ok_mkif {t : TypeId} {x : Operand} {ex : E} {d : TypeDesc} (ho : o.op = .makeInterface t x) (hx : cE x = some ex) (hu : P.underlying t = some d) (hd : ∀ ms, d ≠ .interface ms) : OpOk P o (.mkif t ex) := by
  refine .of_runs fun σ m w a s K hI hE hW => ?_
  have hr := ev_rep hE hx
  simp only [WOp] at hW
  refine .still (u := .iface t (a.eval x)) hI ?_ hW ?_
  · cases d <;> first | exact absurd rfl (hd _) | simp [execOp, ho, Instr.makeInterface, run_underlying hu]
  · generalize ev s ex = dx at hr
    unfold mkIface
    split
    · exact .v _ _ (.iface t _ _ hr.v_inv)
    · exact .iface t _ _ hr

theorem ok_mkfn {f : Nat} {caps : Array Operand} {es : List E} (ho : o.op = .makeFunc (.func f) #[] caps) (hx : cEs caps.toList = some es) : OpOk P o (.mkfn f es) := by
  refine .of_runs fun σ m w a s K hI hE hW => ?_
  obtain ⟨h1, h2⟩ := evs_rep hE hx
  simp only [WOp] at hW
  have hrun : (execOp a.eval o).run P w = .ok (.value (.func (.func f) #[] (caps.toList.map a.eval).toArray)) w := by
    simp [execOp, ho, Instr.makeFunc]
    apply Array.ext'
    simp
  cases es with
  | nil =>
    have h0 : caps.toList = [] := List.eq_nil_of_length_eq_zero (by simpa using h1.symm)
    rw [h0] at hrun
    exact .still hI hrun hW (.v _ _ (.fn f))
  | cons e es => exact .still hI hrun hW (.fn f _ _ (by simpa using h1) h2)

theorem ok_bind {f : Nat} {x : Operand} {ex : E} (ho : o.op = .makeFunc (.func f) #[x] #[]) (hx : cE x = some ex) : OpOk P o (.ext (.bind f) [ex]) := by
  refine .of_runs fun σ m w a s K hI hE hW => ?_
  have hr := ev_rep hE hx
  simp only [WOp, WX, List.map_cons, List.map_nil] at hW
  exact .still (u := .func (.func f) #[a.eval x] #[]) hI (by simp [execOp, ho, Instr.makeFunc]) hW (.bfn f _ _ hr)

theorem ok_faddr {t : TypeId} {x : Operand} {ex : E} {fi : Nat} {fields : Array Field} {f : Field} {i : TypeInfo} (ho : o.op = .fieldAddr t x fi) (hx : cE x = some ex) (hu : P.underlying t = some (.struct fields)) (hf : fields[fi]? = some f)
    (hi : P.info? f.type = some i) (hpos : i.size ≠ 0) : OpOk P o (.faddr f.offset ex) := by
  refine .of_runs fun σ m w a s K hI hE hW => ?_
  have hr := ev_rep hE hx
  simp only [WOp] at hW
  generalize ev s ex = dx at hW hr
  generalize hux : a.eval x = ux at hr
  unfold WFaddr at hW
  have hrun : ∀ b p, a.eval x = .pointer (some ⟨b, p, none⟩) → (execOp a.eval o).run P w = .ok (.value (.pointer (some ⟨b, p + f.offset, none⟩))) w := by
    intro b p h
    simp [execOp, ho, h, Instr.fieldAt, run_underlying hu, hf, Instr.sureAddr, fieldPlace, sizeOf, typeInfo, hi, hpos, Addr.add_lit]
  cases hr with
  | ptr oo off b hb => exact .still hI (hrun b off hux) hW (.ptr oo _ b hb)
  | imm sh y off b base us h1 h2 h3 h4 =>
    refine .still hI (hrun b _ hux) hW ?_
    rw [Nat.add_assoc]
    exact .imm sh y _ b base us h1 h2 h3 h4
  | v y _ hy =>
    cases hy with
    | box sh y off b base us h1 h2 h3 h4 =>
      refine .still hI (hrun b _ hux) hW ?_
      rw [Nat.add_assoc]
      exact .v _ _ (.box sh y _ b base us h1 h2 h3 h4)
    | adr b off => exact .still hI (hrun b off hux) hW (.v _ _ (.adr b _))
    | _ => exact hW.elim
  | _ => exact hW.elim

theorem run_part_sh {w : World} {t : TypeId} {d : TypeDesc} {i : TypeInfo} {sh : Sh} (hu : P.underlying t = some d) (hi : P.info? t = some i)
    (hsh : match sh with | none => d.isRow = false | some n => d.isRow = true ∧ i.size = n) (cs : Array Value) (off : Nat) :
    match sh with
    | none => ∀ v, cs[off]? = some v → (part t cs off).run P w = .ok v w
    | some n => (part t cs off).run P w = .ok (.agg (cs.extract off (off + n))) w := by
  cases sh with
  | none =>
    intro v hv
    cases d <;> simp at hsh <;> simp [part, isAgg, run_underlying hu, hv]
  | some n =>
    obtain ⟨h1, h2⟩ := hsh
    cases d <;> simp at h1 <;> simp [part, isAgg, run_underlying hu, sizeOf, typeInfo, hi, h2]

theorem ok_field {t : TypeId} {x : Operand} {ex : E} {fi : Nat} {fields : Array Field} {f : Field} {d : TypeDesc} {i : TypeInfo} {sh : Sh} (ho : o.op = .field t x fi) (hx : cE x = some ex) (hu : P.underlying t = some (.struct fields)) (hf : fields[fi]? = some f)
    (hud : P.underlying f.type = some d) (hi : P.info? f.type = some i) (hsh : match sh with | none => d.isRow = false | some n => d.isRow = true ∧ i.size = n) : OpOk P o (.field sh f.offset ex) := by
  refine .of_runs fun σ m w a s K hI hE hW => ?_
  have hr := ev_rep hE hx
  simp only [WOp] at hW
  generalize ev s ex = dx at hW hr
  generalize hux : a.eval x = ux at hr
  unfold WField at hW
  have key : ∀ (ds : List D) (us : List Value), ux = .agg us.toArray → ds.length = us.length → (∀ u ∈ us, u.oneCell' = true) → (∀ (i : Nat) d u, ds[i]? = some d → us[i]? = some u → RepD m w d u) →
      (match (generalizing := false) sh with
      | none => (match ds[f.offset]? with | some c => K c σ | none => False)
      | some n => f.offset + n ≤ ds.length ∧ K (mkAgg ((ds.drop f.offset).take n)) σ) → Runs1 P o σ m w a K := by
    intro ds us hus hl h1 hrr hk
    have hp := run_part_sh (P := P) (w := w) hud hi hsh us.toArray f.offset
    cases sh with
    | none =>
      dsimp only at hk hp
      split at hk
      · rename_i c hc
        have hlt : f.offset < us.length := by rw [← hl]; exact (List.getElem?_eq_some_iff.1 hc).1
        have hv := hp us[f.offset] (by simp)
        exact .still hI (by simp [execOp, ho, hux, hus, Instr.field, run_underlying hu, hf, asAgg, hv]) hk (hrr _ c _ hc (List.getElem?_eq_getElem hlt))
      · exact hk.elim
    | some n =>
      dsimp only at hk hp
      have hex : us.toArray.extract f.offset (f.offset + n) = ((us.drop f.offset).take n).toArray := by
        apply Array.ext'
        simp [List.extract_eq_take_drop]
      rw [hex] at hp
      refine .still hI (by simp [execOp, ho, hux, hus, Instr.field, run_underlying hu, hf, asAgg, hp]; rfl) hk.2 (mkAgg_rep (by simp; omega) (fun u huu => h1 u (List.mem_of_mem_drop (List.mem_of_mem_take huu))) fun j d u hd hu => ?_)
      rw [List.getElem?_take] at hd hu
      split at hd
      · rename_i hlt
        rw [if_pos hlt] at hu
        rw [List.getElem?_drop] at hd hu
        exact hrr _ d u hd hu
      · cases hd
  cases hr with
  | agg ds us hl h1 hrr =>
    dsimp only at hW
    exact key ds us rfl hl h1 hrr hW
  | v y u hy =>
    cases hy with
    | agg cs us hl h1 hrr =>
      dsimp only at hW
      refine key (cs.map .v) us rfl (by simpa using hl) (RepV.cells_one h1 hl hrr) (fun i d u hd hu => ?_) ?_
      · simp only [List.getElem?_map] at hd
        cases hc : cs[i]? with
        | none => simp [hc] at hd
        | some c => simp [hc] at hd; subst hd; exact .v _ _ (hrr i c u hc hu)
      · cases sh with
        | none =>
          dsimp only at hW ⊢
          rw [List.getElem?_map]
          split at hW
          · rename_i c hc; rw [hc]; exact hW
          · exact hW.elim
        | some n =>
          dsimp only at hW ⊢
          refine ⟨by simpa using hW.1, ?_⟩
          have hall : ∀ l : List V, allV (l.map .v) = some l := by
            intro l
            induction l with
            | nil => rfl
            | cons x l ih => simp [allV, ih]
          rw [← List.map_drop, ← List.map_take]
          simp only [mkAgg, hall]
          exact hW.2
    | _ => exact hW.elim
  | _ => exact hW.elim

theorem flat_at {sh : Sh} : ∀ {xs : List V}, (∀ x ∈ xs, x.shape = sh) → ∀ (i : Nat) (y : V), xs[i]? = some y → ∀ (j : Nat) (c : V), y.cells[j]? = some c → (V.flat xs)[i * shn sh + j]? = some c
  | [], _, i, y, h, _, _, _ => by simp at h
  | x :: xs, hs, 0, y, h, j, c, hc => by
    simp at h
    subst h
    simp only [V.flat, List.flatMap_cons, Nat.zero_mul, Nat.zero_add]
    rw [List.getElem?_append_left (List.getElem?_eq_some_iff.1 hc).1]
    exact hc
  | x :: xs, hs, i + 1, y, h, j, c, hc => by
    have ih := flat_at (xs := xs) (fun z hz => hs z (by simp [hz])) i y (by simpa using h) j c hc
    simp only [V.flat, List.flatMap_cons] at *
    have hx : x.cells.length = shn sh := by rw [V.cells_length, hs x (by simp)]
    rw [List.getElem?_append_right (by rw [hx, Nat.add_mul]; omega), hx]
    rw [show (i + 1) * shn sh + j - shn sh = i * shn sh + j by rw [Nat.add_mul]; omega]
    exact ih

theorem ok_iaddr {t e : TypeId} {x y : Operand} {ex ey : E} {i : TypeInfo} {sh : Sh} (ho : o.op = .indexAddr t x y) (hx : cE x = some ex) (hy : cE y = some ey) (hu : P.underlying t = some (.slice e)) (hi : P.info? e = some i) (hsz : i.size = shn sh) : OpOk P o (.iaddr sh ex ey) := by
  refine .of_runs fun σ m w a s K hI hE hW => ?_
  have hr := ev_rep hE hx
  have hry := ev_rep hE hy
  simp only [WOp] at hW
  generalize ev s ex = dx at hW hr
  generalize ev s ey = dy at hW hry
  generalize hux : a.eval x = ux at hr
  have key : ∀ (full : Bool) (xs : List V) (k : IntKind) (n : Int), RepV w (Fz m w) (.sl sh full xs) ux → a.eval y = .int k n → 0 ≤ n → n < xs.length → (∀ y, xs[n.toNat]? = some y → K (.imm sh y 0) σ) → Runs1 P o σ m w a K := by
    intro full xs k n hv hyv h0 hlt hk
    obtain ⟨aa, cap, rfl, hl, hm, hf, hs, h1, hh⟩ := hv.sl_inv
    have hnl : n.toNat < xs.length := by omega
    obtain ⟨z, hz⟩ : ∃ z, xs[n.toNat]? = some z := ⟨_, List.getElem?_eq_getElem hnl⟩
    rcases hh with ⟨hnil, _⟩ | ⟨b, off, us, rfl, hc, hrr⟩
    · subst hnil; simp at hnl
    · have hrun : (execOp a.eval o).run P w = .ok (.value (.pointer (some ⟨b, off + n.toNat * shn sh + 0, none⟩))) w := by
        simp [execOp, ho, hux, hyv, Instr.indexAt, run_underlying hu, asIntOf, h0, hlt, sizeOf, typeInfo, hi, hsz, Addr.add_lit]
      refine .still hI hrun (hk z hz) (.imm sh z 0 b (off + n.toNat * shn sh) (fun j => us (n.toNat * shn sh + j)) (hs z (List.mem_of_getElem? hz)) (fun c hcz => ?_) (fun j hj => ?_) (fun j c hcz => ?_))
      · exact h1 c (List.mem_flatMap.2 ⟨z, List.mem_of_getElem? hz, hcz⟩)
      · have hle : n.toNat * shn sh + j < xs.length * shn sh := by
          have : (n.toNat + 1) * shn sh ≤ xs.length * shn sh := Nat.mul_le_mul_right _ hnl
          rw [Nat.add_mul, Nat.one_mul] at this
          omega
        have := hc _ hle
        rw [← Nat.add_assoc] at this
        exact this
      · exact hrr _ c (flat_at hs n.toNat z hz j c hcz)
  unfold WIaddr at hW
  split at hW
  · obtain ⟨rfl, h0, hlt, hk⟩ := hW
    exact key _ _ _ _ hr.v_inv hry.int_inv h0 hlt hk
  · obtain ⟨rfl, h0, hlt, hk⟩ := hW
    cases hr with
    | tsl t sh xs aa len cap tk hv _ _ _ _ => exact key _ _ _ _ hv hry.int_inv h0 hlt hk
  · rename_i oo off len sh' cp k n
    obtain ⟨rfl, h0, hlt, hk⟩ := hW
    have hyv := hry.int_inv
    cases hr with
    | msl _ _ _ _ _ aa cap hol hbb hlc hcm hcc =>
    rcases hbb with ⟨b, rfl, hb⟩ | ⟨hl0, _⟩
    · have hnl : n.toNat < len := by omega
      have hrun : (execOp a.eval o).run P w = .ok (.value (.pointer (some ⟨b, off + n.toNat * shn sh, none⟩))) w := by
        simp [execOp, ho, hux, hyv, Instr.indexAt, run_underlying hu, asIntOf, h0, hlt, sizeOf, typeInfo, hi, hsz, Addr.add_lit]
      exact .still hI hrun hk (.ptr _ _ b hb)
    · omega
  · exact hW.elim

theorem ok_index {t : TypeId} {x y : Operand} {ex ey : E} (ho : o.op = .index t x y) (hx : cE x = some ex) (hy : cE y = some ey) (hu : P.underlying t = some .string) : OpOk P o (.index ex ey) := by
  refine .of_runs fun σ m w a s K hI hE hW => ?_
  have hr := ev_rep hE hx
  have hry := ev_rep hE hy
  simp only [WOp] at hW
  generalize ev s ex = dx at hW hr
  generalize ev s ey = dy at hW hry
  unfold WIndex at hW
  split at hW
  · rename_i l k n
    obtain ⟨h0, hlt, hk⟩ := hW
    have hnl : n.toNat < l.length := by omega
    obtain ⟨b, hb⟩ : ∃ b, l[n.toNat]? = some b := ⟨_, List.getElem?_eq_getElem hnl⟩
    have hba : (⟨l.toArray⟩ : ByteArray)[n.toNat]? = some b := by
      have hlt' : n.toNat < (⟨l.toArray⟩ : ByteArray).size := by simpa [ByteArray.size] using hnl
      rw [getElem?_pos (⟨l.toArray⟩ : ByteArray) n.toNat hlt']
      have : (⟨l.toArray⟩ : ByteArray)[n.toNat] = l[n.toNat] := rfl
      rw [this]
      exact (List.getElem?_eq_getElem hnl).symm.trans hb
    exact .still hI (by simp [execOp, ho, hr.str_inv, hry.int_inv, Instr.index, run_underlying hu, asIntOf, h0, hba]) (hk b hb) (.v _ _ (.int _ _ (inR_byte b)))
  · exact hW.elim

theorem ok_extract {x : Operand} {ex : E} {n : Nat} (ho : o.op = .extract x n) (hx : cE x = some ex) : OpOk P o (.extract ex n) := by
  refine .of_runs fun σ m w a s K hI hE hW => ?_
  have hr := ev_rep hE hx
  simp only [WOp] at hW
  generalize ev s ex = dx at hW hr
  generalize hux : a.eval x = ux at hr
  unfold WExtract at hW
  cases hr with
  | tup ds us hl hrr =>
    dsimp only at hW
    split at hW
    · rename_i d hd
      have hlt : n < us.length := by rw [← hl]; exact (List.getElem?_eq_some_iff.1 hd).1
      exact .still hI (by simp [execOp, ho, hux, Instr.extract, hlt] <;> rfl) hW (hrr n d us[n] hd (List.getElem?_eq_getElem hlt))
    · exact hW.elim
  | _ => exact hW.elim

theorem ok_len {t : TypeId} {x : Operand} {ex : E} {d : TypeDesc} {k : LenK} (ho : o.op = .call { callee := .builtin .len, args := #[x], argTypes := #[t] }) (hx : cE x = some ex) (hu : P.underlying t = some d)
    (hd : match k with | .str => d = .string | .sl => ∃ e, d = .slice e | .mp => ∃ p q, d = .map p q) : OpOk P o (.len k ex) := by
  refine .of_runs fun σ m w a s K hI hE hW => ?_
  have hr := ev_rep hE hx
  simp only [WOp] at hW
  generalize ev s ex = dx at hW hr
  generalize hux : a.eval x = ux at hr
  have hsl : ∀ (aa : Option Addr) (n c : Nat), ux = .slice aa n c → (∃ e, d = .slice e) → (execOp a.eval o).run P w = .ok (.value (.int .i64 n)) w := by
    rintro aa n c rfl ⟨e, rfl⟩
    simp [execOp, ho, hux, resolve, invoke, builtin, Builtin.len_, run_underlying hu, goInt]
  unfold WLen at hW
  split at hW
  · rename_i l
    have hu' := hr.str_inv
    subst hu'
    have hd' : d = .string := hd
    subst hd'
    exact .still (u := .int .i64 (⟨l.toArray⟩ : ByteArray).size) hI (by simp [execOp, ho, hux, resolve, invoke, builtin, Builtin.len_, run_underlying hu, goInt]) hW (.v _ _ (.int _ _ (inR_nat hr.str_r)))
  · have hv := hr.v_inv
    cases hv
    exact .still hI (hsl none 0 0 rfl hd) hW (.v _ _ (.int _ _ (by decide)))
  · obtain ⟨aa, cap, rfl, hlc, hmc, _⟩ := hr.v_inv.sl_inv
    exact .still hI (hsl _ _ _ rfl hd) hW (.v _ _ (.int _ _ (inR_nat (Nat.le_trans hlc hmc))))
  · cases hr with
    | tsl t sh xs aa len cap tk hv _ _ _ _ =>
      obtain ⟨aa', cap', he, hlc, hmc, _⟩ := hv.sl_inv
      cases he
      exact .still hI (hsl _ _ _ rfl hd) hW (.v _ _ (.int _ _ (inR_nat (Nat.le_trans hlc hmc))))
  · cases hr with
    | msl _ _ _ _ _ aa cap hol hbb hlc hcm hcc =>
      exact .still hI (hsl _ _ _ rfl hd) hW (.v _ _ (.int _ _ (inR_nat (Nat.le_trans hlc hcm))))
  · have hv := hr.v_inv
    cases hv
    obtain ⟨p, q, rfl⟩ := hd
    exact .still hI (by simp [execOp, ho, hux, resolve, invoke, builtin, Builtin.len_, run_underlying hu, goInt] <;> rfl) hW (.v _ _ (.int _ _ (by decide)))
  · cases hr with
    | map _ b hb =>
      obtain ⟨p, q, rfl⟩ := hd
      split at hW
      · rename_i es hes
        have hb := hI.live hes (by simp) hb
        obtain ⟨ms, clock, hh, hsz, _⟩ := hI.ob _ _ b hes hb
        exact .still hI (by simp [execOp, ho, hux, resolve, invoke, builtin, Builtin.len_, run_underlying hu, goInt, getObj, Sem.run, hh, hsz] <;> rfl) hW.2 (.v _ _ (.int _ _ (inR_nat hW.1)))
      · exact hW.elim
  · exact hW.elim

/-! Conversions -/

theorem toList_eq_data (s : ByteArray) : s.toList = s.data.toList := by rw [ByteArray.toList_eq]

end
end Go.Abs

/-
  The model's operations, turned into the small language; that each does what its weakest precondition says: part 5. (Own work; seat-independent.)
-/
set_option linter.unusedVariables false
set_option linter.unusedSimpArgs false
namespace Go.Abs
open Go

section
variable {P : Program} {o : Oper}

/-! Conversions -/

theorem flat_bytes (s : List UInt8) : V.flat (bytesV s) = bytesV s := by
  induction s with
  | nil => rfl
  | cons b s ih => simp only [bytesV, V.flat, List.map_cons, List.flatMap_cons] at *; rw [ih]; rfl

theorem bytes_shape (s : List UInt8) : ∀ x ∈ bytesV s, x.shape = none := by
  intro x hx
  obtain ⟨b, _, rfl⟩ := List.mem_map.1 hx
  rfl

theorem bytes_one (s : List UInt8) : ∀ x ∈ bytesV s, x.one = true := by
  intro x hx
  obtain ⟨b, _, rfl⟩ := List.mem_map.1 hx
  rfl

def bytesU (s : List UInt8) : List Value := s.map fun b => .int .u8 b.toNat

theorem bytes_rep {w : World} {F : Nat → Nat → Prop} (s : List UInt8) (i : Nat) (c : V) (u : Value) (hc : (bytesV s)[i]? = some c) (hu : (bytesU s)[i]? = some u) : RepV w F c u := by
  simp only [bytesV, bytesU, List.getElem?_map] at hc hu
  cases hs : s[i]? with
  | none => simp [hs] at hc
  | some b => simp [hs] at hc hu; subst hc hu; exact .int _ _ (inR_byte b)

theorem bytes_rep_eq {w : World} {F : Nat → Nat → Prop} (s : List UInt8) {us : List Value} (hl : us.length = s.length) (h : ∀ (i : Nat) c u, (bytesV s)[i]? = some c → us[i]? = some u → RepV w F c u) : us = bytesU s := by
  apply List.ext_getElem?
  intro i
  simp only [bytesU, List.getElem?_map]
  rcases Nat.lt_or_ge i s.length with hlt | hge
  · have hu : us[i]? = some us[i] := List.getElem?_eq_getElem (by omega)
    have hb : s[i]? = some s[i] := List.getElem?_eq_getElem hlt
    have hr := h i (.int .u8 s[i].toNat) us[i] (by simp [bytesV, hb]) hu
    rw [hu, hb]
    generalize us[i] = u at hr
    cases hr
    rfl
  · rw [List.getElem?_eq_none (by omega), List.getElem?_eq_none hge]
    rfl

theorem foldl_bytes (s : List UInt8) : ∀ (r : ByteArray), (s.map fun b : UInt8 => (b.toNat : Int)).foldl (fun r n => r.push (UInt8.ofNat n.toNat)) r = ⟨(r.data.toList ++ s).toArray⟩ := by
  induction s with
  | nil => intro r; simp
  | cons b s ih =>
    intro r
    simp only [List.map_cons, List.foldl_cons]
    rw [ih]
    simp [ByteArray.push]

theorem ok_conv_int {src dst : TypeId} {x : Operand} {ex : E} {d : TypeDesc} {k : IntKind} (ho : o.op = .convert src dst x) (hx : cE x = some ex) (hs : P.underlying src = some d) (hd : P.underlying dst = some (.int k)) : OpOk P o (.conv (.toInt k) ex) := by
  refine .of_runs fun σ m w a s K hI hE hW => ?_
  have hr := ev_rep hE hx
  simp only [WOp] at hW
  generalize ev s ex = dx at hW hr
  unfold WConv at hW
  cases dx with
  | v y =>
    cases y with
    | int l n => exact .still hI (by simp [execOp, ho, hr.int_inv, convert, run_underlying hs, run_underlying hd, Conv.intToInt] <;> rfl) hW (.v _ _ (.int _ _ (inR_wrap _ _)))
    | _ => exact hW.elim
  | _ => exact hW.elim

theorem ok_conv_str {src dst : TypeId} {x : Operand} {ex : E} {d : TypeDesc} (ho : o.op = .convert src dst x) (hx : cE x = some ex) (hs : P.underlying src = some d) (hd : P.underlying dst = some .string) : OpOk P o (.conv .strs ex) := by
  refine .of_runs fun σ m w a s K hI hE hW => ?_
  have hr := ev_rep hE hx
  simp only [WOp] at hW
  generalize ev s ex = dx at hW hr
  unfold WConv at hW
  cases dx with
  | v y =>
    cases y with
    | str l => exact .still hI (by simp [execOp, ho, hr.str_inv, convert, run_underlying hs, run_underlying hd] <;> rfl) hW (.v _ _ (.str _ hr.str_r))
    | _ => exact hW.elim
  | _ => exact hW.elim

theorem ok_conv_of {src dst e : TypeId} {x : Operand} {ex : E} (ho : o.op = .convert src dst x) (hx : cE x = some ex) (hs : P.underlying src = some (.slice e)) (he : P.underlying e = some (.int .u8)) (hd : P.underlying dst = some .string) : OpOk P o (.conv .ofBytes ex) := by
  refine .of_runs fun σ m w a s K hI hE hW => ?_
  have hr := ev_rep hE hx
  simp only [WOp] at hW
  generalize ev s ex = dx at hW hr
  generalize hux : a.eval x = ux at hr
  have key : ∀ (sh : Sh) (full : Bool) (l : List UInt8), RepV w (Fz m w) (.sl sh full (bytesV l)) ux → K (.v (.str l)) σ → Runs1 P o σ m w a K := by
    intro sh full l hv hk
    obtain ⟨aa, cap, rfl, hl, hm, hf, hsh, h1, hh⟩ := hv.sl_inv
    rcases hh with ⟨hnil, rfl⟩ | ⟨b, off, us, rfl, hc, hrr⟩
    · have hl0 : l = [] := by simpa [bytesV] using hnil
      subst hl0
      exact .still (u := .string ⟨#[]⟩) hI (by cases aa <;> simp [execOp, ho, hux, run_convert_bytes_string w src dst e _ _ _ hs he hd, Conv.bytesToString, bytesV] <;> rfl) hk (.v _ _ (.str [] (by decide)))
    · have hn1 : l.length * shn sh = l.length := by
        cases l with
        | nil => simp
        | cons b l =>
          have := hsh (.int .u8 b.toNat) (by simp [bytesV])
          have hnn : sh = none := this.symm
          subst hnn
          simp [shn]
      have hbl : (bytesV l).length = l.length := by simp [bytesV]
      rw [hbl, hn1] at hc
      have hus : (List.range l.length).map us = bytesU l := by
        refine bytes_rep_eq (w := w) (F := Fz m w) l (by simp) fun i c u hci hui => ?_
        have hlt : i < l.length := by have := (List.getElem?_eq_some_iff.1 hci).1; simpa [bytesV] using this
        rw [List.getElem?_map, List.getElem?_range hlt] at hui
        cases hui
        exact hrr i c (by rw [flat_bytes]; exact hci)
      have hload := run_loadCells_list (P := P) w ⟨b, off, none⟩ ((List.range l.length).map us) fun j v hj => by
        simp only [List.getElem?_map] at hj
        rcases Nat.lt_or_ge j l.length with hlt | hge
        · rw [List.getElem?_range hlt] at hj
          cases hj
          rw [Addr.add_lit]
          exact (hc j hlt).1
        · simp [hge] at hj
      rw [hus] at hload
      have hbu : bytesU l = (l.map fun b : UInt8 => (b.toNat : Int)).map (Value.int .u8) := by simp [bytesU]
      rw [hbu] at hload
      have hlen : ((l.map fun b : UInt8 => (b.toNat : Int)).map (Value.int .u8)).length = (bytesV l).length := by simp [bytesV]
      rw [hlen] at hload
      have hrun := run_bytesToString (P := P) w ⟨b, off, none⟩ (bytesV l).length cap (l.map fun b : UInt8 => (b.toNat : Int)) hload
      rw [foldl_bytes] at hrun
      refine .still (u := .string ⟨l.toArray⟩) hI ?_ hk (.v _ _ (.str l (by rw [hbl] at hl; exact Nat.le_trans hl hm)))
      simp only [execOp, ho, hux, Sem.run_bind, run_convert_bytes_string w src dst e _ _ _ hs he hd, hrun, Result.andThen_ok, Sem.run_pure]
      rfl
  unfold WConv at hW
  split at hW
  · cases ‹ConvK.ofBytes = _›
  · cases ‹ConvK.ofBytes = _›
  · cases ‹ConvK.ofBytes = _›
  · exact key none false [] (by have := hr.v_inv; cases this; exact .slNil _ _ _) hW
  · obtain ⟨l, rfl, hk⟩ := hW
    exact key _ _ l hr.v_inv hk
  · obtain ⟨l, rfl, hk⟩ := hW
    cases hr with
    | tsl t sh xs aa len cap tk hv _ _ _ _ => exact key _ _ l hv hk
  · exact hW.elim

end
end Go.Abs

/-
  The model's operations, turned into the small language; that each does what its weakest precondition says: part 6. (Own work; seat-independent.)
-/
set_option linter.unusedVariables false
set_option linter.unusedSimpArgs false
namespace Go.Abs
open Go

section
variable {P : Program} {o : Oper}

theorem ok_conv_to {src dst e : TypeId} {x : Operand} {ex : E} (ho : o.op = .convert src dst x) (hx : cE x = some ex) (hs : P.underlying src = some .string) (hd : P.underlying dst = some (.slice e)) (he : P.underlying e = some (.int .u8)) : OpOk P o (.conv .toBytes ex) := by
  refine .of_runs fun σ m w a s K hI hE hW => ?_
  have hr := ev_rep hE hx
  simp only [WOp] at hW
  generalize ev s ex = dx at hW hr
  obtain ⟨l, rfl, hml, hk⟩ : ∃ l, dx = .v (.str l) ∧ l.length ≤ maxLen ∧ K (.v (.sl none false (bytesV l))) σ := by
    unfold WConv at hW
    cases dx with
    | v y =>
      cases y with
      | str l => exact ⟨l, rfl, hW⟩
      | _ => exact hW.elim
    | _ => exact hW.elim
  · have hus := hr.str_inv
    generalize hC : (Question.appendCap l.length 0 e).cut (w.tape w.drawn (.appendCap l.length 0 e)) = C
    have hCge : l.length ≤ C := by rw [← hC]; simp [Question.cut]
    have hCle : C ≤ maxLen := by
      rw [← hC]
      have hlt := Nat.mod_lt (w.tape w.drawn (.appendCap l.length 0 e)) (show 0 < 2 ^ 63 - l.length by simp only [maxLen] at hml; omega)
      simp only [Question.cut, maxLen] at hml ⊢
      omega
    generalize hA : (bytesU l).toArray ++ Array.replicate (C - l.length) (Value.int .u8 0) = arr
    have hsz : arr.size = C := by rw [← hA]; simp [bytesU]; omega
    have hbytes : Array.map (fun b : UInt8 => Value.int .u8 (b.toNat : Int)) l.toArray = (bytesU l).toArray := by simp [bytesU]
    have hshape : (w.drew.alloc (.cells arr e)).shape? w.heap.size = some (e, C) := by
      have := heap_alloc_new w.drew (.cells arr e)
      simp only [World.shape?]
      rw [show w.heap.size = w.drew.heap.size from rfl, this]
      simp [hsz]
    have hrun : (execOp a.eval o).run P w = .ok (.value (.slice (some ⟨w.heap.size, 0, none⟩) l.length C)) ((w.drew.alloc (.cells arr e)).freeze ⟨w.heap.size, C, none⟩ 1) := by
      simp only [execOp, ho, hus, Sem.run_bind, convert, run_underlying hs, run_underlying hd, run_underlying he, Result.andThen_ok, Conv.stringToBytes, run_choose, Question.forced]
      have hs0 : (⟨l.toArray⟩ : ByteArray).size = l.length := by simp [ByteArray.size]
      simp only [hs0, hC, Bool.false_eq_true, if_false, Result.andThen_ok, newRow, Sem.run_bind, run_newObj, Sem.run_pure, hbytes, hA, markStringish, run_shape]
      have hsh : World.shape? { os := w.os, tape := w.tape, drawn := w.drawn + 1, output := w.output, heap := w.heap.push (Obj.cells arr e) } w.heap.size = some (e, C) := hshape
      simp only [hsh, run_freeze, Result.andThen_ok]
      rfl
    have hold : ∀ b, b < w.heap.size → ((w.drew.alloc (.cells arr e)).freeze ⟨w.heap.size, C, none⟩ 1).heap[b]? = w.heap[b]? := by
      intro b hb
      have h1 := heap_alloc_lt w.drew (.cells arr e) hb
      simp only [World.freeze, Nat.one_ne_zero, if_false, Array.getElem?_modify]
      rw [if_neg (by omega)]
      exact h1
    have hsize : w.heap.size < ((w.drew.alloc (.cells arr e)).freeze ⟨w.heap.size, C, none⟩ 1).heap.size := by
      simp [World.freeze]
    have hcell : ∀ j, ((w.drew.alloc (.cells arr e)).freeze ⟨w.heap.size, C, none⟩ 1).cell? ⟨w.heap.size, j, none⟩ = arr[j]? := by
      intro j
      have h1 : (w.drew.alloc (.cells arr e)).heap[w.heap.size]? = some (.cells arr e (0, 0)) := heap_alloc_new w.drew _
      simp only [World.cell?, World.freeze, Nat.one_ne_zero, if_false, Array.getElem?_modify, if_true, h1, Option.map_some]
      rfl
    have e1 : Ext m w m ((w.drew.alloc (.cells arr e)).freeze ⟨w.heap.size, C, none⟩ 1) := by
      refine .of_old ?_ ?_ ?_ (by omega) hold <;> simp [World.freeze] <;> rfl
    refine ⟨_, _, _, m, _, _, hrun, .inl rfl, hk, hI.of_old e1 hold, e1, .v _ _ ?_⟩
    have hbl : (bytesV l).length = l.length := by simp [bytesV]
    have := RepV.sl (w := (w.drew.alloc (.cells arr e)).freeze ⟨w.heap.size, C, none⟩ 1) (F := Fz m ((w.drew.alloc (.cells arr e)).freeze ⟨w.heap.size, C, none⟩ 1)) none false (bytesV l) w.heap.size 0 C (fun j => (bytesU l).getD j undef)
      (bytes_shape l) (by rw [flat_bytes]; exact bytes_one l) (by rw [hbl]; exact hCge) hCle (by simp)
      (fun j hj => by
        rw [hbl] at hj
        simp only [shn, Nat.mul_one] at hj
        refine ⟨?_, hsize, fun hx => by have := hI.lt_block (Gh.mut_block hx); omega⟩
        rw [Nat.zero_add, hcell j, ← hA]
        have hju : j < (bytesU l).length := by simpa [bytesU] using hj
        rw [Array.getElem?_append_left (by simpa using hju)]
        simp [List.getD, hju])
      (fun j c hj => by
        rw [flat_bytes] at hj
        have hju : j < (bytesU l).length := by have := (List.getElem?_eq_some_iff.1 hj).1; simpa [bytesU, bytesV] using this
        refine bytes_rep l j c _ hj ?_
        simp [List.getD, hju])
    rw [hbl] at this
    exact this

/-! Slice expressions -/

theorem run_sliceBound (k : IntKind) (i : Int) (y : Nat) (code : BoundsCode) (w : World) (h0 : 0 ≤ i) (h : i ≤ y) : (Instr.sliceBound (.int k i) y code).run P w = .ok i.toNat w := by
  simp [Instr.sliceBound, asIntOf, h0, h]

theorem asI_inv {m : Gh} {w : World} {d : D} {n : Int} {u : Value} (h : asI d = some n) (r : RepD m w d u) : ∃ k, u = .int k n := by
  unfold asI at h
  split at h
  · cases h; exact ⟨_, r.int_inv⟩
  · cases h

def OptRep (m : Gh) (w : World) : Option D → Option Value → Prop
  | none, none => True
  | some d, some u => RepD m w d u
  | _, _ => False

def roomOf (cap : Nat) : Option Int → Nat
  | none => cap
  | some v => v.toNat

/-- The bounds of a slice expression, as0 the model finds them. -/
theorem run_sliceBounds' {m : Gh} {w : World} (isSlice : Bool) (len cap : Nat) (hlc : len ≤ cap) {lo hi mx : Option D} {ul uh um : Option Value} (rl : OptRep m w lo ul) (rh : OptRep m w hi uh) (rm : OptRep m w mx um)
    {l h : Int} {q : Option Int} (hb : bounds len lo hi mx = some (l, h, q)) (hmh : mx.isSome = true → hi.isSome = true) (h0 : 0 ≤ l) (hl : l ≤ h) (hh : h ≤ cap) (hq : ∀ v, q = some v → h ≤ v ∧ v ≤ cap) :
    (Instr.sliceBounds isSlice len cap ul uh um).run P w = .ok (l.toNat, h.toNat, roomOf cap q) w := by
  obtain ⟨b1, b2, b3⟩ : loI lo = some l ∧ hiI len hi = some h ∧ mxI mx = some q := by
    unfold bounds at hb
    split at hb
    · cases hb
      exact ⟨‹_›, ‹_›, ‹_›⟩
    · cases hb
  have lov : (ul = none ∧ l = 0) ∨ ∃ k, ul = some (.int k l) := by
    cases lo with
    | none => cases ul with
      | none => simp only [loI, Option.some.injEq] at b1; exact .inl ⟨rfl, b1.symm⟩
      | some u => exact rl.elim
    | some d => cases ul with
      | none => exact rl.elim
      | some u =>
        obtain ⟨k, hk⟩ := asI_inv b1 rl
        exact .inr ⟨k, by rw [hk]⟩
  have hiv : (uh = none ∧ h = len ∧ hi = none) ∨ ∃ k, uh = some (.int k h) := by
    cases hi with
    | none => cases uh with
      | none => simp only [hiI, Option.some.injEq] at b2; exact .inl ⟨rfl, b2.symm, rfl⟩
      | some u => exact rh.elim
    | some d => cases uh with
      | none => exact rh.elim
      | some u =>
        obtain ⟨k, hk⟩ := asI_inv b2 rh
        exact .inr ⟨k, by rw [hk]⟩
  have mxv : (um = none ∧ q = none) ∨ ∃ k v, um = some (.int k v) ∧ q = some v ∧ hi.isSome = true := by
    cases mx with
    | none => cases um with
      | none => simp only [mxI, Option.some.injEq] at b3; exact .inl ⟨rfl, b3.symm⟩
      | some u => exact rm.elim
    | some d => cases um with
      | none => exact rm.elim
      | some u =>
        simp only [mxI] at b3
        split at b3
        · rename_i v hv
          cases b3
          obtain ⟨k, hk⟩ := asI_inv hv rm
          exact .inr ⟨k, v, by rw [hk], rfl, hmh rfl⟩
        · cases b3
  rcases mxv with ⟨rfl, rfl⟩ | ⟨km, v, rfl, rfl, his⟩
  · rcases hiv with ⟨rfl, rfl, _⟩ | ⟨kh, rfl⟩ <;> rcases lov with ⟨rfl, rfl⟩ | ⟨kl, rfl⟩
    · simp [Instr.sliceBounds, roomOf]
    · simp [Instr.sliceBounds, roomOf, run_sliceBound (P := P) kl l len _ w h0 hl]
    · simp [Instr.sliceBounds, roomOf, run_sliceBound (P := P) kh h cap _ w (by omega) (by omega)]
    · simp [Instr.sliceBounds, roomOf, run_sliceBound (P := P) kh h cap _ w (by omega) (by omega), run_sliceBound (P := P) kl l h.toNat _ w h0 (by omega)]
  · obtain ⟨hv1, hv2⟩ := hq v rfl
    rcases hiv with ⟨_, _, hn⟩ | ⟨kh, rfl⟩
    · rw [hn] at his; cases his
    · rcases lov with ⟨rfl, rfl⟩ | ⟨kl, rfl⟩
      · simp [Instr.sliceBounds, roomOf, run_sliceBound (P := P) km v cap _ w (by omega) (by omega), run_sliceBound (P := P) kh h v.toNat _ w (by omega) (by omega)]
      · simp [Instr.sliceBounds, roomOf, run_sliceBound (P := P) km v cap _ w (by omega) (by omega), run_sliceBound (P := P) kh h v.toNat _ w (by omega) (by omega), run_sliceBound (P := P) kl l h.toNat _ w h0 (by omega)]

theorem run_sliceBounds {m : Gh} {w : World} (isSlice : Bool) (len cap : Nat) (hlc : len ≤ cap) {lo hi mx : Option D} {ul uh um : Option Value} (rl : OptRep m w lo ul) (rh : OptRep m w hi uh) (rm : OptRep m w mx um)
    {l h : Int} {q : Option Int} (hb : bounds len lo hi mx = some (l, h, q)) (hmh : mx.isSome = true → hi.isSome = true) (h0 : 0 ≤ l) (hl : l ≤ h) (hh : h ≤ len) (hq : ∀ v, q = some v → h ≤ v ∧ v ≤ len) :
    (Instr.sliceBounds isSlice len cap ul uh um).run P w = .ok (l.toNat, h.toNat, roomOf cap q) w :=
  run_sliceBounds' isSlice len cap hlc rl rh rm hb hmh h0 hl (by omega) fun v hv => by have := hq v hv; omega

end
end Go.Abs

/-
  The model's operations, turned into the small language; that each does what its weakest precondition says: part 7. (Own work; seat-independent.)
-/
set_option linter.unusedVariables false
set_option linter.unusedSimpArgs false
namespace Go.Abs
open Go

section
variable {P : Program} {o : Oper}

def cEo : Option Operand → Option (Option E)
  | none => some none
  | some x => match cE x with
    | some e => some (some e)
    | none => none

theorem evo_rep {m : Gh} {w : World} {s : List (Nat × D)} {a : Act} (h : EnvR m w s a.tmps) {x : Option Operand} {e : Option E} (hc : cEo x = some e) : OptRep m w (e.map (ev s)) (x.map a.eval) ∧ (e.isSome = x.isSome) := by
  cases x with
  | none => cases hc; exact ⟨trivial, rfl⟩
  | some x =>
    simp only [cEo] at hc
    split at hc
    · rename_i e' he
      cases hc
      exact ⟨ev_rep h he, rfl⟩
    · cases hc

theorem flat_take_drop {sh : Sh} {xs : List V} (hs : ∀ x ∈ xs, x.shape = sh) (l h : Nat) (i : Nat) (c : V) (hc : (V.flat ((xs.take h).drop l))[i]? = some c) : (V.flat xs)[l * shn sh + i]? = some c := by
  have hs' : ∀ x ∈ (xs.take h).drop l, x.shape = sh := fun x hx => hs x (List.mem_of_mem_take (List.mem_of_mem_drop hx))
  have hlt := (List.getElem?_eq_some_iff.1 hc).1
  have hflen := V.flat_length hs'
  by_cases hsz : shn sh = 0
  · rw [hflen, hsz] at hlt; omega
  have e1 : xs = xs.take l ++ xs.drop l := (List.take_append_drop l xs).symm
  have e2 : (xs.take h).drop l = (xs.drop l).take (h - l) := by rw [List.drop_take]
  rw [e2] at hc hlt
  have e3 : xs.drop l = (xs.drop l).take (h - l) ++ (xs.drop l).drop (h - l) := (List.take_append_drop _ _).symm
  have hl : l ≤ xs.length := by
    rcases Nat.lt_or_ge xs.length l with hx | hx
    · rw [List.drop_eq_nil_of_le (Nat.le_of_lt hx)] at hlt; simp [V.flat] at hlt
    · exact hx
  have hfl : (V.flat (xs.take l)).length = l * shn sh := by
    rw [V.flat_length (sh := sh) fun x hx => hs x (List.mem_of_mem_take hx), List.length_take, Nat.min_eq_left hl]
  rw [e1, V.flat_append, List.getElem?_append_right (by omega), hfl, show l * shn sh + i - l * shn sh = i by omega, e3, V.flat_append, List.getElem?_append_left hlt]
  exact hc

/-- A piece of a slice. -/
theorem RepV.piece {w : World} {F : Nat → Nat → Prop} {sh : Sh} {full : Bool} {xs : List V} {a : Option Addr} {len cap : Nat} (hv : RepV w F (.sl sh full xs) (.slice a len cap)) (l h mm : Nat) (hl : l ≤ h) (hh : h ≤ xs.length) (hm : h ≤ mm) (hmc : mm ≤ cap) {f : Bool} (hf : f = true → mm = h) :
    RepV w F (.sl sh f ((xs.take h).drop l)) (.slice (if mm = l then a else a.map (·.add (l * shn sh))) (h - l) (mm - l)) := by
  obtain ⟨a', cap', he, hlc, hcm, _, hs, h1, hx⟩ := hv.sl_inv
  cases he
  have hlen : ((xs.take h).drop l).length = h - l := by simp; omega
  have hs' : ∀ x ∈ (xs.take h).drop l, x.shape = sh := fun x hx => hs x (List.mem_of_mem_take (List.mem_of_mem_drop hx))
  have h1' : ∀ c ∈ V.flat ((xs.take h).drop l), c.one = true := by
    intro c hc
    obtain ⟨x, hx, hcx⟩ := List.mem_flatMap.1 hc
    exact h1 c (List.mem_flatMap.2 ⟨x, List.mem_of_mem_take (List.mem_of_mem_drop hx), hcx⟩)
  rcases hx with ⟨rfl, rfl⟩ | ⟨b, off, us, rfl, hc, hr⟩
  · have hh0 : h = 0 := by simpa using hh
    have hl0 : l = 0 := by omega
    have hm0 : mm = 0 := by omega
    subst hh0 hl0 hm0
    exact .slNil sh f a
  · rw [← hlen]
    by_cases hml : mm = l
    · rw [if_pos hml]
      have hlh : h = l := by omega
      have hnil : (xs.take h).drop l = [] := by apply List.eq_nil_of_length_eq_zero; omega
      rw [hnil]
      exact .sl sh f [] b off (mm - l) us (by simp) (by simp [V.flat]) (by simp) (by simp only [maxLen] at *; omega) (fun _ => by simp; omega) (by simp) (by simp [V.flat])
    · rw [if_neg hml]
      simp only [Option.map_some, Addr.add_lit]
      refine .sl sh f _ b (off + l * shn sh) (mm - l) (fun j => us (l * shn sh + j)) hs' h1' (by omega) (by simp only [maxLen] at *; omega) (fun hft => by have := hf hft; omega) (fun j hj => ?_) (fun j c hj => hr _ c (flat_take_drop hs l h j c hj))
      have hle : l * shn sh + j < xs.length * shn sh := by
        rw [hlen] at hj
        have h2 : (l + (h - l)) * shn sh ≤ xs.length * shn sh := Nat.mul_le_mul_right _ (by omega)
        rw [Nat.add_mul] at h2
        omega
      have := hc _ hle
      rw [← Nat.add_assoc] at this
      exact this

theorem ok_slice_str {t : TypeId} {x : Operand} {lo hi : Option Operand} {ex : E} {el eh : Option E} (ho : o.op = .slice t x lo hi none) (hx : cE x = some ex) (hlo : cEo lo = some el) (hhi : cEo hi = some eh) (hu : P.underlying t = some .string) : OpOk P o (.slice .str ex el eh none) := by
  refine .of_runs fun σ m w a s K hI hE hW => ?_
  have hr := ev_rep hE hx
  simp only [WOp, WSl] at hW
  generalize ev s ex = dx at hW hr
  obtain ⟨ll, h0⟩ : ∃ ll, dx = .v (.str ll) ∧ WSlice .str (.v (.str ll)) (el.map (ev s)) (eh.map (ev s)) none (fun v => K (.v v) σ) := by
    cases dx with
    | v y =>
      cases y with
      | str l => exact ⟨l, rfl, hW⟩
      | _ => exact hW.elim
    | _ => exact hW.elim
  obtain ⟨rfl, h0⟩ := h0
  simp only [WSlice] at h0
  split at h0
  · rename_i l h hb
    obtain ⟨q0, q1, q2, hk⟩ := h0
    have hsz : (⟨ll.toArray⟩ : ByteArray).size = ll.length := by simp [ByteArray.size]
    have hrun := run_sliceBounds (P := P) (w := w) false ll.length ll.length (Nat.le_refl _) (evo_rep hE hlo).1 (evo_rep hE hhi).1 (show OptRep m w none none from trivial) hb (by simp) q0 q1 q2 (by simp)
    refine .still (u := .string ((⟨ll.toArray⟩ : ByteArray).extract l.toNat h.toNat)) hI ?_ hk (.v _ _ ?_)
    · simp only [execOp, ho, hr.str_inv, Sem.run_bind, Instr.sliceAt, Instr.slice, run_underlying hu, Result.andThen_ok, Option.map_none, Option.isSome_none, Bool.false_eq_true, if_false, hsz, hrun, Sem.run_pure]
    · have : (⟨ll.toArray⟩ : ByteArray).extract l.toNat h.toNat = ⟨((ll.take h.toNat).drop l.toNat).toArray⟩ := by
        apply ByteArray.ext
        rw [ByteArray.data_extract]
        apply Array.ext'
        simp [List.extract_eq_take_drop, List.drop_take]
      rw [this]
      exact .str _ (by have := hr.str_r; simp; omega)
  · exact h0.elim

theorem ok_slice_sl {t e : TypeId} {x : Operand} {lo hi mx : Option Operand} {ex : E} {el eh em : Option E} {i : TypeInfo} {sh : Sh} (ho : o.op = .slice t x lo hi mx) (hx : cE x = some ex) (hlo : cEo lo = some el) (hhi : cEo hi = some eh) (hmx : cEo mx = some em)
    (hmh : mx.isSome = true → hi.isSome = true) (hu : P.underlying t = some (.slice e)) (hi' : P.info? e = some i) (hsz : i.size = shn sh) : OpOk P o (.slice (.sl sh) ex el eh em) := by
  refine .of_runs fun σ m w a s K hI hE hW => ?_
  have hr := ev_rep hE hx
  simp only [WOp] at hW
  generalize ev s ex = dx at hW hr
  generalize hux : a.eval x = ux at hr
  by_cases hmsl : ∃ o off len sh' cp, dx = .msl o off len sh' cp
  · obtain ⟨oo, off, len, sh', cp, rfl⟩ := hmsl
    obtain ⟨rl, _⟩ := evo_rep hE hlo
    obtain ⟨rh, sh1⟩ := evo_rep hE hhi
    obtain ⟨rm, sm1⟩ := evo_rep hE hmx
    have hmh' : (em.map (ev s)).isSome = true → (eh.map (ev s)).isSome = true := fun hh => by
      rw [Option.isSome_map] at hh ⊢
      rw [sm1] at hh
      rw [sh1]
      exact hmh hh
    simp only [WSl, WSlM] at hW
    obtain ⟨rfl, hW⟩ := hW
    cases hr with
    | msl _ _ _ _ _ aa cap hol hbb hlc hcm hcc =>
    split at hW
    · rename_i c
      have hc := hcc c rfl
      subst hc
      have fin : ∀ (l h mm : Nat), (Instr.sliceBounds true len cap (lo.map a.eval) (hi.map a.eval) (mx.map a.eval)).run P w = .ok (l, h, mm) w → l ≤ h → h ≤ mm → mm ≤ cap → K (.msl oo (off + l * shn sh) (h - l) sh (some (mm - l))) σ → Runs1 P o σ m w a K := by
        intro l h mm hrun q1 q2 q3 hk
        refine .still (u := .slice (if mm = l then aa else aa.map (·.add (l * shn sh))) (h - l) (mm - l)) hI ?_ hk ?_
        · simp only [execOp, ho, hux, Sem.run_bind, Instr.sliceAt, Instr.slice, run_underlying hu, Result.andThen_ok, hrun, sizeOf, typeInfo, run_program, hi', Sem.run_pure, hsz]
        · refine .msl oo _ _ sh _ _ _ hol ?_ (by omega) (by simp only [maxLen] at *; omega) fun c hc => (Option.some.inj hc)
          by_cases hml : mm = l
          · right; omega
          · rw [if_neg hml]
            rcases hbb with ⟨b, rfl, hb⟩ | ⟨h0, h1⟩
            · left
              exact ⟨b, by simp only [Option.map_some, Addr.add_lit], hb⟩
            · omega
      split at hW
      · rename_i l h hb
        obtain ⟨q0, q1, q2, hk⟩ := hW
        have hrun := run_sliceBounds' (P := P) (w := w) true len cap hlc rl rh rm hb hmh' q0 q1 q2 (fun v hv => by cases hv)
        refine fin l.toNat h.toNat cap hrun (by omega) (by omega) (Nat.le_refl _) ?_
        rw [show h.toNat - l.toNat = (h - l).toNat by omega]
        exact hk
      · rename_i l h v hb
        obtain ⟨q0, q1, q2, q3, hk⟩ := hW
        have hrun := run_sliceBounds' (P := P) (w := w) true len cap hlc rl rh rm hb hmh' q0 q1 (by omega) (fun v' hv => by cases hv; exact ⟨q2, q3⟩)
        refine fin l.toNat h.toNat v.toNat hrun (by omega) (by omega) (by omega) ?_
        rw [show h.toNat - l.toNat = (h - l).toNat by omega, show v.toNat - l.toNat = (v - l).toNat by omega]
        exact hk
      · exact hW.elim
    · exact hW.elim
  replace hW : WSlice (.sl sh) dx (el.map (ev s)) (eh.map (ev s)) (em.map (ev s)) (fun v => K (.v v) σ) := by
    unfold WSl at hW
    split at hW
    · exact (hmsl ⟨_, _, _, _, _, rfl⟩).elim
    · exact hW
  obtain ⟨rl, _⟩ := evo_rep hE hlo
  obtain ⟨rh, sh1⟩ := evo_rep hE hhi
  obtain ⟨rm, sm1⟩ := evo_rep hE hmx
  have key : ∀ (full : Bool) (xs : List V) (l h : Int) (q : Option Int) (f : Bool), RepV w (Fz m w) (.sl sh full xs) ux → bounds xs.length (el.map (ev s)) (eh.map (ev s)) (em.map (ev s)) = some (l, h, q) → 0 ≤ l → l ≤ h → h ≤ xs.length →
      (∀ v, q = some v → h = v) → (f = true → q = some h) → K (.v (.sl sh f ((xs.take h.toNat).drop l.toNat))) σ → Runs1 P o σ m w a K := by
    intro full xs l h q f hv hb q0 q1 q2 hq hf hk
    obtain ⟨aa, cap, rfl, hlc, _⟩ := hv.sl_inv
    have hrun := run_sliceBounds (P := P) (w := w) true xs.length cap hlc rl rh rm hb (fun hh => by
      rw [Option.isSome_map] at hh ⊢
      rw [sm1] at hh
      rw [sh1]
      exact hmh hh) q0 q1 q2 (fun v hv' => by have := hq v hv'; omega)
    generalize hmm : roomOf cap q = mm at hrun
    have hpiece := hv.piece l.toNat h.toNat mm (by omega) (by omega) (by
      rw [← hmm]
      cases q with
      | none => simp only [roomOf]; omega
      | some v => have := hq v rfl; simp only [roomOf]; omega) (by
      rw [← hmm]
      cases q with
      | none => exact Nat.le_refl _
      | some v => have := hq v rfl; simp only [roomOf]; omega) (f := f) (fun hft => by
      have := hf hft
      rw [← hmm, this]
      rfl)
    refine .still hI ?_ hk (.v _ _ hpiece)
    simp only [execOp, ho, hux, Sem.run_bind, Instr.sliceAt, Instr.slice, run_underlying hu, Result.andThen_ok, hrun, sizeOf, typeInfo, run_program, hi', Sem.run_pure, hsz]
  unfold WSlice at hW
  split at hW
  · cases ‹SlK.sl sh = _›
  · rename_i sh1' sh2 full xs heq
    cases heq
    obtain ⟨rfl, hW⟩ := hW
    split at hW
    · rename_i l h hb; exact key _ _ l h none false hr.v_inv hb hW.1 hW.2.1 hW.2.2.1 (by simp) (by simp) hW.2.2.2
    · rename_i l h v hb; exact key _ _ l h (some v) true hr.v_inv hb hW.1 hW.2.1 (by omega) (fun v' hv' => by cases hv'; exact hW.2.2.1) (fun _ => by rw [hW.2.2.1]) hW.2.2.2.2
    · exact hW.elim
  · rename_i sh1' tt sh2 xs heq
    cases heq
    obtain ⟨rfl, hW⟩ := hW
    cases hr with
    | tsl t sh xs aa len cap tk hv _ _ _ _ =>
    split at hW
    · rename_i l h hb; exact key _ _ l h none false hv hb hW.1 hW.2.1 hW.2.2.1 (by simp) (by simp) hW.2.2.2
    · rename_i l h v hb; exact key _ _ l h (some v) true hv hb hW.1 hW.2.1 (by omega) (fun v' hv' => by cases hv'; exact hW.2.2.1) (fun _ => by rw [hW.2.2.1]) hW.2.2.2.2
    · exact hW.elim
  · rename_i sh1' heq
    cases heq
    have hux0 := hr.v_inv
    generalize hq0 : ux = uq at hux0
    cases hux0
    split at hW
    · rename_i l h q hb
      obtain ⟨rfl, rfl, hq, hk⟩ := hW
      have hrun := run_sliceBounds (P := P) (w := w) true 0 0 (Nat.le_refl _) rl rh rm hb (fun hh => by
        rw [Option.isSome_map] at hh ⊢
        rw [sm1] at hh
        rw [sh1]
        exact hmh hh) (by simp) (by simp) (by simp) (fun v hv' => by rcases hq with rfl | rfl <;> cases hv'; simp)
      have hroom : roomOf 0 q = 0 := by rcases hq with rfl | rfl <;> rfl
      rw [hroom] at hrun
      refine .still (u := .slice none 0 0) hI ?_ hk (.v _ _ (.slNil sh true none))
      simp only [execOp, ho, hux, hq0, Sem.run_bind, Instr.sliceAt, Instr.slice, run_underlying hu, Result.andThen_ok, hrun, sizeOf, typeInfo, run_program, hi', Sem.run_pure, hsz]
      rfl
    · exact hW.elim
  · exact hW.elim

end
end Go.Abs

/-
  The model's operations, turned into the small language; that each does what its weakest precondition says: part 8. (Own work; seat-independent.)
-/
set_option linter.unusedVariables false
set_option linter.unusedSimpArgs false
namespace Go.Abs
open Go

section
variable {P : Program} {o : Oper}

theorem src_rep {m : Gh} {w : World} {sh : Sh} {dx : D} {ux : Value} (hr : RepD m w dx ux) {ys : List V} (hs : srcV sh dx = some ys) :
    ∃ news, Src P w (shn sh) ux ys.length news ∧ (∀ y ∈ ys, y.shape = sh) ∧ (∀ c ∈ V.flat ys, c.one = true) ∧ ∀ (j : Nat) c v, (V.flat ys)[j]? = some c → news[j]? = some v → RepV w (Fz m w) c v := by
  have key : ∀ (full : Bool), RepV w (Fz m w) (.sl sh full ys) ux →
      ∃ news, Src P w (shn sh) ux ys.length news ∧ (∀ y ∈ ys, y.shape = sh) ∧ (∀ c ∈ V.flat ys, c.one = true) ∧ ∀ (j : Nat) c v, (V.flat ys)[j]? = some c → news[j]? = some v → RepV w (Fz m w) c v := by
    intro full hv
    obtain ⟨aa, cap, rfl, _, _, _, hsh, h1, _⟩ := hv.sl_inv
    obtain ⟨olds, ho1, ho2, ho3⟩ := hv.olds (P := P)
    exact ⟨olds, ⟨by simp [Builtin.lenOf], ho3 w rfl, ho3 w.drew rfl, ho1⟩, hsh, h1, ho2⟩
  unfold srcV at hs
  split at hs
  · cases hs
    have := hr.v_inv
    cases this
    exact ⟨[], ⟨by simp [Builtin.lenOf], by simp [Builtin.firstCells], by simp [Builtin.firstCells], by simp⟩, by simp, by simp [V.flat], by simp⟩
  · split at hs
    · rename_i hsh
      cases hs
      subst hsh
      exact key _ hr.v_inv
    · cases hs
  · split at hs
    · rename_i hsh
      cases hs
      subst hsh
      cases hr with
      | tsl t sh xs aa len cap tk hv _ _ _ _ => exact key _ hv
    · cases hs
  · rename_i l
    split at hs
    · rename_i hsh
      cases hs
      subst hsh
      have hu := hr.str_inv
      subst hu
      have hsz : (⟨l.toArray⟩ : ByteArray).size = l.length := by simp [ByteArray.size]
      have hbl : (bytesV l).length = l.length := by simp [bytesV]
      have hcells : ∀ w' : World, (Builtin.firstCells (shn none) (bytesV l).length (.string ⟨l.toArray⟩)).run P w' = .ok (bytesU l).toArray w' := by
        intro w'
        simp only [Builtin.firstCells, Sem.run_pure, hbl]
        congr 1
        apply Array.ext'
        simp [bytesU, ByteArray.data_extract, List.extract_eq_take_drop]
      refine ⟨bytesU l, ⟨by simp [Builtin.lenOf, hsz, hbl], hcells w, hcells w.drew, by simp [bytesU, bytesV, shn]⟩, bytes_shape l, by rw [flat_bytes]; exact bytes_one l, ?_⟩
      rw [flat_bytes]
      exact bytes_rep l
    · cases hs
  · cases hs

theorem chunk_flat (n : Nat) : ∀ (k : Nat) (l : List V), l.length = k * n → V.flat (chunk n k l) = l ∧ (chunk n k l).length = k ∧ ∀ x ∈ chunk n k l, x.shape = some n
  | 0, l, h => by
    have : l = [] := List.eq_nil_of_length_eq_zero (by simpa using h)
    subst this
    simp [chunk, V.flat]
  | k + 1, l, h => by
    rw [Nat.add_mul, Nat.one_mul] at h
    obtain ⟨h1, h2, h3⟩ := chunk_flat n k (l.drop n) (by simp; omega)
    refine ⟨?_, by simp [chunk, h2], ?_⟩
    · simp only [chunk, V.flat, List.flatMap_cons, V.cells]
      have : (chunk n k (l.drop n)).flatMap V.cells = l.drop n := h1
      rw [this, List.take_append_drop]
    · intro x hx
      simp only [chunk, List.mem_cons] at hx
      rcases hx with rfl | hx
      · simp only [V.shape, List.length_take]
        congr 1
        omega
      · exact h3 x hx
theorem rowsV_flat {sh : Sh} {k : Nat} {l : List V} (hl : l.length = k * shn sh) (h1 : ∀ c ∈ l, c.one = true) : V.flat (rowsV sh k l) = l ∧ (rowsV sh k l).length = k ∧ ∀ x ∈ rowsV sh k l, x.shape = sh := by
  cases sh with
  | some n => exact chunk_flat n k l hl
  | none =>
    simp only [shn, Nat.mul_one] at hl
    simp only [rowsV, List.take_of_length_le (Nat.le_of_eq hl)]
    have hc : ∀ c ∈ l, c.cells = [c] ∧ c.shape = none := fun c hc => by
      have := h1 c hc
      cases c <;> first | exact ⟨rfl, rfl⟩ | (simp [V.one] at this)
    refine ⟨?_, hl, fun x hx => (hc x hx).2⟩
    clear hl h1
    induction l with
    | nil => rfl
    | cons a l ih =>
      have ih' := ih fun c h => hc c (by simp [h])
      simp only [V.flat, List.flatMap_cons] at ih' ⊢
      rw [(hc a (by simp)).1, ih']
      rfl

theorem allV_get {ds : List D} {xs : List V} (h : allV ds = some xs) : ds.length = xs.length ∧ ∀ (i : Nat) x, xs[i]? = some x → ds[i]? = some (.v x) := by
  have := allV_map h
  subst this
  exact ⟨by simp, fun i x hx => by simp [hx]⟩

theorem srcM_rep {σ : Sg} {m : Gh} {w : World} (hI : Inv σ m w) {sh : Sh} {dx : D} {ux : Value} (hr : RepD m w dx ux) {ys : List V} (hs : srcM σ sh dx = some ys) :
    ∃ news, Src P w (shn sh) ux ys.length news ∧ (∀ y ∈ ys, y.shape = sh) ∧ (∀ c ∈ V.flat ys, c.one = true) ∧ ∀ (j : Nat) c v, (V.flat ys)[j]? = some c → news[j]? = some v → RepV w (Fz m w) c v := by
  unfold srcM at hs
  split at hs
  · rename_i oo off len sh' cp
    split at hs
    · rename_i cs hcs
      split at hs
      · rename_i hc
        obtain ⟨rfl, hlen0, hcs0, hfit⟩ := hc
        split at hs
        · rename_i vs hvs
          cases hs
          cases hr with
          | msl _ _ _ _ _ aa cap hol hbb hlc hcm hcc =>
          rcases hbb with ⟨b, rfl, hb⟩ | ⟨hl0, _⟩
          · obtain ⟨hvl, hvg⟩ := allV_get hvs
            have hvl' : vs.length = len * shn sh := by rw [← hvl, List.length_take, List.length_drop]; omega
            have hcne : Ob.cells cs ≠ .cells [] := by
              rintro e
              cases e
              exact hcs0 rfl
            have hb := hI.live hcs hcne hb
            obtain ⟨us, ty, hh, hsz, hob, hone⟩ := hI.ob oo _ b hcs hb
            have hat : ∀ j, j < len * shn sh → ∃ x u, vs[j]? = some x ∧ us[off + j]? = some u ∧ RepV w (Fz m w) x u ∧ u.oneCell' = true := by
              intro j hj
              have h1 : j < vs.length := by omega
              have h2 : off + j < us.size := by omega
              have h3 := hvg j vs[j] (List.getElem?_eq_getElem h1)
              rw [List.getElem?_take_of_lt (by omega), List.getElem?_drop] at h3
              obtain ⟨q1, q2⟩ := hob (off + j) _ us[off + j] h3 (Array.getElem?_eq_getElem h2)
              exact ⟨vs[j], us[off + j], List.getElem?_eq_getElem h1, Array.getElem?_eq_getElem h2, q1.v_inv, q2⟩
            have hv1 : ∀ c ∈ vs, c.one = true := by
              intro c hc
              obtain ⟨j, hj⟩ := List.mem_iff_getElem?.1 hc
              have hjl : j < len * shn sh := by rw [← hvl']; exact (List.getElem?_eq_some_iff.1 hj).1
              obtain ⟨x, u, e1, _, e3, e4⟩ := hat j hjl
              rw [hj] at e1
              cases e1
              cases e3 <;> first | rfl | (simp [Value.oneCell'] at e4)
            obtain ⟨f1, f2, f3⟩ := rowsV_flat hvl' hv1
            have hcells : ∀ w' : World, w'.heap = w.heap → (Builtin.firstCells (shn sh) len (.slice (some ⟨b, off, none⟩) len cap)).run P w' = .ok ((us.toList.drop off).take (len * shn sh)).toArray w' := by
              intro w' hw'
              refine run_firstCells_some (P := P) w' (shn sh) len ⟨b, off, none⟩ len cap _ (by simp; omega) fun j v hj => ?_
              have hjl : j < len * shn sh := by
                have := (List.getElem?_eq_some_iff.1 hj).1
                simp only [List.length_take, List.length_drop, Array.length_toList] at this
                omega
              rw [List.getElem?_take_of_lt hjl, List.getElem?_drop] at hj
              rw [Addr.add_lit, cell_of_row w' b (off + j) us ty (0, 0) (by rw [hw']; exact hh)]
              simpa using hj
            refine ⟨(us.toList.drop off).take (len * shn sh), ⟨by simp [Builtin.lenOf, f2], by rw [f2]; exact hcells w rfl, by rw [f2]; exact hcells w.drew rfl, by simp [f2]; omega⟩, f3, by rw [f1]; exact hv1, fun j c v hc hv => ?_⟩
            rw [f1] at hc
            have hjl : j < len * shn sh := by rw [← hvl']; exact (List.getElem?_eq_some_iff.1 hc).1
            rw [List.getElem?_take_of_lt hjl, List.getElem?_drop] at hv
            obtain ⟨x, u, e1, e2, e3, _⟩ := hat j hjl
            rw [hc] at e1
            cases e1
            rw [show us.toList[off + j]? = us[off + j]? by simp, e2] at hv
            cases hv
            exact e3
          · exact absurd hl0 hlen0
        · cases hs
      · cases hs
    · cases hs
  · exact src_rep hr hs

theorem ok_append {t u e : TypeId} {x y : Operand} {ex ey : E} {d : TypeDesc} {i : TypeInfo} {z : Value} {sh : Sh} (ho : o.op = .call { callee := .builtin .append, args := #[x, y], argTypes := #[t, u] }) (hx : cE x = some ex) (hy : cE y = some ey)
    (ht : P.underlying t = some (.slice e)) (hu : P.underlying u = some d) (hd : Runs d) (hi : P.info? e = some i) (hz : i.zero = some z) (hsz : i.size = shn sh) (hzs : z.cells.size = shn sh) (hpos : 0 < i.bytes) : OpOk P o (.append sh i.bytes ex ey) := by
  refine .of_runs fun σ m w a s K hI hE hW => ?_
  have hr := ev_rep hE hx
  have hry := ev_rep hE hy
  simp only [WOp] at hW
  generalize ev s ex = dx at hW hr
  generalize ev s ey = dy at hW hry
  have fin : ∀ (σ1 : Sg) (m1 : Gh) (k : Nat) (xs ys : List V), Inv σ1 m1 w → Ext m w m1 w → RepD m1 w (.tsl k sh xs) (a.eval x) → σ1.toks[k]? = some xs.length → srcM σ sh dy = some ys → (xs.length + ys.length) * i.bytes ≤ 140737488355328 →
      K (.tsl k sh (xs ++ ys)) (σ1.tput k (xs.length + ys.length)) → Runs1 P o σ m w a K := by
    intro σ1 m1 k xs ys hI1 hX1 hR1 hσ1 hs hb hk
    obtain ⟨news, hsrc, hsh, h1, hnew0⟩ := srcM_rep (P := P) hI hry hs
    have hnew : ∀ (j : Nat) c v, (V.flat ys)[j]? = some c → news[j]? = some v → RepV w (Fz m1 w) c v := fun j c v h2 h3 => (hnew0 j c v h2 h3).mono hX1.fz
    rw [← hsz] at hsrc
    have hml : xs.length + ys.length ≤ maxLen := by
      have : (xs.length + ys.length) * 1 ≤ (xs.length + ys.length) * i.bytes := Nat.mul_le_mul_left _ hpos
      simp only [maxLen]
      omega
    obtain ⟨s', m', w', hrun, hI', hX', hR'⟩ := append_ok (P := P) hI1 t u o.type e d i z sh ht hu hd hi hz hsz hzs hR1 hσ1 hsrc hsh h1 hnew hml hb
    exact ⟨_, s', w', m', _, _, by simp [execOp, ho, resolve, invoke, builtin, hrun] <;> rfl, .inl rfl, hk, hI', hX1.trans hX', hR'⟩
  have tok : ∀ (xs ys : List V), RepV w (Fz m w) (.sl sh true xs) (a.eval x) → srcM σ sh dy = some ys → (xs.length + ys.length) * i.bytes ≤ 140737488355328 → K (.tsl σ.toks.length sh (xs ++ ys)) (σ.tadd (xs.length + ys.length)) → Runs1 P o σ m w a K := by
    intro xs ys hv hs hb hk
    have hml : xs.length ≤ maxLen := by
      have : (xs.length + ys.length) * 1 ≤ (xs.length + ys.length) * i.bytes := Nat.mul_le_mul_left _ hpos
      simp only [maxLen]
      omega
    obtain ⟨hI1, hX1⟩ := hI.tadd sh xs.length hml
    obtain ⟨aa, cap, hux, _⟩ := hv.sl_inv
    rw [hux] at hv
    have hR1 := hv.tokd hX1
    rw [← hux, hI.tok_len] at hR1
    refine fin _ _ σ.toks.length xs ys hI1 hX1 hR1 (by simp [Sg.tadd]) hs hb ?_
    have : (σ.tadd xs.length).tput σ.toks.length (xs.length + ys.length) = σ.tadd (xs.length + ys.length) := by simp [Sg.tadd, Sg.tput]
    rw [this]
    exact hk
  unfold WAppend at hW
  split at hW
  · exact hW.elim
  · rename_i ys hys
    split at hW
    · have h0 := hr.v_inv
      exact tok [] ys (by generalize a.eval x = ux at h0; cases h0; exact .slNil _ _ _) hys (by simpa using hW.1) (by simpa using hW.2)
    · obtain ⟨rfl, hb, hk⟩ := hW
      exact tok _ ys hr.v_inv hys hb hk
    · obtain ⟨rfl, hσ, hb, hk⟩ := hW
      exact fin σ m _ _ ys hI (.refl m w) hr hσ hys hb hk
    · exact hW.elim

theorem ok_min {x y : Operand} {ts : Array TypeId} {ex ey : E} (ho : o.op = .call { callee := .builtin .min, args := #[x, y], argTypes := ts }) (hx : cE x = some ex) (hy : cE y = some ey) : OpOk P o (.min [ex, ey]) := by
  refine .of_runs fun σ m w a s K hI hE hW => ?_
  have hr := ev_rep hE hx
  have hry := ev_rep hE hy
  simp only [WOp, List.map_cons, List.map_nil] at hW
  generalize ev s ex = dx at hW hr
  generalize ev s ey = dy at hW hry
  obtain ⟨k, p, l, q, rfl, rfl, rfl, hk⟩ : ∃ k p l q, dx = .v (.int k p) ∧ dy = .v (.int l q) ∧ k = l ∧ K (.v (.int k (if q < p then q else p))) σ := by
    unfold WMin at hW
    split at hW
    · rename_i h
      cases h
      exact ⟨_, _, _, _, rfl, rfl, hW.1, hW.2⟩
    · exact hW.elim
  exact .still (u := .int k (if q < p then q else p)) hI (by simp [execOp, ho, resolve, invoke, builtin, Builtin.min_, Builtin.min2, hr.int_inv, hry.int_inv] <;> rfl) hk (.v _ _ (.int _ _ (by split <;> first | exact hr.int_r | exact hry.int_r)))

theorem ok_max {x y : Operand} {ts : Array TypeId} {ex ey : E} (ho : o.op = .call { callee := .builtin .max, args := #[x, y], argTypes := ts }) (hx : cE x = some ex) (hy : cE y = some ey) : OpOk P o (.ext .max [ex, ey]) := by
  refine .of_runs fun σ m w a s K hI hE hW => ?_
  have hr := ev_rep hE hx
  have hry := ev_rep hE hy
  simp only [WOp, List.map_cons, List.map_nil] at hW
  generalize ev s ex = dx at hW hr
  generalize ev s ey = dy at hW hry
  obtain ⟨k, p, l, q, rfl, rfl, rfl, hk⟩ : ∃ k p l q, dx = .v (.int k p) ∧ dy = .v (.int l q) ∧ k = l ∧ K (.v (.int k (if q > p then q else p))) σ := by
    simp only [WX] at hW
    split at hW
    · rename_i h
      cases h
      exact ⟨_, _, _, _, rfl, rfl, hW.1, hW.2⟩
    · exact hW.elim
  exact .still (u := .int k (if q > p then q else p)) hI (by simp [execOp, ho, resolve, invoke, builtin, Builtin.max_, Builtin.max2, hr.int_inv, hry.int_inv] <;> rfl) hk (.v _ _ (.int _ _ (by split <;> first | exact hr.int_r | exact hry.int_r)))

theorem ok_call {f : Operand} {args : Array Operand} {ts : Array TypeId} {ef : E} {es : List E} (ho : o.op = .call { callee := .value f, args, argTypes := ts }) (hf : cE f = some ef) (hes : cEs args.toList = some es) : OpOk P o (.call ef es) := by
  intro σ m w a s K hI hE hW next Q hn
  have hr := ev_rep hE hf
  obtain ⟨l1, l2⟩ := evs_rep hE hes
  simp only [WOp] at hW
  generalize ev s ef = df at hW hr
  have key : ∀ (g : Nat) (caps : List D) (us : List Value), a.eval f = .func (.func g) #[] us.toArray → caps.length = us.length → (∀ (i : Nat) d u, caps[i]? = some d → us[i]? = some u → RepD m w d u) → ACalls P g (es.map (ev s) ++ caps) σ K →
      o.upon P a next Q ((execOp a.eval o).run P w) := by
    intro g caps us hfv hcl hcr hcall
    obtain ⟨⟨fn, h1, h2, h3⟩, hc⟩ := hcall
    have hb : ¬ fn.body = none := fun h => by simp [h] at h2
    have h3' : ¬ (fn.name = "runtime.NumGoroutine") := by simpa using h3
    have hrun : (execOp a.eval o).run P w = .ok (.enter g (args.toList.map a.eval ++ us).toArray) w := by
      simp [execOp, ho, resolve, Deferred.ofValue, hfv, invoke, callFunc, h1, h3', hb]
    rw [hrun, Oper.upon_enter]
    refine (hc m w (args.toList.map a.eval ++ us) hI (by simp [l1, hcl]) fun i d u hd hu => ?_).mono fun e w' ⟨v, r, σ', m', he, hR, hI', hX, hD⟩ => ?_
    · have hle : (es.map (ev s)).length = (args.toList.map a.eval).length := by simp [l1]
      rcases Nat.lt_or_ge i (es.map (ev s)).length with hlt | hge
      · rw [List.getElem?_append_left hlt] at hd
        rw [List.getElem?_append_left (by omega)] at hu
        exact l2 i d u hd hu
      · rw [List.getElem?_append_right hge] at hd
        rw [List.getElem?_append_right (by omega)] at hu
        rw [hle] at hd
        exact hcr _ d u hd hu
    · subst he
      exact hn r σ' m' w' v hR hI' hX hD
  split at hW
  · rename_i g
    have hv := hr.v_inv
    generalize hfv : a.eval f = uf at hv
    cases hv
    exact key g [] [] hfv rfl (by simp) (by simpa using hW)
  · rename_i g caps
    generalize hfv : a.eval f = uf at hr
    cases hr with
    | fn _ _ us hl hrr => exact key g caps us hfv hl hrr hW
  · rename_i g d
    generalize hfv : a.eval f = uf at hr
    cases hr with
    | bfn _ _ u hd0 =>
    obtain ⟨⟨fn, h1, h2, h3⟩, hc⟩ := hW
    have hb : ¬ fn.body = none := fun h => by simp [h] at h2
    have h3' : ¬ (fn.name = "runtime.NumGoroutine") := by simpa using h3
    have hrun : (execOp a.eval o).run P w = .ok (.enter g (u :: args.toList.map a.eval).toArray) w := by
      simp [execOp, ho, resolve, Deferred.ofValue, hfv, invoke, callFunc, h1, h3', hb]
    rw [hrun, Oper.upon_enter]
    refine (hc m w (u :: args.toList.map a.eval) hI (by simp [l1]) fun i d' u' hd hu => ?_).mono fun e w' ⟨v, r, σ', m', he, hR, hI', hX, hD⟩ => ?_
    · cases i with
      | zero => cases hd; cases hu; exact hd0
      | succ i => exact l2 i d' u' (by simpa using hd) (by simpa using hu)
    · subst he
      exact hn r σ' m' w' v hR hI' hX hD
  · exact hW.elim

theorem ok_inv {x : Operand} {name : String} {args : Array Operand} {ts : Array TypeId} {ex : E} {es : List E} (ho : o.op = .call { callee := .invoke x name, args, argTypes := ts }) (hx : cE x = some ex) (hes : cEs args.toList = some es) : OpOk P o (.inv name ex es) := by
  intro σ m w a s K hI hE hW next Q hn
  have hr := ev_rep hE hx
  obtain ⟨l1, l2⟩ := evs_rep hE hes
  simp only [WOp] at hW
  generalize ev s ex = dx at hW hr
  have key : ∀ (g : Nat) (t : TypeId) (d : D) (u : Value), a.eval x = .iface t u → RepD m w d u → (method (P.types.size + Made.depth) t u name).run P w = .ok (g, u) w → ACalls P g (d :: es.map (ev s)) σ K →
      o.upon P a next Q ((execOp a.eval o).run P w) := by
    intro g t d u hfv hd hm hcall
    obtain ⟨⟨fn, h1, h2, h3⟩, hc⟩ := hcall
    have hb : ¬ fn.body = none := fun h => by simp [h] at h2
    have h3' : ¬ (fn.name = "runtime.NumGoroutine") := by simpa using h3
    have hrun : (execOp a.eval o).run P w = .ok (.enter g (u :: args.toList.map a.eval).toArray) w := by
      have e3 : #[a.eval x] ++ args.map a.eval = (Value.iface t u :: args.toList.map a.eval).toArray := by apply Array.ext'; simp [hfv]
      have e0 : (#[a.eval x] ++ args.map a.eval)[0]? = some (.iface t u) := by rw [e3]; rfl
      have e1 : (#[a.eval x] ++ args.map a.eval).extract 1 (#[a.eval x] ++ args.map a.eval).size = args.map a.eval := by rw [e3]; apply Array.ext'; simp [List.take_of_length_le]
      have e2 : #[u] ++ args.map a.eval = (u :: args.toList.map a.eval).toArray := by apply Array.ext'; simp
      have hrun2 : (invoke (.fn (.method name) #[]) (#[a.eval x] ++ args.map a.eval)).run P w = .ok (.enter g (u :: args.toList.map a.eval).toArray) w := by
        simp only [invoke]
        rw [e0, e1]
        simp only [callMethod, Sem.run_bind]
        simp [hm, callFunc, h1, h3', hb, ← e2]
      simp only [execOp, ho, resolve, pure_bind]
      exact hrun2
    rw [hrun, Oper.upon_enter]
    refine (hc m w (u :: args.toList.map a.eval) hI (by simp [l1]) fun i d' u' hd' hu => ?_).mono fun e w' ⟨v, r, σ', m', he, hR, hI', hX, hD⟩ => ?_
    · cases i with
      | zero =>
        cases hd'
        cases hu
        exact hd
      | succ i => exact l2 i d' u' hd' hu
    · subst he
      exact hn r σ' m' w' v hR hI' hX hD
  unfold WInv at hW
  split at hW
  · rename_i t o' off
    obtain ⟨g, hm, hc⟩ := hW
    generalize hfv : a.eval x = uf at hr
    cases hr with
    | iface _ _ u hu =>
      cases hu with
      | ptr _ _ b hb => exact key g t (.ptr o' off) _ hfv (.ptr _ _ b hb) (hm _ _) hc
  · rename_i t k n
    obtain ⟨g, hm, hc⟩ := hW
    have hv := hr.v_inv
    generalize hfv : a.eval x = uf at hv
    cases hv with
    | iface _ _ u hu =>
      have hu' := hu
      cases hu with
      | int _ _ h => exact key g t (.v (.int k n)) _ hfv (.v _ _ hu') (hm _ _ _) hc
  · exact hW.elim

end
end Go.Abs

/-
  The model's operations, turned into the small language; that each does what its weakest precondition says: part 9, comparisons. (Own work; seat-independent.)
-/
set_option linter.unusedVariables false
set_option linter.unusedSimpArgs false
namespace Go.Abs
open Go

def scalTy (P : Program) (t : TypeId) : SK → Bool
  | .int => (match P.underlying t with | some (.int _) => true | _ => false)
  | .bool => (match P.underlying t with | some .bool => true | _ => false)
  | .str => (match P.underlying t with | some .string => true | _ => false)

/-- Are the fields, from place j on, one cell each, in order, of these kinds? -/
def plainFields (P : Program) : Nat → List SK → List Field → Bool
  | _, [], [] => true
  | j, k :: ks, f :: fs => f.offset == j && f.name != "_" && scalTy P f.type k && plainFields P (j + 1) ks fs
  | _, _, _ => false

def EqOk (P : Program) (t : TypeId) : EqK → Prop
  | .bool => P.underlying t = some .bool
  | .ptr => ∃ e, P.underlying t = some (.pointer e)
  | .ifc => ∃ ms, P.underlying t = some (.interface ms)
  | .sl => ∃ e, P.underlying t = some (.slice e)
  | .mp => ∃ k e, P.underlying t = some (.map k e)
  | .fn => ∃ a b c, P.underlying t = some (.func a b c)
  | .struct ks => P.underlying t = some (.struct (P.fieldsOf t)) ∧ P.stoodInHeld t = false ∧ P.eqGuardType P.depth t = false ∧ plainFields P 0 ks (P.fieldsOf t).toList = true
  | .other => True

def isConstOp : Operand → Bool
  | .const _ => true
  | _ => false

section
variable {P : Program} {o : Oper}

theorem run_eqFields {w : World} {F : Nat → Nat → Prop} (d : Nat) {as0 bs : List V} {us vs : List Value} (hl : as0.length = us.length) (hm : bs.length = vs.length)
    (ha : ∀ (i : Nat) c u, as0[i]? = some c → us[i]? = some u → RepV w F c u) (hb : ∀ (i : Nat) c u, bs[i]? = some c → vs[i]? = some u → RepV w F c u) :
    ∀ (ks : List SK) (fs : List Field) (j : Nat) (r : Bool), plainFields P j ks fs = true → eqCells ks (as0.drop j) (bs.drop j) = some r →
      (Op.eqFields (d + 1) us.toArray vs.toArray fs).run P w = .ok r w
  | [], [], j, r, _, hr => by
    cases hbj : bs.drop j with
    | nil => cases haj : as0.drop j with
      | nil => rw [hbj, haj] at hr; simp [eqCells] at hr; subst hr; simp [Op.eqFields]
      | cons a l => rw [haj] at hr; simp [eqCells] at hr
    | cons b l => rw [hbj] at hr; simp [eqCells] at hr
  | [], f :: fs, j, r, hp, _ => by simp [plainFields] at hp
  | k :: ks, [], j, r, hp, _ => by simp [plainFields] at hp
  | k :: ks, f :: fs, j, r, hp, hr => by
    simp only [plainFields, Bool.and_eq_true, beq_iff_eq, bne_iff_ne, ne_eq] at hp
    obtain ⟨⟨⟨hoff, hname⟩, hsc⟩, hrest⟩ := hp
    have hj : j < as0.length := by
      rcases Nat.lt_or_ge j as0.length with h | h
      · exact h
      · rw [List.drop_eq_nil_of_le h] at hr; cases k <;> simp [eqCells] at hr
    have hjb : j < bs.length := by
      rcases Nat.lt_or_ge j bs.length with h | h
      · exact h
      · rw [List.drop_eq_nil_of_le h] at hr; cases k <;> (cases as0.drop j <;> simp [eqCells] at hr)
    obtain ⟨x, hx⟩ : ∃ x, as0[j]? = some x := ⟨_, List.getElem?_eq_getElem hj⟩
    obtain ⟨y, hy⟩ : ∃ y, bs[j]? = some y := ⟨_, List.getElem?_eq_getElem hjb⟩
    have hdx : as0.drop j = x :: as0.drop (j + 1) := by
      rw [List.drop_eq_getElem_cons hj]
      congr 1
      exact Option.some.inj ((List.getElem?_eq_getElem hj).symm.trans hx)
    have hdy : bs.drop j = y :: bs.drop (j + 1) := by
      rw [List.drop_eq_getElem_cons hjb]
      congr 1
      exact Option.some.inj ((List.getElem?_eq_getElem hjb).symm.trans hy)
    obtain ⟨u, hu⟩ : ∃ u, us[j]? = some u := ⟨_, List.getElem?_eq_getElem (by omega)⟩
    obtain ⟨v, hv⟩ : ∃ v, vs[j]? = some v := ⟨_, List.getElem?_eq_getElem (by omega)⟩
    have rx := ha j x u hx hu
    have ry := hb j y v hy hv
    rw [hdx, hdy] at hr
    have hpart : ∀ (ws : List Value) (v : Value), ws[j]? = some v → (part f.type ws.toArray f.offset).run P w = .ok v w := by
      intro ws v hv
      rw [hoff]
      cases k <;> simp only [scalTy] at hsc <;> split at hsc <;> first
        | (rename_i hu; simp [part, isAgg, run_underlying hu, hv]; done)
        | cases hsc
    have hpa := hpart us _ hu
    have hpb := hpart vs _ hv
    have step : ∀ (q : Bool), (match eqCells ks (as0.drop (j + 1)) (bs.drop (j + 1)) with | some z => some (q && z) | none => none) = some r → (Op.equalIn (d + 1) f.type u v).run P w = .ok q w →
        (Op.eqFields (d + 1) us.toArray vs.toArray (f :: fs)).run P w = .ok r w := by
      intro q hq heq
      cases hrs : eqCells ks (as0.drop (j + 1)) (bs.drop (j + 1)) with
      | none => rw [hrs] at hq; cases hq
      | some rest =>
        rw [hrs] at hq
        have ih := run_eqFields d hl hm ha hb ks fs (j + 1) rest hrest hrs
        simp only [Op.eqFields, ne_eq, hname, not_false_eq_true, if_true, Sem.run_bind, hpa, hpb, Result.andThen_ok, heq]
        have hq' : r = (q && rest) := (Option.some.inj hq).symm
        cases q with
        | true => simpa [hq'] using ih
        | false => simp [hq']
    cases k <;> cases x <;> (try (simp [eqCells] at hr; done)) <;> cases y <;> (try (simp [eqCells] at hr; done))
    · simp only [eqCells] at hr
      split at hr
      · rename_i hkk
        subst hkk
        cases rx; cases ry
        refine step _ hr ?_
        simp only [scalTy] at hsc
        split at hsc
        · rename_i hu; exact run_equalIn_int w d f.type _ _ _ _ hu
        · cases hsc
      · cases hr
    · simp only [eqCells] at hr
      cases rx; cases ry
      refine step _ hr ?_
      simp only [scalTy] at hsc
      split at hsc
      · rename_i hu; exact run_equalIn_bool' w d f.type _ _ hu
      · cases hsc
    · simp only [eqCells] at hr
      cases rx; cases ry
      refine step _ hr ?_
      simp only [scalTy] at hsc
      split at hsc
      · rename_i hu
        rw [run_equalIn_string w d f.type _ _ hu]
        simp [toList_eq_data]
      · cases hsc

theorem eqIn_ptr (w : World) (d : Nat) (t e : TypeId) (hk : P.underlying t = some (.pointer e)) (b : Option Addr) : (Op.equalIn (d + 1) t (.pointer none) (.pointer b)).run P w = .ok b.isNone w := by
  simp [Op.equalIn, run_underlying hk]
theorem eqIn_ptr' (w : World) (d : Nat) (t e : TypeId) (hk : P.underlying t = some (.pointer e)) (b : Addr) : (Op.equalIn (d + 1) t (.pointer (some b)) (.pointer none)).run P w = .ok false w := by
  simp [Op.equalIn, run_underlying hk]
theorem eqIn_nn (w : World) (d : Nat) (t : TypeId) (ms : Array (String × TypeId)) (hk : P.underlying t = some (.interface ms)) : (Op.equalIn (d + 1) t .nilIface .nilIface).run P w = .ok true w := by
  simp [Op.equalIn, run_underlying hk]
theorem eqIn_ni (w : World) (d : Nat) (t : TypeId) (ms : Array (String × TypeId)) (hk : P.underlying t = some (.interface ms)) (u : TypeId) (v : Value) : (Op.equalIn (d + 1) t .nilIface (.iface u v)).run P w = .ok false w := by
  simp [Op.equalIn, run_underlying hk]
theorem eqIn_in (w : World) (d : Nat) (t : TypeId) (ms : Array (String × TypeId)) (hk : P.underlying t = some (.interface ms)) (u : TypeId) (v : Value) : (Op.equalIn (d + 1) t (.iface u v) .nilIface).run P w = .ok false w := by
  simp [Op.equalIn, run_underlying hk]
theorem eqIn_ne (w : World) (d : Nat) (t : TypeId) (ms : Array (String × TypeId)) (hk : P.underlying t = some (.interface ms)) (u u' : TypeId) (v v' : Value) (h : u ≠ u') : (Op.equalIn (d + 1) t (.iface u v) (.iface u' v')).run P w = .ok false w := by
  simp [Op.equalIn, run_underlying hk, h]
theorem eqIn_ii (w : World) (d : Nat) (t : TypeId) (ms : Array (String × TypeId)) (hk : P.underlying t = some (.interface ms)) (u : TypeId) (i : TypeInfo) (hi : P.info? u = some i) (hc : i.comparable = true) (v v' : Value) :
    (Op.equalIn (d + 1) t (.iface u v) (.iface u v')).run P w = (Op.equalIn d u v v').run P w := by
  simp [Op.equalIn, run_underlying hk, typeInfo, hi, hc]
theorem eqIn_mn (w : World) (d : Nat) (t p q : TypeId) (hk : P.underlying t = some (.map p q)) (b : Option Nat) : (Op.equalIn (d + 1) t (.map b) (.map none)).run P w = .ok b.isNone w := by
  cases b <;> simp [Op.equalIn, run_underlying hk]
theorem eqIn_ff (w : World) (d : Nat) (t : TypeId) (p q : Array TypeId) (r : Bool) (hk : P.underlying t = some (.func p q r)) : (Op.equalIn (d + 1) t .nilFunc .nilFunc).run P w = .ok true w := by
  simp [Op.equalIn, run_underlying hk]
theorem eqIn_fn (w : World) (d : Nat) (t : TypeId) (p q : Array TypeId) (r : Bool) (hk : P.underlying t = some (.func p q r)) (f : Fn) (x y : Array Value) : (Op.equalIn (d + 1) t (.func f x y) .nilFunc).run P w = .ok false w := by
  simp [Op.equalIn, run_underlying hk]

theorem ok_bin {op : BinOp} {t t' : TypeId} {x y : Operand} {ex ey : E} {k : EqK} (ho : o.op = .binOp op t x y t') (hx : cE x = some ex) (hy : cE y = some ey) (hk : EqOk P t k) : OpOk P o (.bin op k (isConstOp x || isConstOp y) ex ey) := by
  refine .of_runs fun σ m w a s K hI hE hW => ?_
  have hr := ev_rep hE hx
  have hry := ev_rep hE hy
  simp only [WOp] at hW
  generalize ev s ex = dx at hW hr
  generalize ev s ey = dy at hW hry
  have fin : ∀ (v : V) (u : Value), (binOp op t (a.eval x) (a.eval y)).run P w = .ok u w → (eqGuard op t x y (a.eval x) (a.eval y)).run P w = .ok () w → RepV w (Fz m w) v u → K (.v v) σ → Runs1 P o σ m w a K := by
    intro v u h1 h2 h3 h4
    exact .still hI (by simp only [execOp, ho, Sem.run_bind, h2, Result.andThen_ok, h1, Sem.run_pure]) h4 (.v _ _ h3)
  unfold WBin at hW
  split at hW
  · -- integers
    rename_i p n q n2
    rw [hr.int_inv, hry.int_inv] at fin
    have hg : (eqGuard op t x y (.int p n) (.int q n2)).run P w = .ok () w := by cases op <;> simp [eqGuard]
    unfold WInt at hW
    cases op <;> dsimp only at hW <;> first
      | exact hW.elim
      | (obtain ⟨rfl, hK⟩ := hW; exact fin _ _ (by simp [binOp, Op.intArith, Op.intBits, Op.intCmp] <;> rfl) hg (by first | exact .bool _ | exact .int _ _ (inR_wrap _ _)) hK)
      | (obtain ⟨rfl, hne, hK⟩ := hW; exact fin _ _ (by simp [binOp, Op.intDiv, hne] <;> rfl) hg (.int _ _ (by first | exact inR_wrap _ _ | exact inR_tmod hr.int_r)) hK)
      | (obtain ⟨hpos, hK⟩ := hW; exact fin _ _ (by simp [binOp, Op.shift, show ¬ (n2 < 0) by omega] <;> rfl) hg (.int _ _ (by first | exact inR_wrap _ _ | exact inR_fdiv _ hr.int_r)) hK)
  · -- texts
    rename_i l l2
    rw [hr.str_inv, hry.str_inv] at fin
    have hg : (eqGuard op t x y (.string ⟨l.toArray⟩) (.string ⟨l2.toArray⟩)).run P w = .ok () w := by cases op <;> simp [eqGuard]
    have e1 : (⟨l.toArray⟩ : ByteArray).toList = l := by rw [toList_eq_data]
    have e2 : (⟨l2.toArray⟩ : ByteArray).toList = l2 := by rw [toList_eq_data]
    unfold WStr at hW
    cases op <;> dsimp only at hW <;> first
      | exact hW.elim
      | (refine fin _ _ ?_ hg (.bool _) hW; simp [binOp, Op.stringOp, e1, e2] <;> rfl)
      | (obtain ⟨hlen, hK⟩ := hW
         refine fin _ _ ?_ hg (.str _ (by simp [maxLen]; omega)) hK
         have hsz : ¬ (((⟨l.toArray⟩ : ByteArray).size + (⟨l2.toArray⟩ : ByteArray).size : Nat) : Int) > IntKind.i64.max := by
           have h1 : (⟨l.toArray⟩ : ByteArray).size = l.length := by simp [ByteArray.size]
           have h2 : (⟨l2.toArray⟩ : ByteArray).size = l2.length := by simp [ByteArray.size]
           rw [h1, h2]
           have : IntKind.i64.max = 9223372036854775807 := by decide
           omega
         simp only [binOp, Op.stringOp, hsz, if_false, Sem.run_pure]
         have hap : (⟨l.toArray⟩ : ByteArray) ++ ⟨l2.toArray⟩ = ⟨(l ++ l2).toArray⟩ := by
           apply ByteArray.ext
           apply Array.ext'
           simp [ByteArray.data_append]
         rw [hap])
  · -- all else
    rename_i hni hns
    generalize hux : a.eval x = u at hr fin
    generalize huy : a.eval y = v at hry fin
    have key : ∀ (B : Bool → Prop), (op = .eql ∧ B = fun b => K (.v (.bool b)) σ) ∨ (op = .neq ∧ B = fun b => K (.v (.bool (!b))) σ) → WEq P k (isConstOp x || isConstOp y) dx dy B → Runs1 P o σ m w a K := by
      intro B hB hW
      have done : ∀ (r : Bool), B r → (Op.equal t u v).run P w = .ok r w → (eqGuard .eql t x y u v).run P w = .ok () w → (eqGuard .neq t x y u v).run P w = .ok () w →
          (binOp .eql t u v).run P w = ((Op.equal t u v).run P w).andThen (fun b w => .ok (.bool b) w) → (binOp .neq t u v).run P w = ((Op.equal t u v).run P w).andThen (fun b w => .ok (.bool (!b)) w) → Runs1 P o σ m w a K := by
        intro r hr h1 h2 h3 h4 h5
        rw [h1] at h4 h5
        rcases hB with ⟨rfl, rfl⟩ | ⟨rfl, rfl⟩
        · exact fin (.bool r) (.bool r) h4 h2 (.bool r) hr
        · exact fin (.bool (!r)) (.bool (!r)) h5 h3 (.bool _) hr
      unfold WEq at hW
      split at hW
      · obtain ⟨rfl, hb⟩ := hW
        have e1 := hr.bool_inv
        have e2 := hry.bool_inv
        subst e1 e2
        exact done _ hb (run_equal_bool w t _ _ hk) (by simp [eqGuard]) (by simp [eqGuard]) (by simp [binOp]) (by simp [binOp])
      · obtain ⟨rfl, hb⟩ := hW
        obtain ⟨e, hk⟩ := hk
        cases hr.v_inv; cases hry.v_inv
        exact done _ hb (eqIn_ptr w 9999 t e hk _) (by simp [eqGuard]) (by simp [eqGuard]) (by simp [binOp]) (by simp [binOp])
      · obtain ⟨rfl, hb⟩ := hW
        obtain ⟨e, hk⟩ := hk
        cases hr.v_inv; cases hry
        exact done _ hb (eqIn_ptr w 9999 t e hk _) (by simp [eqGuard]) (by simp [eqGuard]) (by simp [binOp]) (by simp [binOp])
      · obtain ⟨rfl, hb⟩ := hW
        obtain ⟨e, hk⟩ := hk
        cases hry.v_inv; cases hr
        exact done _ hb (eqIn_ptr' w 9999 t e hk _) (by simp [eqGuard]) (by simp [eqGuard]) (by simp [binOp]) (by simp [binOp])
      · obtain ⟨rfl, hb⟩ := hW
        obtain ⟨e, hk⟩ := hk
        cases hr.v_inv; cases hry
        exact done _ hb (eqIn_ptr w 9999 t e hk _) (by simp [eqGuard]) (by simp [eqGuard]) (by simp [binOp]) (by simp [binOp])
      · obtain ⟨rfl, hb⟩ := hW
        obtain ⟨e, hk⟩ := hk
        cases hry.v_inv; cases hr
        exact done _ hb (eqIn_ptr' w 9999 t e hk _) (by simp [eqGuard]) (by simp [eqGuard]) (by simp [binOp]) (by simp [binOp])
      · obtain ⟨rfl, hb⟩ := hW
        obtain ⟨e, hk⟩ := hk
        cases hr.v_inv; cases hry.v_inv
        exact done _ hb (eqIn_ptr w 9999 t e hk _) (by simp [eqGuard]) (by simp [eqGuard]) (by simp [binOp]) (by simp [binOp])
      · obtain ⟨rfl, hb⟩ := hW
        obtain ⟨e, hk⟩ := hk
        cases hr.v_inv; cases hry.v_inv
        exact done _ hb (eqIn_ptr' w 9999 t e hk _) (by simp [eqGuard]) (by simp [eqGuard]) (by simp [binOp]) (by simp [binOp])
      · obtain ⟨rfl, hb⟩ := hW
        obtain ⟨e, hk⟩ := hk
        cases hr.v_inv; cases hry.v_inv
        exact done _ hb (eqIn_ptr w 9999 t e hk _) (by simp [eqGuard]) (by simp [eqGuard]) (by simp [binOp]) (by simp [binOp])
      · obtain ⟨rfl, hb⟩ := hW
        obtain ⟨e, hk⟩ := hk
        cases hr.v_inv; cases hry.v_inv
        exact done _ hb (eqIn_ptr' w 9999 t e hk _) (by simp [eqGuard]) (by simp [eqGuard]) (by simp [binOp]) (by simp [binOp])
      · obtain ⟨rfl, hc, hb⟩ := hW
        obtain ⟨ms, hk⟩ := hk
        cases hr.v_inv; cases hry.v_inv
        have hcst : isConstOp x = true ∨ isConstOp y = true := by simpa using hc
        have hg : ∀ op, (eqGuard op t x y .nilIface .nilIface).run P w = .ok () w := by
          intro op
          rcases hcst with h | h
          · cases x <;> simp [isConstOp] at h; cases op <;> simp [eqGuard]
          · cases y <;> simp [isConstOp] at h; cases op <;> simp [eqGuard]
        exact done _ hb (eqIn_nn w 9999 t ms hk) (hg _) (hg _) (by simp [binOp]) (by simp [binOp])
      · obtain ⟨rfl, hb⟩ := hW
        obtain ⟨ms, hk⟩ := hk
        cases hr.v_inv; cases hry.v_inv
        exact done _ hb (eqIn_ni w 9999 t ms hk _ _) (by simp [eqGuard]) (by simp [eqGuard]) (by simp [binOp]) (by simp [binOp])
      · obtain ⟨rfl, hb⟩ := hW
        obtain ⟨ms, hk⟩ := hk
        cases hr.v_inv; cases hry.v_inv
        exact done _ hb (eqIn_in w 9999 t ms hk _ _) (by simp [eqGuard]) (by simp [eqGuard]) (by simp [binOp]) (by simp [binOp])
      · obtain ⟨rfl, hb⟩ := hW
        obtain ⟨ms, hk⟩ := hk
        cases hr.v_inv; cases hry
        exact done _ hb (eqIn_ni w 9999 t ms hk _ _) (by simp [eqGuard]) (by simp [eqGuard]) (by simp [binOp]) (by simp [binOp])
      · obtain ⟨rfl, hb⟩ := hW
        obtain ⟨ms, hk⟩ := hk
        cases hry.v_inv; cases hr
        exact done _ hb (eqIn_in w 9999 t ms hk _ _) (by simp [eqGuard]) (by simp [eqGuard]) (by simp [binOp]) (by simp [binOp])
      · rename_i t1 p1 a1 t2 p2 a2 _
        obtain ⟨rfl, hb1, hb2⟩ := hW
        obtain ⟨ms, hk⟩ := hk
        have h1 := hr.v_inv
        have h2 := hry.v_inv
        cases h1 with
        | iface _ _ u1 h1 =>
        cases h2 with
        | iface _ _ u2 h2 =>
        cases h1
        cases h2
        by_cases ht : t1 = t2
        · obtain ⟨rfl, hint, hb⟩ := hb2 ht
          subst ht
          unfold intTy at hint
          split at hint
          · rename_i i k' hi hu'
            refine done _ hb ?_ (by simp [eqGuard]) (by simp [eqGuard]) (by simp [binOp]) (by simp [binOp])
            have e1 := eqIn_ii w 9999 t ms hk t1 i hi hint (.int p1 a1) (.int p1 a2)
            have e2 := run_equalIn_int (P := P) w 9998 t1 p1 k' a1 a2 hu'
            exact e1.trans e2
          · cases hint
        · exact done _ (hb1 ht) (eqIn_ne w 9999 t ms hk _ _ _ _ ht) (by simp [eqGuard]) (by simp [eqGuard]) (by simp [binOp]) (by simp [binOp])
      · obtain ⟨rfl, hb⟩ := hW
        obtain ⟨e, hk⟩ := hk
        cases hr.v_inv; cases hry.v_inv
        exact done _ hb (run_equal_slice_nil w t e none _ _ hk) (by simp [eqGuard]) (by simp [eqGuard]) (by simp [binOp]) (by simp [binOp])
      · obtain ⟨rfl, hb⟩ := hW
        obtain ⟨e, hk⟩ := hk
        obtain ⟨aa, cap, rfl, _, _, _, _, _, hh⟩ := hr.v_inv.sl_inv
        cases hry.v_inv
        have hn : aa.isNone = true → aa.isNone = true := id
        exact done aa.isNone (hb _ fun hne => by rcases hh with ⟨h0, _⟩ | ⟨b, off, us, rfl, _⟩ <;> first | exact absurd h0 hne | rfl) (run_equal_slice_nil w t e aa _ _ hk) (by simp [eqGuard]) (by simp [eqGuard]) (by simp [binOp]) (by simp [binOp])
      · obtain ⟨rfl, hb⟩ := hW
        obtain ⟨e, hk⟩ := hk
        cases hr with
        | tsl tt sh xs aa len cap tk hv _ _ _ _ =>
        obtain ⟨aa', cap', he, _, _, _, _, _, hh⟩ := hv.sl_inv
        cases he
        cases hry.v_inv
        exact done aa.isNone (hb _ fun hne => by rcases hh with ⟨h0, _⟩ | ⟨b, off, us, rfl, _⟩ <;> first | exact absurd h0 hne | rfl) (run_equal_slice_nil w t e aa _ _ hk) (by simp [eqGuard]) (by simp [eqGuard]) (by simp [binOp]) (by simp [binOp])
      · obtain ⟨rfl, hb⟩ := hW
        obtain ⟨e, hk⟩ := hk
        cases hr with
        | msl _ _ _ _ _ aa cap hol hbb hlc hcm hcc =>
        cases hry.v_inv
        exact done aa.isNone (hb _ fun hne => by rcases hbb with ⟨b, rfl, _⟩ | ⟨h0, _⟩ <;> first | rfl | exact absurd h0 hne) (run_equal_slice_nil w t e aa _ _ hk) (by simp [eqGuard]) (by simp [eqGuard]) (by simp [binOp]) (by simp [binOp])
      · obtain ⟨rfl, hb⟩ := hW
        obtain ⟨p, q, hk⟩ := hk
        cases hr.v_inv; cases hry.v_inv
        exact done _ hb (eqIn_mn w 9999 t p q hk none) (by simp [eqGuard]) (by simp [eqGuard]) (by simp [binOp]) (by simp [binOp])
      · obtain ⟨rfl, hb⟩ := hW
        obtain ⟨p, q, hk⟩ := hk
        cases hry.v_inv; cases hr
        exact done _ hb (eqIn_mn w 9999 t p q hk _) (by simp [eqGuard]) (by simp [eqGuard]) (by simp [binOp]) (by simp [binOp])
      · obtain ⟨rfl, hb⟩ := hW
        obtain ⟨p, q, r, hk⟩ := hk
        cases hr.v_inv; cases hry.v_inv
        exact done _ hb (eqIn_ff w 9999 t p q r hk) (by simp [eqGuard]) (by simp [eqGuard]) (by simp [binOp]) (by simp [binOp])
      · obtain ⟨rfl, hb⟩ := hW
        obtain ⟨p, q, r, hk⟩ := hk
        cases hry.v_inv; cases hr
        exact done _ hb (eqIn_fn w 9999 t p q r hk _ _ _) (by simp [eqGuard]) (by simp [eqGuard]) (by simp [binOp]) (by simp [binOp])
      · obtain ⟨rfl, hb⟩ := hW
        obtain ⟨p, q, r, hk⟩ := hk
        cases hry.v_inv; cases hr.v_inv
        exact done _ hb (eqIn_fn w 9999 t p q r hk _ _ _) (by simp [eqGuard]) (by simp [eqGuard]) (by simp [binOp]) (by simp [binOp])
      · rename_i as0 bs _
        split at hW
        · rename_i ks _
          split at hW
          · rename_i r hr2
            obtain ⟨hk1, hk2, hk3, hk4⟩ := hk
            have h1 := hr.v_inv
            have h2 := hry.v_inv
            cases h1 with
            | agg _ us hl _ hrr =>
            cases h2 with
            | agg _ vs hl2 _ hrr2 =>
            have he := run_eqFields (P := P) (w := w) 9998 hl hl2 hrr hrr2 ks (P.fieldsOf t).toList 0 r hk4 (by simpa using hr2)
            refine done _ hW ?_ (run_eqGuard_agg w .eql t x y _ _ hk3) (run_eqGuard_agg w .neq t x y _ _ hk3) (by simp [binOp]) (by simp [binOp])
            show (Op.equalIn (9999 + 1) t _ _).run P w = _
            rw [run_equalIn_struct w 9999 t _ _ hk1 hk2]
            exact he
          · exact hW.elim
        · exact hW.elim
      · exact hW.elim
    split at hW
    · exact key _ (.inl ⟨rfl, rfl⟩) hW
    · exact key _ (.inr ⟨rfl, rfl⟩) hW
    · exact hW.elim

end
end Go.Abs
