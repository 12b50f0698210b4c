/-
  Types that differ but in their variables' numbers have one text; put in nothing, a type is as it was: the law walked. (Own work.)
-/
import Derived.Test.YtkpnhcccocaakaaDoorU7
set_option linter.unusedVariables false
set_option linter.unusedSimpArgs false
namespace Go.Proofs.YtkpnhcccocaakaaDoor
open Go Go.Abs

theorem mset_new (n : Int) (t : Tp) : ∀ es : List NT, (∀ e ∈ es, e.n ≠ n) → mset (.int .i64 n) (D.v (encT t)) (es.map fun e => (V.int .i64 e.n, D.v (encT e.t))) = (es ++ [(⟨n, t⟩ : NT)]).map fun e => (V.int .i64 e.n, D.v (encT e.t))
  | [], _ => rfl
  | e :: es, h => by
    have ih := mset_new n t es fun x hx => h x (by simp [hx])
    have hn : ¬ n = e.n := fun hh => h e (by simp) hh.symm
    simp only [List.map_cons, List.cons_append, mset, keq, beq_iff_eq, if_neg hn, ih]
theorem WX_mputT {o : Nat} {n : Int} {t : Tp} {es : List NT} {σ : Sg} {K : D → Sg → Prop} (ho : σ.objs[o]? = some (mT es)) (hn : ∀ e ∈ es, e.n ≠ n) : WX (.mput (.int .i64)) [.map o, .v (.int .i64 n), .v (encT t)] σ K = K (.tup []) (σ.put o (mT (es ++ [⟨n, t⟩]))) := by
  rw [WX_mput, ho, mT, WMap_some, mset_new n t es hn, keysOk_T]
  simp [mT]
theorem mapX_step {f : Int} {ts : List Int} {i : Nat} {x : Int} (h : ts[i]? = some x) : mapX f (ts.take i) ++ [⟨x, .mk 7 (x + f) [] [] (-1)⟩] = mapX f (ts.take (i + 1)) := by
  unfold mapX
  rw [List.take_add_one, h]
  simp
theorem mapY_step {f : Int} {ts : List Int} {i : Nat} {x : Int} (h : ts[i]? = some x) : mapY f (ts.take i) ++ [⟨x, .mk 4 0 [] [] (x + f)⟩] = mapY f (ts.take (i + 1)) := by
  unfold mapY
  rw [List.take_add_one, h]
  simp
theorem take_new {ts : List Int} (hn : ts.Nodup) {i : Nat} {x : Int} (h : ts[i]? = some x) : x ∉ ts.take i := by
  intro hm
  have h1 : (ts.take (i + 1)).Nodup := List.Sublist.nodup (List.take_sublist _ _) hn
  rw [List.take_add_one, h] at h1
  simp only [Option.toList_some] at h1
  exact (List.nodup_append.1 h1).2.2 x hm x (by simp) rfl
theorem mapX_new {f : Int} {ts : List Int} (hn : ts.Nodup) {i : Nat} {x : Int} (h : ts[i]? = some x) : ∀ e ∈ mapX f (ts.take i), e.n ≠ x := by
  intro e he hx
  obtain ⟨y, hy, rfl⟩ := List.mem_map.1 he
  exact take_new hn h (hx ▸ hy)
theorem mapY_new {f : Int} {ts : List Int} (hn : ts.Nodup) {i : Nat} {x : Int} (h : ts[i]? = some x) : ∀ e ∈ mapY f (ts.take i), e.n ≠ x := by
  intro e he hx
  obtain ⟨y, hy, rfl⟩ := List.mem_map.1 he
  exact take_new hn h (hx ▸ hy)
theorem k_RowNil {tl : Int} {σ : Sg} : ACalls Tryd.prog 15 [.v (.int .i64 4), .v .snil, .v .snil, .v (.int .i64 tl)] σ fun r σ' => r = .v (encT (.mk 4 0 [] [] tl)) ∧ σ' = σ :=
  (k_Row (k := 4) (tl := tl) (l := []) (ls := []) (σ := σ) (by simp) (by simp)).args rfl fun i d d' h1 h2 => by
    match i with
    | 0 => cases h1; cases h2; exact .refl _
    | 1 => cases h1; cases h2; exact VLe.snil.d
    | 2 => cases h1; cases h2; exact VLe.snil.d
    | 3 => cases h1; cases h2; exact .refl _
    | j + 4 => simp at h1
theorem fineX (n : Int) (h : 0 ≤ n) : (fineS (.mk 7 n [] [] (-1)) 0).1 = true := by
  rw [fine_may]
  simp [fineR, fineRL, okT, partsN, isRowN, tnd, tndL]
  omega
theorem fineY (n : Int) (h : 0 ≤ n) : (fineS (.mk 4 0 [] [] n) 0).1 = true := by
  rw [fine_may]
  simp [fineR, fineRL, okT, partsN, isRowN, tnd, tndL, isS]
  omega
set_option maxHeartbeats 2000000 in
theorem k_TypNames (t : Tp) {f : Int} (ht : tbk t ≤ 1048576) {σ : Sg} : ACalls Tryd.prog 4 [.v (encT t), .v (.int .i64 f)] σ fun r σ' => r = .v (.bool true) := by
  have cU := fun σ => k_Up10 (σ := σ)
  have fA := fun σ => k_TFew t (σ := σ) ht
  have q1 := fun σ => k_May t (σ := σ) (Nat.le_trans (tsz_tbk t) ht)
  have q2 := fun σ h => k_Put t (dX := .v .mnil) (dY := .v .mnil) (X := []) (Y := []) (σ := σ) ht (.inl ⟨rfl, rfl⟩) (.inl ⟨rfl, rfl⟩) (fun e he => by cases he) (fun e he => by cases he) (fun n x h => by cases h) (fun n x h => by cases h) h (fun n x h => by cases h)
  rw [put_none] at q2
  have q3 := fun σ => k_Vars (t := t) (σ := σ) ht
  have q4 := fun σ => k_Same t t (σ := σ)
  rw [decide_eq_true (rfl : t = t)] at q4
  have q5 := fun (f : Int) σ => k_Text (shT f t) (σ := σ) (by rw [sh_tbk]; exact ht)
  have q6 := fun σ => k_Text t (σ := σ) ht
  have hsh := fun (hf : 1 ≤ f) h => sh_txtOf hf t h
  have hfm := fine_may t
  have hnd := vis_nodup t ⟨[], []⟩ (by simp) (by simp)
  have hps := fun h => vis_pos t ⟨[], []⟩ h (by simp) (by simp)
  have hpt := fun h => put_sh (f := f) (w' := vis t ⟨[], []⟩) t ⟨[], []⟩ h (.refl _)
  have hvl := vis_len t ⟨[], []⟩
  simp only [List.length_nil, Nat.zero_add] at hvl
  have q7 := fun A B (r : List Ob) => k_Put t (dX := .map (σ.objs.length + 2)) (dY := .map (σ.objs.length + 3)) (X := mapX f (vis t ⟨[], []⟩).ts) (Y := mapY f (vis t ⟨[], []⟩).rs) (σ := ⟨σ.objs ++ (A :: B :: mT (mapX f (vis t ⟨[], []⟩).ts) :: mT (mapY f (vis t ⟨[], []⟩).rs) :: r), σ.toks⟩) ht (.inr ⟨_, rfl, by simp⟩) (.inr ⟨_, rfl, by simp⟩)
  generalize vis t ⟨[], []⟩ = w at *
  generalize txtOf t = S at *
  obtain ⟨k, n, l, ls, tl⟩ := t
  rw [encT_mk] at fA q1 q2 q3 q4 q6 q7 ⊢
  generalize hu : shT f (.mk k n l ls tl) = u at *
  refine acalls_fit Tryd.func4 (by kernel_rfl) c4 rfl (by simp [a4]) fun hf => ?_
  clear hf
  simp -implicitDefEqProofs (maxSteps := 2000000) (disch := omega) [-getElem?_pos, a4]
  refine (cU _).then fun r hr => ?_
  subst hr
  simp -implicitDefEqProofs (maxSteps := 2000000) (disch := omega) [-getElem?_pos]
  refine (fA _).then fun r hr => ?_
  obtain ⟨m, rfl⟩ := hr
  simp -implicitDefEqProofs (maxSteps := 2000000) (disch := omega) [-getElem?_pos]
  refine .mk (fun h => ?_) fun h => ?_
  rotate_left
  · simp -implicitDefEqProofs (maxSteps := 2000000) (disch := omega) [-getElem?_pos]
    exact .fin _ rfl (.refl _)
  simp -implicitDefEqProofs (maxSteps := 2000000) (disch := omega) [-getElem?_pos]
  refine (q1 _).then fun r hr => ?_
  subst hr
  cases hfi : (fineS (.mk k n l ls tl) 0).1 with
  | false =>
    simp -implicitDefEqProofs (maxSteps := 2000000) (disch := omega) [-getElem?_pos]
    exact .fin _ rfl (.refl _)
  | true =>
    simp -implicitDefEqProofs (maxSteps := 2000000) (disch := omega) [-getElem?_pos]
    refine .mk (fun h1 => ?_) fun h1 => ?_
    rotate_left
    · simp -implicitDefEqProofs (maxSteps := 2000000) (disch := omega) [-getElem?_pos]
      exact .fin _ rfl (.refl _)
    simp -implicitDefEqProofs (maxSteps := 2000000) (disch := omega) [-getElem?_pos]
    refine .mk (fun h2 => ?_) fun h2 => ?_
    · simp -implicitDefEqProofs (maxSteps := 2000000) (disch := omega) [-getElem?_pos]
      exact .fin _ rfl (.refl _)
    simp -implicitDefEqProofs (maxSteps := 2000000) (disch := omega) [-getElem?_pos]
    obtain ⟨hw1, hw2⟩ := hps (by rw [hfi] at hfm; simp only [Bool.true_eq, Bool.and_eq_true] at hfm; exact hfm.1)
    refine (q2 _ hfi).then fun r hr => ?_
    subst hr
    simp -implicitDefEqProofs (maxSteps := 2000000) (disch := omega) [-getElem?_pos]
    refine (q3 _).then fun r hr => ?_
    subst hr
    simp -implicitDefEqProofs (maxSteps := 2000000) (disch := omega) [-getElem?_pos]
    refine W_loop (α := Nat) 0 (fun i => w.ts.length - i) (fun i => ⟨[(1, .v (.int .i64 f)), (2, .ptr σ.objs.length 0), (4, .v (.bool false)), (5, .v (.bool true)), (6, .ptr (σ.objs.length + 1) 0), (8, .v (vI w.ts)), (9, .v (vI w.rs)), (10, .map (σ.objs.length + 2)), (11, .map (σ.objs.length + 3)), (12, .v (.int .i64 i))], ⟨σ.objs ++ [.cells [.v (.int .i64 k), .v (.int .i64 n), .v (.sl (some 5) false (l.map encT)), .v (.sl none false (ls.map .str)), .v (.int .i64 tl)], .cells [.v (.int .i64 k), .v (.int .i64 n), .v (.sl (some 5) false (l.map encT)), .v (.sl none false (ls.map .str)), .v (.int .i64 tl)], mT (mapX f (w.ts.take i)), mT []], σ.toks⟩⟩)
      (fun i => i ≤ w.ts.length) (.eq2 (by simp [mT, mapX]) (by simp)) (by omega) fun i hi => ?_
    simp -implicitDefEqProofs (maxSteps := 2000000) (disch := omega) [-getElem?_pos]
    refine .mk (fun h => ?_) fun h => ?_
    · obtain ⟨x, hx⟩ : ∃ x, w.ts[i]? = some x := ⟨_, List.getElem?_eq_getElem h⟩
      have hx0 := hw1 x (List.mem_of_getElem? hx)
      have hpm := fun A B C K => WX_mputT (o := σ.objs.length + 2) (n := x) (t := .mk 7 (x + f) [] [] (-1)) (es := mapX f (w.ts.take i)) (σ := ⟨σ.objs ++ [A, B, mT (mapX f (w.ts.take i)), C], σ.toks⟩) (K := K) (by simp) (mapX_new (f := f) hnd.1 hx)
      rw [mapX_step (f := f) hx] at hpm
      simp -implicitDefEqProofs (maxSteps := 2000000) (disch := omega) [-getElem?_pos, hx, h]
      refine .mk (fun h5 => ?_) fun h5 => ?_
      · simp -implicitDefEqProofs (maxSteps := 2000000) (disch := omega) [-getElem?_pos]
        exact .fin _ rfl (.refl _)
      simp -implicitDefEqProofs (maxSteps := 2000000) (disch := omega) [-getElem?_pos, hx, h, -WX_mput]
      refine k_Var.then fun r hr => ?_
      subst hr
      simp -implicitDefEqProofs (maxSteps := 2000000) (disch := omega) [-getElem?_pos, hpm, -WX_mput]
      exact ⟨i + 1, by omega, by show w.ts.length - (i + 1) < w.ts.length - i; omega, .eq2 rfl (by simp)⟩
    · have hil : i = w.ts.length := by omega
      subst hil
      rw [List.take_length]
      simp -implicitDefEqProofs (maxSteps := 2000000) (disch := omega) [-getElem?_pos]
      refine W_loop (α := Nat) 0 (fun i => w.rs.length - i) (fun i => ⟨[(1, .v (.int .i64 f)), (2, .ptr σ.objs.length 0), (4, .v (.bool false)), (5, .v (.bool true)), (6, .ptr (σ.objs.length + 1) 0), (8, .v (vI w.ts)), (9, .v (vI w.rs)), (10, .map (σ.objs.length + 2)), (11, .map (σ.objs.length + 3)), (13, .v (.int .i64 i))], ⟨σ.objs ++ [.cells [.v (.int .i64 k), .v (.int .i64 n), .v (.sl (some 5) false (l.map encT)), .v (.sl none false (ls.map .str)), .v (.int .i64 tl)], .cells [.v (.int .i64 k), .v (.int .i64 n), .v (.sl (some 5) false (l.map encT)), .v (.sl none false (ls.map .str)), .v (.int .i64 tl)], mT (mapX f w.ts), mT (mapY f (w.rs.take i))], σ.toks⟩⟩)
        (fun i => i ≤ w.rs.length) (.eq2 (by simp [mapY]) (by simp)) (by omega) fun i hi => ?_
      simp -implicitDefEqProofs (maxSteps := 2000000) (disch := omega) [-getElem?_pos]
      refine .mk (fun h => ?_) fun h => ?_
      · obtain ⟨x, hx⟩ : ∃ x, w.rs[i]? = some x := ⟨_, List.getElem?_eq_getElem h⟩
        have hx0 := hw2 x (List.mem_of_getElem? hx)
        have hpm := fun A B C K => WX_mputT (o := σ.objs.length + 3) (n := x) (t := .mk 4 0 [] [] (x + f)) (es := mapY f (w.rs.take i)) (σ := ⟨σ.objs ++ [A, B, C, mT (mapY f (w.rs.take i))], σ.toks⟩) (K := K) (by simp) (mapY_new (f := f) hnd.2 hx)
        rw [mapY_step (f := f) hx] at hpm
        simp -implicitDefEqProofs (maxSteps := 2000000) (disch := omega) [-getElem?_pos, hx, h]
        refine .mk (fun h5 => ?_) fun h5 => ?_
        · simp -implicitDefEqProofs (maxSteps := 2000000) (disch := omega) [-getElem?_pos]
          exact .fin _ rfl (.refl _)
        simp -implicitDefEqProofs (maxSteps := 2000000) (disch := omega) [-getElem?_pos, hx, h, -WX_mput]
        refine k_RowNil.then fun r hr => ?_
        subst hr
        simp -implicitDefEqProofs (maxSteps := 2000000) (disch := omega) [-getElem?_pos, hpm, -WX_mput]
        exact ⟨i + 1, by omega, by show w.rs.length - (i + 1) < w.rs.length - i; omega, .eq2 rfl (by simp)⟩
      · have hil : i = w.rs.length := by omega
        subst hil
        rw [List.take_length]
        have hfr : fineR (.mk k n l ls tl) = true := by
          rw [hfi] at hfm
          simp only [Bool.true_eq, Bool.and_eq_true] at hfm
          exact hfm.1
        have hX2 : ∀ n x, getT n (mapX f w.ts) = some x → tnd x = 1 ∧ tbk x ≤ 1048576 := fun n x h => by
          obtain ⟨e, he, rfl⟩ := getT_mem h
          obtain ⟨y, hy, rfl⟩ := List.mem_map.1 he
          simp [tnd, tndL, tbk, tbkL, nsz]
        have hY2 : ∀ n x, getT n (mapY f w.rs) = some x → tnd x = 1 ∧ tbk x ≤ 1048576 := fun n x h => by
          obtain ⟨e, he, rfl⟩ := getT_mem h
          obtain ⟨y, hy, rfl⟩ := List.mem_map.1 he
          simp [tnd, tndL, tbk, tbkL, nsz]
        have q8 := fun A B r => q7 A B r (fun e he => by
            obtain ⟨y, hy, rfl⟩ := List.mem_map.1 he
            exact ⟨by simp [tbk, tbkL, nsz], fineX _ (by have := hw1 y hy; omega)⟩) (fun e he => by
            obtain ⟨y, hy, rfl⟩ := List.mem_map.1 he
            exact ⟨by simp [tbk, tbkL, nsz], fineY _ (by have := hw2 y hy; omega), rfl⟩) hX2 hY2 hfi (fun n x h => by
            obtain ⟨e, he, rfl⟩ := getT_mem h
            obtain ⟨y, hy, rfl⟩ := List.mem_map.1 he
            exact ⟨_, rfl⟩)
        rw [hpt hfr] at q8
        have q9 := q5 f
        rw [hu] at q9
        obtain ⟨_, hts⟩ := hsh h1 hfi
        rw [hts] at q9
        clear q7 q5 hsh hpt
        obtain ⟨k2, n2, l2, ls2, tl2⟩ := u
        rw [encT_mk] at q8 q9
        simp -implicitDefEqProofs (maxSteps := 2000000) (disch := omega) [-getElem?_pos]
        refine (q8 _ _ _).then fun r hr => ?_
        subst hr
        simp -implicitDefEqProofs (maxSteps := 2000000) (disch := omega) [-getElem?_pos]
        refine (q4 _).then fun r hr => ?_
        subst hr
        simp -implicitDefEqProofs (maxSteps := 2000000) (disch := omega) [-getElem?_pos]
        refine (q9 _).then fun r hr => ?_
        subst hr
        simp -implicitDefEqProofs (maxSteps := 2000000) (disch := omega) [-getElem?_pos]
        refine (q6 _).then fun r hr => ?_
        subst hr
        simp -implicitDefEqProofs (maxSteps := 2000000) (disch := omega) [-getElem?_pos]
        exact .fin _ rfl (.refl _)
end Go.Proofs.YtkpnhcccocaakaaDoor
