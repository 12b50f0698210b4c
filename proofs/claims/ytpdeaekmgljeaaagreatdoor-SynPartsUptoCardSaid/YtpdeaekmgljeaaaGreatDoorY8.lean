/-
  SynParts: the law. (Own work.)
-/
import Derived.Test.YtpdeaekmgljeaaaGreatDoorY7
set_option linter.unusedVariables false
set_option linter.unusedSimpArgs false
namespace Go.Proofs.YtpdeaekmgljeaaaGreatDoor
open Go Go.Abs

theorem fineLB_mem : ∀ {l : List Ex} {x : Ex}, fineLB l = true → x ∈ l → fineB x = true
  | y :: l, x, h, hx => by
    simp only [fineLB, Bool.and_eq_true] at h
    rcases List.mem_cons.1 hx with rfl | hx
    · exact h.1
    · exact fineLB_mem h.2 hx
theorem ndsL_mem {l : List Ex} {x : Ex} (h : x ∈ l) : nds x ≤ ndsL l := by
  induction l with
  | nil => cases h
  | cons y l ih =>
    simp only [ndsL]
    rcases List.mem_cons.1 h with rfl | h
    · omega
    · have := ih h; omega
theorem may_part {k p n : Int} {s t : Str} {ls ns : List Str} {l : List Ex} {x : Ex} (h : mayB (.mk k p n s t ls ns l) = true) (hx : x ∈ l) : mayB x = true ∧ dep x < dep (.mk k p n s t ls ns l) ∧ nds x < nds (.mk k p n s t ls ns l) := by
  have h1 := depL_mem hx
  have h2 := ndsL_mem hx
  simp only [mayB, Bool.and_eq_true, decide_eq_true_eq, fineB] at h ⊢
  obtain ⟨ha, hb, hc⟩ := h
  simp only [dep, nds] at ha hb ⊢
  exact ⟨⟨by omega, by omega, fineLB_mem hc.2 hx⟩, by omega, by omega⟩
theorem bnd_sub {k : Int} {s t : Str} {ls ns : List Str} {i : Nat} {y : Str} (h : y ∈ bnd k s t ls ns i) : y = s ∨ y = t ∨ y ∈ ns := by
  unfold bnd at h
  split at h
  · split at h
    · exact .inl (List.mem_singleton.1 h)
    · cases h
  split at h
  · split at h
    · exact .inl (List.mem_singleton.1 h)
    · cases h
  split at h
  · split at h
    · exact .inl (List.mem_singleton.1 h)
    split at h
    · simp at h
      exact h.imp id .inl
    · cases h
  split at h
  · split at h
    · cases h
    split at h
    · simp at h
      exact .inr (.inr (List.mem_of_getElem? h))
    · exact .inr (.inl (List.mem_singleton.1 h))
  · cases h
theorem fvL_mem {k : Int} {s t : Str} {ls ns : List Str} {y : Str} {x : Ex} : ∀ {l : List Ex} {i j : Nat}, l[i]? = some x → y ∈ fvs x → y ∉ bnd k s t ls ns (j + i) → y ∈ fvL k s t ls ns j l
  | [], i, j, h, _, _ => by simp at h
  | z :: l, 0, j, h, hy, hb => by
    simp at h
    subst h
    simp only [fvL, List.mem_append, List.mem_filter]
    exact .inl ⟨hy, by simpa using hb⟩
  | z :: l, i + 1, j, h, hy, hb => by
    simp only [fvL, List.mem_append]
    exact .inr (fvL_mem (i := i) (by simpa using h) hy (by rw [show j + 1 + i = j + (i + 1) by omega]; exact hb))
theorem free_part {k p n : Int} {s t : Str} {ls ns : List Str} {l : List Ex} {x : Ex} {i : Nat} {y : Str} (hx : l[i]? = some x) (hy : y ∈ fvs x) : y = s ∨ y = t ∨ y ∈ ns ∨ y ∈ fvs (.mk k p n s t ls ns l) := by
  by_cases h : y ∈ bnd k s t ls ns i
  · rcases bnd_sub h with h | h | h
    · exact .inl h
    · exact .inr (.inl h)
    · exact .inr (.inr (.inl h))
  · refine .inr (.inr (.inr ?_))
    simp only [fvs, List.mem_append]
    exact .inr (fvL_mem hx hy (by rw [Nat.zero_add]; exact h))
structure MSt where
  j : Nat
  m : Bool
theorem k_SynParts {e : Ex} {σ : Sg} (he : csz e ≤ 1048576) : ACalls Tryz.prog 5 [.v (encE e)] σ fun r σ' => r = .v (.bool true) := by
  have f1 := fun σ => k_Few (e := e) (σ := σ) he
  have f2 := fun σ => k_May (e := e) (σ := σ) he
  have f3 := fun σ => k_Free e (σ := σ) he
  have f4 := fun σ => k_Depth e (σ := σ) he
  have f5 := fun σ => k_Nodes e (σ := σ) he
  obtain ⟨e0, he0⟩ : ∃ e0, e0 = e := ⟨_, rfl⟩
  cases e with
  | mk k p n s t ls ns l =>
  have hsz : ∀ x ∈ l, csz x ≤ 1048576 := fun x hx => by
    have := cszL_mem hx
    simp only [csz] at he
    omega
  have hll : 8 * l.length ≤ 1048576 := by
    have := cszL_len l
    simp only [csz] at he
    omega
  have hln : ns.length ≤ 1048576 := by
    have := nsz_len ns
    simp only [csz] at he
    omega
  rw [encE_mk] at f1 f2 f3 f4 f5
  rw [encE_mk]
  simp only [← he0] at f2 f3 f4 f5
  refine acalls_fit Tryz.func5 (by kernel_rfl) c5 rfl (by simp [a5]) fun hf => ?_
  clear hf
  simp -implicitDefEqProofs (maxSteps := 2000000) (disch := omega) [-getElem?_pos, a5]
  refine k_Up5.then fun r hr => ?_
  subst hr
  simp -implicitDefEqProofs (maxSteps := 2000000) (disch := omega) [-getElem?_pos]
  refine (f1 _).then fun r hr => ?_
  obtain ⟨q1, rfl⟩ := hr
  cases q1 with
  | false =>
    simp -implicitDefEqProofs (maxSteps := 2000000) (disch := omega) [-getElem?_pos]
    exact .fin _ rfl (.refl _)
  | true =>
  simp -implicitDefEqProofs (maxSteps := 2000000) (disch := omega) [-getElem?_pos]
  refine (f2 _).then fun r hr => ?_
  subst hr
  cases hmay : mayB e0 with
  | false =>
    simp -implicitDefEqProofs (maxSteps := 2000000) (disch := omega) [-getElem?_pos, hmay]
    exact .fin _ rfl (.refl _)
  | true =>
  simp -implicitDefEqProofs (maxSteps := 2000000) (disch := omega) [-getElem?_pos, hmay]
  refine (f3 _).then fun r hr => ?_
  obtain ⟨al, rfl, hnd, hal⟩ := hr
  simp -implicitDefEqProofs (maxSteps := 2000000) (disch := omega) [-getElem?_pos]
  have hall : al.length ≤ 1048576 := by
    have h1 := nodup_len hnd fun y hy => (hal y).1 hy
    have h2 := fvs_len e0
    rw [he0] at h1 h2
    omega
  rw [he0] at hmay hal
  refine W_loop (α := Nat) 0 (fun i => l.length - i) (fun i => ⟨[(1, .ptr σ.objs.length 0), (3, .v (.bool true)), (5, .v (vS al)), (6, .v (.int .i64 i))], ⟨σ.objs ++ [obE (.mk k p n s t ls ns l)], σ.toks⟩⟩) (fun i => i ≤ l.length) (.eq2 (by simp [obE_mk]) (by simp)) (by omega) fun i hi => ?_
  simp -implicitDefEqProofs (maxSteps := 2000000) (disch := omega) [-getElem?_pos, obE_mk]
  refine .mk (fun h => ?_) fun h => ?_
  rotate_left
  · simp -implicitDefEqProofs (maxSteps := 2000000) (disch := omega) [-getElem?_pos]
    exact .fin _ rfl (.refl _)
  obtain ⟨x, hx⟩ : ∃ x, l[i]? = some x := ⟨l[i], List.getElem?_eq_getElem h⟩
  have hxm := List.mem_of_getElem? hx
  obtain ⟨m1, m2, m3⟩ := may_part hmay hxm
  have hxs := hsz x hxm
  have d1 := dep_le x
  have d2 := nds_le x
  rw [← he0] at m2 m3
  simp -implicitDefEqProofs (maxSteps := 2000000) (disch := omega) [-getElem?_pos, hx, obE_mk]
  refine ⟨h, ?_⟩
  refine (k_May hxs).then fun r hr => ?_
  rw [m1] at hr
  subst hr
  simp -implicitDefEqProofs (maxSteps := 2000000) (disch := omega) [-getElem?_pos, hx]
  refine ⟨h, ?_⟩
  refine (k_Depth x hxs).then fun r hr => ?_
  subst hr
  simp -implicitDefEqProofs (maxSteps := 2000000) (disch := omega) [-getElem?_pos]
  refine (f4 _).then fun r hr => ?_
  subst hr
  simp -implicitDefEqProofs (maxSteps := 2000000) (disch := omega) [-getElem?_pos]
  refine .mk (fun _ => ?_) fun hq => absurd m2 hq
  simp -implicitDefEqProofs (maxSteps := 2000000) (disch := omega) [-getElem?_pos, hx]
  refine ⟨h, ?_⟩
  refine (k_Nodes x hxs).then fun r hr => ?_
  subst hr
  simp -implicitDefEqProofs (maxSteps := 2000000) (disch := omega) [-getElem?_pos]
  refine (f5 _).then fun r hr => ?_
  subst hr
  simp -implicitDefEqProofs (maxSteps := 2000000) (disch := omega) [-getElem?_pos]
  refine .mk (fun hq => absurd m3 (by omega)) fun hq => ?_
  simp -implicitDefEqProofs (maxSteps := 2000000) (disch := omega) [-getElem?_pos, hx]
  refine ⟨h, ?_⟩
  refine (k_Free x hxs).then fun r hr => ?_
  obtain ⟨xl, rfl, hxn, hxl⟩ := hr
  have hxll : xl.length ≤ 1048576 := by
    have h1 := nodup_len hxn fun y hy => (hxl y).1 hy
    have h2 := fvs_len x
    omega
  simp -implicitDefEqProofs (maxSteps := 2000000) (disch := omega) [-getElem?_pos]
  refine W_loop (α := Nat) 0 (fun j => xl.length - j) (fun j => ⟨[(1, .ptr σ.objs.length 0), (3, .v (.bool true)), (5, .v (vS al)), (6, .v (.int .i64 i)), (7, .v (vS xl)), (8, .v (.int .i64 j))], ⟨σ.objs ++ [obE (.mk k p n s t ls ns l)], σ.toks⟩⟩) (fun j => j ≤ xl.length) (.eq2 (by simp [obE_mk]) (by simp)) (by omega) fun j hj => ?_
  simp -implicitDefEqProofs (maxSteps := 2000000) (disch := omega) [-getElem?_pos, obE_mk]
  refine .mk (fun hj1 => ?_) fun hj1 => ?_
  rotate_left
  · simp -implicitDefEqProofs (maxSteps := 2000000) (disch := omega) [-getElem?_pos]
    exact ⟨i + 1, by omega, by dsimp only; omega, .eq2 (by simp [obE_mk]) (by simp)⟩
  obtain ⟨y, hy⟩ : ∃ y, xl[j]? = some y := ⟨xl[j], List.getElem?_eq_getElem hj1⟩
  have hyf := (hxl y).1 (List.mem_of_getElem? hy)
  have hfp := free_part (k := k) (p := p) (n := n) (s := s) (t := t) (ls := ls) (ns := ns) hx hyf
  rw [← hal] at hfp
  have fin : ∀ m0 : Bool, (y = s ∨ y = t → m0 = true) → m0 = true ∨ y ∈ al.drop 0 ∨ y ∈ ns := fun m0 hm => by
    rcases hfp with h | h | h | h
    · exact .inl (hm (.inl h))
    · exact .inl (hm (.inr h))
    · exact .inr (.inr h)
    · exact .inr (.inl h)
  by_cases hys : y = s
  · skip
    simp -implicitDefEqProofs (maxSteps := 2000000) (disch := omega) [-getElem?_pos, hy, obE_mk, hys]
    refine ⟨hj1, ?_⟩
    refine W_loop (α := MSt) ⟨0, true⟩ (fun z => al.length - z.j) (fun z => ⟨[(1, .ptr σ.objs.length 0), (3, .v (.bool true)), (5, .v (vS al)), (6, .v (.int .i64 i)), (7, .v (vS xl)), (8, .v (.int .i64 j)), (9, .v (.bool z.m)), (10, .v (.int .i64 z.j))], ⟨σ.objs ++ [obE (.mk k p n s t ls ns l)], σ.toks⟩⟩) (fun z => z.j ≤ al.length ∧ (z.m = true ∨ y ∈ al.drop z.j ∨ y ∈ ns)) (.eq2 (by simp [obE_mk]) (by simp [hys])) ⟨Nat.zero_le _, fin true (fun _ => rfl)⟩ fun ⟨a, m⟩ ⟨ha, hm⟩ => ?_
    dsimp only at ha hm ⊢
    simp -implicitDefEqProofs (maxSteps := 2000000) (disch := omega) [-getElem?_pos, obE_mk]
    refine .mk (fun h1 => ?_) fun h1 => ?_
    · obtain ⟨w, hw⟩ : ∃ w, al[a]? = some w := ⟨al[a], List.getElem?_eq_getElem h1⟩
      rw [drop_cons hw, List.mem_cons] at hm
      cases m with
      | true =>
        simp -implicitDefEqProofs (maxSteps := 2000000) (disch := omega) [-getElem?_pos, hy, hw]
        exact ⟨⟨a + 1, true⟩, ⟨h1, .inl rfl⟩, by dsimp only; omega, .eq2 (by simp [obE_mk]) (by simp)⟩
      | false =>
        simp -implicitDefEqProofs (maxSteps := 2000000) (disch := omega) [-getElem?_pos, hy, hw]
        refine ⟨h1, hj1, ⟨a + 1, w == y⟩, ⟨h1, ?_⟩, by dsimp only; omega, .eq2 (by simp [obE_mk]) (by simp)⟩
        dsimp only
        rcases hm with h | (h | h) | h
        · cases h
        · exact .inl (by rw [h]; simp)
        · exact .inr (.inl h)
        · exact .inr (.inr h)
    · rw [List.drop_eq_nil_of_le (by omega)] at hm
      have hm2 : m = true ∨ y ∈ ns.drop 0 := by
        rcases hm with h | h | h
        · exact .inl h
        · cases h
        · exact .inr h
      simp -implicitDefEqProofs (maxSteps := 2000000) (disch := omega) [-getElem?_pos, obE_mk]
      refine W_loop (α := MSt) ⟨0, m⟩ (fun z => ns.length - z.j) (fun z => ⟨[(1, .ptr σ.objs.length 0), (3, .v (.bool true)), (5, .v (vS al)), (6, .v (.int .i64 i)), (7, .v (vS xl)), (8, .v (.int .i64 j)), (9, .v (.bool z.m)), (11, .v (.int .i64 z.j))], ⟨σ.objs ++ [obE (.mk k p n s t ls ns l)], σ.toks⟩⟩) (fun z => z.j ≤ ns.length ∧ (z.m = true ∨ y ∈ ns.drop z.j)) (.eq2 (by simp [obE_mk]) (by simp)) ⟨Nat.zero_le _, hm2⟩ fun ⟨a, m⟩ ⟨ha, hm⟩ => ?_
      dsimp only at ha hm ⊢
      simp -implicitDefEqProofs (maxSteps := 2000000) (disch := omega) [-getElem?_pos, obE_mk]
      refine .mk (fun h1 => ?_) fun h1 => ?_
      · obtain ⟨w, hw⟩ : ∃ w, ns[a]? = some w := ⟨ns[a], List.getElem?_eq_getElem h1⟩
        rw [drop_cons hw, List.mem_cons] at hm
        cases m with
        | true =>
          simp -implicitDefEqProofs (maxSteps := 2000000) (disch := omega) [-getElem?_pos, hy, hw, obE_mk]
          exact ⟨⟨a + 1, true⟩, ⟨h1, .inl rfl⟩, by dsimp only; omega, .eq2 (by simp [obE_mk]) (by simp)⟩
        | false =>
          simp -implicitDefEqProofs (maxSteps := 2000000) (disch := omega) [-getElem?_pos, hy, hw, obE_mk]
          refine ⟨h1, hj1, ⟨a + 1, w == y⟩, ⟨h1, ?_⟩, by dsimp only; omega, .eq2 (by simp [obE_mk]) (by simp)⟩
          dsimp only
          rcases hm with h | h | h
          · cases h
          · exact .inl (by rw [h]; simp)
          · exact .inr h
      · rw [List.drop_eq_nil_of_le (by omega)] at hm
        have hmt : m = true := hm.resolve_right (by simp)
        subst hmt
        simp -implicitDefEqProofs (maxSteps := 2000000) (disch := omega) [-getElem?_pos, obE_mk]
        exact ⟨j + 1, by omega, by dsimp only; omega, .eq2 (by simp [obE_mk]) (by simp)⟩

  by_cases hyt : y = t
  · have hts : ¬ t = s := fun h => hys (hyt.trans h)
    simp -implicitDefEqProofs (maxSteps := 2000000) (disch := omega) [-getElem?_pos, hy, obE_mk, hyt, hts]
    refine ⟨hj1, ?_⟩
    refine W_loop (α := MSt) ⟨0, true⟩ (fun z => al.length - z.j) (fun z => ⟨[(1, .ptr σ.objs.length 0), (3, .v (.bool true)), (5, .v (vS al)), (6, .v (.int .i64 i)), (7, .v (vS xl)), (8, .v (.int .i64 j)), (9, .v (.bool z.m)), (10, .v (.int .i64 z.j))], ⟨σ.objs ++ [obE (.mk k p n s t ls ns l)], σ.toks⟩⟩) (fun z => z.j ≤ al.length ∧ (z.m = true ∨ y ∈ al.drop z.j ∨ y ∈ ns)) (.eq2 (by simp [obE_mk]) (by simp [hyt, hts])) ⟨Nat.zero_le _, fin true (fun _ => rfl)⟩ fun ⟨a, m⟩ ⟨ha, hm⟩ => ?_
    dsimp only at ha hm ⊢
    simp -implicitDefEqProofs (maxSteps := 2000000) (disch := omega) [-getElem?_pos, obE_mk]
    refine .mk (fun h1 => ?_) fun h1 => ?_
    · obtain ⟨w, hw⟩ : ∃ w, al[a]? = some w := ⟨al[a], List.getElem?_eq_getElem h1⟩
      rw [drop_cons hw, List.mem_cons] at hm
      cases m with
      | true =>
        simp -implicitDefEqProofs (maxSteps := 2000000) (disch := omega) [-getElem?_pos, hy, hw]
        exact ⟨⟨a + 1, true⟩, ⟨h1, .inl rfl⟩, by dsimp only; omega, .eq2 (by simp [obE_mk]) (by simp)⟩
      | false =>
        simp -implicitDefEqProofs (maxSteps := 2000000) (disch := omega) [-getElem?_pos, hy, hw]
        refine ⟨h1, hj1, ⟨a + 1, w == y⟩, ⟨h1, ?_⟩, by dsimp only; omega, .eq2 (by simp [obE_mk]) (by simp)⟩
        dsimp only
        rcases hm with h | (h | h) | h
        · cases h
        · exact .inl (by rw [h]; simp)
        · exact .inr (.inl h)
        · exact .inr (.inr h)
    · rw [List.drop_eq_nil_of_le (by omega)] at hm
      have hm2 : m = true ∨ y ∈ ns.drop 0 := by
        rcases hm with h | h | h
        · exact .inl h
        · cases h
        · exact .inr h
      simp -implicitDefEqProofs (maxSteps := 2000000) (disch := omega) [-getElem?_pos, obE_mk]
      refine W_loop (α := MSt) ⟨0, m⟩ (fun z => ns.length - z.j) (fun z => ⟨[(1, .ptr σ.objs.length 0), (3, .v (.bool true)), (5, .v (vS al)), (6, .v (.int .i64 i)), (7, .v (vS xl)), (8, .v (.int .i64 j)), (9, .v (.bool z.m)), (11, .v (.int .i64 z.j))], ⟨σ.objs ++ [obE (.mk k p n s t ls ns l)], σ.toks⟩⟩) (fun z => z.j ≤ ns.length ∧ (z.m = true ∨ y ∈ ns.drop z.j)) (.eq2 (by simp [obE_mk]) (by simp)) ⟨Nat.zero_le _, hm2⟩ fun ⟨a, m⟩ ⟨ha, hm⟩ => ?_
      dsimp only at ha hm ⊢
      simp -implicitDefEqProofs (maxSteps := 2000000) (disch := omega) [-getElem?_pos, obE_mk]
      refine .mk (fun h1 => ?_) fun h1 => ?_
      · obtain ⟨w, hw⟩ : ∃ w, ns[a]? = some w := ⟨ns[a], List.getElem?_eq_getElem h1⟩
        rw [drop_cons hw, List.mem_cons] at hm
        cases m with
        | true =>
          simp -implicitDefEqProofs (maxSteps := 2000000) (disch := omega) [-getElem?_pos, hy, hw, obE_mk]
          exact ⟨⟨a + 1, true⟩, ⟨h1, .inl rfl⟩, by dsimp only; omega, .eq2 (by simp [obE_mk]) (by simp)⟩
        | false =>
          simp -implicitDefEqProofs (maxSteps := 2000000) (disch := omega) [-getElem?_pos, hy, hw, obE_mk]
          refine ⟨h1, hj1, ⟨a + 1, w == y⟩, ⟨h1, ?_⟩, by dsimp only; omega, .eq2 (by simp [obE_mk]) (by simp)⟩
          dsimp only
          rcases hm with h | h | h
          · cases h
          · exact .inl (by rw [h]; simp)
          · exact .inr h
      · rw [List.drop_eq_nil_of_le (by omega)] at hm
        have hmt : m = true := hm.resolve_right (by simp)
        subst hmt
        simp -implicitDefEqProofs (maxSteps := 2000000) (disch := omega) [-getElem?_pos, obE_mk]
        exact ⟨j + 1, by omega, by dsimp only; omega, .eq2 (by simp [obE_mk]) (by simp)⟩

  · skip
    simp -implicitDefEqProofs (maxSteps := 2000000) (disch := omega) [-getElem?_pos, hy, obE_mk, hys, hyt]
    refine ⟨hj1, ?_⟩
    refine W_loop (α := MSt) ⟨0, false⟩ (fun z => al.length - z.j) (fun z => ⟨[(1, .ptr σ.objs.length 0), (3, .v (.bool true)), (5, .v (vS al)), (6, .v (.int .i64 i)), (7, .v (vS xl)), (8, .v (.int .i64 j)), (9, .v (.bool z.m)), (10, .v (.int .i64 z.j))], ⟨σ.objs ++ [obE (.mk k p n s t ls ns l)], σ.toks⟩⟩) (fun z => z.j ≤ al.length ∧ (z.m = true ∨ y ∈ al.drop z.j ∨ y ∈ ns)) (.eq2 (by simp [obE_mk]) (by simp [hys, hyt])) ⟨Nat.zero_le _, fin false (fun h => absurd h (fun h => h.elim hys hyt))⟩ fun ⟨a, m⟩ ⟨ha, hm⟩ => ?_
    dsimp only at ha hm ⊢
    simp -implicitDefEqProofs (maxSteps := 2000000) (disch := omega) [-getElem?_pos, obE_mk]
    refine .mk (fun h1 => ?_) fun h1 => ?_
    · obtain ⟨w, hw⟩ : ∃ w, al[a]? = some w := ⟨al[a], List.getElem?_eq_getElem h1⟩
      rw [drop_cons hw, List.mem_cons] at hm
      cases m with
      | true =>
        simp -implicitDefEqProofs (maxSteps := 2000000) (disch := omega) [-getElem?_pos, hy, hw]
        exact ⟨⟨a + 1, true⟩, ⟨h1, .inl rfl⟩, by dsimp only; omega, .eq2 (by simp [obE_mk]) (by simp)⟩
      | false =>
        simp -implicitDefEqProofs (maxSteps := 2000000) (disch := omega) [-getElem?_pos, hy, hw]
        refine ⟨h1, hj1, ⟨a + 1, w == y⟩, ⟨h1, ?_⟩, by dsimp only; omega, .eq2 (by simp [obE_mk]) (by simp)⟩
        dsimp only
        rcases hm with h | (h | h) | h
        · cases h
        · exact .inl (by rw [h]; simp)
        · exact .inr (.inl h)
        · exact .inr (.inr h)
    · rw [List.drop_eq_nil_of_le (by omega)] at hm
      have hm2 : m = true ∨ y ∈ ns.drop 0 := by
        rcases hm with h | h | h
        · exact .inl h
        · cases h
        · exact .inr h
      simp -implicitDefEqProofs (maxSteps := 2000000) (disch := omega) [-getElem?_pos, obE_mk]
      refine W_loop (α := MSt) ⟨0, m⟩ (fun z => ns.length - z.j) (fun z => ⟨[(1, .ptr σ.objs.length 0), (3, .v (.bool true)), (5, .v (vS al)), (6, .v (.int .i64 i)), (7, .v (vS xl)), (8, .v (.int .i64 j)), (9, .v (.bool z.m)), (11, .v (.int .i64 z.j))], ⟨σ.objs ++ [obE (.mk k p n s t ls ns l)], σ.toks⟩⟩) (fun z => z.j ≤ ns.length ∧ (z.m = true ∨ y ∈ ns.drop z.j)) (.eq2 (by simp [obE_mk]) (by simp)) ⟨Nat.zero_le _, hm2⟩ fun ⟨a, m⟩ ⟨ha, hm⟩ => ?_
      dsimp only at ha hm ⊢
      simp -implicitDefEqProofs (maxSteps := 2000000) (disch := omega) [-getElem?_pos, obE_mk]
      refine .mk (fun h1 => ?_) fun h1 => ?_
      · obtain ⟨w, hw⟩ : ∃ w, ns[a]? = some w := ⟨ns[a], List.getElem?_eq_getElem h1⟩
        rw [drop_cons hw, List.mem_cons] at hm
        cases m with
        | true =>
          simp -implicitDefEqProofs (maxSteps := 2000000) (disch := omega) [-getElem?_pos, hy, hw, obE_mk]
          exact ⟨⟨a + 1, true⟩, ⟨h1, .inl rfl⟩, by dsimp only; omega, .eq2 (by simp [obE_mk]) (by simp)⟩
        | false =>
          simp -implicitDefEqProofs (maxSteps := 2000000) (disch := omega) [-getElem?_pos, hy, hw, obE_mk]
          refine ⟨h1, hj1, ⟨a + 1, w == y⟩, ⟨h1, ?_⟩, by dsimp only; omega, .eq2 (by simp [obE_mk]) (by simp)⟩
          dsimp only
          rcases hm with h | h | h
          · cases h
          · exact .inl (by rw [h]; simp)
          · exact .inr h
      · rw [List.drop_eq_nil_of_le (by omega)] at hm
        have hmt : m = true := hm.resolve_right (by simp)
        subst hmt
        simp -implicitDefEqProofs (maxSteps := 2000000) (disch := omega) [-getElem?_pos, obE_mk]
        exact ⟨j + 1, by omega, by dsimp only; omega, .eq2 (by simp [obE_mk]) (by simp)⟩

end Go.Proofs.YtpdeaekmgljeaaaGreatDoor
