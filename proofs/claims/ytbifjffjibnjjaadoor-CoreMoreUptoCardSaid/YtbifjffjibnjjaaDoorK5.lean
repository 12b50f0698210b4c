/-
  Core expressions, walked: operators. (Own work.)
-/
import Derived.Test.YtbifjffjibnjjaaDoorK4
set_option linter.unusedVariables false
set_option linter.unusedSimpArgs false
set_option maxHeartbeats 1000000
namespace Go.Proofs.YtbifjffjibnjjaaDoor
open Go Go.Abs

theorem opM_stuck {s : Str} {a b : Vl} {m : Ms} (h1 : ¬ (kindW a = 2 ∧ kindW b = 2)) (h2 : ¬ (kindW a = 2 ∧ kindW b = 1)) (h3 : ¬ (kindW a = 1 ∧ kindW b = 1)) : opM s a b m = stuckM m := by
  cases a <;> cases b <;> first | rfl | (simp [kindW] at h1 h2 h3)
theorem arith_stuck {s : Str} {a b : Vl} {m : Ms} (h : kindW a = 2 ∧ kindW b = 2) (hs : s ≠ [94]) : opM s a b m = stuckM m := by
  cases a <;> cases b <;> simp [kindW] at h
  simp [opM, hs]
theorem index_stuck {s : Str} {a b : Vl} {m : Ms} (h : kindW a = 2 ∧ kindW b = 1) (hs : s ≠ [35]) : opM s a b m = stuckM m := by
  cases a <;> cases b <;> simp [kindW] at h
  simp [opM, hs]
theorem kind2 {v : Vl} (h : kindW v = 2) : ∃ s, v = .text s := by cases v <;> simp [kindW] at h; exact ⟨_, rfl⟩
theorem kind1 {v : Vl} (h : kindW v = 1) : ∃ n, v = .int n := by cases v <;> simp [kindW] at h; exact ⟨_, rfl⟩
theorem areW2 {a b : Vl} {x y : Int} : areW [a, b] [x, y] = decide (kindW a = x ∧ kindW b = y) := by
  simp only [areW, Bool.and_true]
  by_cases h1 : kindW a = x <;> by_cases h2 : kindW b = y <;> simp [h1, h2]
theorem one6 {a b c d e f : V} (h : ∀ x ∈ [a, b, c, d, e, f], x.one = true) : a.one = true ∧ b.one = true ∧ c.one = true ∧ d.one = true ∧ e.one = true ∧ f.one = true :=
  ⟨h a (by simp), h b (by simp), h c (by simp), h d (by simp), h e (by simp), h f (by simp)⟩
theorem and_of {x y a b : Int} (h : ¬ (¬ x = a ∨ ¬ y = b)) : x = a ∧ y = b := ⟨Decidable.byContradiction fun e => h (.inl e), Decidable.byContradiction fun e => h (.inr e)⟩
theorem not_and_of {x y a b : Int} (h : ¬ x = a ∨ ¬ y = b) : ¬ (x = a ∧ y = b) := fun e => h.elim (fun k => k e.1) fun k => k e.2
theorem k_Op {mo tt : Nat} {φ ψ : Nat → Nat} {m : Ms} {s : Str} {a b : Vl} {n L : Nat} {σ : Sg} (h : Sto mo tt φ ψ m σ) (ha : okV n L a) (hb : okV n L b) (hL : L ≤ 1000000000) : ACalls Tryd.prog 84 [.ptr mo 0, .v (.str s), .v (encW φ a), .v (encW φ b)] σ (Outc mo tt φ ψ m σ (opM s a b m)) := by
  have hml := h.mlt
  obtain ⟨a0, a1, a2, a3, a4, a5, hca⟩ := list6 (celW_len (φ := φ) a)
  obtain ⟨b0, b1, b2, b3, b4, b5, hcb⟩ := list6 (celW_len (φ := φ) b)
  have hea : encW φ a = .agg [a0, a1, a2, a3, a4, a5] := by unfold encW; rw [hca]
  have heb : encW φ b = .agg [b0, b1, b2, b3, b4, b5] := by unfold encW; rw [hcb]
  have hx : [V.agg [a0, a1, a2, a3, a4, a5], V.agg [b0, b1, b2, b3, b4, b5]] = [a, b].map (encW φ) := by simp [hea, heb]
  have k1 := fun (x y : Int) (f : Bool) (σ : Sg) => k_Are (ks := [x, y]) (f := f) (σ := σ) hx (by simp) (by simp)
  simp only [areW2, List.map_cons, List.map_nil] at k1
  rw [hea, heb]
  refine acalls_fit Tryd.func84 (by kernel_rfl) c84 rfl (by simp [a84]) fun hf => ?_
  clear hf
  simp -implicitDefEqProofs (maxSteps := 2000000) (disch := omega) [-getElem?_pos, a84]
  have o1 := one6 (hca ▸ celW_one (φ := φ) a)
  have o2 := one6 (hcb ▸ celW_one (φ := φ) b)
  refine ⟨⟨o1, o2⟩, ?_⟩
  refine .mk (fun hs => ?_) fun hs => ?_
  · subst hs
    simp -implicitDefEqProofs (maxSteps := 2000000) (disch := omega) [-getElem?_pos]
    refine (k1 2 2 _ _).then fun r hr => ?_
    subst hr
    simp -implicitDefEqProofs (maxSteps := 2000000) (disch := omega) [-getElem?_pos]
    refine .mk (fun hq => ?_) fun hq => ?_
    · obtain ⟨x, rfl⟩ := kind2 hq.1
      obtain ⟨y, rfl⟩ := kind2 hq.2
      simp only [celW] at hca hcb
      cases hca
      cases hcb
      simp only [okV] at ha hb
      simp -implicitDefEqProofs (maxSteps := 2000000) (disch := omega) [-getElem?_pos]
      refine .mk (fun hq2 => ?_) fun hq2 => ?_
      · have he : opM [94] (.text x) (.text y) m = endM 9 2 m := by
          have : x.length + y.length > 2000 := by omega
          simp [opM, this]
        rw [he]
        simp -implicitDefEqProofs (maxSteps := 2000000) (disch := omega) [-getElem?_pos]
        refine (k_End (h.add _)).mono fun r σ2 ⟨φ2, ψ2, hr, hA⟩ => ?_
        replace hr : r = .tup [.v zW, .v (.bool false)] := hr
        subst hr
        have h0 : σ2.objs[σ.objs.length + 2]? = some _ := hA.loc h (j := 2) rfl
        have hl := (List.getElem?_eq_some_iff.1 h0).1
        unfold zW
        simp -implicitDefEqProofs (maxSteps := 2000000) (disch := omega) [-getElem?_pos, h0, hl, List.getElem?_set_self]
        exact ⟨_, _, WeakR.refl _ _ _, φ2, ψ2, rfl, (hA.back h).put _ (by omega) h0 (by omega)⟩

      · have he : opM [94] (.text x) (.text y) m = done (.text (x ++ y)) m := by
          have : ¬ x.length + y.length > 2000 := by omega
          simp [opM, this]
        rw [he]
        simp -implicitDefEqProofs (maxSteps := 2000000) (disch := omega) [-getElem?_pos]
        refine ⟨by omega, ?_⟩
        exact ⟨_, _, WeakR.refl _ _ _, φ, ψ, by simp [done, resW, encW, celW], (Aft.refl h).add _⟩
    · simp -implicitDefEqProofs (maxSteps := 2000000) (disch := omega) [-getElem?_pos]
      refine (k1 1 1 _ _).then fun r hr => ?_
      subst hr
      simp -implicitDefEqProofs (maxSteps := 2000000) (disch := omega) [-getElem?_pos]
      refine .mk (fun hq3 => ?_) fun hq3 => ?_
      · replace hq3 := not_and_of hq3
        have he : opM [94] a b m = stuckM m := by
          by_cases h4 : kindW a = 2 ∧ kindW b = 1
          · exact index_stuck h4 (by simp)
          · exact opM_stuck hq h4 hq3
        rw [he]
        simp -implicitDefEqProofs (maxSteps := 2000000) (disch := omega) [-getElem?_pos]
        refine (k_Stuck (h.add _)).mono fun r σ2 ⟨φ2, ψ2, hr, hA⟩ => ?_
        replace hr : r = .tup [.v zW, .v (.bool false)] := hr
        subst hr
        have h0 : σ2.objs[σ.objs.length + 2]? = some _ := hA.loc h (j := 2) rfl
        have hl := (List.getElem?_eq_some_iff.1 h0).1
        unfold zW
        simp -implicitDefEqProofs (maxSteps := 2000000) (disch := omega) [-getElem?_pos, h0, hl, List.getElem?_set_self]
        exact ⟨_, _, WeakR.refl _ _ _, φ2, ψ2, rfl, (hA.back h).put _ (by omega) h0 (by omega)⟩

      · replace hq3 := and_of hq3
        obtain ⟨x, rfl⟩ := kind1 hq3.1
        obtain ⟨y, rfl⟩ := kind1 hq3.2
        have he : opM [94] (.int x) (.int y) m = stuckM m := by simp [opM, arithM]
        rw [he]
        simp -implicitDefEqProofs (maxSteps := 2000000) (disch := omega) [-getElem?_pos]
        refine (k_Stuck (h.add _)).mono fun r σ2 ⟨φ2, ψ2, hr, hA⟩ => ?_
        replace hr : r = .tup [.v zW, .v (.bool false)] := hr
        subst hr
        have h0 : σ2.objs[σ.objs.length + 2]? = some _ := hA.loc h (j := 2) rfl
        have hl := (List.getElem?_eq_some_iff.1 h0).1
        unfold zW
        simp -implicitDefEqProofs (maxSteps := 2000000) (disch := omega) [-getElem?_pos, h0, hl, List.getElem?_set_self]
        exact ⟨_, _, WeakR.refl _ _ _, φ2, ψ2, rfl, (hA.back h).put _ (by omega) h0 (by omega)⟩

  · simp -implicitDefEqProofs (maxSteps := 2000000) (disch := omega) [-getElem?_pos]
    refine .mk (fun hs2 => ?_) fun hs2 => ?_
    · subst hs2
      simp -implicitDefEqProofs (maxSteps := 2000000) (disch := omega) [-getElem?_pos]
      refine (k1 2 1 _ _).then fun r hr => ?_
      subst hr
      simp -implicitDefEqProofs (maxSteps := 2000000) (disch := omega) [-getElem?_pos]
      refine .mk (fun hq => ?_) fun hq => ?_
      · obtain ⟨x, rfl⟩ := kind2 hq.1
        obtain ⟨y, rfl⟩ := kind1 hq.2
        simp only [celW] at hca hcb
        cases hca
        cases hcb
        simp only [okV] at ha hb
        simp -implicitDefEqProofs (maxSteps := 2000000) (disch := omega) [-getElem?_pos]
        refine .mk (fun hy => ?_) fun hy => ?_
        · simp -implicitDefEqProofs (maxSteps := 2000000) (disch := omega) [-getElem?_pos]
          refine .mk (fun hy2 => ?_) fun hy2 => ?_
          · have he : opM [35] (.text x) (.int y) m = endM 9 2 m := by
              have h1 : ¬ y < 0 := by omega
              have h2 : x[y.toNat]? = none := List.getElem?_eq_none (by omega)
              simp [opM, h1, h2]
            rw [he]
            simp -implicitDefEqProofs (maxSteps := 2000000) (disch := omega) [-getElem?_pos]
            refine (k_End (h.add _)).mono fun r σ2 ⟨φ2, ψ2, hr, hA⟩ => ?_
            replace hr : r = .tup [.v zW, .v (.bool false)] := hr
            subst hr
            have h0 : σ2.objs[σ.objs.length + 2]? = some _ := hA.loc h (j := 2) rfl
            have hl := (List.getElem?_eq_some_iff.1 h0).1
            unfold zW
            simp -implicitDefEqProofs (maxSteps := 2000000) (disch := omega) [-getElem?_pos, h0, hl, List.getElem?_set_self]
            exact ⟨_, _, WeakR.refl _ _ _, φ2, ψ2, rfl, (hA.back h).put _ (by omega) h0 (by omega)⟩

          · obtain ⟨c, hc⟩ : ∃ c, x[y.toNat]? = some c := ⟨_, List.getElem?_eq_getElem (by omega)⟩
            have he : opM [35] (.text x) (.int y) m = done (.int c.toNat) m := by
              have h1 : ¬ y < 0 := by omega
              simp [opM, h1, hc]
            rw [he]
            simp -implicitDefEqProofs (maxSteps := 2000000) (disch := omega) [-getElem?_pos, hc]
            refine ⟨by omega, by omega, ?_⟩
            have hcl := c.toNat_lt
            rw [wrap_i64 (by omega) (by omega)]
            exact ⟨_, _, WeakR.refl _ _ _, φ, ψ, by simp [done, resW, encW, celW], (Aft.refl h).add _⟩
        · have he : opM [35] (.text x) (.int y) m = endM 9 2 m := by
            have : y < 0 := by omega
            simp [opM, this]
          rw [he]
          simp -implicitDefEqProofs (maxSteps := 2000000) (disch := omega) [-getElem?_pos]
          refine (k_End (h.add _)).mono fun r σ2 ⟨φ2, ψ2, hr, hA⟩ => ?_
          replace hr : r = .tup [.v zW, .v (.bool false)] := hr
          subst hr
          have h0 : σ2.objs[σ.objs.length + 2]? = some _ := hA.loc h (j := 2) rfl
          have hl := (List.getElem?_eq_some_iff.1 h0).1
          unfold zW
          simp -implicitDefEqProofs (maxSteps := 2000000) (disch := omega) [-getElem?_pos, h0, hl, List.getElem?_set_self]
          exact ⟨_, _, WeakR.refl _ _ _, φ2, ψ2, rfl, (hA.back h).put _ (by omega) h0 (by omega)⟩

      · simp -implicitDefEqProofs (maxSteps := 2000000) (disch := omega) [-getElem?_pos]
        refine (k1 1 1 _ _).then fun r hr => ?_
        subst hr
        simp -implicitDefEqProofs (maxSteps := 2000000) (disch := omega) [-getElem?_pos]
        refine .mk (fun hq3 => ?_) fun hq3 => ?_
        · replace hq3 := not_and_of hq3
          have he : opM [35] a b m = stuckM m := by
            by_cases h4 : kindW a = 2 ∧ kindW b = 2
            · exact arith_stuck h4 (by simp)
            · exact opM_stuck h4 hq hq3
          rw [he]
          simp -implicitDefEqProofs (maxSteps := 2000000) (disch := omega) [-getElem?_pos]
          refine (k_Stuck (h.add _)).mono fun r σ2 ⟨φ2, ψ2, hr, hA⟩ => ?_
          replace hr : r = .tup [.v zW, .v (.bool false)] := hr
          subst hr
          have h0 : σ2.objs[σ.objs.length + 2]? = some _ := hA.loc h (j := 2) rfl
          have hl := (List.getElem?_eq_some_iff.1 h0).1
          unfold zW
          simp -implicitDefEqProofs (maxSteps := 2000000) (disch := omega) [-getElem?_pos, h0, hl, List.getElem?_set_self]
          exact ⟨_, _, WeakR.refl _ _ _, φ2, ψ2, rfl, (hA.back h).put _ (by omega) h0 (by omega)⟩

        · replace hq3 := and_of hq3
          obtain ⟨x, rfl⟩ := kind1 hq3.1
          obtain ⟨y, rfl⟩ := kind1 hq3.2
          have he : opM [35] (.int x) (.int y) m = stuckM m := by simp [opM, arithM]
          rw [he]
          simp -implicitDefEqProofs (maxSteps := 2000000) (disch := omega) [-getElem?_pos]
          refine (k_Stuck (h.add _)).mono fun r σ2 ⟨φ2, ψ2, hr, hA⟩ => ?_
          replace hr : r = .tup [.v zW, .v (.bool false)] := hr
          subst hr
          have h0 : σ2.objs[σ.objs.length + 2]? = some _ := hA.loc h (j := 2) rfl
          have hl := (List.getElem?_eq_some_iff.1 h0).1
          unfold zW
          simp -implicitDefEqProofs (maxSteps := 2000000) (disch := omega) [-getElem?_pos, h0, hl, List.getElem?_set_self]
          exact ⟨_, _, WeakR.refl _ _ _, φ2, ψ2, rfl, (hA.back h).put _ (by omega) h0 (by omega)⟩

    · simp -implicitDefEqProofs (maxSteps := 2000000) (disch := omega) [-getElem?_pos]
      refine (k1 1 1 _ _).then fun r hr => ?_
      subst hr
      simp -implicitDefEqProofs (maxSteps := 2000000) (disch := omega) [-getElem?_pos]
      refine .mk (fun hq3 => ?_) fun hq3 => ?_
      · replace hq3 := not_and_of hq3
        have he : opM s a b m = stuckM m := by
          by_cases h4 : kindW a = 2 ∧ kindW b = 2
          · exact arith_stuck h4 hs
          · by_cases h5 : kindW a = 2 ∧ kindW b = 1
            · exact index_stuck h5 hs2
            · exact opM_stuck h4 h5 hq3
        rw [he]
        simp -implicitDefEqProofs (maxSteps := 2000000) (disch := omega) [-getElem?_pos]
        refine (k_Stuck (h.add _)).mono fun r σ2 ⟨φ2, ψ2, hr, hA⟩ => ?_
        replace hr : r = .tup [.v zW, .v (.bool false)] := hr
        subst hr
        have h0 : σ2.objs[σ.objs.length + 2]? = some _ := hA.loc h (j := 2) rfl
        have hl := (List.getElem?_eq_some_iff.1 h0).1
        unfold zW
        simp -implicitDefEqProofs (maxSteps := 2000000) (disch := omega) [-getElem?_pos, h0, hl, List.getElem?_set_self]
        exact ⟨_, _, WeakR.refl _ _ _, φ2, ψ2, rfl, (hA.back h).put _ (by omega) h0 (by omega)⟩

      · replace hq3 := and_of hq3
        obtain ⟨x, rfl⟩ := kind1 hq3.1
        obtain ⟨y, rfl⟩ := kind1 hq3.2
        simp only [celW] at hca hcb
        cases hca
        cases hcb
        have he : opM s (.int x) (.int y) m = arithM s x y m := rfl
        rw [he]
        simp -implicitDefEqProofs (maxSteps := 2000000) (disch := omega) [-getElem?_pos]
        refine .mk (fun g0 => ?_) fun g0 => ?_
        · subst g0
          simp -implicitDefEqProofs (maxSteps := 2000000) (disch := omega) [-getElem?_pos]
          have he : arithM [43] x y m = done (.int (IntKind.i64.wrap (x + y))) m := by simp [arithM]
          rw [he]
          exact ⟨_, _, WeakR.refl _ _ _, φ, ψ, by simp [done, resW, encW, celW], (Aft.refl h).add _⟩
        simp -implicitDefEqProofs (maxSteps := 2000000) (disch := omega) [-getElem?_pos]
        refine .mk (fun g1 => ?_) fun g1 => ?_
        · subst g1
          simp -implicitDefEqProofs (maxSteps := 2000000) (disch := omega) [-getElem?_pos]
          have he : arithM [45] x y m = done (.int (IntKind.i64.wrap (x - y))) m := by simp [arithM]
          rw [he]
          exact ⟨_, _, WeakR.refl _ _ _, φ, ψ, by simp [done, resW, encW, celW], (Aft.refl h).add _⟩
        simp -implicitDefEqProofs (maxSteps := 2000000) (disch := omega) [-getElem?_pos]
        refine .mk (fun g2 => ?_) fun g2 => ?_
        · subst g2
          simp -implicitDefEqProofs (maxSteps := 2000000) (disch := omega) [-getElem?_pos]
          have he : arithM [42] x y m = done (.int (IntKind.i64.wrap (x * y))) m := by simp [arithM]
          rw [he]
          exact ⟨_, _, WeakR.refl _ _ _, φ, ψ, by simp [done, resW, encW, celW], (Aft.refl h).add _⟩
        simp -implicitDefEqProofs (maxSteps := 2000000) (disch := omega) [-getElem?_pos]
        refine .mk (fun g3 => ?_) fun g3 => ?_
        · subst g3
          simp -implicitDefEqProofs (maxSteps := 2000000) (disch := omega) [-getElem?_pos]
          refine .mk (fun hz => ?_) fun hz => ?_
          · have he : arithM [47] x y m = endM 9 1 m := by simp [arithM, hz]
            rw [he]
            simp -implicitDefEqProofs (maxSteps := 2000000) (disch := omega) [-getElem?_pos]
            refine (k_End (h.add _)).mono fun r σ2 ⟨φ2, ψ2, hr, hA⟩ => ?_
            replace hr : r = .tup [.v zW, .v (.bool false)] := hr
            subst hr
            have h0 : σ2.objs[σ.objs.length + 2]? = some _ := hA.loc h (j := 2) rfl
            have hl := (List.getElem?_eq_some_iff.1 h0).1
            unfold zW
            simp -implicitDefEqProofs (maxSteps := 2000000) (disch := omega) [-getElem?_pos, h0, hl, List.getElem?_set_self]
            exact ⟨_, _, WeakR.refl _ _ _, φ2, ψ2, rfl, (hA.back h).put _ (by omega) h0 (by omega)⟩

          · have he : arithM [47] x y m = done (.int (IntKind.i64.wrap (x.tdiv y))) m := by simp [arithM, hz]
            rw [he]
            simp -implicitDefEqProofs (maxSteps := 2000000) (disch := omega) [-getElem?_pos]
            refine ⟨hz, ?_⟩
            exact ⟨_, _, WeakR.refl _ _ _, φ, ψ, by simp [done, resW, encW, celW], (Aft.refl h).add _⟩
        simp -implicitDefEqProofs (maxSteps := 2000000) (disch := omega) [-getElem?_pos]
        refine .mk (fun g4 => ?_) fun g4 => ?_
        · subst g4
          simp -implicitDefEqProofs (maxSteps := 2000000) (disch := omega) [-getElem?_pos]
          refine k_Flag.then fun r hr => ?_
          subst hr
          simp -implicitDefEqProofs (maxSteps := 2000000) (disch := omega) [-getElem?_pos]
          have he : arithM [60] x y m = done (.int (flagC (decide (x < y)))) m := by simp [arithM]
          rw [he]
          exact ⟨_, _, WeakR.refl _ _ _, φ, ψ, by simp [done, resW, encW, celW], (Aft.refl h).add _⟩
        simp -implicitDefEqProofs (maxSteps := 2000000) (disch := omega) [-getElem?_pos]
        refine .mk (fun g5 => ?_) fun g5 => ?_
        · subst g5
          simp -implicitDefEqProofs (maxSteps := 2000000) (disch := omega) [-getElem?_pos]
          refine k_Flag.then fun r hr => ?_
          subst hr
          simp -implicitDefEqProofs (maxSteps := 2000000) (disch := omega) [-getElem?_pos]
          have he : arithM [61, 61] x y m = done (.int (flagC (x == y))) m := by simp [arithM]
          rw [he]
          exact ⟨_, _, WeakR.refl _ _ _, φ, ψ, by simp [done, resW, encW, celW], (Aft.refl h).add _⟩
        simp -implicitDefEqProofs (maxSteps := 2000000) (disch := omega) [-getElem?_pos]
        have he2 : arithM s x y m = stuckM m := by simp [arithM, g0, g1, g2, g3, g4, g5]
        rw [he2]
        refine (k_Stuck (h.add _)).mono fun r σ2 ⟨φ2, ψ2, hr, hA⟩ => ?_
        replace hr : r = .tup [.v zW, .v (.bool false)] := hr
        subst hr
        have h0 : σ2.objs[σ.objs.length + 2]? = some _ := hA.loc h (j := 2) rfl
        have hl := (List.getElem?_eq_some_iff.1 h0).1
        unfold zW
        simp -implicitDefEqProofs (maxSteps := 2000000) (disch := omega) [-getElem?_pos, h0, hl, List.getElem?_set_self]
        exact ⟨_, _, WeakR.refl _ _ _, φ2, ψ2, rfl, (hA.back h).put _ (by omega) h0 (by omega)⟩

end Go.Proofs.YtbifjffjibnjjaaDoor
