/-
  Core expressions, walked: what something of a tuple comes to. (Own work.)
-/
import Derived.Test.YtbifjffjibnjjaaDoorK6
set_option linter.unusedVariables false
set_option linter.unusedSimpArgs false
set_option maxHeartbeats 1000000
namespace Go.Proofs.YtbifjffjibnjjaaDoor
open Go Go.Abs

theorem kind4 {v : Vl} (h : kindW v = 4) : ∃ l, v = .tup l := by cases v <;> simp [kindW] at h; exact ⟨_, rfl⟩
theorem tuple_stuck {k : Int} {t a x : Vl} {m : Ms} (h : ¬ (kindW t = 4 ∧ kindW a = 1)) : tupleM k t a x m = stuckM m := by
  unfold tupleM
  split
  · exact absurd ⟨rfl, rfl⟩ h
  · rfl
theorem k_Tuple2 {mo tt : Nat} {φ ψ : Nat → Nat} {m : Ms} {k : Int} {t a : Vl} {n L : Nat} {σ : Sg} (hk : k = 9 ∨ k = 11) (h : Sto mo tt φ ψ m σ) (ha : okV n L t) (hL : L ≤ 4000000) : ACalls Tryd.prog 82 [.ptr mo 0, .v (.int .i64 k), .v (.sl (some 6) false ([t, a].map (encW φ)))] σ (Outc mo tt φ ψ m σ (tupleM k t a zVl m)) := by
  have hml := h.mlt
  obtain ⟨a1, a2, a3, a4, a5, hca⟩ := celW_kind (φ := φ) t
  obtain ⟨b1, b2, b3, b4, b5, hcb⟩ := celW_kind (φ := φ) a
  have hea : encW φ t = .agg [.int .i64 (kindW t), a1, a2, a3, a4, a5] := by unfold encW; rw [hca]
  have heb : encW φ a = .agg [.int .i64 (kindW a), b1, b2, b3, b4, b5] := by unfold encW; rw [hcb]
  simp only [List.map_cons, List.map_nil]
  rw [hea, heb]
  have hst : ¬ (kindW t = 4 ∧ kindW a = 1) → tupleM k t a zVl m = stuckM m := tuple_stuck
  rcases hk with rfl | rfl
  · skip
    refine acalls_fit Tryd.func82 (by kernel_rfl) c82 rfl (by simp [a82]) fun hf => ?_
    clear hf
    simp -implicitDefEqProofs (maxSteps := 2000000) (disch := omega) [-getElem?_pos, a82]
    refine ⟨?_, ?_⟩
    · skip
      refine .mk (fun h4 => ?_) fun h4 => ?_
      · simp -implicitDefEqProofs (maxSteps := 2000000) (disch := omega) [-getElem?_pos]
        refine .mk (fun h1 => ?_) fun h1 => ?_
        · obtain ⟨l, rfl⟩ := kind4 h4
          obtain ⟨i, rfl⟩ := kind1 h1
          simp only [celW, encWs_eq] at hca hcb
          cases hca
          cases hcb
          obtain ⟨hl, hv⟩ := ha
          simp -implicitDefEqProofs (maxSteps := 2000000) (disch := omega) [-getElem?_pos]
          refine .mk (fun g0 => ?_) fun g0 => ?_
          · simp -implicitDefEqProofs (maxSteps := 2000000) (disch := omega) [-getElem?_pos]
            refine .mk (fun g1 => ?_) fun g1 => ?_
            · simp -implicitDefEqProofs (maxSteps := 2000000) (disch := omega) [-getElem?_pos]
              refine .mk (fun g2 => ?_) fun g2 => ?_
              · rw [show tupleM 9 (.tup l) (.int i) zVl m = stuckM m by simp [tupleM, show ¬ i < 0 by omega, g2]]
                simp -implicitDefEqProofs (maxSteps := 2000000) (disch := omega) [-getElem?_pos]
                refine (k_Stuck (h.add _)).mono fun r σ2 ⟨φ2, ψ2, hr, hA⟩ => ?_
                replace hr : r = .tup [.v zW, .v (.bool false)] := hr
                subst hr
                have h0 : σ2.objs[σ.objs.length ]? = some _ := hA.loc h (j := 0) rfl
                have hl := (List.getElem?_eq_some_iff.1 h0).1
                unfold zW
                simp -implicitDefEqProofs (maxSteps := 2000000) (disch := omega) [-getElem?_pos, h0, hl, List.getElem?_set_self]
                exact ⟨_, _, WeakR.refl _ _ _, φ2, ψ2, rfl, (hA.back h).put _ (by omega) h0 (by omega)⟩

              · simp -implicitDefEqProofs (maxSteps := 2000000) (disch := omega) [-getElem?_pos]
                refine ⟨by omega, by omega, fun x hx => ?_⟩
                obtain ⟨x0, x1, x2, x3, x4, x5, hcx⟩ := list6 (celW_len (φ := φ) x)
                have hex : encW φ x = .agg [x0, x1, x2, x3, x4, x5] := by unfold encW; rw [hcx]
                have he : tupleM 9 (.tup l) (.int i) zVl m = done x m := by simp [tupleM, show ¬ i < 0 by omega, show ¬ (l.length : Int) < i by omega, g2, hx]
                rw [hex, he]
                simp -implicitDefEqProofs (maxSteps := 2000000) (disch := omega) [-getElem?_pos]
                exact ⟨_, _, WeakR.refl _ _ _, φ, ψ, by simp [done, resW, hex], (Aft.refl h).add _⟩

            · rw [show tupleM 9 (.tup l) (.int i) zVl m = stuckM m by simp [tupleM, show (l.length : Int) < i by omega]]
              simp -implicitDefEqProofs (maxSteps := 2000000) (disch := omega) [-getElem?_pos]
              refine (k_Stuck (h.add _)).mono fun r σ2 ⟨φ2, ψ2, hr, hA⟩ => ?_
              replace hr : r = .tup [.v zW, .v (.bool false)] := hr
              subst hr
              have h0 : σ2.objs[σ.objs.length ]? = some _ := hA.loc h (j := 0) rfl
              have hl := (List.getElem?_eq_some_iff.1 h0).1
              unfold zW
              simp -implicitDefEqProofs (maxSteps := 2000000) (disch := omega) [-getElem?_pos, h0, hl, List.getElem?_set_self]
              exact ⟨_, _, WeakR.refl _ _ _, φ2, ψ2, rfl, (hA.back h).put _ (by omega) h0 (by omega)⟩

          · rw [show tupleM 9 (.tup l) (.int i) zVl m = stuckM m by simp [tupleM, show i < 0 by omega]]
            simp -implicitDefEqProofs (maxSteps := 2000000) (disch := omega) [-getElem?_pos]
            refine (k_Stuck (h.add _)).mono fun r σ2 ⟨φ2, ψ2, hr, hA⟩ => ?_
            replace hr : r = .tup [.v zW, .v (.bool false)] := hr
            subst hr
            have h0 : σ2.objs[σ.objs.length ]? = some _ := hA.loc h (j := 0) rfl
            have hl := (List.getElem?_eq_some_iff.1 h0).1
            unfold zW
            simp -implicitDefEqProofs (maxSteps := 2000000) (disch := omega) [-getElem?_pos, h0, hl, List.getElem?_set_self]
            exact ⟨_, _, WeakR.refl _ _ _, φ2, ψ2, rfl, (hA.back h).put _ (by omega) h0 (by omega)⟩

        · rw [hst fun e => h1 e.2]
          simp -implicitDefEqProofs (maxSteps := 2000000) (disch := omega) [-getElem?_pos]
          refine (k_Stuck (h.add _)).mono fun r σ2 ⟨φ2, ψ2, hr, hA⟩ => ?_
          replace hr : r = .tup [.v zW, .v (.bool false)] := hr
          subst hr
          have h0 : σ2.objs[σ.objs.length ]? = some _ := hA.loc h (j := 0) rfl
          have hl := (List.getElem?_eq_some_iff.1 h0).1
          unfold zW
          simp -implicitDefEqProofs (maxSteps := 2000000) (disch := omega) [-getElem?_pos, h0, hl, List.getElem?_set_self]
          exact ⟨_, _, WeakR.refl _ _ _, φ2, ψ2, rfl, (hA.back h).put _ (by omega) h0 (by omega)⟩

      · rw [hst fun e => h4 e.1]
        simp -implicitDefEqProofs (maxSteps := 2000000) (disch := omega) [-getElem?_pos]
        refine (k_Stuck (h.add _)).mono fun r σ2 ⟨φ2, ψ2, hr, hA⟩ => ?_
        replace hr : r = .tup [.v zW, .v (.bool false)] := hr
        subst hr
        have h0 : σ2.objs[σ.objs.length ]? = some _ := hA.loc h (j := 0) rfl
        have hl := (List.getElem?_eq_some_iff.1 h0).1
        unfold zW
        simp -implicitDefEqProofs (maxSteps := 2000000) (disch := omega) [-getElem?_pos, h0, hl, List.getElem?_set_self]
        exact ⟨_, _, WeakR.refl _ _ _, φ2, ψ2, rfl, (hA.back h).put _ (by omega) h0 (by omega)⟩


    · skip
      refine .mk (fun h4 => ?_) fun h4 => ?_
      · simp -implicitDefEqProofs (maxSteps := 2000000) (disch := omega) [-getElem?_pos]
        refine .mk (fun h1 => ?_) fun h1 => ?_
        · obtain ⟨l, rfl⟩ := kind4 h4
          obtain ⟨i, rfl⟩ := kind1 h1
          simp only [celW, encWs_eq] at hca hcb
          cases hca
          cases hcb
          obtain ⟨hl, hv⟩ := ha
          simp -implicitDefEqProofs (maxSteps := 2000000) (disch := omega) [-getElem?_pos]
          refine .mk (fun g0 => ?_) fun g0 => ?_
          · simp -implicitDefEqProofs (maxSteps := 2000000) (disch := omega) [-getElem?_pos]
            refine .mk (fun g1 => ?_) fun g1 => ?_
            · simp -implicitDefEqProofs (maxSteps := 2000000) (disch := omega) [-getElem?_pos]
              refine .mk (fun g2 => ?_) fun g2 => ?_
              · rw [show tupleM 9 (.tup l) (.int i) zVl m = stuckM m by simp [tupleM, show ¬ i < 0 by omega, g2]]
                simp -implicitDefEqProofs (maxSteps := 2000000) (disch := omega) [-getElem?_pos]
                refine (k_Stuck (h.add _)).mono fun r σ2 ⟨φ2, ψ2, hr, hA⟩ => ?_
                replace hr : r = .tup [.v zW, .v (.bool false)] := hr
                subst hr
                have h0 : σ2.objs[σ.objs.length ]? = some _ := hA.loc h (j := 0) rfl
                have hl := (List.getElem?_eq_some_iff.1 h0).1
                unfold zW
                simp -implicitDefEqProofs (maxSteps := 2000000) (disch := omega) [-getElem?_pos, h0, hl, List.getElem?_set_self]
                exact ⟨_, _, WeakR.refl _ _ _, φ2, ψ2, rfl, (hA.back h).put _ (by omega) h0 (by omega)⟩

              · simp -implicitDefEqProofs (maxSteps := 2000000) (disch := omega) [-getElem?_pos]
                refine ⟨by omega, by omega, fun x hx => ?_⟩
                obtain ⟨x0, x1, x2, x3, x4, x5, hcx⟩ := list6 (celW_len (φ := φ) x)
                have hex : encW φ x = .agg [x0, x1, x2, x3, x4, x5] := by unfold encW; rw [hcx]
                have he : tupleM 9 (.tup l) (.int i) zVl m = done x m := by simp [tupleM, show ¬ i < 0 by omega, show ¬ (l.length : Int) < i by omega, g2, hx]
                rw [hex, he]
                simp -implicitDefEqProofs (maxSteps := 2000000) (disch := omega) [-getElem?_pos]
                exact ⟨_, _, WeakR.refl _ _ _, φ, ψ, by simp [done, resW, hex], (Aft.refl h).add _⟩

            · rw [show tupleM 9 (.tup l) (.int i) zVl m = stuckM m by simp [tupleM, show (l.length : Int) < i by omega]]
              simp -implicitDefEqProofs (maxSteps := 2000000) (disch := omega) [-getElem?_pos]
              refine (k_Stuck (h.add _)).mono fun r σ2 ⟨φ2, ψ2, hr, hA⟩ => ?_
              replace hr : r = .tup [.v zW, .v (.bool false)] := hr
              subst hr
              have h0 : σ2.objs[σ.objs.length ]? = some _ := hA.loc h (j := 0) rfl
              have hl := (List.getElem?_eq_some_iff.1 h0).1
              unfold zW
              simp -implicitDefEqProofs (maxSteps := 2000000) (disch := omega) [-getElem?_pos, h0, hl, List.getElem?_set_self]
              exact ⟨_, _, WeakR.refl _ _ _, φ2, ψ2, rfl, (hA.back h).put _ (by omega) h0 (by omega)⟩

          · rw [show tupleM 9 (.tup l) (.int i) zVl m = stuckM m by simp [tupleM, show i < 0 by omega]]
            simp -implicitDefEqProofs (maxSteps := 2000000) (disch := omega) [-getElem?_pos]
            refine (k_Stuck (h.add _)).mono fun r σ2 ⟨φ2, ψ2, hr, hA⟩ => ?_
            replace hr : r = .tup [.v zW, .v (.bool false)] := hr
            subst hr
            have h0 : σ2.objs[σ.objs.length ]? = some _ := hA.loc h (j := 0) rfl
            have hl := (List.getElem?_eq_some_iff.1 h0).1
            unfold zW
            simp -implicitDefEqProofs (maxSteps := 2000000) (disch := omega) [-getElem?_pos, h0, hl, List.getElem?_set_self]
            exact ⟨_, _, WeakR.refl _ _ _, φ2, ψ2, rfl, (hA.back h).put _ (by omega) h0 (by omega)⟩

        · rw [hst fun e => h1 e.2]
          simp -implicitDefEqProofs (maxSteps := 2000000) (disch := omega) [-getElem?_pos]
          refine (k_Stuck (h.add _)).mono fun r σ2 ⟨φ2, ψ2, hr, hA⟩ => ?_
          replace hr : r = .tup [.v zW, .v (.bool false)] := hr
          subst hr
          have h0 : σ2.objs[σ.objs.length ]? = some _ := hA.loc h (j := 0) rfl
          have hl := (List.getElem?_eq_some_iff.1 h0).1
          unfold zW
          simp -implicitDefEqProofs (maxSteps := 2000000) (disch := omega) [-getElem?_pos, h0, hl, List.getElem?_set_self]
          exact ⟨_, _, WeakR.refl _ _ _, φ2, ψ2, rfl, (hA.back h).put _ (by omega) h0 (by omega)⟩

      · rw [hst fun e => h4 e.1]
        simp -implicitDefEqProofs (maxSteps := 2000000) (disch := omega) [-getElem?_pos]
        refine (k_Stuck (h.add _)).mono fun r σ2 ⟨φ2, ψ2, hr, hA⟩ => ?_
        replace hr : r = .tup [.v zW, .v (.bool false)] := hr
        subst hr
        have h0 : σ2.objs[σ.objs.length ]? = some _ := hA.loc h (j := 0) rfl
        have hl := (List.getElem?_eq_some_iff.1 h0).1
        unfold zW
        simp -implicitDefEqProofs (maxSteps := 2000000) (disch := omega) [-getElem?_pos, h0, hl, List.getElem?_set_self]
        exact ⟨_, _, WeakR.refl _ _ _, φ2, ψ2, rfl, (hA.back h).put _ (by omega) h0 (by omega)⟩


  · skip
    refine acalls_fit Tryd.func82 (by kernel_rfl) c82 rfl (by simp [a82]) fun hf => ?_
    clear hf
    simp -implicitDefEqProofs (maxSteps := 2000000) (disch := omega) [-getElem?_pos, a82]
    refine ⟨?_, ?_⟩
    · skip
      refine .mk (fun h4 => ?_) fun h4 => ?_
      · simp -implicitDefEqProofs (maxSteps := 2000000) (disch := omega) [-getElem?_pos]
        refine .mk (fun h1 => ?_) fun h1 => ?_
        · obtain ⟨l, rfl⟩ := kind4 h4
          obtain ⟨i, rfl⟩ := kind1 h1
          simp only [celW, encWs_eq] at hca hcb
          cases hca
          cases hcb
          obtain ⟨hl, hv⟩ := ha
          simp -implicitDefEqProofs (maxSteps := 2000000) (disch := omega) [-getElem?_pos]
          refine .mk (fun g0 => ?_) fun g0 => ?_
          · simp -implicitDefEqProofs (maxSteps := 2000000) (disch := omega) [-getElem?_pos]
            refine .mk (fun g1 => ?_) fun g1 => ?_
            · simp -implicitDefEqProofs (maxSteps := 2000000) (disch := omega) [-getElem?_pos]
              refine .mk (fun g2 => ?_) fun g2 => ?_
              · rw [show tupleM 11 (.tup l) (.int i) zVl m = stuckM m by simp [tupleM, show ¬ i < 0 by omega, g2]]
                simp -implicitDefEqProofs (maxSteps := 2000000) (disch := omega) [-getElem?_pos]
                refine (k_Stuck (h.add _)).mono fun r σ2 ⟨φ2, ψ2, hr, hA⟩ => ?_
                replace hr : r = .tup [.v zW, .v (.bool false)] := hr
                subst hr
                have h0 : σ2.objs[σ.objs.length ]? = some _ := hA.loc h (j := 0) rfl
                have hl := (List.getElem?_eq_some_iff.1 h0).1
                unfold zW
                simp -implicitDefEqProofs (maxSteps := 2000000) (disch := omega) [-getElem?_pos, h0, hl, List.getElem?_set_self]
                exact ⟨_, _, WeakR.refl _ _ _, φ2, ψ2, rfl, (hA.back h).put _ (by omega) h0 (by omega)⟩

              · simp -implicitDefEqProofs (maxSteps := 2000000) (disch := omega) [-getElem?_pos]
                repeat refine ⟨by omega, ?_⟩
                refine (k_ConcatAny (φ := φ) (L := [l.take i.toNat, l.drop (i.toNat + 1)]) (by rw [show (i + 1).toNat = i.toNat + 1 by omega]; simp [vX, List.map_take, List.map_drop]) (by simp [catX]; omega) (by simp)).then fun r hr => ?_
                subst hr
                have he : tupleM 11 (.tup l) (.int i) zVl m = done (.tup (l.take i.toNat ++ l.drop (i.toNat + 1))) m := by simp [tupleM, show ¬ i < 0 by omega, show ¬ (l.length : Int) < i by omega, g2]
                rw [he]
                unfold vX
                simp -implicitDefEqProofs (maxSteps := 2000000) (disch := omega) [-getElem?_pos]
                exact ⟨_, _, WeakR.refl _ _ _, φ, ψ, by simp [done, resW, encW, celW, encWs_eq, catX], (Aft.refl h).add _⟩

            · rw [show tupleM 11 (.tup l) (.int i) zVl m = stuckM m by simp [tupleM, show (l.length : Int) < i by omega]]
              simp -implicitDefEqProofs (maxSteps := 2000000) (disch := omega) [-getElem?_pos]
              refine (k_Stuck (h.add _)).mono fun r σ2 ⟨φ2, ψ2, hr, hA⟩ => ?_
              replace hr : r = .tup [.v zW, .v (.bool false)] := hr
              subst hr
              have h0 : σ2.objs[σ.objs.length ]? = some _ := hA.loc h (j := 0) rfl
              have hl := (List.getElem?_eq_some_iff.1 h0).1
              unfold zW
              simp -implicitDefEqProofs (maxSteps := 2000000) (disch := omega) [-getElem?_pos, h0, hl, List.getElem?_set_self]
              exact ⟨_, _, WeakR.refl _ _ _, φ2, ψ2, rfl, (hA.back h).put _ (by omega) h0 (by omega)⟩

          · rw [show tupleM 11 (.tup l) (.int i) zVl m = stuckM m by simp [tupleM, show i < 0 by omega]]
            simp -implicitDefEqProofs (maxSteps := 2000000) (disch := omega) [-getElem?_pos]
            refine (k_Stuck (h.add _)).mono fun r σ2 ⟨φ2, ψ2, hr, hA⟩ => ?_
            replace hr : r = .tup [.v zW, .v (.bool false)] := hr
            subst hr
            have h0 : σ2.objs[σ.objs.length ]? = some _ := hA.loc h (j := 0) rfl
            have hl := (List.getElem?_eq_some_iff.1 h0).1
            unfold zW
            simp -implicitDefEqProofs (maxSteps := 2000000) (disch := omega) [-getElem?_pos, h0, hl, List.getElem?_set_self]
            exact ⟨_, _, WeakR.refl _ _ _, φ2, ψ2, rfl, (hA.back h).put _ (by omega) h0 (by omega)⟩

        · rw [hst fun e => h1 e.2]
          simp -implicitDefEqProofs (maxSteps := 2000000) (disch := omega) [-getElem?_pos]
          refine (k_Stuck (h.add _)).mono fun r σ2 ⟨φ2, ψ2, hr, hA⟩ => ?_
          replace hr : r = .tup [.v zW, .v (.bool false)] := hr
          subst hr
          have h0 : σ2.objs[σ.objs.length ]? = some _ := hA.loc h (j := 0) rfl
          have hl := (List.getElem?_eq_some_iff.1 h0).1
          unfold zW
          simp -implicitDefEqProofs (maxSteps := 2000000) (disch := omega) [-getElem?_pos, h0, hl, List.getElem?_set_self]
          exact ⟨_, _, WeakR.refl _ _ _, φ2, ψ2, rfl, (hA.back h).put _ (by omega) h0 (by omega)⟩

      · rw [hst fun e => h4 e.1]
        simp -implicitDefEqProofs (maxSteps := 2000000) (disch := omega) [-getElem?_pos]
        refine (k_Stuck (h.add _)).mono fun r σ2 ⟨φ2, ψ2, hr, hA⟩ => ?_
        replace hr : r = .tup [.v zW, .v (.bool false)] := hr
        subst hr
        have h0 : σ2.objs[σ.objs.length ]? = some _ := hA.loc h (j := 0) rfl
        have hl := (List.getElem?_eq_some_iff.1 h0).1
        unfold zW
        simp -implicitDefEqProofs (maxSteps := 2000000) (disch := omega) [-getElem?_pos, h0, hl, List.getElem?_set_self]
        exact ⟨_, _, WeakR.refl _ _ _, φ2, ψ2, rfl, (hA.back h).put _ (by omega) h0 (by omega)⟩


    · skip
      refine .mk (fun h4 => ?_) fun h4 => ?_
      · simp -implicitDefEqProofs (maxSteps := 2000000) (disch := omega) [-getElem?_pos]
        refine .mk (fun h1 => ?_) fun h1 => ?_
        · obtain ⟨l, rfl⟩ := kind4 h4
          obtain ⟨i, rfl⟩ := kind1 h1
          simp only [celW, encWs_eq] at hca hcb
          cases hca
          cases hcb
          obtain ⟨hl, hv⟩ := ha
          simp -implicitDefEqProofs (maxSteps := 2000000) (disch := omega) [-getElem?_pos]
          refine .mk (fun g0 => ?_) fun g0 => ?_
          · simp -implicitDefEqProofs (maxSteps := 2000000) (disch := omega) [-getElem?_pos]
            refine .mk (fun g1 => ?_) fun g1 => ?_
            · simp -implicitDefEqProofs (maxSteps := 2000000) (disch := omega) [-getElem?_pos]
              refine .mk (fun g2 => ?_) fun g2 => ?_
              · rw [show tupleM 11 (.tup l) (.int i) zVl m = stuckM m by simp [tupleM, show ¬ i < 0 by omega, g2]]
                simp -implicitDefEqProofs (maxSteps := 2000000) (disch := omega) [-getElem?_pos]
                refine (k_Stuck (h.add _)).mono fun r σ2 ⟨φ2, ψ2, hr, hA⟩ => ?_
                replace hr : r = .tup [.v zW, .v (.bool false)] := hr
                subst hr
                have h0 : σ2.objs[σ.objs.length ]? = some _ := hA.loc h (j := 0) rfl
                have hl := (List.getElem?_eq_some_iff.1 h0).1
                unfold zW
                simp -implicitDefEqProofs (maxSteps := 2000000) (disch := omega) [-getElem?_pos, h0, hl, List.getElem?_set_self]
                exact ⟨_, _, WeakR.refl _ _ _, φ2, ψ2, rfl, (hA.back h).put _ (by omega) h0 (by omega)⟩

              · simp -implicitDefEqProofs (maxSteps := 2000000) (disch := omega) [-getElem?_pos]
                repeat refine ⟨by omega, ?_⟩
                refine (k_ConcatAny (φ := φ) (L := [l.take i.toNat, l.drop (i.toNat + 1)]) (by rw [show (i + 1).toNat = i.toNat + 1 by omega]; simp [vX, List.map_take, List.map_drop]) (by simp [catX]; omega) (by simp)).then fun r hr => ?_
                subst hr
                have he : tupleM 11 (.tup l) (.int i) zVl m = done (.tup (l.take i.toNat ++ l.drop (i.toNat + 1))) m := by simp [tupleM, show ¬ i < 0 by omega, show ¬ (l.length : Int) < i by omega, g2]
                rw [he]
                unfold vX
                simp -implicitDefEqProofs (maxSteps := 2000000) (disch := omega) [-getElem?_pos]
                exact ⟨_, _, WeakR.refl _ _ _, φ, ψ, by simp [done, resW, encW, celW, encWs_eq, catX], (Aft.refl h).add _⟩

            · rw [show tupleM 11 (.tup l) (.int i) zVl m = stuckM m by simp [tupleM, show (l.length : Int) < i by omega]]
              simp -implicitDefEqProofs (maxSteps := 2000000) (disch := omega) [-getElem?_pos]
              refine (k_Stuck (h.add _)).mono fun r σ2 ⟨φ2, ψ2, hr, hA⟩ => ?_
              replace hr : r = .tup [.v zW, .v (.bool false)] := hr
              subst hr
              have h0 : σ2.objs[σ.objs.length ]? = some _ := hA.loc h (j := 0) rfl
              have hl := (List.getElem?_eq_some_iff.1 h0).1
              unfold zW
              simp -implicitDefEqProofs (maxSteps := 2000000) (disch := omega) [-getElem?_pos, h0, hl, List.getElem?_set_self]
              exact ⟨_, _, WeakR.refl _ _ _, φ2, ψ2, rfl, (hA.back h).put _ (by omega) h0 (by omega)⟩

          · rw [show tupleM 11 (.tup l) (.int i) zVl m = stuckM m by simp [tupleM, show i < 0 by omega]]
            simp -implicitDefEqProofs (maxSteps := 2000000) (disch := omega) [-getElem?_pos]
            refine (k_Stuck (h.add _)).mono fun r σ2 ⟨φ2, ψ2, hr, hA⟩ => ?_
            replace hr : r = .tup [.v zW, .v (.bool false)] := hr
            subst hr
            have h0 : σ2.objs[σ.objs.length ]? = some _ := hA.loc h (j := 0) rfl
            have hl := (List.getElem?_eq_some_iff.1 h0).1
            unfold zW
            simp -implicitDefEqProofs (maxSteps := 2000000) (disch := omega) [-getElem?_pos, h0, hl, List.getElem?_set_self]
            exact ⟨_, _, WeakR.refl _ _ _, φ2, ψ2, rfl, (hA.back h).put _ (by omega) h0 (by omega)⟩

        · rw [hst fun e => h1 e.2]
          simp -implicitDefEqProofs (maxSteps := 2000000) (disch := omega) [-getElem?_pos]
          refine (k_Stuck (h.add _)).mono fun r σ2 ⟨φ2, ψ2, hr, hA⟩ => ?_
          replace hr : r = .tup [.v zW, .v (.bool false)] := hr
          subst hr
          have h0 : σ2.objs[σ.objs.length ]? = some _ := hA.loc h (j := 0) rfl
          have hl := (List.getElem?_eq_some_iff.1 h0).1
          unfold zW
          simp -implicitDefEqProofs (maxSteps := 2000000) (disch := omega) [-getElem?_pos, h0, hl, List.getElem?_set_self]
          exact ⟨_, _, WeakR.refl _ _ _, φ2, ψ2, rfl, (hA.back h).put _ (by omega) h0 (by omega)⟩

      · rw [hst fun e => h4 e.1]
        simp -implicitDefEqProofs (maxSteps := 2000000) (disch := omega) [-getElem?_pos]
        refine (k_Stuck (h.add _)).mono fun r σ2 ⟨φ2, ψ2, hr, hA⟩ => ?_
        replace hr : r = .tup [.v zW, .v (.bool false)] := hr
        subst hr
        have h0 : σ2.objs[σ.objs.length ]? = some _ := hA.loc h (j := 0) rfl
        have hl := (List.getElem?_eq_some_iff.1 h0).1
        unfold zW
        simp -implicitDefEqProofs (maxSteps := 2000000) (disch := omega) [-getElem?_pos, h0, hl, List.getElem?_set_self]
        exact ⟨_, _, WeakR.refl _ _ _, φ2, ψ2, rfl, (hA.back h).put _ (by omega) h0 (by omega)⟩


theorem k_Tuple3 {mo tt : Nat} {φ ψ : Nat → Nat} {m : Ms} {k : Int} {x t a : Vl} {n L : Nat} {σ : Sg} (hk : k = 10 ∨ k = 12) (h : Sto mo tt φ ψ m σ) (ha : okV n L t) (hL : L ≤ 4000000) : ACalls Tryd.prog 82 [.ptr mo 0, .v (.int .i64 k), .v (.sl (some 6) false ([x, a, t].map (encW φ)))] σ (Outc mo tt φ ψ m σ (tupleM k t a x m)) := by
  have hml := h.mlt
  obtain ⟨a1, a2, a3, a4, a5, hca⟩ := celW_kind (φ := φ) t
  obtain ⟨b1, b2, b3, b4, b5, hcb⟩ := celW_kind (φ := φ) a
  obtain ⟨c0, c1, c2, c3, c4, c5, hcx⟩ := list6 (celW_len (φ := φ) x)
  have hea : encW φ t = .agg [.int .i64 (kindW t), a1, a2, a3, a4, a5] := by unfold encW; rw [hca]
  have heb : encW φ a = .agg [.int .i64 (kindW a), b1, b2, b3, b4, b5] := by unfold encW; rw [hcb]
  have hex : encW φ x = .agg [c0, c1, c2, c3, c4, c5] := by unfold encW; rw [hcx]
  simp only [List.map_cons, List.map_nil]
  rw [hea, heb, hex]
  have hst : ¬ (kindW t = 4 ∧ kindW a = 1) → tupleM k t a x m = stuckM m := tuple_stuck
  rcases hk with rfl | rfl
  · skip
    refine acalls_fit Tryd.func82 (by kernel_rfl) c82 rfl (by simp [a82]) fun hf => ?_
    clear hf
    simp -implicitDefEqProofs (maxSteps := 2000000) (disch := omega) [-getElem?_pos, a82]
    refine ⟨?_, ?_⟩
    · skip
      refine .mk (fun h4 => ?_) fun h4 => ?_
      · simp -implicitDefEqProofs (maxSteps := 2000000) (disch := omega) [-getElem?_pos]
        refine .mk (fun h1 => ?_) fun h1 => ?_
        · obtain ⟨l, rfl⟩ := kind4 h4
          obtain ⟨i, rfl⟩ := kind1 h1
          simp only [celW, encWs_eq] at hca hcb
          cases hca
          cases hcb
          obtain ⟨hl, hv⟩ := ha
          simp -implicitDefEqProofs (maxSteps := 2000000) (disch := omega) [-getElem?_pos]
          refine .mk (fun g0 => ?_) fun g0 => ?_
          · simp -implicitDefEqProofs (maxSteps := 2000000) (disch := omega) [-getElem?_pos]
            refine .mk (fun g1 => ?_) fun g1 => ?_
            · simp -implicitDefEqProofs (maxSteps := 2000000) (disch := omega) [-getElem?_pos]
              refine .mk (fun g2 => ?_) fun g2 => ?_
              · subst g2
                simp -implicitDefEqProofs (maxSteps := 2000000) (disch := omega) [-getElem?_pos]
                repeat refine ⟨by omega, ?_⟩
                refine (k_ConcatAny (φ := φ) (L := [l.take (l.length : Int).toNat, [x], l.drop (l.length : Int).toNat]) (by simp [vX, List.map_take, List.map_drop, hex]) (by simp [catX]; omega) (by simp)).then fun r hr => ?_
                subst hr
                have he : tupleM 10 (.tup l) (.int (l.length : Int)) x m = done (.tup (l.take (l.length : Int).toNat ++ x :: l.drop (l.length : Int).toNat)) m := by simp [tupleM, show ¬ (l.length : Int) < 0 by omega]
                rw [he]
                unfold vX
                simp -implicitDefEqProofs (maxSteps := 2000000) (disch := omega) [-getElem?_pos]
                exact ⟨_, _, WeakR.refl _ _ _, φ, ψ, by simp [done, resW, encW, celW, encWs_eq, catX], (Aft.refl h).add _⟩

              · simp -implicitDefEqProofs (maxSteps := 2000000) (disch := omega) [-getElem?_pos]
                repeat refine ⟨by omega, ?_⟩
                refine (k_ConcatAny (φ := φ) (L := [l.take i.toNat, [x], l.drop i.toNat]) (by simp [vX, List.map_take, List.map_drop, hex]) (by simp [catX]; omega) (by simp)).then fun r hr => ?_
                subst hr
                have he : tupleM 10 (.tup l) (.int i) x m = done (.tup (l.take i.toNat ++ x :: l.drop i.toNat)) m := by simp [tupleM, show ¬ i < 0 by omega, show ¬ (l.length : Int) < i by omega]
                rw [he]
                unfold vX
                simp -implicitDefEqProofs (maxSteps := 2000000) (disch := omega) [-getElem?_pos]
                exact ⟨_, _, WeakR.refl _ _ _, φ, ψ, by simp [done, resW, encW, celW, encWs_eq, catX], (Aft.refl h).add _⟩

            · rw [show tupleM 10 (.tup l) (.int i) x m = stuckM m by simp [tupleM, show (l.length : Int) < i by omega]]
              simp -implicitDefEqProofs (maxSteps := 2000000) (disch := omega) [-getElem?_pos]
              refine (k_Stuck (h.add _)).mono fun r σ2 ⟨φ2, ψ2, hr, hA⟩ => ?_
              replace hr : r = .tup [.v zW, .v (.bool false)] := hr
              subst hr
              have h0 : σ2.objs[σ.objs.length ]? = some _ := hA.loc h (j := 0) rfl
              have hl := (List.getElem?_eq_some_iff.1 h0).1
              unfold zW
              simp -implicitDefEqProofs (maxSteps := 2000000) (disch := omega) [-getElem?_pos, h0, hl, List.getElem?_set_self]
              exact ⟨_, _, WeakR.refl _ _ _, φ2, ψ2, rfl, (hA.back h).put _ (by omega) h0 (by omega)⟩

          · rw [show tupleM 10 (.tup l) (.int i) x m = stuckM m by simp [tupleM, show i < 0 by omega]]
            simp -implicitDefEqProofs (maxSteps := 2000000) (disch := omega) [-getElem?_pos]
            refine (k_Stuck (h.add _)).mono fun r σ2 ⟨φ2, ψ2, hr, hA⟩ => ?_
            replace hr : r = .tup [.v zW, .v (.bool false)] := hr
            subst hr
            have h0 : σ2.objs[σ.objs.length ]? = some _ := hA.loc h (j := 0) rfl
            have hl := (List.getElem?_eq_some_iff.1 h0).1
            unfold zW
            simp -implicitDefEqProofs (maxSteps := 2000000) (disch := omega) [-getElem?_pos, h0, hl, List.getElem?_set_self]
            exact ⟨_, _, WeakR.refl _ _ _, φ2, ψ2, rfl, (hA.back h).put _ (by omega) h0 (by omega)⟩

        · rw [hst fun e => h1 e.2]
          simp -implicitDefEqProofs (maxSteps := 2000000) (disch := omega) [-getElem?_pos]
          refine (k_Stuck (h.add _)).mono fun r σ2 ⟨φ2, ψ2, hr, hA⟩ => ?_
          replace hr : r = .tup [.v zW, .v (.bool false)] := hr
          subst hr
          have h0 : σ2.objs[σ.objs.length ]? = some _ := hA.loc h (j := 0) rfl
          have hl := (List.getElem?_eq_some_iff.1 h0).1
          unfold zW
          simp -implicitDefEqProofs (maxSteps := 2000000) (disch := omega) [-getElem?_pos, h0, hl, List.getElem?_set_self]
          exact ⟨_, _, WeakR.refl _ _ _, φ2, ψ2, rfl, (hA.back h).put _ (by omega) h0 (by omega)⟩

      · rw [hst fun e => h4 e.1]
        simp -implicitDefEqProofs (maxSteps := 2000000) (disch := omega) [-getElem?_pos]
        refine (k_Stuck (h.add _)).mono fun r σ2 ⟨φ2, ψ2, hr, hA⟩ => ?_
        replace hr : r = .tup [.v zW, .v (.bool false)] := hr
        subst hr
        have h0 : σ2.objs[σ.objs.length ]? = some _ := hA.loc h (j := 0) rfl
        have hl := (List.getElem?_eq_some_iff.1 h0).1
        unfold zW
        simp -implicitDefEqProofs (maxSteps := 2000000) (disch := omega) [-getElem?_pos, h0, hl, List.getElem?_set_self]
        exact ⟨_, _, WeakR.refl _ _ _, φ2, ψ2, rfl, (hA.back h).put _ (by omega) h0 (by omega)⟩


    · skip
      refine .mk (fun h4 => ?_) fun h4 => ?_
      · simp -implicitDefEqProofs (maxSteps := 2000000) (disch := omega) [-getElem?_pos]
        refine .mk (fun h1 => ?_) fun h1 => ?_
        · obtain ⟨l, rfl⟩ := kind4 h4
          obtain ⟨i, rfl⟩ := kind1 h1
          simp only [celW, encWs_eq] at hca hcb
          cases hca
          cases hcb
          obtain ⟨hl, hv⟩ := ha
          simp -implicitDefEqProofs (maxSteps := 2000000) (disch := omega) [-getElem?_pos]
          refine .mk (fun g0 => ?_) fun g0 => ?_
          · simp -implicitDefEqProofs (maxSteps := 2000000) (disch := omega) [-getElem?_pos]
            refine .mk (fun g1 => ?_) fun g1 => ?_
            · simp -implicitDefEqProofs (maxSteps := 2000000) (disch := omega) [-getElem?_pos]
              refine .mk (fun g2 => ?_) fun g2 => ?_
              · subst g2
                simp -implicitDefEqProofs (maxSteps := 2000000) (disch := omega) [-getElem?_pos]
                repeat refine ⟨by omega, ?_⟩
                refine (k_ConcatAny (φ := φ) (L := [l.take (l.length : Int).toNat, [x], l.drop (l.length : Int).toNat]) (by simp [vX, List.map_take, List.map_drop, hex]) (by simp [catX]; omega) (by simp)).then fun r hr => ?_
                subst hr
                have he : tupleM 10 (.tup l) (.int (l.length : Int)) x m = done (.tup (l.take (l.length : Int).toNat ++ x :: l.drop (l.length : Int).toNat)) m := by simp [tupleM, show ¬ (l.length : Int) < 0 by omega]
                rw [he]
                unfold vX
                simp -implicitDefEqProofs (maxSteps := 2000000) (disch := omega) [-getElem?_pos]
                exact ⟨_, _, WeakR.refl _ _ _, φ, ψ, by simp [done, resW, encW, celW, encWs_eq, catX], (Aft.refl h).add _⟩

              · simp -implicitDefEqProofs (maxSteps := 2000000) (disch := omega) [-getElem?_pos]
                repeat refine ⟨by omega, ?_⟩
                refine (k_ConcatAny (φ := φ) (L := [l.take i.toNat, [x], l.drop i.toNat]) (by simp [vX, List.map_take, List.map_drop, hex]) (by simp [catX]; omega) (by simp)).then fun r hr => ?_
                subst hr
                have he : tupleM 10 (.tup l) (.int i) x m = done (.tup (l.take i.toNat ++ x :: l.drop i.toNat)) m := by simp [tupleM, show ¬ i < 0 by omega, show ¬ (l.length : Int) < i by omega]
                rw [he]
                unfold vX
                simp -implicitDefEqProofs (maxSteps := 2000000) (disch := omega) [-getElem?_pos]
                exact ⟨_, _, WeakR.refl _ _ _, φ, ψ, by simp [done, resW, encW, celW, encWs_eq, catX], (Aft.refl h).add _⟩

            · rw [show tupleM 10 (.tup l) (.int i) x m = stuckM m by simp [tupleM, show (l.length : Int) < i by omega]]
              simp -implicitDefEqProofs (maxSteps := 2000000) (disch := omega) [-getElem?_pos]
              refine (k_Stuck (h.add _)).mono fun r σ2 ⟨φ2, ψ2, hr, hA⟩ => ?_
              replace hr : r = .tup [.v zW, .v (.bool false)] := hr
              subst hr
              have h0 : σ2.objs[σ.objs.length ]? = some _ := hA.loc h (j := 0) rfl
              have hl := (List.getElem?_eq_some_iff.1 h0).1
              unfold zW
              simp -implicitDefEqProofs (maxSteps := 2000000) (disch := omega) [-getElem?_pos, h0, hl, List.getElem?_set_self]
              exact ⟨_, _, WeakR.refl _ _ _, φ2, ψ2, rfl, (hA.back h).put _ (by omega) h0 (by omega)⟩

          · rw [show tupleM 10 (.tup l) (.int i) x m = stuckM m by simp [tupleM, show i < 0 by omega]]
            simp -implicitDefEqProofs (maxSteps := 2000000) (disch := omega) [-getElem?_pos]
            refine (k_Stuck (h.add _)).mono fun r σ2 ⟨φ2, ψ2, hr, hA⟩ => ?_
            replace hr : r = .tup [.v zW, .v (.bool false)] := hr
            subst hr
            have h0 : σ2.objs[σ.objs.length ]? = some _ := hA.loc h (j := 0) rfl
            have hl := (List.getElem?_eq_some_iff.1 h0).1
            unfold zW
            simp -implicitDefEqProofs (maxSteps := 2000000) (disch := omega) [-getElem?_pos, h0, hl, List.getElem?_set_self]
            exact ⟨_, _, WeakR.refl _ _ _, φ2, ψ2, rfl, (hA.back h).put _ (by omega) h0 (by omega)⟩

        · rw [hst fun e => h1 e.2]
          simp -implicitDefEqProofs (maxSteps := 2000000) (disch := omega) [-getElem?_pos]
          refine (k_Stuck (h.add _)).mono fun r σ2 ⟨φ2, ψ2, hr, hA⟩ => ?_
          replace hr : r = .tup [.v zW, .v (.bool false)] := hr
          subst hr
          have h0 : σ2.objs[σ.objs.length ]? = some _ := hA.loc h (j := 0) rfl
          have hl := (List.getElem?_eq_some_iff.1 h0).1
          unfold zW
          simp -implicitDefEqProofs (maxSteps := 2000000) (disch := omega) [-getElem?_pos, h0, hl, List.getElem?_set_self]
          exact ⟨_, _, WeakR.refl _ _ _, φ2, ψ2, rfl, (hA.back h).put _ (by omega) h0 (by omega)⟩

      · rw [hst fun e => h4 e.1]
        simp -implicitDefEqProofs (maxSteps := 2000000) (disch := omega) [-getElem?_pos]
        refine (k_Stuck (h.add _)).mono fun r σ2 ⟨φ2, ψ2, hr, hA⟩ => ?_
        replace hr : r = .tup [.v zW, .v (.bool false)] := hr
        subst hr
        have h0 : σ2.objs[σ.objs.length ]? = some _ := hA.loc h (j := 0) rfl
        have hl := (List.getElem?_eq_some_iff.1 h0).1
        unfold zW
        simp -implicitDefEqProofs (maxSteps := 2000000) (disch := omega) [-getElem?_pos, h0, hl, List.getElem?_set_self]
        exact ⟨_, _, WeakR.refl _ _ _, φ2, ψ2, rfl, (hA.back h).put _ (by omega) h0 (by omega)⟩


  · skip
    refine acalls_fit Tryd.func82 (by kernel_rfl) c82 rfl (by simp [a82]) fun hf => ?_
    clear hf
    simp -implicitDefEqProofs (maxSteps := 2000000) (disch := omega) [-getElem?_pos, a82]
    refine ⟨?_, ?_⟩
    · skip
      refine .mk (fun h4 => ?_) fun h4 => ?_
      · simp -implicitDefEqProofs (maxSteps := 2000000) (disch := omega) [-getElem?_pos]
        refine .mk (fun h1 => ?_) fun h1 => ?_
        · obtain ⟨l, rfl⟩ := kind4 h4
          obtain ⟨i, rfl⟩ := kind1 h1
          simp only [celW, encWs_eq] at hca hcb
          cases hca
          cases hcb
          obtain ⟨hl, hv⟩ := ha
          simp -implicitDefEqProofs (maxSteps := 2000000) (disch := omega) [-getElem?_pos]
          refine .mk (fun g0 => ?_) fun g0 => ?_
          · simp -implicitDefEqProofs (maxSteps := 2000000) (disch := omega) [-getElem?_pos]
            refine .mk (fun g1 => ?_) fun g1 => ?_
            · simp -implicitDefEqProofs (maxSteps := 2000000) (disch := omega) [-getElem?_pos]
              refine .mk (fun g2 => ?_) fun g2 => ?_
              · rw [show tupleM 12 (.tup l) (.int i) x m = stuckM m by simp [tupleM, show ¬ i < 0 by omega, g2]]
                simp -implicitDefEqProofs (maxSteps := 2000000) (disch := omega) [-getElem?_pos]
                refine (k_Stuck (h.add _)).mono fun r σ2 ⟨φ2, ψ2, hr, hA⟩ => ?_
                replace hr : r = .tup [.v zW, .v (.bool false)] := hr
                subst hr
                have h0 : σ2.objs[σ.objs.length ]? = some _ := hA.loc h (j := 0) rfl
                have hl := (List.getElem?_eq_some_iff.1 h0).1
                unfold zW
                simp -implicitDefEqProofs (maxSteps := 2000000) (disch := omega) [-getElem?_pos, h0, hl, List.getElem?_set_self]
                exact ⟨_, _, WeakR.refl _ _ _, φ2, ψ2, rfl, (hA.back h).put _ (by omega) h0 (by omega)⟩

              · simp -implicitDefEqProofs (maxSteps := 2000000) (disch := omega) [-getElem?_pos]
                repeat refine ⟨by omega, ?_⟩
                refine (k_ConcatAny (φ := φ) (L := [l.take i.toNat, [x], l.drop (i.toNat + 1)]) (by rw [show (i + 1).toNat = i.toNat + 1 by omega]; simp [vX, List.map_take, List.map_drop, hex]) (by simp [catX]; omega) (by simp)).then fun r hr => ?_
                subst hr
                have he : tupleM 12 (.tup l) (.int i) x m = done (.tup (l.take i.toNat ++ x :: l.drop (i.toNat + 1))) m := by simp [tupleM, show ¬ i < 0 by omega, show ¬ (l.length : Int) < i by omega, g2]
                rw [he]
                unfold vX
                simp -implicitDefEqProofs (maxSteps := 2000000) (disch := omega) [-getElem?_pos]
                exact ⟨_, _, WeakR.refl _ _ _, φ, ψ, by simp [done, resW, encW, celW, encWs_eq, catX], (Aft.refl h).add _⟩

            · rw [show tupleM 12 (.tup l) (.int i) x m = stuckM m by simp [tupleM, show (l.length : Int) < i by omega]]
              simp -implicitDefEqProofs (maxSteps := 2000000) (disch := omega) [-getElem?_pos]
              refine (k_Stuck (h.add _)).mono fun r σ2 ⟨φ2, ψ2, hr, hA⟩ => ?_
              replace hr : r = .tup [.v zW, .v (.bool false)] := hr
              subst hr
              have h0 : σ2.objs[σ.objs.length ]? = some _ := hA.loc h (j := 0) rfl
              have hl := (List.getElem?_eq_some_iff.1 h0).1
              unfold zW
              simp -implicitDefEqProofs (maxSteps := 2000000) (disch := omega) [-getElem?_pos, h0, hl, List.getElem?_set_self]
              exact ⟨_, _, WeakR.refl _ _ _, φ2, ψ2, rfl, (hA.back h).put _ (by omega) h0 (by omega)⟩

          · rw [show tupleM 12 (.tup l) (.int i) x m = stuckM m by simp [tupleM, show i < 0 by omega]]
            simp -implicitDefEqProofs (maxSteps := 2000000) (disch := omega) [-getElem?_pos]
            refine (k_Stuck (h.add _)).mono fun r σ2 ⟨φ2, ψ2, hr, hA⟩ => ?_
            replace hr : r = .tup [.v zW, .v (.bool false)] := hr
            subst hr
            have h0 : σ2.objs[σ.objs.length ]? = some _ := hA.loc h (j := 0) rfl
            have hl := (List.getElem?_eq_some_iff.1 h0).1
            unfold zW
            simp -implicitDefEqProofs (maxSteps := 2000000) (disch := omega) [-getElem?_pos, h0, hl, List.getElem?_set_self]
            exact ⟨_, _, WeakR.refl _ _ _, φ2, ψ2, rfl, (hA.back h).put _ (by omega) h0 (by omega)⟩

        · rw [hst fun e => h1 e.2]
          simp -implicitDefEqProofs (maxSteps := 2000000) (disch := omega) [-getElem?_pos]
          refine (k_Stuck (h.add _)).mono fun r σ2 ⟨φ2, ψ2, hr, hA⟩ => ?_
          replace hr : r = .tup [.v zW, .v (.bool false)] := hr
          subst hr
          have h0 : σ2.objs[σ.objs.length ]? = some _ := hA.loc h (j := 0) rfl
          have hl := (List.getElem?_eq_some_iff.1 h0).1
          unfold zW
          simp -implicitDefEqProofs (maxSteps := 2000000) (disch := omega) [-getElem?_pos, h0, hl, List.getElem?_set_self]
          exact ⟨_, _, WeakR.refl _ _ _, φ2, ψ2, rfl, (hA.back h).put _ (by omega) h0 (by omega)⟩

      · rw [hst fun e => h4 e.1]
        simp -implicitDefEqProofs (maxSteps := 2000000) (disch := omega) [-getElem?_pos]
        refine (k_Stuck (h.add _)).mono fun r σ2 ⟨φ2, ψ2, hr, hA⟩ => ?_
        replace hr : r = .tup [.v zW, .v (.bool false)] := hr
        subst hr
        have h0 : σ2.objs[σ.objs.length ]? = some _ := hA.loc h (j := 0) rfl
        have hl := (List.getElem?_eq_some_iff.1 h0).1
        unfold zW
        simp -implicitDefEqProofs (maxSteps := 2000000) (disch := omega) [-getElem?_pos, h0, hl, List.getElem?_set_self]
        exact ⟨_, _, WeakR.refl _ _ _, φ2, ψ2, rfl, (hA.back h).put _ (by omega) h0 (by omega)⟩


    · skip
      refine .mk (fun h4 => ?_) fun h4 => ?_
      · simp -implicitDefEqProofs (maxSteps := 2000000) (disch := omega) [-getElem?_pos]
        refine .mk (fun h1 => ?_) fun h1 => ?_
        · obtain ⟨l, rfl⟩ := kind4 h4
          obtain ⟨i, rfl⟩ := kind1 h1
          simp only [celW, encWs_eq] at hca hcb
          cases hca
          cases hcb
          obtain ⟨hl, hv⟩ := ha
          simp -implicitDefEqProofs (maxSteps := 2000000) (disch := omega) [-getElem?_pos]
          refine .mk (fun g0 => ?_) fun g0 => ?_
          · simp -implicitDefEqProofs (maxSteps := 2000000) (disch := omega) [-getElem?_pos]
            refine .mk (fun g1 => ?_) fun g1 => ?_
            · simp -implicitDefEqProofs (maxSteps := 2000000) (disch := omega) [-getElem?_pos]
              refine .mk (fun g2 => ?_) fun g2 => ?_
              · rw [show tupleM 12 (.tup l) (.int i) x m = stuckM m by simp [tupleM, show ¬ i < 0 by omega, g2]]
                simp -implicitDefEqProofs (maxSteps := 2000000) (disch := omega) [-getElem?_pos]
                refine (k_Stuck (h.add _)).mono fun r σ2 ⟨φ2, ψ2, hr, hA⟩ => ?_
                replace hr : r = .tup [.v zW, .v (.bool false)] := hr
                subst hr
                have h0 : σ2.objs[σ.objs.length ]? = some _ := hA.loc h (j := 0) rfl
                have hl := (List.getElem?_eq_some_iff.1 h0).1
                unfold zW
                simp -implicitDefEqProofs (maxSteps := 2000000) (disch := omega) [-getElem?_pos, h0, hl, List.getElem?_set_self]
                exact ⟨_, _, WeakR.refl _ _ _, φ2, ψ2, rfl, (hA.back h).put _ (by omega) h0 (by omega)⟩

              · simp -implicitDefEqProofs (maxSteps := 2000000) (disch := omega) [-getElem?_pos]
                repeat refine ⟨by omega, ?_⟩
                refine (k_ConcatAny (φ := φ) (L := [l.take i.toNat, [x], l.drop (i.toNat + 1)]) (by rw [show (i + 1).toNat = i.toNat + 1 by omega]; simp [vX, List.map_take, List.map_drop, hex]) (by simp [catX]; omega) (by simp)).then fun r hr => ?_
                subst hr
                have he : tupleM 12 (.tup l) (.int i) x m = done (.tup (l.take i.toNat ++ x :: l.drop (i.toNat + 1))) m := by simp [tupleM, show ¬ i < 0 by omega, show ¬ (l.length : Int) < i by omega, g2]
                rw [he]
                unfold vX
                simp -implicitDefEqProofs (maxSteps := 2000000) (disch := omega) [-getElem?_pos]
                exact ⟨_, _, WeakR.refl _ _ _, φ, ψ, by simp [done, resW, encW, celW, encWs_eq, catX], (Aft.refl h).add _⟩

            · rw [show tupleM 12 (.tup l) (.int i) x m = stuckM m by simp [tupleM, show (l.length : Int) < i by omega]]
              simp -implicitDefEqProofs (maxSteps := 2000000) (disch := omega) [-getElem?_pos]
              refine (k_Stuck (h.add _)).mono fun r σ2 ⟨φ2, ψ2, hr, hA⟩ => ?_
              replace hr : r = .tup [.v zW, .v (.bool false)] := hr
              subst hr
              have h0 : σ2.objs[σ.objs.length ]? = some _ := hA.loc h (j := 0) rfl
              have hl := (List.getElem?_eq_some_iff.1 h0).1
              unfold zW
              simp -implicitDefEqProofs (maxSteps := 2000000) (disch := omega) [-getElem?_pos, h0, hl, List.getElem?_set_self]
              exact ⟨_, _, WeakR.refl _ _ _, φ2, ψ2, rfl, (hA.back h).put _ (by omega) h0 (by omega)⟩

          · rw [show tupleM 12 (.tup l) (.int i) x m = stuckM m by simp [tupleM, show i < 0 by omega]]
            simp -implicitDefEqProofs (maxSteps := 2000000) (disch := omega) [-getElem?_pos]
            refine (k_Stuck (h.add _)).mono fun r σ2 ⟨φ2, ψ2, hr, hA⟩ => ?_
            replace hr : r = .tup [.v zW, .v (.bool false)] := hr
            subst hr
            have h0 : σ2.objs[σ.objs.length ]? = some _ := hA.loc h (j := 0) rfl
            have hl := (List.getElem?_eq_some_iff.1 h0).1
            unfold zW
            simp -implicitDefEqProofs (maxSteps := 2000000) (disch := omega) [-getElem?_pos, h0, hl, List.getElem?_set_self]
            exact ⟨_, _, WeakR.refl _ _ _, φ2, ψ2, rfl, (hA.back h).put _ (by omega) h0 (by omega)⟩

        · rw [hst fun e => h1 e.2]
          simp -implicitDefEqProofs (maxSteps := 2000000) (disch := omega) [-getElem?_pos]
          refine (k_Stuck (h.add _)).mono fun r σ2 ⟨φ2, ψ2, hr, hA⟩ => ?_
          replace hr : r = .tup [.v zW, .v (.bool false)] := hr
          subst hr
          have h0 : σ2.objs[σ.objs.length ]? = some _ := hA.loc h (j := 0) rfl
          have hl := (List.getElem?_eq_some_iff.1 h0).1
          unfold zW
          simp -implicitDefEqProofs (maxSteps := 2000000) (disch := omega) [-getElem?_pos, h0, hl, List.getElem?_set_self]
          exact ⟨_, _, WeakR.refl _ _ _, φ2, ψ2, rfl, (hA.back h).put _ (by omega) h0 (by omega)⟩

      · rw [hst fun e => h4 e.1]
        simp -implicitDefEqProofs (maxSteps := 2000000) (disch := omega) [-getElem?_pos]
        refine (k_Stuck (h.add _)).mono fun r σ2 ⟨φ2, ψ2, hr, hA⟩ => ?_
        replace hr : r = .tup [.v zW, .v (.bool false)] := hr
        subst hr
        have h0 : σ2.objs[σ.objs.length ]? = some _ := hA.loc h (j := 0) rfl
        have hl := (List.getElem?_eq_some_iff.1 h0).1
        unfold zW
        simp -implicitDefEqProofs (maxSteps := 2000000) (disch := omega) [-getElem?_pos, h0, hl, List.getElem?_set_self]
        exact ⟨_, _, WeakR.refl _ _ _, φ2, ψ2, rfl, (hA.back h).put _ (by omega) h0 (by omega)⟩


end Go.Proofs.YtbifjffjibnjjaaDoor
