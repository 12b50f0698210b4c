/-
  Expressions, walked: the record without labels; operators. (Own work.)
-/
import Derived.Test.YtbifjffjibnjjaaDoorO4
set_option linter.unusedVariables false
set_option linter.unusedSimpArgs false
set_option maxHeartbeats 1000000
namespace Go.Proofs.YtbifjffjibnjjaaDoor
open Go Go.Abs

def unitC (o : Nat) : List D := [.v (.int .i64 4), .v (.int .i64 0), .v (.str []), .map o, .v .pnil, .v .pnil]
theorem k_UnitM {σ : Sg} : ACalls Tryd.prog 87 [] σ fun r σ' => r = .ptr (σ.objs.length + 1) 0 ∧ σ' = ⟨σ.objs ++ [.map [], .cells (unitC σ.objs.length)], σ.toks⟩ := by
  refine acalls_fit Tryd.func87 (by kernel_rfl) c87 rfl (by simp [a87]) fun hf => ?_
  clear hf
  simp -implicitDefEqProofs (maxSteps := 2000000) (disch := omega) [-getElem?_pos, a87]
  exact ⟨_, _, WeakR.refl _ _ _, by simp, by simp [unitC]⟩
theorem giv_v {n : Nat} {σ : Sg} {y : V} : Giv n σ (.v y) y := .inl rfl
theorem giv6 {n : Nat} {σ : Sg} {a b c e f : V} {d : D} {y : V} (h : Giv n σ d y) : ∀ (i : Nat) d' y', [D.v a, D.v b, D.v c, d, D.v e, D.v f][i]? = some d' → [a, b, c, y, e, f][i]? = some y' → Giv n σ d' y' := by
  intro i d' y' h1 h2
  match i with
  | 0 => cases h1; cases h2; exact giv_v
  | 1 => cases h1; cases h2; exact giv_v
  | 2 => cases h1; cases h2; exact giv_v
  | 3 => cases h1; cases h2; exact h
  | 4 => cases h1; cases h2; exact giv_v
  | 5 => cases h1; cases h2; exact giv_v
  | n + 6 => cases h1
theorem k_Unit {φ : Nat → Nat} {σ : Sg} : ACalls Tryd.prog 87 [] σ fun r σ' => r = .v (encP φ (.rcd .nil)) ∧ σ' = σ := by
  refine acalls_fit Tryd.func87 (by kernel_rfl) c87 rfl (by simp [a87]) fun hf => ?_
  clear hf
  simp -implicitDefEqProofs (maxSteps := 2000000) (disch := omega) [-getElem?_pos, a87]
  exact .freezeP [.int .i64 4, .int .i64 0, .str [], .fmap [], .pnil, .pnil] (unitC σ.objs.length) ⟨by simp [encP, boxP, encF], rfl⟩ (by simp [unitC]) (by simp [unitC]) rfl (giv6 (.inr ⟨σ.objs.length, [], rfl, Nat.le_refl _, by simp [fmD], rfl⟩))
theorem set_same {α : Type} {l : List α} {i : Nat} {x : α} (h : l[i]? = some x) : l.set i x = l := by
  obtain ⟨hl, rfl⟩ := List.getElem?_eq_some_iff.1 h
  exact List.set_getElem_self hl
/-- A number that is worked out. -/
def numC (n : Int) : List D := [.v (.int .i64 1), .v (.int .i64 n), .v (.str []), .v .mnil, .v .pnil, .v .pnil]
theorem k_Flag {b : Bool} {ov ob : Nat} {σ : Sg} (h1 : σ.objs[ov]? = some (.cells [.ptr ob 0])) (h2 : σ.objs[ob]? = some (.cells (numC 0))) : ACalls Tryd.prog 105 [.v (.bool b), .ptr ov 0] σ fun r σ' => r = .tup [] ∧ σ' = ⟨σ.objs.set ob (.cells (numC (flagC b))), σ.toks⟩ := by
  have hl := (List.getElem?_eq_some_iff.1 h2).1
  have h2x := h2
  unfold numC at h2x
  refine acalls_fit Tryd.func105 (by kernel_rfl) c105 rfl (by simp [a105]) fun hf => ?_
  clear hf
  cases b with
  | true =>
    simp -implicitDefEqProofs (maxSteps := 2000000) (disch := omega) [-getElem?_pos, a105, h1, h2x, hl]
    exact ⟨_, _, WeakR.refl _ _ _, rfl, rfl⟩
  | false =>
    simp -implicitDefEqProofs (maxSteps := 2000000) (disch := omega) [-getElem?_pos, a105]
    refine ⟨_, _, WeakR.refl _ _ _, rfl, ?_⟩
    rw [show σ.objs.set ob (.cells (numC (flagC false))) = σ.objs from set_same h2]
theorem opM_stuck {s : Str} {a b : Vl} {m : Ms} (h1 : ¬ (kindV a = 2 ∧ kindV b = 2)) (h2 : ¬ (kindV a = 2 ∧ kindV b = 1)) (h3 : ¬ (kindV a = 1 ∧ kindV b = 1)) : opM s a b m = stuckM m := by
  cases a <;> cases b <;> first | rfl | (simp [kindV] at h1 h2 h3)
theorem arith_stuck {s : Str} {a b : Vl} {m : Ms} (h : kindV a = 2 ∧ kindV b = 2) (hs : s ≠ [94]) : opM s a b m = stuckM m := by
  cases a <;> cases b <;> simp [kindV] at h
  simp [opM, hs]
theorem index_stuck {s : Str} {a b : Vl} {m : Ms} (h : kindV a = 2 ∧ kindV b = 1) (hs : s ≠ [35]) : opM s a b m = stuckM m := by
  cases a <;> cases b <;> simp [kindV] at h
  simp [opM, hs]
theorem kind2 {v : Vl} (h : kindV v = 2) : ∃ s, v = .text s := by cases v <;> simp [kindV] at h; exact ⟨_, rfl⟩
theorem kind1 {v : Vl} (h : kindV v = 1) : ∃ n, v = .int n := by cases v <;> simp [kindV] at h; exact ⟨_, rfl⟩
theorem areW2 {a b : Vl} {x y : Int} : areW [a, b] [x, y] = decide (kindV a = x ∧ kindV b = y) := by
  simp only [areW, Bool.and_true]
  by_cases h1 : kindV a = x <;> by_cases h2 : kindV b = y <;> simp [h1, h2]
theorem and_of {x y a b : Int} (h : ¬ (¬ x = a ∨ ¬ y = b)) : x = a ∧ y = b := ⟨Decidable.byContradiction fun e => h (.inl e), Decidable.byContradiction fun e => h (.inr e)⟩
theorem not_and_of {x y a b : Int} (h : ¬ x = a ∨ ¬ y = b) : ¬ (x = a ∧ y = b) := fun e => h.elim (fun k => k e.1) fun k => k e.2
theorem k_Op {mo tt : Nat} {φ ψ : Nat → Nat} {m : Ms} {s : Str} {a b : Vl} {L : Nat} {f : Bool} {σ : Sg} (h : Sto mo tt φ ψ m σ) (ha : okV m.st.length L a) (hb : okV m.st.length L b) (hL : L ≤ 1000000000) : ACalls Tryd.prog 89 [.ptr mo 0, .v (.str s), .v (.sl none f ([a, b].map (encP φ)))] σ (Outc mo tt φ ψ m σ (opM s a b m)) := by
  have hml := h.mlt
  have k1 := fun (x y : Int) => k_Are (ks := [x, y]) (f := f) (l := [a, b]) h ⟨ha, hb, trivial⟩ (by simp) (by simp)
  simp only [areW2, List.map_cons, List.map_nil] at k1 ⊢
  have kf := fun (b : Bool) => k_Flag (b := b) (ov := σ.objs.length + 1) (ob := σ.objs.length) (σ := ⟨σ.objs ++ [.cells (numC 0), .cells [.ptr σ.objs.length 0]], σ.toks⟩) (by simp) (by simp)
  refine acalls_fit Tryd.func89 (by kernel_rfl) c89m rfl (by simp [a89m]) fun hf => ?_
  clear hf
  simp -implicitDefEqProofs (maxSteps := 2000000) (disch := omega) [-getElem?_pos, a89m]
  refine .mk (fun hs => ?_) fun hs => ?_
  · subst hs
    simp -implicitDefEqProofs (maxSteps := 2000000) (disch := omega) [-getElem?_pos]
    refine (k1 2 2).then fun r hr => ?_
    subst hr
    simp -implicitDefEqProofs (maxSteps := 2000000) (disch := omega) [-getElem?_pos]
    refine .mk (fun hq => ?_) fun hq => ?_
    · obtain ⟨x, rfl⟩ := kind2 hq.1
      obtain ⟨y, rfl⟩ := kind2 hq.2
      simp only [encP, boxP]
      simp only [okV] at ha hb
      simp -implicitDefEqProofs (maxSteps := 2000000) (disch := omega) [-getElem?_pos]
      refine .mk (fun hq2 => ?_) fun hq2 => ?_
      · have he : opM [94] (.text x) (.text y) m = endM 9 2 m := by
          have : x.length + y.length > 2000 := by omega
          simp [opM, this]
        rw [he]
        simp -implicitDefEqProofs (maxSteps := 2000000) (disch := omega) [-getElem?_pos]
        refine (k_End h).mono fun r σ2 ⟨φ2, ψ2, hr, hA⟩ => ?_
        subst hr
        simp -implicitDefEqProofs (maxSteps := 2000000) (disch := omega) [-getElem?_pos]
        exact ⟨_, _, WeakR.refl _ _ _, φ2, ψ2, rfl, hA⟩

      · have he : opM [94] (.text x) (.text y) m = done (.text (x ++ y)) m := by
          have : ¬ x.length + y.length > 2000 := by omega
          simp [opM, this]
        rw [he]
        simp -implicitDefEqProofs (maxSteps := 2000000) (disch := omega) [-getElem?_pos]
        refine ⟨by omega, ?_⟩
        exact ⟨_, _, WeakR.refl _ _ _, φ, ψ, by simp [done, resW, encP, boxP], Aft.refl h⟩
    · simp -implicitDefEqProofs (maxSteps := 2000000) (disch := omega) [-getElem?_pos]
      refine (k1 1 1).then fun r hr => ?_
      subst hr
      simp -implicitDefEqProofs (maxSteps := 2000000) (disch := omega) [-getElem?_pos]
      refine .mk (fun hq3 => ?_) fun hq3 => ?_
      · replace hq3 := not_and_of hq3
        have he : opM [94] a b m = stuckM m := by
          by_cases h4 : kindV a = 2 ∧ kindV b = 1
          · exact index_stuck h4 (by simp)
          · exact opM_stuck hq h4 hq3
        rw [he]
        simp -implicitDefEqProofs (maxSteps := 2000000) (disch := omega) [-getElem?_pos]
        refine (k_Stuck h).mono fun r σ2 ⟨φ2, ψ2, hr, hA⟩ => ?_
        subst hr
        simp -implicitDefEqProofs (maxSteps := 2000000) (disch := omega) [-getElem?_pos]
        exact ⟨_, _, WeakR.refl _ _ _, φ2, ψ2, rfl, hA⟩

      · replace hq3 := and_of hq3
        obtain ⟨x, rfl⟩ := kind1 hq3.1
        obtain ⟨y, rfl⟩ := kind1 hq3.2
        have he : opM [94] (.int x) (.int y) m = stuckM m := by simp [opM, arithM]
        rw [he]
        simp -implicitDefEqProofs (maxSteps := 2000000) (disch := omega) [-getElem?_pos]
        refine (k_Stuck (h.add _)).mono fun r σ2 ⟨φ2, ψ2, hr, hA⟩ => ?_
        subst hr
        simp -implicitDefEqProofs (maxSteps := 2000000) (disch := omega) [-getElem?_pos]
        exact ⟨_, _, WeakR.refl _ _ _, φ2, ψ2, rfl, (hA.back h)⟩

  · simp -implicitDefEqProofs (maxSteps := 2000000) (disch := omega) [-getElem?_pos]
    refine .mk (fun hs2 => ?_) fun hs2 => ?_
    · subst hs2
      simp -implicitDefEqProofs (maxSteps := 2000000) (disch := omega) [-getElem?_pos]
      refine (k1 2 1).then fun r hr => ?_
      subst hr
      simp -implicitDefEqProofs (maxSteps := 2000000) (disch := omega) [-getElem?_pos]
      refine .mk (fun hq => ?_) fun hq => ?_
      · obtain ⟨x, rfl⟩ := kind2 hq.1
        obtain ⟨y, rfl⟩ := kind1 hq.2
        simp only [encP, boxP]
        simp only [okV] at ha hb
        simp -implicitDefEqProofs (maxSteps := 2000000) (disch := omega) [-getElem?_pos]
        refine .mk (fun hy => ?_) fun hy => ?_
        · simp -implicitDefEqProofs (maxSteps := 2000000) (disch := omega) [-getElem?_pos]
          refine .mk (fun hy2 => ?_) fun hy2 => ?_
          · have he : opM [35] (.text x) (.int y) m = endM 9 2 m := by
              have h1 : ¬ y < 0 := by omega
              have h2 : x[y.toNat]? = none := List.getElem?_eq_none (by omega)
              simp [opM, h1, h2]
            rw [he]
            simp -implicitDefEqProofs (maxSteps := 2000000) (disch := omega) [-getElem?_pos]
            refine (k_End h).mono fun r σ2 ⟨φ2, ψ2, hr, hA⟩ => ?_
            subst hr
            simp -implicitDefEqProofs (maxSteps := 2000000) (disch := omega) [-getElem?_pos]
            exact ⟨_, _, WeakR.refl _ _ _, φ2, ψ2, rfl, hA⟩

          · obtain ⟨c, hc⟩ : ∃ c, x[y.toNat]? = some c := ⟨_, List.getElem?_eq_getElem (by omega)⟩
            have he : opM [35] (.text x) (.int y) m = done (.int c.toNat) m := by
              have h1 : ¬ y < 0 := by omega
              simp [opM, h1, hc]
            rw [he]
            simp -implicitDefEqProofs (maxSteps := 2000000) (disch := omega) [-getElem?_pos, hc]
            refine ⟨by omega, by omega, ?_⟩
            have hcl := c.toNat_lt
            rw [wrap_i64 (by omega) (by omega)]
            exact ⟨_, _, WeakR.refl _ _ _, φ, ψ, by simp [done, resW, encP, boxP], Aft.refl h⟩
        · have he : opM [35] (.text x) (.int y) m = endM 9 2 m := by
            have : y < 0 := by omega
            simp [opM, this]
          rw [he]
          simp -implicitDefEqProofs (maxSteps := 2000000) (disch := omega) [-getElem?_pos]
          refine (k_End h).mono fun r σ2 ⟨φ2, ψ2, hr, hA⟩ => ?_
          subst hr
          simp -implicitDefEqProofs (maxSteps := 2000000) (disch := omega) [-getElem?_pos]
          exact ⟨_, _, WeakR.refl _ _ _, φ2, ψ2, rfl, hA⟩

      · simp -implicitDefEqProofs (maxSteps := 2000000) (disch := omega) [-getElem?_pos]
        refine (k1 1 1).then fun r hr => ?_
        subst hr
        simp -implicitDefEqProofs (maxSteps := 2000000) (disch := omega) [-getElem?_pos]
        refine .mk (fun hq3 => ?_) fun hq3 => ?_
        · replace hq3 := not_and_of hq3
          have he : opM [35] a b m = stuckM m := by
            by_cases h4 : kindV a = 2 ∧ kindV b = 2
            · exact arith_stuck h4 (by simp)
            · exact opM_stuck h4 hq hq3
          rw [he]
          simp -implicitDefEqProofs (maxSteps := 2000000) (disch := omega) [-getElem?_pos]
          refine (k_Stuck h).mono fun r σ2 ⟨φ2, ψ2, hr, hA⟩ => ?_
          subst hr
          simp -implicitDefEqProofs (maxSteps := 2000000) (disch := omega) [-getElem?_pos]
          exact ⟨_, _, WeakR.refl _ _ _, φ2, ψ2, rfl, hA⟩

        · replace hq3 := and_of hq3
          obtain ⟨x, rfl⟩ := kind1 hq3.1
          obtain ⟨y, rfl⟩ := kind1 hq3.2
          have he : opM [35] (.int x) (.int y) m = stuckM m := by simp [opM, arithM]
          rw [he]
          simp -implicitDefEqProofs (maxSteps := 2000000) (disch := omega) [-getElem?_pos]
          refine (k_Stuck (h.add _)).mono fun r σ2 ⟨φ2, ψ2, hr, hA⟩ => ?_
          subst hr
          simp -implicitDefEqProofs (maxSteps := 2000000) (disch := omega) [-getElem?_pos]
          exact ⟨_, _, WeakR.refl _ _ _, φ2, ψ2, rfl, (hA.back h)⟩

    · simp -implicitDefEqProofs (maxSteps := 2000000) (disch := omega) [-getElem?_pos]
      refine (k1 1 1).then fun r hr => ?_
      subst hr
      simp -implicitDefEqProofs (maxSteps := 2000000) (disch := omega) [-getElem?_pos]
      refine .mk (fun hq3 => ?_) fun hq3 => ?_
      · replace hq3 := not_and_of hq3
        have he : opM s a b m = stuckM m := by
          by_cases h4 : kindV a = 2 ∧ kindV b = 2
          · exact arith_stuck h4 hs
          · by_cases h5 : kindV a = 2 ∧ kindV b = 1
            · exact index_stuck h5 hs2
            · exact opM_stuck h4 h5 hq3
        rw [he]
        simp -implicitDefEqProofs (maxSteps := 2000000) (disch := omega) [-getElem?_pos]
        refine (k_Stuck h).mono fun r σ2 ⟨φ2, ψ2, hr, hA⟩ => ?_
        subst hr
        simp -implicitDefEqProofs (maxSteps := 2000000) (disch := omega) [-getElem?_pos]
        exact ⟨_, _, WeakR.refl _ _ _, φ2, ψ2, rfl, hA⟩

      · replace hq3 := and_of hq3
        obtain ⟨x, rfl⟩ := kind1 hq3.1
        obtain ⟨y, rfl⟩ := kind1 hq3.2
        simp only [encP, boxP]
        have he : opM s (.int x) (.int y) m = arithM s x y m := rfl
        rw [he]
        simp -implicitDefEqProofs (maxSteps := 2000000) (disch := omega) [-getElem?_pos]
        refine .mk (fun g0 => ?_) fun g0 => ?_
        · subst g0
          simp -implicitDefEqProofs (maxSteps := 2000000) (disch := omega) [-getElem?_pos]
          have he : arithM [43] x y m = done (.int (IntKind.i64.wrap (x + y))) m := by simp [arithM]
          rw [he]
          exact .freezeP [.int .i64 1, .int .i64 (IntKind.i64.wrap (x + y)), .str [], .mnil, .pnil, .pnil] (numC (IntKind.i64.wrap (x + y))) ⟨φ, ψ, by simp [done, resW, encP, boxP], Aft.refl h⟩ (by simp [numC]) (by simp [numC]) rfl (giv6 giv_v)
        simp -implicitDefEqProofs (maxSteps := 2000000) (disch := omega) [-getElem?_pos]
        refine .mk (fun g1 => ?_) fun g1 => ?_
        · subst g1
          simp -implicitDefEqProofs (maxSteps := 2000000) (disch := omega) [-getElem?_pos]
          have he : arithM [45] x y m = done (.int (IntKind.i64.wrap (x - y))) m := by simp [arithM]
          rw [he]
          exact .freezeP [.int .i64 1, .int .i64 (IntKind.i64.wrap (x - y)), .str [], .mnil, .pnil, .pnil] (numC (IntKind.i64.wrap (x - y))) ⟨φ, ψ, by simp [done, resW, encP, boxP], Aft.refl h⟩ (by simp [numC]) (by simp [numC]) rfl (giv6 giv_v)
        simp -implicitDefEqProofs (maxSteps := 2000000) (disch := omega) [-getElem?_pos]
        refine .mk (fun g2 => ?_) fun g2 => ?_
        · subst g2
          simp -implicitDefEqProofs (maxSteps := 2000000) (disch := omega) [-getElem?_pos]
          have he : arithM [42] x y m = done (.int (IntKind.i64.wrap (x * y))) m := by simp [arithM]
          rw [he]
          exact .freezeP [.int .i64 1, .int .i64 (IntKind.i64.wrap (x * y)), .str [], .mnil, .pnil, .pnil] (numC (IntKind.i64.wrap (x * y))) ⟨φ, ψ, by simp [done, resW, encP, boxP], Aft.refl h⟩ (by simp [numC]) (by simp [numC]) rfl (giv6 giv_v)
        simp -implicitDefEqProofs (maxSteps := 2000000) (disch := omega) [-getElem?_pos]
        refine .mk (fun g3 => ?_) fun g3 => ?_
        · subst g3
          simp -implicitDefEqProofs (maxSteps := 2000000) (disch := omega) [-getElem?_pos]
          refine .mk (fun hz => ?_) fun hz => ?_
          · have he : arithM [47] x y m = endM 9 1 m := by simp [arithM, hz]
            rw [he]
            simp -implicitDefEqProofs (maxSteps := 2000000) (disch := omega) [-getElem?_pos]
            refine (k_End (h.add _)).mono fun r σ2 ⟨φ2, ψ2, hr, hA⟩ => ?_
            subst hr
            simp -implicitDefEqProofs (maxSteps := 2000000) (disch := omega) [-getElem?_pos]
            exact ⟨_, _, WeakR.refl _ _ _, φ2, ψ2, rfl, (hA.back h)⟩

          · have he : arithM [47] x y m = done (.int (IntKind.i64.wrap (x.tdiv y))) m := by simp [arithM, hz]
            rw [he]
            simp -implicitDefEqProofs (maxSteps := 2000000) (disch := omega) [-getElem?_pos]
            refine ⟨hz, ?_⟩
            exact .freezeP [.int .i64 1, .int .i64 (IntKind.i64.wrap (x.tdiv y)), .str [], .mnil, .pnil, .pnil] (numC (IntKind.i64.wrap (x.tdiv y))) ⟨φ, ψ, by simp [done, resW, encP, boxP], Aft.refl h⟩ (by simp [numC]) (by simp [numC]) rfl (giv6 giv_v)
        simp -implicitDefEqProofs (maxSteps := 2000000) (disch := omega) [-getElem?_pos]
        refine .mk (fun g4 => ?_) fun g4 => ?_
        · subst g4
          simp -implicitDefEqProofs (maxSteps := 2000000) (disch := omega) [-getElem?_pos]
          refine (kf _).mono fun r σ2 ⟨hr, hs⟩ => ?_
          subst hr hs
          simp -implicitDefEqProofs (maxSteps := 2000000) (disch := omega) [-getElem?_pos]
          have he : arithM [60] x y m = done (.int (flagC (decide (x < y)))) m := by simp [arithM]
          rw [he]
          exact .freezeP [.int .i64 1, .int .i64 (flagC (decide (x < y))), .str [], .mnil, .pnil, .pnil] (numC (flagC (decide (x < y)))) ⟨φ, ψ, by simp [done, resW, encP, boxP], Aft.refl h⟩ (by simp [numC]) (by simp [numC]) rfl (giv6 giv_v)
        simp -implicitDefEqProofs (maxSteps := 2000000) (disch := omega) [-getElem?_pos]
        refine .mk (fun g5 => ?_) fun g5 => ?_
        · subst g5
          simp -implicitDefEqProofs (maxSteps := 2000000) (disch := omega) [-getElem?_pos]
          refine (kf _).mono fun r σ2 ⟨hr, hs⟩ => ?_
          subst hr hs
          simp -implicitDefEqProofs (maxSteps := 2000000) (disch := omega) [-getElem?_pos]
          have he : arithM [61, 61] x y m = done (.int (flagC (x == y))) m := by simp [arithM]
          rw [he]
          exact .freezeP [.int .i64 1, .int .i64 (flagC (x == y)), .str [], .mnil, .pnil, .pnil] (numC (flagC (x == y))) ⟨φ, ψ, by simp [done, resW, encP, boxP], Aft.refl h⟩ (by simp [numC]) (by simp [numC]) rfl (giv6 giv_v)
        simp -implicitDefEqProofs (maxSteps := 2000000) (disch := omega) [-getElem?_pos]
        have he2 : arithM s x y m = stuckM m := by simp [arithM, g0, g1, g2, g3, g4, g5]
        rw [he2]
        refine (k_Stuck (h.add _)).mono fun r σ2 ⟨φ2, ψ2, hr, hA⟩ => ?_
        subst hr
        simp -implicitDefEqProofs (maxSteps := 2000000) (disch := omega) [-getElem?_pos]
        exact ⟨_, _, WeakR.refl _ _ _, φ2, ψ2, rfl, (hA.back h)⟩

end Go.Proofs.YtbifjffjibnjjaaDoor
