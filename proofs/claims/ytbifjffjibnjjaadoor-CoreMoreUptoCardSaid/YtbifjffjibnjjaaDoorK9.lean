/-
  Core expressions, walked: one part, in a slice that may be written to. (Own work.)
-/
import Derived.Test.YtbifjffjibnjjaaDoorK8
set_option linter.unusedVariables false
set_option linter.unusedSimpArgs false
set_option maxHeartbeats 1000000
namespace Go.Proofs.YtbifjffjibnjjaaDoor
open Go Go.Abs

/-- One value in a slice of its own. -/
def One1 (mo tt : Nat) (φ ψ : Nat → Nat) (m : Ms) (σ : Sg) (rs : Rs Vl) (d : D) (σ' : Sg) : Prop := ∃ φ' ψ' v o c rest, rs.v = some v ∧ d = .msl o 0 1 (some 6) (some c) ∧ σ.objs.length ≤ o ∧ σ'.objs[o]? = some (.cells ((celW φ' v).map .v ++ rest)) ∧ Aft mo tt φ ψ m σ φ' ψ' rs.m σ'
def Outm (mo tt : Nat) (φ ψ : Nat → Nat) (m : Ms) (σ : Sg) (rs : Rs Vl) (r : D) (σ' : Sg) : Prop :=
  (rs.v = none ∧ r = .tup [.v .snil, .v (.bool false)] ∧ ∃ φ' ψ', Aft mo tt φ ψ m σ φ' ψ' rs.m σ') ∨ ∃ d, r = .tup [d, .v (.bool true)] ∧ One1 mo tt φ ψ m σ rs d σ'
structure AllM where
  i : Nat
  d : D
  τ : Sg
theorem k_AllM {mo tt g : Nat} {φ ψ : Nat → Nat} {m : Ms} {L : Nat} {env : En} {e : Co} {σ : Sg} (hR : EvCt mo tt g) (h : Okm mo tt φ ψ m L σ) (hl : okC L e) (he : okE m.st.length L env) (hf0 : m.fuel < g) :
    ACalls Tryd.prog 53 [.ptr mo 0, .v (.sl (some 6) false [encC e]), .v (encN φ env)] σ (Outm mo tt φ ψ m σ (evM g e env m)) := by
  have hml := h.sto.mlt
  have hS := h.sto
  obtain ⟨c0, c1, c2, c3, c4, c5, hco⟩ := list6 (show (coV e).length = 6 by cases e; rfl)
  have hec : encC e = .agg [c0, c1, c2, c3, c4, c5] := by rw [encC_coV, hco]
  have hev := hR e env m φ ψ ⟨σ.objs ++ [.cells [.v c0, .v c1, .v c2, .v c3, .v c4, .v c5]], σ.toks⟩ L ⟨hS.add _, h.ok, h.lo, h.hi⟩ hl he hf0
  rw [hec] at hev ⊢
  generalize evM g e env m = rs at hev ⊢
  refine acalls_fit Tryd.func53 (by kernel_rfl) c53M rfl (by simp [a53M]) fun hf => ?_
  clear hf
  simp -implicitDefEqProofs (maxSteps := 2000000) (disch := omega) [-getElem?_pos, a53M]
  refine W_loop (α := AllM) ⟨0, .v .snil, σ⟩ (fun x => 1 - x.i) (fun x => ⟨[(0, .ptr mo 0), (2, .v (encN φ env)), (8, x.d), (13, .v (.sl (some 6) false [.agg [c0, c1, c2, c3, c4, c5]])), (14, .v (.int .i64 1)), (15, .v (.int .i64 x.i))], x.τ⟩) (fun x => x = ⟨0, .v .snil, σ⟩ ∨ x.i = 1 ∧ One1 mo tt φ ψ m σ rs x.d x.τ)
    (.eq (by simp)) (.inl rfl) fun x hx => ?_
  rcases hx with rfl | ⟨hi, hx⟩
  · simp -implicitDefEqProofs (maxSteps := 2000000) (disch := omega) [-getElem?_pos]
    refine hev.mono fun r σ2 ⟨φ2, ψ2, hr, hA⟩ => ?_
    have hA2 := hA.back hS
    obtain ⟨v, m2⟩ := rs
    dsimp only at hr hA hA2
    cases v with
    | none =>
      subst hr
      unfold resW zW
      simp -implicitDefEqProofs (maxSteps := 2000000) (disch := omega) [-getElem?_pos]
      exact ⟨_, _, WeakR.refl _ _ _, .inl ⟨rfl, rfl, φ2, ψ2, hA2.add _⟩⟩
    | some v =>
      subst hr
      obtain ⟨d0, d1, d2, d3, d4, d5, hcv⟩ := list6 (celW_len (φ := φ2) v)
      have hvv : encW φ2 v = .agg [d0, d1, d2, d3, d4, d5] := by unfold encW; rw [hcv]
      rw [show resW φ2 (some v) = .tup [.v (encW φ2 v), .v (.bool true)] from rfl, hvv]
      simp -implicitDefEqProofs (maxSteps := 2000000) (disch := omega) [-getElem?_pos]
      refine ⟨one6 (hcv ▸ celW_one (φ := φ2) v), fun c hc1 hc2 => ?_⟩
      refine ⟨⟨1, .msl (σ2.objs.length + 1) 0 1 (some 6) (some c), ⟨σ2.objs ++ [.cells [.v d0, .v d1, .v d2, .v d3, .v d4, .v d5], .cells ([.v d0, .v d1, .v d2, .v d3, .v d4, .v d5] ++ List.replicate ((c - 1) * 6) .junk)], σ2.toks⟩⟩,
        .inr ⟨rfl, φ2, ψ2, v, σ2.objs.length + 1, c, List.replicate ((c - 1) * 6) .junk, rfl, rfl, by have := hA2.objs; omega, by simp [hcv], hA2.add _⟩, by dsimp only; omega, .eq2 (by simp [V.flat]) (by simp)⟩
  · obtain ⟨i, d, τ⟩ := x
    dsimp only at hi hx ⊢
    subst hi
    simp -implicitDefEqProofs (maxSteps := 2000000) (disch := omega) [-getElem?_pos]
    exact ⟨_, _, WeakR.refl _ _ _, .inr ⟨_, rfl, hx⟩⟩
end Go.Proofs.YtbifjffjibnjjaaDoor
