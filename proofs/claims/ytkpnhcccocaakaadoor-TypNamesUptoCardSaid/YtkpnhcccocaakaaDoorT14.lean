/-
  Types: those that are made. (Own work.)
-/
import Derived.Test.YtkpnhcccocaakaaDoorT13
set_option linter.unusedVariables false
set_option linter.unusedSimpArgs false
namespace Go.Proofs.YtkpnhcccocaakaaDoor
open Go Go.Abs

theorem tp_le {k n tl : Int} {l : List Tp} {ls : List Str} {x y : V} (hx : VLe x (.sl (some 5) false (l.map encT))) (hy : VLe y (vS ls)) : VLe (.agg [.int .i64 k, .int .i64 n, x, y, .int .i64 tl]) (encT (.mk k n l ls tl)) := by
  rw [encT_mk]
  refine VLe.agg ⟨.refl _, .refl _, hx, hy, .refl _, trivial⟩ fun c hc => ?_
  simp only [List.mem_cons, List.not_mem_nil, or_false] at hc
  rcases hc with rfl | rfl | rfl | rfl | rfl <;> rfl
theorem k_CloneS {l : List Str} {σ : Sg} (hl : l.length ≤ 1048576) : ACalls Tryd.prog 34 [.v (vS l)] σ fun r σ' => r = .v (vS l) ∧ σ' = σ := by
  refine acalls_fit Tryd.func34 (by kernel_rfl) c34 rfl (by simp [a34]) fun hf => ?_
  clear hf
  cases l with
  | nil =>
    simp -implicitDefEqProofs (maxSteps := 2000000) (disch := omega) [-getElem?_pos, a34]
    exact ⟨.fin _ ⟨rfl, rfl⟩ .tsl, .fin _ ⟨rfl, rfl⟩ .snil⟩
  | cons x l =>
    simp only [List.length_cons] at hl
    simp -implicitDefEqProofs (maxSteps := 2000000) (disch := omega) [-getElem?_pos, a34]
    exact ⟨by omega, .fin _ ⟨by simp, rfl⟩ .tsl⟩
theorem k_CloneT {l : List Tp} {σ : Sg} (hl : l.length ≤ 1048576) : ACalls Tryd.prog 35 [.v (.sl (some 5) false (l.map encT))] σ fun r σ' => r = .v (.sl (some 5) false (l.map encT)) ∧ σ' = σ := by
  refine acalls_fit Tryd.func35 (by kernel_rfl) c35 rfl (by simp [a35]) fun hf => ?_
  clear hf
  cases l with
  | nil =>
    simp -implicitDefEqProofs (maxSteps := 2000000) (disch := omega) [-getElem?_pos, a35]
    exact ⟨.fin _ ⟨rfl, rfl⟩ .tsl, .fin _ ⟨rfl, rfl⟩ .snil⟩
  | cons x l =>
    simp only [List.length_cons] at hl
    simp -implicitDefEqProofs (maxSteps := 2000000) (disch := omega) [-getElem?_pos, a35]
    exact ⟨by omega, .fin _ ⟨by simp, rfl⟩ .tsl⟩
theorem k_Row {k tl : Int} {l : List Tp} {ls : List Str} {σ : Sg} (h1 : l.length ≤ 1048576) (h2 : ls.length ≤ 1048576) : ACalls Tryd.prog 15 [.v (.int .i64 k), .v (vS ls), .v (.sl (some 5) false (l.map encT)), .v (.int .i64 tl)] σ fun r σ' => r = .v (encT (.mk k 0 l ls tl)) ∧ σ' = σ := by
  refine acalls_fit Tryd.func15 (by kernel_rfl) c15 rfl (by simp [a15]) fun hf => ?_
  clear hf
  simp -implicitDefEqProofs (maxSteps := 2000000) (disch := omega) [-getElem?_pos, a15]
  refine (k_CloneS h2).then fun r hr => ?_
  subst hr
  simp -implicitDefEqProofs (maxSteps := 2000000) (disch := omega) [-getElem?_pos]
  refine (k_CloneT h1).then fun r hr => ?_
  subst hr
  simp -implicitDefEqProofs (maxSteps := 2000000) (disch := omega) [-getElem?_pos]
  exact .finS _ σ ⟨by rw [encT_mk], rfl⟩ (.refl _) (fun ob h => .inl h) (by simp) (by simp) (by simp) (by simp) (by simp)
theorem k_Var {n : Int} {σ : Sg} : ACalls Tryd.prog 19 [.v (.int .i64 n)] σ fun r σ' => r = .v (encT (.mk 7 n [] [] (-1))) ∧ σ' = σ := by
  refine acalls_fit Tryd.func19 (by kernel_rfl) c19 rfl (by simp [a19]) fun hf => ?_
  clear hf
  simp -implicitDefEqProofs (maxSteps := 2000000) (disch := omega) [-getElem?_pos, a19]
  exact .finS _ σ ⟨rfl, rfl⟩ (tp_le .snil .snil).d (fun ob h => .inl h) (by simp) (by simp) (by simp) (by simp) (by simp)
theorem k_Fn {a b : Tp} {σ : Sg} : ACalls Tryd.prog 17 [.v (encT a), .v (encT b)] σ fun r σ' => r = .v (encT (.mk 3 0 [a, b] [] (-1))) ∧ σ' = σ := by
  have hx : VLe (.sl (some 5) true [encT a, encT b]) (.sl (some 5) false ([a, b].map encT)) := .lax
  have hle := tp_le (k := 3) (n := 0) (tl := -1) (ls := []) hx .snil
  obtain ⟨k, n, l, ls, tl⟩ := a
  obtain ⟨k2, n2, l2, ls2, tl2⟩ := b
  rw [encT_mk (k := k), encT_mk (k := k2)] at hle ⊢
  refine acalls_fit Tryd.func17 (by kernel_rfl) c17 rfl (by simp [a17]) fun hf => ?_
  clear hf
  simp -implicitDefEqProofs (maxSteps := 2000000) (disch := omega) [-getElem?_pos, a17]
  exact .finS _ σ ⟨rfl, rfl⟩ hle.d (fun ob h => .inl h) (by simp) (by simp) (by simp) (by simp) (by simp)
end Go.Proofs.YtkpnhcccocaakaaDoor
