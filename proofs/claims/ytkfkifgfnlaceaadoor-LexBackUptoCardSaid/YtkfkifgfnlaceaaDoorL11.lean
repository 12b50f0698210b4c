/-
  Lexer: where and what an error is. (Own work.)
-/
import Derived.Test.YtkfkifgfnlaceaaDoorL10
set_option linter.unusedVariables false
set_option linter.unusedSimpArgs false
namespace Go.Proofs.YtkfkifgfnlaceaaDoor
open Go Go.Abs

theorem k_OfSpot {o : Nat} {q c : Int} {σ : Sg} (ho : σ.objs[o]? = some (spotO q c)) : ACalls Tryd.prog 24 [.iface 39 (.ptr o 0)] σ fun r σ' => r = .tup [.v (.int .i64 c), .v (.int .i64 q)] ∧ σ' = σ := by
  have hl := (List.getElem?_eq_some_iff.1 ho).1
  have go : ∀ r, (σ.objs ++ r)[o]? = some (spotO q c) := fun r => by rw [List.getElem?_append_left hl]; exact ho
  refine acalls_fit Tryd.func24 (by kernel_rfl) c24 rfl (by simp [a24]) fun hf => ?_
  clear hf
  simp -implicitDefEqProofs (maxSteps := 2000000) (disch := omega) [-getElem?_pos, a24]
  refine (k_AsHit (o := o) (c := σ.objs.length) (σ := ⟨σ.objs ++ [.cells [.v .pnil]], σ.toks⟩) (by simp)).mono fun r σ' hr => ?_
  obtain ⟨rfl, rfl⟩ := hr
  simp -implicitDefEqProofs (maxSteps := 2000000) (disch := omega) [-getElem?_pos, go]
  exact .fin _ ⟨rfl, rfl⟩ (.refl _)
def exT : List Tk := [⟨1, 0, 0, [97]⟩, ⟨6, 1, 0, [45, 62]⟩, ⟨1, 3, 0, [98]⟩]
theorem cut_up : cutL [97, 45, 62, 98] = .ok exT := by rfl
theorem cut_odd : cutL [36] = .bad 0 := by rfl
theorem k_Up {σ : Sg} : ACalls Tryd.prog 21 [] σ fun r σ' => r = .v (.bool true) ∧ σ' = σ := by
  have e1 : ACalls Tryd.prog 22 [.v (vBs [97, 45, 62, 98])] σ fun r σ' => r = .tup [.v (.sl (some 4) false (exT.map encK)), .v .inil] ∧ σ' = σ := by
    have h := k_Cut (b := [97, 45, 62, 98]) (σ := σ) (by decide)
    rw [cut_up] at h
    exact h
  refine acalls_fit Tryd.func21 (by kernel_rfl) c21 rfl (by simp [a21]) fun hf => ?_
  clear hf
  simp -implicitDefEqProofs (maxSteps := 2000000) (disch := omega) [-getElem?_pos, a21]
  refine (e1.arg1 VLe.lax.d).then fun r hr => ?_
  subst hr
  simp -implicitDefEqProofs (maxSteps := 2000000) (disch := omega) [-getElem?_pos]
  have e2 := k_Cut (b := [36]) (σ := σ) (by decide)
  rw [cut_odd] at e2
  refine (e2.arg1 VLe.lax.d).mono fun r σ' hr => ?_
  obtain ⟨o, xs, ts, rfl, rfl, hxs⟩ := hr
  have hl := (List.getElem?_eq_some_iff.1 hxs).1
  have hxs' : (σ.objs ++ xs)[σ.objs.length + o]? = some (spotO (0 : Nat) 2) := by
    rw [List.getElem?_append_right (by omega), Nat.add_sub_cancel_left]; exact hxs
  simp -implicitDefEqProofs (maxSteps := 2000000) (disch := omega) [-getElem?_pos]
  refine (k_OfSpot (σ := ⟨σ.objs ++ xs, σ.toks ++ ts⟩) hxs').mono fun r σ' hr => ?_
  obtain ⟨rfl, rfl⟩ := hr
  simp -implicitDefEqProofs (maxSteps := 2000000) (disch := omega) [-getElem?_pos, exT, encK]
  exact .fin _ ⟨rfl, rfl⟩ (.refl _)
end Go.Proofs.YtkfkifgfnlaceaaDoor
