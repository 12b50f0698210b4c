/-
  The statements of layer 1. (Own work.)
-/
import Derived.Test.YtcbdnndgnbgnaaaW4
set_option linter.unusedVariables false
set_option linter.unusedSimpArgs false
namespace Go.Proofs.Ytcbdnndgnbgnaaa
open Go Go.Abs

theorem intCode : intTy Try.prog 32 = true := by kernel_rfl

theorem packA : packV [97] = [word false 1, word false 97] := by kernel_rfl

theorem k_Up (σ : Sg) : ACalls Try.prog 10 [] σ fun r σ' => r = .v (.bool true) ∧ σ' = σ := by
  refine acalls_fit Try.func10 (by kernel_rfl) c10 rfl (by simp [a10]) fun hf => ?_
  simp -implicitDefEqProofs (maxSteps := 2000000) (disch := omega) [-getElem?_pos, a10]
  refine (k_Head _ _ _).then2 fun r h1 h2 => ?_
  obtain rfl := h1 (by unfold headOk; omega)
  clear h1 h2
  simp -implicitDefEqProofs (maxSteps := 2000000) (disch := omega) [-getElem?_pos]
  refine (k_Head _ _ _).then2 fun r h1 h2 => ?_
  obtain rfl := h2 (by unfold headOk; omega)
  clear h1 h2
  simp -implicitDefEqProofs (maxSteps := 2000000) (disch := omega) [-getElem?_pos]
  refine (show ACalls Try.prog 23 [.v (.sl none true [.int .u8 97])] _ _ from k_Pack [97] true (by simp) _).then fun r hr => ?_
  rw [packA] at hr
  subst hr
  simp -implicitDefEqProofs (maxSteps := 2000000) (disch := omega) [-getElem?_pos, intCode]
  exact .fin _ ⟨rfl, rfl⟩ (.refl _)

theorem k_WordPacks (bs : List UInt8) (L : List Wd) (f g : Bool) (σ : Sg) : ACalls Try.prog 4 [.v (.sl none f (bytesV bs)), .v (.sl (some 2) g (L.map wv))] σ fun r σ' => r = .v (.bool true) := by
  refine acalls_fit Try.func4 (by kernel_rfl) c4 rfl (by simp [a4]) fun hf => ?_
  simp at hf
  simp -implicitDefEqProofs (maxSteps := 2000000) (disch := omega) [-getElem?_pos, a4]
  refine (k_Up _).then fun r hr => ?_
  subst hr
  by_cases h1 : (bs.length : Int) ≤ 2000
  rotate_left
  · simp -implicitDefEqProofs (maxSteps := 2000000) (disch := omega) [-getElem?_pos, h1]
    exact .fin _ rfl (.refl _)
  by_cases h2 : (300 : Int) < L.length
  · simp -implicitDefEqProofs (maxSteps := 2000000) (disch := omega) [-getElem?_pos, h1, h2]
    exact .fin _ rfl (.refl _)
  simp -implicitDefEqProofs (maxSteps := 2000000) (disch := omega) [-getElem?_pos, h1, h2]
  have hL : ok64 L := fun w hw => hf.2.2 w hw
  refine (k_Unpack L _ (by omega) _).then2 fun r ho hn => ?_
  cases hu : unpackOk L with
  | true =>
    obtain rfl := ho hu
    clear ho hn
    simp -implicitDefEqProofs (maxSteps := 2000000) (disch := omega) [-getElem?_pos]
    refine (k_All L _ (by omega) _).then fun r hr => ?_
    subst hr
    simp -implicitDefEqProofs (maxSteps := 2000000) (disch := omega) [-getElem?_pos]
    refine (k_RUnpack L _ (by omega) _).then fun r hr => ?_
    subst hr
    rw [runpack_ok hL hu]
    simp -implicitDefEqProofs (maxSteps := 2000000) (disch := omega) [-getElem?_pos]
    refine (k_Pack bs _ (by omega) _).then fun r hr => ?_
    subst hr
    rw [packV_eq]
    simp -implicitDefEqProofs (maxSteps := 2000000) (disch := omega) [-getElem?_pos]
    refine (k_All (packL bs) _ ?_ _).then fun r hr => ?_
    · simp [packL]; omega
    subst hr
    simp -implicitDefEqProofs (maxSteps := 2000000) (disch := omega) [-getElem?_pos]
    refine ((k_RPack bs (by omega) _).arg1 .lax).then fun r hr => ?_
    subst hr
    rw [packV_eq]
    simp -implicitDefEqProofs (maxSteps := 2000000) (disch := omega) [-getElem?_pos]
    refine (k_RSame _ _ _ _ _).then fun r hr => ?_
    subst hr
    simp -implicitDefEqProofs (maxSteps := 2000000) (disch := omega) [-getElem?_pos]
    exact .fin _ rfl (.refl _)
  | false =>
    obtain rfl := hn hu
    clear ho hn
    simp -implicitDefEqProofs (maxSteps := 2000000) (disch := omega) [-getElem?_pos]
    refine (k_All L _ (by omega) _).then fun r hr => ?_
    subst hr
    simp -implicitDefEqProofs (maxSteps := 2000000) (disch := omega) [-getElem?_pos]
    refine (k_RUnpack L _ (by omega) _).then fun r hr => ?_
    subst hr
    obtain ⟨xs, hx⟩ := runpack_no hL hu
    rw [hx]
    simp -implicitDefEqProofs (maxSteps := 2000000) (disch := omega) [-getElem?_pos, intCode]
    refine (k_Pack bs _ (by omega) _).then fun r hr => ?_
    subst hr
    rw [packV_eq]
    simp -implicitDefEqProofs (maxSteps := 2000000) (disch := omega) [-getElem?_pos]
    refine (k_All (packL bs) _ ?_ _).then fun r hr => ?_
    · simp [packL]; omega
    subst hr
    simp -implicitDefEqProofs (maxSteps := 2000000) (disch := omega) [-getElem?_pos]
    refine ((k_RPack bs (by omega) _).arg1 .lax).then fun r hr => ?_
    subst hr
    rw [packV_eq]
    simp -implicitDefEqProofs (maxSteps := 2000000) (disch := omega) [-getElem?_pos]
    refine (k_RSame _ _ _ _ _).then fun r hr => ?_
    subst hr
    simp -implicitDefEqProofs (maxSteps := 2000000) (disch := omega) [-getElem?_pos]
    exact .fin _ rfl (.refl _)

theorem k_WordTells (kind size : Int) (w : Wd) (n place : Int) (σ : Sg) : ACalls Try.prog 3 [.v (.int .i64 kind), .v (.int .i64 size), .v (wv w), .v (.int .i64 n), .v (.int .i64 place)] σ fun r σ' => r = .v (.bool true) := by
  refine acalls_fit Try.func3 (by kernel_rfl) c3 rfl (by simp [a3]) fun hf => ?_
  simp at hf
  simp -implicitDefEqProofs (maxSteps := 2000000) (disch := omega) [-getElem?_pos, a3]
  refine (k_Up _).then fun r hr => ?_
  subst hr
  simp -implicitDefEqProofs (maxSteps := 2000000) (disch := omega) [-getElem?_pos]
  obtain ⟨p, m⟩ := w
  have hm := hf.2.2.1
  have hpl := hf.2.2.2.2
  obtain ⟨a, b, c, hp⟩ : ∃ a b c, parts p m = [.int .i64 a, .int .i64 b, .bool c] := by
    unfold parts
    split
    · exact ⟨_, _, _, rfl⟩
    · exact ⟨_, _, _, rfl⟩
  by_cases hh : headOk kind size
  · refine (k_Head _ _ _).then2 fun r h1 h2 => ?_
    obtain rfl := h1 hh
    clear h1 h2
    simp -implicitDefEqProofs (maxSteps := 2000000) (disch := omega) [-getElem?_pos]
    refine (k_RHead _ _ _).then2 fun r h1 h2 => ?_
    obtain rfl := h1 hh
    clear h1 h2
    simp -implicitDefEqProofs (maxSteps := 2000000) (disch := omega) [-getElem?_pos]
    refine (k_As _ _ _).then fun r hr => ?_
    subst hr
    simp -implicitDefEqProofs (maxSteps := 2000000) (disch := omega) [-getElem?_pos]
    refine (k_Parts _ _ _).then fun r hr => ?_
    subst hr
    rw [hp]
    simp -implicitDefEqProofs (maxSteps := 2000000) (disch := omega) [-getElem?_pos]
    refine (k_As _ _ _).then fun r hr => ?_
    subst hr
    simp -implicitDefEqProofs (maxSteps := 2000000) (disch := omega) [-getElem?_pos]
    refine (k_RParts _ _ _).then fun r hr => ?_
    subst hr
    rw [hp]
    simp -implicitDefEqProofs (maxSteps := 2000000) (disch := omega) [-getElem?_pos]
    refine (k_Moved _ _ _).then fun r hr => ?_
    subst hr
    simp -implicitDefEqProofs (maxSteps := 2000000) (disch := omega) [-getElem?_pos]
    cases p
    · simp -implicitDefEqProofs (maxSteps := 2000000) (disch := omega) [-getElem?_pos]
      refine (k_Int _ _).then fun r hr => ?_
      subst hr
      simp -implicitDefEqProofs (maxSteps := 2000000) (disch := omega) [-getElem?_pos]
      refine (k_At _ _).then fun r hr => ?_
      subst hr
      simp -implicitDefEqProofs (maxSteps := 2000000) (disch := omega) [-getElem?_pos]
      exact .fin _ rfl (.refl _)
    · simp -implicitDefEqProofs (maxSteps := 2000000) (disch := omega) [-getElem?_pos]
      refine (k_Int _ _).then fun r hr => ?_
      subst hr
      simp -implicitDefEqProofs (maxSteps := 2000000) (disch := omega) [-getElem?_pos]
      refine (k_At _ _).then fun r hr => ?_
      subst hr
      simp -implicitDefEqProofs (maxSteps := 2000000) (disch := omega) [-getElem?_pos]
      exact .fin _ rfl (.refl _)
  · refine (k_Head _ _ _).then2 fun r h1 h2 => ?_
    obtain rfl := h2 hh
    clear h1 h2
    simp -implicitDefEqProofs (maxSteps := 2000000) (disch := omega) [-getElem?_pos]
    refine (k_RHead _ _ _).then2 fun r h1 h2 => ?_
    obtain rfl := h2 hh
    clear h1 h2
    simp -implicitDefEqProofs (maxSteps := 2000000) (disch := omega) [-getElem?_pos]
    refine ⟨intCode, ?_⟩
    refine (k_Parts _ _ _).then fun r hr => ?_
    subst hr
    rw [hp]
    simp -implicitDefEqProofs (maxSteps := 2000000) (disch := omega) [-getElem?_pos]
    refine (k_As _ _ _).then fun r hr => ?_
    subst hr
    simp -implicitDefEqProofs (maxSteps := 2000000) (disch := omega) [-getElem?_pos]
    refine (k_RParts _ _ _).then fun r hr => ?_
    subst hr
    rw [hp]
    simp -implicitDefEqProofs (maxSteps := 2000000) (disch := omega) [-getElem?_pos]
    refine (k_Moved _ _ _).then fun r hr => ?_
    subst hr
    simp -implicitDefEqProofs (maxSteps := 2000000) (disch := omega) [-getElem?_pos]
    cases p
    · simp -implicitDefEqProofs (maxSteps := 2000000) (disch := omega) [-getElem?_pos]
      refine (k_Int _ _).then fun r hr => ?_
      subst hr
      simp -implicitDefEqProofs (maxSteps := 2000000) (disch := omega) [-getElem?_pos]
      refine (k_At _ _).then fun r hr => ?_
      subst hr
      simp -implicitDefEqProofs (maxSteps := 2000000) (disch := omega) [-getElem?_pos]
      exact .fin _ rfl (.refl _)
    · simp -implicitDefEqProofs (maxSteps := 2000000) (disch := omega) [-getElem?_pos]
      refine (k_Int _ _).then fun r hr => ?_
      subst hr
      simp -implicitDefEqProofs (maxSteps := 2000000) (disch := omega) [-getElem?_pos]
      refine (k_At _ _).then fun r hr => ?_
      subst hr
      simp -implicitDefEqProofs (maxSteps := 2000000) (disch := omega) [-getElem?_pos]
      exact .fin _ rfl (.refl _)

end Go.Proofs.Ytcbdnndgnbgnaaa
