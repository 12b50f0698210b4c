/-
  Labels: the document's answers. (Own work.)
-/
import Derived.Test.YtkpnhcccocaakaaDoorF1
import Derived.Test.YtkpnhcccocaakaaDoorAbsZ
set_option linter.unusedVariables false
set_option linter.unusedSimpArgs false
namespace Go.Proofs.YtkpnhcccocaakaaDoor
open Go Go.Abs


abbrev Str := List UInt8

theorem less_eq : ∀ x y : Str, Op.bytesLess x y = decide (x < y)
  | [], y => by cases y <;> simp [Op.bytesLess]
  | a :: x, [] => by simp [Op.bytesLess]
  | a :: x, b :: y => by
    have ih := less_eq x y
    simp only [Op.bytesLess, ih, List.cons_lt_cons_iff]
    rw [Bool.eq_iff_iff]
    rcases Classical.em (a < b) with h1 | h1 <;> rcases Classical.em (a = b) with h2 | h2 <;> simp [h1, h2]

@[reducible] def vS (l : List Str) : V := .sl none false (l.map .str)

theorem drop_cons {α : Type} {l : List α} {i : Nat} {x : α} (h : l[i]? = some x) : l.drop i = x :: l.drop (i + 1) := by
  obtain ⟨hlt, he⟩ := List.getElem?_eq_some_iff.1 h
  rw [List.drop_eq_getElem_cons hlt, he]

theorem k_RHas {l : List Str} {s : Str} {σ : Sg} : ACalls Tryd.prog 46 [.v (vS l), .v (.str s)] σ fun r σ' => r = .v (.bool (decide (s ∈ l))) ∧ σ' = σ := by
  refine acalls_fit Tryd.func46 (by kernel_rfl) c46 rfl (by simp [a46]) fun hf => ?_
  simp at hf
  simp -implicitDefEqProofs (maxSteps := 2000000) (disch := omega) [-getElem?_pos, a46]
  refine W_loop (α := Nat) 0 (fun i => l.length - i) (fun i => ⟨[(0, .v (vS l)), (1, .v (.str s)), (5, .v (.int .i64 i))], σ⟩) (fun i => i ≤ l.length ∧ (s ∈ l ↔ s ∈ l.drop i))
    (.eq (by simp)) ⟨by omega, by simp⟩ fun i ⟨hi, he⟩ => ?_
  simp -implicitDefEqProofs (maxSteps := 2000000) (disch := omega) [-getElem?_pos]
  refine .mk (fun h => ?_) fun h => ?_
  · simp -implicitDefEqProofs (maxSteps := 2000000) (disch := omega) [-getElem?_pos]
    refine ⟨by omega, fun x hx => ?_⟩
    rw [drop_cons hx] at he
    refine .mk (fun hq => ?_) fun hq => ?_
    · simp -implicitDefEqProofs (maxSteps := 2000000) (disch := omega) [-getElem?_pos]
      exact .fin _ ⟨by rw [decide_eq_true (he.2 (by simp [hq]))], rfl⟩ (.refl _)
    · simp -implicitDefEqProofs (maxSteps := 2000000) (disch := omega) [-getElem?_pos]
      exact ⟨i + 1, ⟨by omega, by rw [he]; simp [Ne.symm hq]⟩, by dsimp only; omega, .eq (by simp)⟩
  · simp -implicitDefEqProofs (maxSteps := 2000000) (disch := omega) [-getElem?_pos]
    rw [List.drop_eq_nil_of_le (by omega)] at he
    exact .fin _ ⟨by rw [decide_eq_false (by simpa using he)], rfl⟩ (.refl _)

/-- How many are less. -/
def offs (l : List Str) (s : Str) : Nat := (l.filter fun x => decide (x < s)).length

/-- Do they rise? -/
def isS : List Str → Bool
  | a :: b :: l => decide (a < b) && isS (b :: l)
  | _ => true

theorem isS_step {l : List Str} {i : Nat} {x y : Str} (hx : l[i]? = some x) (hy : l[i + 1]? = some y) : isS (l.drop i) = (decide (x < y) && isS (l.drop (i + 1))) := by
  rw [drop_cons hx, drop_cons hy]
  rfl

theorem isS_last {l : List Str} {i : Nat} (h : l.length ≤ i + 1) : isS (l.drop i) = true := by
  cases hd : l.drop i with
  | nil => rfl
  | cons a t =>
    have := congrArg List.length hd
    simp at this
    have : t = [] := List.length_eq_zero_iff.1 (by omega)
    subst this
    rfl

theorem leq_eq (x y : Str) : (Op.bytesLess x y || x == y) = !decide (y < x) := by
  rw [less_eq]
  rw [Bool.eq_iff_iff]
  simp
  constructor
  · rintro (h | h)
    · exact List.not_lt.1 (List.lt_asymm h)
    · subst h; exact List.le_refl _
  · intro h
    exact List.le_iff_lt_or_eq.1 h

theorem leq_iff {x y : Str} : (Op.bytesLess y x = true ∨ y = x) ↔ ¬ x < y := by
  have := leq_eq y x
  rw [Bool.eq_iff_iff] at this
  simp at this
  rw [this]
  exact List.not_lt.symm

theorem k_Is {l : List Str} {σ : Sg} : ACalls Tryd.prog 41 [.v (vS l)] σ fun r σ' => r = .v (.bool (isS l)) ∧ σ' = σ := by
  refine acalls_fit Tryd.func41 (by kernel_rfl) c41 rfl (by simp [a41]) fun hf => ?_
  simp at hf
  simp -implicitDefEqProofs (maxSteps := 2000000) (disch := omega) [-getElem?_pos, a41]
  refine W_loop (α := Nat) 0 (fun i => l.length - i) (fun i => ⟨[(0, .v (vS l)), (5, .v (.int .i64 l.length)), (6, .v (.int .i64 i))], σ⟩) (fun i => i ≤ l.length ∧ isS l = isS (l.drop (i - 1)))
    (.eq (by simp)) ⟨by omega, by simp⟩ fun i ⟨hi, he⟩ => ?_
  simp -implicitDefEqProofs (maxSteps := 2000000) (disch := omega) [-getElem?_pos]
  refine .mk (fun h => ?_) fun h => ?_
  · simp -implicitDefEqProofs (maxSteps := 2000000) (disch := omega) [-getElem?_pos]
    refine .mk (fun h0 => ?_) fun h0 => ?_
    · obtain ⟨j, rfl⟩ : ∃ j, i = j + 1 := ⟨i - 1, by omega⟩
      simp -implicitDefEqProofs (maxSteps := 2000000) (disch := omega) [-getElem?_pos]
      repeat refine ⟨by omega, ?_⟩
      intro x hx
      repeat refine ⟨by omega, ?_⟩
      intro y hy
      simp only [Nat.add_sub_cancel] at he
      rw [isS_step hx hy] at he
      rw [less_eq]
      refine .mk (fun hq => ?_) fun hq => ?_
      rotate_left
      · simp -implicitDefEqProofs (maxSteps := 2000000) (disch := omega) [-getElem?_pos]
        exact .fin _ ⟨by rw [he, decide_eq_false (by simpa using hq)]; rfl, rfl⟩ (.refl _)
      · simp -implicitDefEqProofs (maxSteps := 2000000) (disch := omega) [-getElem?_pos]
        exact ⟨j + 1 + 1, ⟨by omega, by rw [he, decide_eq_true (by simpa using hq), Bool.true_and]; simp⟩, by dsimp only; omega, .eq (by simp)⟩
    · simp -implicitDefEqProofs (maxSteps := 2000000) (disch := omega) [-getElem?_pos]
      obtain rfl : i = 0 := by omega
      exact ⟨1, ⟨by omega, by simp⟩, by dsimp only; omega, .eq (by simp)⟩
  · simp -implicitDefEqProofs (maxSteps := 2000000) (disch := omega) [-getElem?_pos]
    rw [isS_last (by omega)] at he
    exact .fin _ ⟨by rw [he], rfl⟩ (.refl _)
end Go.Proofs.YtkpnhcccocaakaaDoor
