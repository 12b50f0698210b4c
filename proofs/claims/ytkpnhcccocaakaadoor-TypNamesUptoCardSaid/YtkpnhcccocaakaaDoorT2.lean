/-
  Types: whether they may be. (Own work.)
-/
import Derived.Test.YtkpnhcccocaakaaDoorT1
set_option linter.unusedVariables false
set_option linter.unusedSimpArgs false
namespace Go.Proofs.YtkpnhcccocaakaaDoor
open Go Go.Abs

theorem beq_dec {a b : Str} : (a == b) = decide (a = b) := by cases h : decide (a = b) <;> simp at h <;> simp [h]
/-- A type. -/
inductive Tp where
  | mk (k n : Int) (l : List Tp) (ls : List Str) (tl : Int)
mutual
def encT : Tp → V
  | .mk k n l ls tl => .agg [.int .i64 k, .int .i64 n, .sl (some 5) false (encTs l), .sl none false (ls.map .str), .int .i64 tl]
def encTs : List Tp → List V
  | [] => []
  | x :: l => encT x :: encTs l
end
theorem encTs_eq : ∀ l, encTs l = l.map encT
  | [] => by simp [encTs]
  | x :: l => by simp [encTs, encTs_eq l]
theorem encT_mk {k n : Int} {l : List Tp} {ls : List Str} {tl : Int} : encT (.mk k n l ls tl) = .agg [.int .i64 k, .int .i64 n, .sl (some 5) false (l.map encT), .sl none false (ls.map .str), .int .i64 tl] := by
  rw [encT, encTs_eq]
theorem encT_shape (e : Tp) : (encT e).shape = some 5 := by
  cases e
  rw [encT_mk]
  rfl
attribute [irreducible] encT
theorem Tp.ind {P : Tp → Prop} (h : ∀ k n l ls tl, (∀ x ∈ l, P x) → P (.mk k n l ls tl)) (e : Tp) : P e := by
  refine Tp.rec (motive_1 := P) (motive_2 := fun l => ∀ x ∈ l, P x) (fun k n l ls tl ih => h k n l ls tl ih) (by simp) (fun x l h1 h2 y hy => ?_) e
  rcases List.mem_cons.1 hy with rfl | hy
  · exact h1
  · exact h2 y hy
mutual
/-- How great: labels, and parts. -/
def tsz : Tp → Nat
  | .mk _ _ l ls _ => 1 + ls.length + tszL l
def tszL : List Tp → Nat
  | [] => 0
  | x :: l => tsz x + tszL l
end
theorem tszL_len (l : List Tp) : l.length ≤ tszL l := by
  induction l with
  | nil => simp
  | cons x l ih =>
    have : 1 ≤ tsz x := by cases x; simp only [tsz]; omega
    simp only [tszL, List.length_cons]
    omega
theorem tszL_mem {l : List Tp} {x : Tp} (h : x ∈ l) : tsz x ≤ tszL l := by
  induction l with
  | nil => cases h
  | cons y l ih =>
    simp only [tszL]
    rcases List.mem_cons.1 h with rfl | h
    · omega
    · have := ih h; omega

def partsN (k : Int) (ls : List Str) : Int := if k = 1 ∨ k = 2 ∨ k = 7 then 0 else if k = 6 then 1 else if k = 3 then 2 else if k = 4 ∨ k = 5 then ls.length else -1
def isRowN (k : Int) : Bool := decide (k = 4 ∨ k = 5)
theorem k_Parts {k n : Int} {l : List Tp} {ls : List Str} {tl : Int} {σ : Sg} : ACalls Tryd.prog 40 [.v (encT (.mk k n l ls tl))] σ fun r σ' => r = .v (.int .i64 (partsN k ls)) ∧ σ' = σ := by
  rw [encT_mk]
  refine acalls_fit Tryd.func40 (by kernel_rfl) c40 rfl (by simp [a40]) fun hf => ?_
  clear hf
  by_cases h1 : k = 1
  · subst h1; simp -implicitDefEqProofs (maxSteps := 2000000) (disch := omega) [-getElem?_pos, a40]; exact .fin _ ⟨by simp [partsN], rfl⟩ (.refl _)
  by_cases h2 : k = 2
  · subst h2; simp -implicitDefEqProofs (maxSteps := 2000000) (disch := omega) [-getElem?_pos, a40]; exact .fin _ ⟨by simp [partsN], rfl⟩ (.refl _)
  by_cases h7 : k = 7
  · subst h7; simp -implicitDefEqProofs (maxSteps := 2000000) (disch := omega) [-getElem?_pos, a40]; exact .fin _ ⟨by simp [partsN], rfl⟩ (.refl _)
  by_cases h6 : k = 6
  · subst h6; simp -implicitDefEqProofs (maxSteps := 2000000) (disch := omega) [-getElem?_pos, a40]; exact .fin _ ⟨by simp [partsN], rfl⟩ (.refl _)
  by_cases h3 : k = 3
  · subst h3; simp -implicitDefEqProofs (maxSteps := 2000000) (disch := omega) [-getElem?_pos, a40]; exact .fin _ ⟨by simp [partsN], rfl⟩ (.refl _)
  by_cases h4 : k = 4
  · subst h4; simp -implicitDefEqProofs (maxSteps := 2000000) (disch := omega) [-getElem?_pos, a40]; exact .fin _ ⟨by simp [partsN], rfl⟩ (.refl _)
  by_cases h5 : k = 5
  · subst h5; simp -implicitDefEqProofs (maxSteps := 2000000) (disch := omega) [-getElem?_pos, a40]; exact .fin _ ⟨by simp [partsN], rfl⟩ (.refl _)
  simp -implicitDefEqProofs (maxSteps := 2000000) (disch := omega) [-getElem?_pos, a40, h1, h2, h3, h4, h5, h6, h7]
  exact .fin _ ⟨by simp [partsN, h1, h2, h3, h4, h5, h6, h7], rfl⟩ (.refl _)
theorem k_IsRow {k n : Int} {l : List Tp} {ls : List Str} {tl : Int} {σ : Sg} : ACalls Tryd.prog 39 [.v (encT (.mk k n l ls tl))] σ fun r σ' => r = .v (.bool (isRowN k)) ∧ σ' = σ := by
  rw [encT_mk]
  refine acalls_fit Tryd.func39 (by kernel_rfl) c39 rfl (by simp [a39]) fun hf => ?_
  clear hf
  by_cases h4 : k = 4
  · subst h4
    simp -implicitDefEqProofs (maxSteps := 2000000) (disch := omega) [-getElem?_pos, a39]
    exact .fin _ ⟨by simp [isRowN], rfl⟩ (.refl _)
  · simp -implicitDefEqProofs (maxSteps := 2000000) (disch := omega) [-getElem?_pos, a39, h4]
    exact .fin _ ⟨by simp [isRowN, h4]; rfl, rfl⟩ (.refl _)
theorem k_IndexStr {l : List Str} {s : Str} {σ : Sg} : ACalls Tryd.prog 54 [.v (vS l), .v (.str s)] σ fun r σ' => (∃ i : Int, r = .v (.int .i64 i) ∧ (0 ≤ i ↔ s ∈ l)) ∧ σ' = σ := by
  refine acalls_fit Tryd.func54 (by kernel_rfl) c54 rfl (by simp [a54]) fun hf => ?_
  simp at hf
  simp -implicitDefEqProofs (maxSteps := 2000000) (disch := omega) [-getElem?_pos, a54]
  refine W_loop (α := Nat) 0 (fun i => l.length - i) (fun i => ⟨[(0, .v (vS l)), (1, .v (.str s)), (7, .v (.int .i64 l.length)), (8, .v (.int .i64 i))], σ⟩) (fun i => i ≤ l.length ∧ (s ∈ l ↔ s ∈ l.drop i)) (.eq (by simp)) ⟨by simp, by simp⟩ fun i ⟨hi, he⟩ => ?_
  simp -implicitDefEqProofs (maxSteps := 2000000) (disch := omega) [-getElem?_pos]
  refine .mk (fun h => ?_) fun h => ?_
  · simp -implicitDefEqProofs (maxSteps := 2000000) (disch := omega) [-getElem?_pos]
    refine ⟨by omega, fun x hx => ?_⟩
    rw [drop_cons hx] at he
    refine .mk (fun hq => ?_) fun hq => ?_
    · simp -implicitDefEqProofs (maxSteps := 2000000) (disch := omega) [-getElem?_pos]
      exact .fin _ ⟨⟨i, rfl, by rw [he, hq]; simp⟩, rfl⟩ (.refl _)
    · simp -implicitDefEqProofs (maxSteps := 2000000) (disch := omega) [-getElem?_pos]
      refine ⟨i + 1, ⟨by omega, ?_⟩, by show l.length - (i + 1) < l.length - i; omega, .eq (by simp)⟩
      rw [he]
      simp [hq]
  · simp -implicitDefEqProofs (maxSteps := 2000000) (disch := omega) [-getElem?_pos]
    rw [List.drop_eq_nil_of_le (by omega)] at he
    exact .fin _ ⟨⟨-1, rfl, by rw [he]; simp⟩, rfl⟩ (.refl _)
theorem k_ContainsStr {l : List Str} {s : Str} {σ : Sg} : ACalls Tryd.prog 42 [.v (vS l), .v (.str s)] σ fun r σ' => r = .v (.bool (decide (s ∈ l))) ∧ σ' = σ := by
  refine acalls_fit Tryd.func42 (by kernel_rfl) c42 rfl (by simp [a42]) fun hf => ?_
  clear hf
  simp -implicitDefEqProofs (maxSteps := 2000000) (disch := omega) [-getElem?_pos, a42]
  refine k_IndexStr.then fun r hr => ?_
  obtain ⟨i, rfl, hi⟩ := hr
  simp -implicitDefEqProofs (maxSteps := 2000000) (disch := omega) [-getElem?_pos]
  exact .fin _ ⟨by simp [hi], rfl⟩ (.refl _)

mutual
/-- Whether a type may be, and the nodes so far. -/
def fineS : Tp → Nat → Bool × Nat
  | .mk k n l ls tl, c =>
    if 4000 < c + 1 ∨ partsN k ls ≠ l.length ∨ n < 0 ∨ (0 < n ∧ k ≠ 7) then (false, c + 1)
    else if isRowN k = true then (if tl < -1 ∨ isS ls = false ∨ [] ∈ ls then (false, c + 1) else fineL l (c + 1))
    else if tl ≠ -1 ∨ 0 < ls.length then (false, c + 1) else fineL l (c + 1)
def fineL : List Tp → Nat → Bool × Nat
  | [], c => (true, c)
  | x :: l, c => match fineS x c with
    | (true, c1) => fineL l c1
    | (false, c1) => (false, c1)
end
end Go.Proofs.YtkpnhcccocaakaaDoor
