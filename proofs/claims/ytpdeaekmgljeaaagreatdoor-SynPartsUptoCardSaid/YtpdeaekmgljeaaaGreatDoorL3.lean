/-
  Lexer: words and signs. (Own work.)
-/
import Derived.Test.YtpdeaekmgljeaaaGreatDoorL2
set_option linter.unusedVariables false
set_option linter.unusedSimpArgs false
namespace Go.Proofs.YtpdeaekmgljeaaaGreatDoor
open Go Go.Abs

theorem drop_cons {α : Type} {l : List α} {i : Nat} {x : α} (h : l[i]? = some x) : l.drop i = x :: l.drop (i + 1) := by
  obtain ⟨hlt, he⟩ := List.getElem?_eq_some_iff.1 h
  rw [List.drop_eq_getElem_cons hlt, he]
theorem k_IndexStr {l : List Str} {s : Str} {σ : Sg} : ACalls Tryz.prog 155 [.v (vS l), .v (.str s)] σ fun r σ' => (∃ i : Int, r = .v (.int .i64 i) ∧ (0 ≤ i ↔ s ∈ l)) ∧ σ' = σ := by
  refine acalls_fit Tryz.func155 (by kernel_rfl) c155 rfl (by simp [a155]) fun hf => ?_
  simp at hf
  simp -implicitDefEqProofs (maxSteps := 2000000) (disch := omega) [-getElem?_pos, a155]
  refine W_loop (α := Nat) 0 (fun i => l.length - i) (fun i => ⟨[(0, .v (vS l)), (1, .v (.str s)), (7, .v (.int .i64 l.length)), (8, .v (.int .i64 i))], σ⟩) (fun i => i ≤ l.length ∧ (s ∈ l ↔ s ∈ l.drop i)) (.eq (by simp)) ⟨by simp, by simp⟩ fun i ⟨hi, he⟩ => ?_
  simp -implicitDefEqProofs (maxSteps := 2000000) (disch := omega) [-getElem?_pos]
  refine .mk (fun h => ?_) fun h => ?_
  · simp -implicitDefEqProofs (maxSteps := 2000000) (disch := omega) [-getElem?_pos]
    refine ⟨by omega, fun x hx => ?_⟩
    rw [drop_cons hx] at he
    refine .mk (fun hq => ?_) fun hq => ?_
    · simp -implicitDefEqProofs (maxSteps := 2000000) (disch := omega) [-getElem?_pos]
      exact .fin _ ⟨⟨i, rfl, by rw [he, hq]; simp⟩, rfl⟩ (.refl _)
    · simp -implicitDefEqProofs (maxSteps := 2000000) (disch := omega) [-getElem?_pos]
      refine ⟨i + 1, ⟨by omega, ?_⟩, by show l.length - (i + 1) < l.length - i; omega, .eq (by simp)⟩
      rw [he]
      simp [hq]
  · simp -implicitDefEqProofs (maxSteps := 2000000) (disch := omega) [-getElem?_pos]
    rw [List.drop_eq_nil_of_le (by omega)] at he
    exact .fin _ ⟨⟨-1, rfl, by rw [he]; simp⟩, rfl⟩ (.refl _)
theorem k_ContainsStr {l : List Str} {s : Str} {σ : Sg} : ACalls Tryz.prog 118 [.v (vS l), .v (.str s)] σ fun r σ' => r = .v (.bool (decide (s ∈ l))) ∧ σ' = σ := by
  refine acalls_fit Tryz.func118 (by kernel_rfl) c118 rfl (by simp [a118]) fun hf => ?_
  clear hf
  simp -implicitDefEqProofs (maxSteps := 2000000) (disch := omega) [-getElem?_pos, a118]
  refine k_IndexStr.then fun r hr => ?_
  obtain ⟨i, rfl, hi⟩ := hr
  simp -implicitDefEqProofs (maxSteps := 2000000) (disch := omega) [-getElem?_pos]
  exact .fin _ ⟨by simp [hi], rfl⟩ (.refl _)
theorem k_RIn {l : List Str} {s : Str} {σ : Sg} : ACalls Tryz.prog 174 [.v (vS l), .v (.str s)] σ fun r σ' => r = .v (.bool (decide (s ∈ l))) ∧ σ' = σ := by
  refine acalls_fit Tryz.func174 (by kernel_rfl) c174 rfl (by simp [a174]) fun hf => ?_
  simp at hf
  simp -implicitDefEqProofs (maxSteps := 2000000) (disch := omega) [-getElem?_pos, a174]
  refine W_loop (α := Nat) 0 (fun i => l.length - i) (fun i => ⟨[(0, .v (vS l)), (1, .v (.str s)), (5, .v (.int .i64 i))], σ⟩) (fun i => i ≤ l.length ∧ (s ∈ l ↔ s ∈ l.drop i)) (.eq (by simp)) ⟨by simp, by simp⟩ fun i ⟨hi, he⟩ => ?_
  simp -implicitDefEqProofs (maxSteps := 2000000) (disch := omega) [-getElem?_pos]
  refine .mk (fun h => ?_) fun h => ?_
  · simp -implicitDefEqProofs (maxSteps := 2000000) (disch := omega) [-getElem?_pos]
    refine ⟨by omega, fun x hx => ?_⟩
    rw [drop_cons hx] at he
    refine .mk (fun hq => ?_) fun hq => ?_
    · simp -implicitDefEqProofs (maxSteps := 2000000) (disch := omega) [-getElem?_pos]
      exact .fin _ ⟨by rw [decide_eq_true (he.2 (by rw [hq]; simp))], rfl⟩ (.refl _)
    · simp -implicitDefEqProofs (maxSteps := 2000000) (disch := omega) [-getElem?_pos]
      refine ⟨i + 1, ⟨by omega, ?_⟩, by show l.length - (i + 1) < l.length - i; omega, .eq (by simp)⟩
      rw [he]
      simp [Ne.symm hq]
  · simp -implicitDefEqProofs (maxSteps := 2000000) (disch := omega) [-getElem?_pos]
    rw [List.drop_eq_nil_of_le (by omega)] at he
    exact .fin _ ⟨by rw [decide_eq_false (by simpa using he)], rfl⟩ (.refl _)
def wordsL : List Str := [[102, 110], [108, 101, 116], [114, 101, 99], [105, 110], [109, 97, 116, 99, 104], [119, 105, 116, 104], [101, 110, 100], [105, 102], [116, 104, 101, 110], [101, 108, 115, 101], [114, 101, 102], [112, 114, 105, 110, 116], [115, 104, 111, 119], [114, 101, 97, 100]]
def onesL : List Str := [[40], [41], [123], [125], [61], [46], [44], [124], [92], [43], [45], [42], [47], [60], [94], [35], [33], [59]]
def signsL : List Str := [[45, 62], [61, 61], [58, 61]] ++ onesL
theorem k_Words {σ : Sg} : ACalls Tryz.prog 119 [] σ fun r σ' => r = .v (vS wordsL) ∧ σ' = σ := by
  refine acalls_fit Tryz.func119 (by kernel_rfl) c119 rfl (by simp [a119]) fun hf => ?_
  clear hf
  simp -implicitDefEqProofs (maxSteps := 2000000) (disch := omega) [-getElem?_pos, a119]
  exact .fin _ ⟨rfl, rfl⟩ VLe.lax.d
theorem k_Signs {σ : Sg} : ACalls Tryz.prog 158 [] σ fun r σ' => r = .v (vS signsL) ∧ σ' = σ := by
  refine acalls_fit Tryz.func158 (by kernel_rfl) c158 rfl (by simp [a158]) fun hf => ?_
  clear hf
  simp -implicitDefEqProofs (maxSteps := 2000000) (disch := omega) [-getElem?_pos, a158]
  exact .fin _ ⟨rfl, rfl⟩ VLe.lax.d
theorem k_IsWord {s : Str} {σ : Sg} : ACalls Tryz.prog 172 [.v (.str s)] σ fun r σ' => r = .v (.bool (decide (s ∈ wordsL))) ∧ σ' = σ := by
  have c1 := fun σ => ACalls.argA (k_RIn (l := wordsL) (s := s) (σ := σ)) (VLe.lax (sh := none) (f := true) (xs := wordsL.map .str)).d
  generalize decide (s ∈ wordsL) = w at *
  simp only [wordsL, List.map_cons, List.map_nil] at c1
  refine acalls_fit Tryz.func172 (by kernel_rfl) c172 rfl (by simp [a172]) fun hf => ?_
  clear hf
  simp -implicitDefEqProofs (maxSteps := 2000000) (disch := omega) [-getElem?_pos, a172]
  refine (c1 _).then fun r hr => ?_
  subst hr
  simp -implicitDefEqProofs (maxSteps := 2000000) (disch := omega) [-getElem?_pos]
  exact .fin _ ⟨rfl, rfl⟩ (.refl _)
/-- The first sign that stands there. -/
def signF (b : Str) (i : Nat) (l : List Str) : Str := (l.find? fun s => decide (((b.drop i).take 2).take s.length = s)).getD []
theorem k_Sign {b : Str} {i p : Nat} {σ : Sg} (hp : σ.objs[p]? = some (cut b i)) (hi : i ≤ b.length) (hb : b.length ≤ 1048576) :
    ACalls Tryz.prog 124 [.ptr p 0] σ fun r σ' => r = .v (.str (signF b i signsL)) ∧ σ' = ⟨σ.objs.set p (cut b (i + (signF b i signsL).length)), σ.toks⟩ := by
  have hpl := (List.getElem?_eq_some_iff.1 hp).1
  have hset : σ.objs.set p (cut b i) = σ.objs := by
    apply List.ext_getElem?
    intro j
    by_cases e : p = j
    · subst e
      rw [List.getElem?_set_self hpl]
      exact hp.symm
    · rw [List.getElem?_set_ne e]
  have h2 : ∀ s ∈ signsL, s.length ≤ 2 := by decide
  have h20 : signsL.length = 21 := rfl
  have htwo : List.drop i (List.take (if (b.length : Int) < (i : Int) + 2 then (b.length : Int) else (i : Int) + 2).toNat b) = (b.drop i).take 2 := by
    split
    · rw [Int.toNat_natCast, List.take_length, List.take_of_length_le]
      rw [List.length_drop]
      omega
    · rw [show ((i : Int) + 2).toNat = i + 2 by omega, List.drop_take, Nat.add_sub_cancel_left]
  refine acalls_fit Tryz.func124 (by kernel_rfl) c124 rfl (by simp [a124]) fun hf => ?_
  clear hf
  simp -implicitDefEqProofs (maxSteps := 2000000) (disch := omega) [-getElem?_pos, a124]
  refine k_Signs.then fun r hr => ?_
  subst hr
  simp -implicitDefEqProofs (maxSteps := 2000000) (disch := omega) [-getElem?_pos]
  refine W_loop (α := Nat) 0 (fun k => 21 - k) (fun k => ⟨[(0, .ptr p 0), (2, .v (.str [])), (5, .v (vS signsL)), (6, .v (.int .i64 signsL.length)), (7, .v (.int .i64 k))], σ⟩) (fun k => k ≤ 21 ∧ signF b i signsL = signF b i (signsL.drop k)) (.eq (by simp)) ⟨by omega, rfl⟩ fun k ⟨hk, he⟩ => ?_
  simp -implicitDefEqProofs (maxSteps := 2000000) (disch := omega) [-getElem?_pos]
  refine .mk (fun h => ?_) fun h => ?_
  · simp -implicitDefEqProofs (maxSteps := 2000000) (disch := omega) [-getElem?_pos]
    refine ⟨by omega, fun x hx => ?_⟩
    have hx2 := h2 x (List.mem_of_getElem? hx)
    rw [drop_cons hx] at he
    simp -implicitDefEqProofs (maxSteps := 2000000) (disch := omega) [-getElem?_pos, hp, htwo]
    refine ⟨by split <;> omega, by split <;> omega, ?_⟩
    refine k_HasP.then fun r hr => ?_
    subst hr
    by_cases hq : ((b.drop i).take 2).take x.length = x
    · have he2 : signF b i signsL = x := by rw [he]; simp [signF, hq]
      rw [he2]
      simp -implicitDefEqProofs (maxSteps := 2000000) (disch := omega) [-getElem?_pos, hp, hq, hpl]
      refine .finS _ ⟨σ.objs.set p (cut b (i + x.length)), σ.toks⟩ ⟨rfl, rfl⟩ (.refl _) (low_set (by simp [cut])) (by simp) (by simp [cut]) (by simp) (by simp) (by simp)
    · simp -implicitDefEqProofs (maxSteps := 2000000) (disch := omega) [-getElem?_pos, hp, hq, hpl]
      exact ⟨k + 1, ⟨by omega, by rw [he]; simp [signF, hq]⟩, by show 21 - (k + 1) < 21 - k; omega, .eq (by simp)⟩
  · have he2 : signF b i signsL = [] := by rw [he, List.drop_eq_nil_of_le (by omega)]; rfl
    rw [he2]
    simp -implicitDefEqProofs (maxSteps := 2000000) (disch := omega) [-getElem?_pos]
    exact .fin _ ⟨rfl, by rw [hset]⟩ (.refl _)
end Go.Proofs.YtpdeaekmgljeaaaGreatDoor
