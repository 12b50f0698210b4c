/-
  Labels: the document's answers. (Own work.)
-/
import Derived.Test.YtppdghfpbliaeaaDoorF1
import Derived.Test.YtppdghfpbliaeaaDoorAbsZ
import Derived.Sort.Walk0
set_option linter.unusedVariables false
set_option linter.unusedSimpArgs false
namespace Go.Proofs.YtppdghfpbliaeaaDoor
open Go Go.Abs


abbrev Str := List UInt8

theorem less_eq (x y : Str) : Op.bytesLess x y = decide (x < y) := bytesLess_eq x y

@[reducible] def vS (l : List Str) : V := .sl none false (l.map .str)

theorem drop_cons {α : Type} {l : List α} {i : Nat} {x : α} (h : l[i]? = some x) : l.drop i = x :: l.drop (i + 1) := by
  obtain ⟨hlt, he⟩ := List.getElem?_eq_some_iff.1 h
  rw [List.drop_eq_getElem_cons hlt, he]

theorem k_RHas {l : List Str} {s : Str} {σ : Sg} : ACalls Tryd.prog 35 [.v (vS l), .v (.str s)] σ fun r σ' => r = .v (.bool (decide (s ∈ l))) ∧ σ' = σ := by
  refine acalls_fit Tryd.func35 (by kernel_rfl) c35 rfl (by simp [a35]) fun hf => ?_
  simp at hf
  simp -implicitDefEqProofs (maxSteps := 2000000) (disch := omega) [-getElem?_pos, a35]
  refine W_loop (α := Nat) 0 (fun i => l.length - i) (fun i => ⟨[(0, .v (vS l)), (1, .v (.str s)), (5, .v (.int .i64 i))], σ⟩) (fun i => i ≤ l.length ∧ (s ∈ l ↔ s ∈ l.drop i))
    (.eq (by simp)) ⟨by omega, by simp⟩ fun i ⟨hi, he⟩ => ?_
  simp -implicitDefEqProofs (maxSteps := 2000000) (disch := omega) [-getElem?_pos]
  refine .mk (fun h => ?_) fun h => ?_
  · simp -implicitDefEqProofs (maxSteps := 2000000) (disch := omega) [-getElem?_pos]
    refine ⟨by omega, fun x hx => ?_⟩
    rw [drop_cons hx] at he
    refine .mk (fun hq => ?_) fun hq => ?_
    · simp -implicitDefEqProofs (maxSteps := 2000000) (disch := omega) [-getElem?_pos]
      exact .fin _ ⟨by rw [decide_eq_true (he.2 (by simp [hq]))], rfl⟩ (.refl _)
    · simp -implicitDefEqProofs (maxSteps := 2000000) (disch := omega) [-getElem?_pos]
      exact ⟨i + 1, ⟨by omega, by rw [he]; simp [Ne.symm hq]⟩, by dsimp only; omega, .eq (by simp)⟩
  · simp -implicitDefEqProofs (maxSteps := 2000000) (disch := omega) [-getElem?_pos]
    rw [List.drop_eq_nil_of_le (by omega)] at he
    exact .fin _ ⟨by rw [decide_eq_false (by simpa using he)], rfl⟩ (.refl _)

/-- How many are less. -/
def offs (l : List Str) (s : Str) : Nat := (l.filter fun x => decide (x < s)).length

theorem k_ROffset {l : List Str} {s : Str} {σ : Sg} : ACalls Tryd.prog 12 [.v (vS l), .v (.str s)] σ fun r σ' => r = .v (.int .i64 (offs l s)) ∧ σ' = σ := by
  refine acalls_fit Tryd.func12 (by kernel_rfl) c12 rfl (by simp [a12]) fun hf => ?_
  simp at hf
  simp -implicitDefEqProofs (maxSteps := 2000000) (disch := omega) [-getElem?_pos, a12]
  refine W_loop (α := Nat) 0 (fun i => l.length - i) (fun i => ⟨[(0, .v (vS l)), (1, .v (.str s)), (5, .v (.int .i64 (offs (l.take i) s))), (6, .v (.int .i64 i))], σ⟩) (fun i => i ≤ l.length)
    (.eq (by simp [offs])) (by omega) fun i hi => ?_
  have hoff : offs (l.take i) s ≤ i := Nat.le_trans (List.length_filter_le _ _) (by simp; omega)
  simp -implicitDefEqProofs (maxSteps := 2000000) (disch := omega) [-getElem?_pos]
  refine .mk (fun h => ?_) fun h => ?_
  · simp -implicitDefEqProofs (maxSteps := 2000000) (disch := omega) [-getElem?_pos]
    refine ⟨by omega, fun x hx => ?_⟩
    have ht : offs (l.take (i + 1)) s = offs (l.take i) s + if x < s then 1 else 0 := by
      unfold offs
      rw [List.take_add_one, hx, List.filter_append, List.length_append]
      simp [List.filter_cons]
      split <;> rfl
    rw [less_eq]
    refine .mk (fun hq => ?_) fun hq => ?_
    · rw [if_pos (by simpa using hq)] at ht
      simp -implicitDefEqProofs (maxSteps := 2000000) (disch := omega) [-getElem?_pos]
      exact ⟨i + 1, by omega, by dsimp only; omega, .eq (by simp [ht])⟩
    · rw [if_neg (by simpa using hq)] at ht
      simp -implicitDefEqProofs (maxSteps := 2000000) (disch := omega) [-getElem?_pos]
      exact ⟨i + 1, by omega, by dsimp only; omega, .eq (by simp [ht])⟩
  · simp -implicitDefEqProofs (maxSteps := 2000000) (disch := omega) [-getElem?_pos]
    rw [List.take_of_length_le (by omega)]
    exact .fin _ ⟨rfl, rfl⟩ (.refl _)

/-- One comes where it stands. -/
def addS (l : List Str) (s : Str) : List Str := if s ∈ l then l else l.take (offs l s) ++ (s :: l.drop (offs l s))

theorem offs_le (l : List Str) (s : Str) : offs l s ≤ l.length := List.length_filter_le _ _

theorem k_RAdd {l : List Str} {s : Str} {σ : Sg} (hl : l.length ≤ 1000000) : ACalls Tryd.prog 34 [.v (vS l), .v (.str s)] σ fun r σ' => r = .v (vS (addS l s)) ∧ σ' = σ := by
  have ho := offs_le l s
  refine acalls_fit Tryd.func34 (by kernel_rfl) c34 rfl (by simp [a34]) fun hf => ?_
  simp at hf
  simp -implicitDefEqProofs (maxSteps := 2000000) (disch := omega) [-getElem?_pos, a34]
  refine k_RHas.then fun r hr => ?_
  subst hr
  simp -implicitDefEqProofs (maxSteps := 2000000) (disch := omega) [-getElem?_pos]
  refine .mk (fun hq => ?_) fun hq => ?_
  · simp -implicitDefEqProofs (maxSteps := 2000000) (disch := omega) [-getElem?_pos]
    exact .fin _ ⟨by rw [addS, if_pos hq], rfl⟩ (.refl _)
  · simp -implicitDefEqProofs (maxSteps := 2000000) (disch := omega) [-getElem?_pos]
    refine k_ROffset.then fun r hr => ?_
    subst hr
    simp -implicitDefEqProofs (maxSteps := 2000000) (disch := omega) [-getElem?_pos]
    repeat refine ⟨by omega, ?_⟩
    exact .fin _ ⟨by rw [addS, if_neg hq]; simp, rfl⟩ .tsl

def ofS (l : List Str) : List Str := l.foldl addS []

theorem addS_len (l : List Str) (s : Str) : (addS l s).length ≤ l.length + 1 := by
  have := offs_le l s
  unfold addS
  split
  · omega
  · simp; omega

theorem ofS_len_aux : ∀ (l acc : List Str), (l.foldl addS acc).length ≤ acc.length + l.length
  | [], acc => by simp
  | x :: l, acc => by
    have h1 := ofS_len_aux l (addS acc x)
    have h2 := addS_len acc x
    simp only [List.foldl_cons, List.length_cons]
    omega

theorem ofS_len (l : List Str) : (ofS l).length ≤ l.length := by simpa [ofS] using ofS_len_aux l []

theorem k_ROf {l : List Str} {σ : Sg} (hl : l.length ≤ 900000) : ACalls Tryd.prog 9 [.v (vS l)] σ fun r σ' => r = .v (vS (ofS l)) ∧ σ' = σ := by
  refine acalls_fit Tryd.func9 (by kernel_rfl) c9 rfl (by simp [a9]) fun hf => ?_
  simp at hf
  simp -implicitDefEqProofs (maxSteps := 2000000) (disch := omega) [-getElem?_pos, a9]
  refine W_loop (α := Nat) 0 (fun i => l.length - i) (fun i => ⟨[(0, .v (vS l)), (3, .v (vS (ofS (l.take i)))), (4, .v (.int .i64 i))], σ⟩) (fun i => i ≤ l.length)
    (.le (by simp [ofS, vS])) (by omega) fun i hi => ?_
  have h1 := ofS_len (l.take i)
  simp -implicitDefEqProofs (maxSteps := 2000000) (disch := omega) [-getElem?_pos]
  refine .mk (fun h => ?_) fun h => ?_
  · simp -implicitDefEqProofs (maxSteps := 2000000) (disch := omega) [-getElem?_pos]
    refine ⟨by omega, fun x hx => ?_⟩
    refine (k_RAdd (by simp at h1; omega)).then fun r hr => ?_
    subst hr
    have ht : ofS (l.take (i + 1)) = addS (ofS (l.take i)) x := by unfold ofS; rw [List.take_add_one, hx]; simp
    simp -implicitDefEqProofs (maxSteps := 2000000) (disch := omega) [-getElem?_pos]
    exact ⟨i + 1, by omega, by dsimp only; omega, .eq (by simp [ht])⟩
  · simp -implicitDefEqProofs (maxSteps := 2000000) (disch := omega) [-getElem?_pos]
    rw [List.take_of_length_le (by omega)]
    exact .fin _ ⟨rfl, rfl⟩ (.refl _)

theorem k_RLess {a b : List Str} {σ : Sg} (hl : a.length ≤ 1000000) : ACalls Tryd.prog 10 [.v (vS a), .v (vS b)] σ fun r σ' => r = .v (vS (a.filter fun s => !decide (s ∈ b))) ∧ σ' = σ := by
  refine acalls_fit Tryd.func10 (by kernel_rfl) c10 rfl (by simp [a10]) fun hf => ?_
  simp at hf
  simp -implicitDefEqProofs (maxSteps := 2000000) (disch := omega) [-getElem?_pos, a10]
  refine W_loop (α := Nat) 0 (fun i => a.length - i) (fun i => ⟨[(0, .v (vS a)), (1, .v (vS b)), (5, .tsl σ.toks.length none (((a.take i).filter fun s => !decide (s ∈ b)).map .str)), (6, .v (.int .i64 i))], ⟨σ.objs, σ.toks ++ [((a.take i).filter fun s => !decide (s ∈ b)).length]⟩⟩) (fun i => i ≤ a.length)
    (.tok (i := 5) (sh := none) (by simp) (by simp)) (by omega) fun i hi => ?_
  have hfl : ((a.take i).filter fun s => !decide (s ∈ b)).length ≤ i := Nat.le_trans (List.length_filter_le _ _) (by simp; omega)
  simp -implicitDefEqProofs (maxSteps := 2000000) (disch := omega) [-getElem?_pos]
  refine .mk (fun h => ?_) fun h => ?_
  · simp -implicitDefEqProofs (maxSteps := 2000000) (disch := omega) [-getElem?_pos]
    refine ⟨by omega, fun x hx => ?_⟩
    refine k_RHas.then fun r hr => ?_
    subst hr
    have ht : (a.take (i + 1)).filter (fun s => !decide (s ∈ b)) = (a.take i).filter (fun s => !decide (s ∈ b)) ++ if x ∈ b then [] else [x] := by
      rw [List.take_add_one, hx, List.filter_append]
      by_cases hm : x ∈ b <;> simp [List.filter_cons, hm]
    generalize hqq : (a.take i).filter (fun s => !decide (s ∈ b)) = q at *
    simp -implicitDefEqProofs (maxSteps := 2000000) (disch := omega) [-getElem?_pos]
    refine .mk (fun hq => ?_) fun hq => ?_
    · rw [if_pos hq, List.append_nil] at ht
      simp -implicitDefEqProofs (maxSteps := 2000000) (disch := omega) [-getElem?_pos]
      exact ⟨i + 1, by omega, by dsimp only; omega, .eq2 (by rw [ht]) (by simp [ht])⟩
    · rw [if_neg hq] at ht
      simp -implicitDefEqProofs (maxSteps := 2000000) (disch := omega) [-getElem?_pos]
      refine ⟨by omega, ?_⟩
      intro x' hx'
      obtain rfl : x' = x := by rw [hx] at hx'; exact (Option.some.inj hx').symm
      refine ⟨by omega, i + 1, by omega, by dsimp only; omega, .eq2 (by rw [ht]; simp) (by simp [ht])⟩
  · simp -implicitDefEqProofs (maxSteps := 2000000) (disch := omega) [-getElem?_pos]
    rw [List.take_of_length_le (by omega)]
    exact .fin _ ⟨rfl, rfl⟩ .tsl

theorem k_RJoin {a b : List Str} {σ : Sg} (h1 : a.length ≤ 400000) (h2 : b.length ≤ 400000) : ACalls Tryd.prog 14 [.v (vS a), .v (vS b)] σ fun r σ' => r = .v (vS (ofS (a ++ b))) ∧ σ' = σ := by
  refine acalls_fit Tryd.func14 (by kernel_rfl) c14 rfl (by simp [a14]) fun hf => ?_
  clear hf
  simp -implicitDefEqProofs (maxSteps := 2000000) (disch := omega) [-getElem?_pos, a14]
  repeat refine ⟨by omega, ?_⟩
  rw [← List.map_append]
  refine ((k_ROf (l := a ++ b) (by simp; omega)).arg1 .tsl).then fun r hr => ?_
  subst hr
  simp -implicitDefEqProofs (maxSteps := 2000000) (disch := omega) [-getElem?_pos]
  exact .fin _ ⟨rfl, rfl⟩ (.refl _)

/-- Do they rise? -/
def isS : List Str → Bool
  | a :: b :: l => decide (a < b) && isS (b :: l)
  | _ => true

theorem isS_step {l : List Str} {i : Nat} {x y : Str} (hx : l[i]? = some x) (hy : l[i + 1]? = some y) : isS (l.drop i) = (decide (x < y) && isS (l.drop (i + 1))) := by
  rw [drop_cons hx, drop_cons hy]
  rfl

theorem isS_last {l : List Str} {i : Nat} (h : l.length ≤ i + 1) : isS (l.drop i) = true := by
  cases hd : l.drop i with
  | nil => rfl
  | cons a t =>
    have := congrArg List.length hd
    simp at this
    have : t = [] := List.length_eq_zero_iff.1 (by omega)
    subst this
    rfl

theorem leq_eq (x y : Str) : (Op.bytesLess x y || x == y) = !decide (y < x) := by
  rw [less_eq]
  rw [Bool.eq_iff_iff]
  simp
  constructor
  · rintro (h | h)
    · exact List.not_lt.1 (List.lt_asymm h)
    · subst h; exact List.le_refl _
  · intro h
    exact List.le_iff_lt_or_eq.1 h

theorem leq_iff {x y : Str} : (Op.bytesLess y x = true ∨ y = x) ↔ ¬ x < y := by
  have := leq_eq y x
  rw [Bool.eq_iff_iff] at this
  simp at this
  rw [this]
  exact List.not_lt.symm

theorem k_Is {l : List Str} {σ : Sg} : ACalls Tryd.prog 68 [.v (vS l)] σ fun r σ' => r = .v (.bool (isS l)) ∧ σ' = σ := by
  refine acalls_fit Tryd.func68 (by kernel_rfl) c68 rfl (by simp [a68]) fun hf => ?_
  simp at hf
  simp -implicitDefEqProofs (maxSteps := 2000000) (disch := omega) [-getElem?_pos, a68]
  refine W_loop (α := Nat) 0 (fun i => l.length - i) (fun i => ⟨[(0, .v (vS l)), (5, .v (.int .i64 l.length)), (6, .v (.int .i64 i))], σ⟩) (fun i => i ≤ l.length ∧ isS l = isS (l.drop (i - 1)))
    (.eq (by simp)) ⟨by omega, by simp⟩ fun i ⟨hi, he⟩ => ?_
  simp -implicitDefEqProofs (maxSteps := 2000000) (disch := omega) [-getElem?_pos]
  refine .mk (fun h => ?_) fun h => ?_
  · simp -implicitDefEqProofs (maxSteps := 2000000) (disch := omega) [-getElem?_pos]
    refine .mk (fun h0 => ?_) fun h0 => ?_
    · obtain ⟨j, rfl⟩ : ∃ j, i = j + 1 := ⟨i - 1, by omega⟩
      simp -implicitDefEqProofs (maxSteps := 2000000) (disch := omega) [-getElem?_pos]
      repeat refine ⟨by omega, ?_⟩
      intro x hx
      repeat refine ⟨by omega, ?_⟩
      intro y hy
      simp only [Nat.add_sub_cancel] at he
      rw [isS_step hx hy] at he
      rw [less_eq]
      refine .mk (fun hq => ?_) fun hq => ?_
      rotate_left
      · simp -implicitDefEqProofs (maxSteps := 2000000) (disch := omega) [-getElem?_pos]
        exact .fin _ ⟨by rw [he, decide_eq_false (by simpa using hq)]; rfl, rfl⟩ (.refl _)
      · simp -implicitDefEqProofs (maxSteps := 2000000) (disch := omega) [-getElem?_pos]
        exact ⟨j + 1 + 1, ⟨by omega, by rw [he, decide_eq_true (by simpa using hq), Bool.true_and]; simp⟩, by dsimp only; omega, .eq (by simp)⟩
    · simp -implicitDefEqProofs (maxSteps := 2000000) (disch := omega) [-getElem?_pos]
      obtain rfl : i = 0 := by omega
      exact ⟨1, ⟨by omega, by simp⟩, by dsimp only; omega, .eq (by simp)⟩
  · simp -implicitDefEqProofs (maxSteps := 2000000) (disch := omega) [-getElem?_pos]
    rw [isS_last (by omega)] at he
    exact .fin _ ⟨by rw [he], rfl⟩ (.refl _)
end Go.Proofs.YtppdghfpbliaeaaDoor
