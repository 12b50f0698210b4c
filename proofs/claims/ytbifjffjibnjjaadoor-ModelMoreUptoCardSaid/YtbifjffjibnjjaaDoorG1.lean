/-
  Sets of names: the document's, and what holds of them. (Own work.)
-/
import Derived.Test.YtbifjffjibnjjaaDoorF1
import Derived.Test.YtbifjffjibnjjaaDoorAbsZ
import Derived.Sort.Walk0
import Derived.Sort.OwnSorted
set_option linter.unusedVariables false
set_option linter.unusedSimpArgs false
namespace Go.Proofs.YtbifjffjibnjjaaDoor
open Go Go.Abs

abbrev Str := List UInt8
theorem less_eq (x y : Str) : Op.bytesLess x y = decide (x < y) := bytesLess_eq x y
@[reducible] def vS (l : List Str) : V := .sl none false (l.map .str)
theorem drop_cons {α : Type} {l : List α} {i : Nat} {x : α} (h : l[i]? = some x) : l.drop i = x :: l.drop (i + 1) := by
  obtain ⟨hlt, he⟩ := List.getElem?_eq_some_iff.1 h
  rw [List.drop_eq_getElem_cons hlt, he]

theorem k_RHas {l : List Str} {s : Str} {σ : Sg} : ACalls Tryd.prog 27 [.v (vS l), .v (.str s)] σ fun r σ' => r = .v (.bool (decide (s ∈ l))) ∧ σ' = σ := by
  refine acalls_fit Tryd.func27 (by kernel_rfl) c27 rfl (by simp [a27]) fun hf => ?_
  simp at hf
  simp -implicitDefEqProofs (maxSteps := 2000000) (disch := omega) [-getElem?_pos, a27]
  refine W_loop (α := Nat) 0 (fun i => l.length - i) (fun i => ⟨[(0, .v (vS l)), (1, .v (.str s)), (5, .v (.int .i64 i))], σ⟩) (fun i => i ≤ l.length ∧ (s ∈ l ↔ s ∈ l.drop i))
    (.eq (by simp)) ⟨by omega, by simp⟩ fun i ⟨hi, he⟩ => ?_
  simp -implicitDefEqProofs (maxSteps := 2000000) (disch := omega) [-getElem?_pos]
  refine .mk (fun h => ?_) fun h => ?_
  · simp -implicitDefEqProofs (maxSteps := 2000000) (disch := omega) [-getElem?_pos]
    refine ⟨by omega, fun x hx => ?_⟩
    rw [drop_cons hx] at he
    refine .mk (fun hq => ?_) fun hq => ?_
    · simp -implicitDefEqProofs (maxSteps := 2000000) (disch := omega) [-getElem?_pos]
      exact .fin _ ⟨by rw [decide_eq_true (he.2 (by simp [hq]))], rfl⟩ (.refl _)
    · simp -implicitDefEqProofs (maxSteps := 2000000) (disch := omega) [-getElem?_pos]
      exact ⟨i + 1, ⟨by omega, by rw [he]; simp [Ne.symm hq]⟩, by dsimp only; omega, .eq (by simp)⟩
  · simp -implicitDefEqProofs (maxSteps := 2000000) (disch := omega) [-getElem?_pos]
    rw [List.drop_eq_nil_of_le (by omega)] at he
    exact .fin _ ⟨by rw [decide_eq_false (by simpa using he)], rfl⟩ (.refl _)

/-- How many are less. -/
def offs (l : List Str) (s : Str) : Nat := (l.filter fun x => decide (x < s)).length
theorem k_ROffset {l : List Str} {s : Str} {σ : Sg} : ACalls Tryd.prog 97 [.v (vS l), .v (.str s)] σ fun r σ' => r = .v (.int .i64 (offs l s)) ∧ σ' = σ := by
  refine acalls_fit Tryd.func97 (by kernel_rfl) c97 rfl (by simp [a97]) fun hf => ?_
  simp at hf
  simp -implicitDefEqProofs (maxSteps := 2000000) (disch := omega) [-getElem?_pos, a97]
  refine W_loop (α := Nat) 0 (fun i => l.length - i) (fun i => ⟨[(0, .v (vS l)), (1, .v (.str s)), (5, .v (.int .i64 (offs (l.take i) s))), (6, .v (.int .i64 i))], σ⟩) (fun i => i ≤ l.length)
    (.eq (by simp [offs])) (by omega) fun i hi => ?_
  have hoff : offs (l.take i) s ≤ i := Nat.le_trans (List.length_filter_le _ _) (by simp; omega)
  simp -implicitDefEqProofs (maxSteps := 2000000) (disch := omega) [-getElem?_pos]
  refine .mk (fun h => ?_) fun h => ?_
  · simp -implicitDefEqProofs (maxSteps := 2000000) (disch := omega) [-getElem?_pos]
    refine ⟨by omega, fun x hx => ?_⟩
    have ht : offs (l.take (i + 1)) s = offs (l.take i) s + if x < s then 1 else 0 := by
      unfold offs
      rw [List.take_add_one, hx, List.filter_append, List.length_append]
      simp [List.filter_cons]
      split <;> rfl
    rw [less_eq]
    refine .mk (fun hq => ?_) fun hq => ?_
    · rw [if_pos (by simpa using hq)] at ht
      simp -implicitDefEqProofs (maxSteps := 2000000) (disch := omega) [-getElem?_pos]
      exact ⟨i + 1, by omega, by dsimp only; omega, .eq (by simp [ht])⟩
    · rw [if_neg (by simpa using hq)] at ht
      simp -implicitDefEqProofs (maxSteps := 2000000) (disch := omega) [-getElem?_pos]
      exact ⟨i + 1, by omega, by dsimp only; omega, .eq (by simp [ht])⟩
  · simp -implicitDefEqProofs (maxSteps := 2000000) (disch := omega) [-getElem?_pos]
    rw [List.take_of_length_le (by omega)]
    exact .fin _ ⟨rfl, rfl⟩ (.refl _)

/-- One comes where it stands. -/
def addS (l : List Str) (s : Str) : List Str := if s ∈ l then l else l.take (offs l s) ++ (s :: l.drop (offs l s))
theorem offs_le (l : List Str) (s : Str) : offs l s ≤ l.length := List.length_filter_le _ _
theorem k_RAdd {l : List Str} {s : Str} {σ : Sg} (hl : l.length ≤ 1000000) : ACalls Tryd.prog 72 [.v (vS l), .v (.str s)] σ fun r σ' => r = .v (vS (addS l s)) ∧ σ' = σ := by
  have ho := offs_le l s
  refine acalls_fit Tryd.func72 (by kernel_rfl) c72 rfl (by simp [a72]) fun hf => ?_
  simp at hf
  simp -implicitDefEqProofs (maxSteps := 2000000) (disch := omega) [-getElem?_pos, a72]
  refine k_RHas.then fun r hr => ?_
  subst hr
  simp -implicitDefEqProofs (maxSteps := 2000000) (disch := omega) [-getElem?_pos]
  refine .mk (fun hq => ?_) fun hq => ?_
  · simp -implicitDefEqProofs (maxSteps := 2000000) (disch := omega) [-getElem?_pos]
    exact .fin _ ⟨by rw [addS, if_pos hq], rfl⟩ (.refl _)
  · simp -implicitDefEqProofs (maxSteps := 2000000) (disch := omega) [-getElem?_pos]
    refine k_ROffset.then fun r hr => ?_
    subst hr
    simp -implicitDefEqProofs (maxSteps := 2000000) (disch := omega) [-getElem?_pos]
    repeat refine ⟨by omega, ?_⟩
    exact .fin _ ⟨by rw [addS, if_neg hq]; simp, rfl⟩ .tsl

def ofS (l : List Str) : List Str := l.foldl addS []
theorem addS_len (l : List Str) (s : Str) : (addS l s).length ≤ l.length + 1 := by
  have := offs_le l s
  unfold addS
  split
  · omega
  · simp; omega
theorem ofS_len_aux : ∀ (l acc : List Str), (l.foldl addS acc).length ≤ acc.length + l.length
  | [], acc => by simp
  | x :: l, acc => by
    have h1 := ofS_len_aux l (addS acc x)
    have h2 := addS_len acc x
    simp only [List.foldl_cons, List.length_cons]
    omega
theorem ofS_len (l : List Str) : (ofS l).length ≤ l.length := by simpa [ofS] using ofS_len_aux l []
theorem k_ROf {l : List Str} {σ : Sg} (hl : l.length ≤ 900000) : ACalls Tryd.prog 40 [.v (vS l)] σ fun r σ' => r = .v (vS (ofS l)) ∧ σ' = σ := by
  refine acalls_fit Tryd.func40 (by kernel_rfl) c40 rfl (by simp [a40]) fun hf => ?_
  simp at hf
  simp -implicitDefEqProofs (maxSteps := 2000000) (disch := omega) [-getElem?_pos, a40]
  refine W_loop (α := Nat) 0 (fun i => l.length - i) (fun i => ⟨[(0, .v (vS l)), (3, .v (vS (ofS (l.take i)))), (4, .v (.int .i64 i))], σ⟩) (fun i => i ≤ l.length)
    (.le (by simp [ofS, vS])) (by omega) fun i hi => ?_
  have h1 := ofS_len (l.take i)
  simp -implicitDefEqProofs (maxSteps := 2000000) (disch := omega) [-getElem?_pos]
  refine .mk (fun h => ?_) fun h => ?_
  · simp -implicitDefEqProofs (maxSteps := 2000000) (disch := omega) [-getElem?_pos]
    refine ⟨by omega, fun x hx => ?_⟩
    refine (k_RAdd (by simp at h1; omega)).then fun r hr => ?_
    subst hr
    have ht : ofS (l.take (i + 1)) = addS (ofS (l.take i)) x := by unfold ofS; rw [List.take_add_one, hx]; simp
    simp -implicitDefEqProofs (maxSteps := 2000000) (disch := omega) [-getElem?_pos]
    exact ⟨i + 1, by omega, by dsimp only; omega, .eq (by simp [ht])⟩
  · simp -implicitDefEqProofs (maxSteps := 2000000) (disch := omega) [-getElem?_pos]
    rw [List.take_of_length_le (by omega)]
    exact .fin _ ⟨rfl, rfl⟩ (.refl _)

def at0 (l : List Str) (s : Str) : Nat := (l.takeWhile fun x => decide (x < s)).length
def sortS (l : List Str) : List Str := l.mergeSort fun x y => decide (x ≤ y)
theorem sortS_len (l : List Str) : (sortS l).length = l.length := by simp [sortS]
def Asc (l : List Str) : Prop := l.Pairwise (· < ·)
theorem s_tri {x y : Str} (h : ¬ x < y) (k : ¬ x = y) : y < x := by
  rcases List.le_iff_lt_or_eq.1 (List.not_lt.1 h) with h | h
  · exact h
  · exact absurd h.symm k

theorem Asc.split {l : List Str} (h : Asc l) (s : Str) : (∀ x ∈ l.takeWhile (fun x => decide (x < s)), x < s) ∧ (∀ x ∈ l.dropWhile (fun x => decide (x < s)), ¬ x < s) ∧ l.filter (fun x => decide (x < s)) = l.takeWhile fun x => decide (x < s) := by
  induction l with
  | nil => simp
  | cons a t ih =>
    obtain ⟨h1, h2⟩ := List.pairwise_cons.1 h
    obtain ⟨i1, i2, i3⟩ := ih h2
    by_cases ha : a < s
    · simp only [List.takeWhile_cons, List.dropWhile_cons, List.filter_cons, ha, decide_true, if_true]
      refine ⟨fun x hx => ?_, i2, by rw [i3]⟩
      rcases List.mem_cons.1 hx with rfl | hx
      · exact ha
      · exact i1 x hx
    · simp only [List.takeWhile_cons, List.dropWhile_cons, List.filter_cons, ha, decide_false, Bool.false_eq_true, if_false]
      have hall : ∀ x ∈ t, ¬ x < s := fun x hx hs => ha (List.lt_trans (h1 x hx) hs)
      refine ⟨by simp, fun x hx => ?_, ?_⟩
      · rcases List.mem_cons.1 hx with rfl | hx
        · exact ha
        · exact hall x hx
      · rw [List.filter_eq_nil_iff]
        intro x hx
        simpa using hall x hx

theorem Asc.offs_eq {l : List Str} (h : Asc l) (s : Str) : offs l s = at0 l s := by unfold offs at0; rw [(h.split s).2.2]
theorem take_at (l : List Str) (s : Str) : l.take (at0 l s) = l.takeWhile (fun x => decide (x < s)) ∧ l.drop (at0 l s) = l.dropWhile fun x => decide (x < s) := by
  have e := List.takeWhile_append_dropWhile (p := fun x => decide (x < s)) (l := l)
  unfold at0
  have h1 := List.take_left (l₁ := l.takeWhile fun x => decide (x < s)) (l₂ := l.dropWhile fun x => decide (x < s))
  have h2 := List.drop_left (l₁ := l.takeWhile fun x => decide (x < s)) (l₂ := l.dropWhile fun x => decide (x < s))
  rw [e] at h1 h2
  exact ⟨h1, h2⟩

theorem Asc.parts {l : List Str} (h : Asc l) (s : Str) : Asc (l.takeWhile fun x => decide (x < s)) ∧ Asc (l.dropWhile fun x => decide (x < s)) := by
  have e := List.takeWhile_append_dropWhile (p := fun x => decide (x < s)) (l := l)
  rw [← e] at h
  have := List.pairwise_append.1 h
  exact ⟨this.1, this.2.1⟩
theorem Asc.insert {l : List Str} (h : Asc l) {s : Str} (hs : s ∉ l) : Asc (l.take (at0 l s) ++ (s :: l.drop (at0 l s))) := by
  obtain ⟨t1, t2⟩ := take_at l s
  obtain ⟨p1, p2⟩ := h.parts s
  obtain ⟨s1, s2, _⟩ := h.split s
  rw [t1, t2]
  have hgt : ∀ x ∈ l.dropWhile (fun x => decide (x < s)), s < x := by
    intro x hx
    refine s_tri (s2 x hx) ?_
    rintro rfl
    exact hs (by rw [← List.takeWhile_append_dropWhile (p := fun y => decide (y < x)) (l := l)]; exact List.mem_append.2 (.inr hx))
  refine List.pairwise_append.2 ⟨p1, List.pairwise_cons.2 ⟨hgt, p2⟩, fun x hx y hy => ?_⟩
  rcases List.mem_cons.1 hy with rfl | hy
  · exact s1 x hx
  · exact List.lt_trans (s1 x hx) (hgt y hy)
theorem addS_asc {l : List Str} (h : Asc l) (s : Str) : Asc (addS l s) ∧ ∀ x, x ∈ addS l s ↔ x ∈ l ∨ x = s := by
  unfold addS
  split
  · rename_i hs
    exact ⟨h, fun x => ⟨.inl, fun hx => by rcases hx with hx | rfl; exact hx; exact hs⟩⟩
  · rename_i hs
    rw [h.offs_eq]
    refine ⟨h.insert hs, fun x => ?_⟩
    conv => rhs; lhs; rw [← List.take_append_drop (at0 l s) l]
    simp only [List.mem_append, List.mem_cons]
    constructor
    · rintro (h | rfl | h)
      · exact .inl (.inl h)
      · exact .inr rfl
      · exact .inl (.inr h)
    · rintro ((h | h) | rfl)
      · exact .inl h
      · exact .inr (.inr h)
      · exact .inr (.inl rfl)
theorem ofS_asc_aux : ∀ (l acc : List Str), Asc acc → Asc (l.foldl addS acc) ∧ ∀ x, x ∈ l.foldl addS acc ↔ x ∈ acc ∨ x ∈ l
  | [], acc, h => ⟨h, by simp⟩
  | a :: l, acc, h => by
    obtain ⟨h1, h2⟩ := addS_asc h a
    obtain ⟨h3, h4⟩ := ofS_asc_aux l _ h1
    refine ⟨h3, fun x => ?_⟩
    simp only [List.foldl_cons]
    rw [h4 x, h2 x, List.mem_cons]
    constructor
    · rintro ((h | h) | h)
      · exact .inl h
      · exact .inr (.inl h)
      · exact .inr (.inr h)
    · rintro (h | h | h)
      · exact .inl (.inl h)
      · exact .inl (.inr h)
      · exact .inr h
theorem ofS_asc (l : List Str) : Asc (ofS l) ∧ ∀ x, x ∈ ofS l ↔ x ∈ l := by
  have := ofS_asc_aux l [] List.Pairwise.nil
  exact ⟨this.1, fun x => by rw [show ofS l = l.foldl addS [] from rfl, this.2 x]; simp⟩

theorem Asc.ext : ∀ {a b : List Str}, Asc a → Asc b → (∀ x, x ∈ a ↔ x ∈ b) → a = b
  | [], [], _, _, _ => rfl
  | [], y :: b, _, _, h => absurd ((h y).2 (by simp)) (by simp)
  | x :: a, [], _, _, h => absurd ((h x).1 (by simp)) (by simp)
  | x :: a, y :: b, ha, hb, h => by
    obtain ⟨a1, a2⟩ := List.pairwise_cons.1 ha
    obtain ⟨b1, b2⟩ := List.pairwise_cons.1 hb
    have hxy : x = y := by
      rcases List.mem_cons.1 ((h x).1 (by simp)) with e | hx
      · exact e
      · rcases List.mem_cons.1 ((h y).2 (by simp)) with e | hy
        · exact e.symm
        · exact absurd (List.lt_trans (b1 x hx) (a1 y hy)) (List.lt_irrefl y)
    subst hxy
    congr 1
    refine Asc.ext a2 b2 fun z => ?_
    have hz := h z
    simp only [List.mem_cons] at hz
    constructor
    · intro hm
      rcases hz.1 (.inr hm) with rfl | h
      · exact absurd (a1 z hm) (List.lt_irrefl z)
      · exact h
    · intro hm
      rcases hz.2 (.inr hm) with rfl | h
      · exact absurd (b1 z hm) (List.lt_irrefl z)
      · exact h

end Go.Proofs.YtbifjffjibnjjaaDoor
