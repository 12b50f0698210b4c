/-
  Labels: what the library does; sets, plainly. (Own work.)
-/
import Derived.Test.YtppdghfpbliaeaaDoorE1
set_option linter.unusedVariables false
set_option linter.unusedSimpArgs false
namespace Go.Proofs.YtppdghfpbliaeaaDoor
open Go Go.Abs
/-- The first place whose word isn't less. -/
def at0 (l : List Str) (s : Str) : Nat := (l.takeWhile fun x => decide (x < s)).length

def sorted (l : List Str) : Prop := ∀ (i j : Nat) x y, i < j → l[i]? = some x → l[j]? = some y → x ≤ y

theorem half {i j : Nat} (h : i < j) (hj : (j : Int) ≤ 4611686018427387904) : IntKind.wrap .i64 (ishr .u64 ((i : Int) + j) 1) = ((i + j) / 2 : Nat) := by
  unfold ishr
  simp [IntKind.bits]
  rw [Int.fdiv_eq_ediv_of_nonneg _ (by omega)]
  rw [wrap_i64 (by omega) (by omega)]

structure ISt where
  i : Nat
  j : Nat

theorem takeWhile_at {l : List Str} {p : Str → Bool} {n : Nat} (h1 : ∀ (i : Nat) x, i < n → l[i]? = some x → p x = true) (h2 : ∀ x, l[n]? = some x → p x = false) (hn : n ≤ l.length) : (l.takeWhile p).length = n := by
  induction l generalizing n with
  | nil => simp at hn; simp [hn]
  | cons a l ih =>
    cases n with
    | zero => simp [List.takeWhile_cons, h2 a rfl]
    | succ n =>
      rw [List.takeWhile_cons, if_pos (h1 0 a (by omega) rfl), List.length_cons, ih (fun i x (hi : i < n) hx => h1 (i + 1) x (by omega) (by simpa using hx)) (fun x hx => h2 x (by simpa using hx)) (by simpa using hn)]

theorem k_SearchStrings1 {l : List Str} {s : Str} {k : Nat} {y : Str} {o p : Nat} {σ : Sg} (h1 : σ.objs[o]? = some (.cells [.v (vS l)])) (h2 : σ.objs[p]? = some (.cells [.v (.str s)])) (hk : l[k]? = some y) :
    ACalls Tryd.prog 73 [.v (.int .i64 k), .ptr o 0, .ptr p 0] σ fun r σ' => r = .v (.bool (decide (s ≤ y))) ∧ σ' = σ := by
  have hkl := (List.getElem?_eq_some_iff.1 hk).1
  refine acalls_fit Tryd.func73 (by kernel_rfl) c73 rfl (by simp [a73]) fun hf => ?_
  clear hf
  simp -implicitDefEqProofs (maxSteps := 2000000) (disch := omega) [-getElem?_pos, a73, h1, h2]
  repeat refine ⟨by omega, ?_⟩
  intro y' hy'
  obtain rfl : y' = y := by rw [hk] at hy'; exact (Option.some.inj hy').symm
  rw [less_eq]
  exact .fin _ ⟨by congr 3; rw [Bool.eq_iff_iff]; simp, rfl⟩ (.refl _)

theorem k_Search {l : List Str} {s : Str} {fd : D} {σ : Sg} (hs : sorted l) (hl : l.length ≤ 1048576) (hp : ∀ (k : Nat) y, l[k]? = some y → WCall Tryd.prog fd [.v (.int .i64 k)] σ fun r σ' => r = .v (.bool (decide (s ≤ y))) ∧ σ' = σ) :
    ACalls Tryd.prog 72 [.v (.int .i64 l.length), fd] σ fun r σ' => r = .v (.int .i64 (at0 l s)) ∧ σ' = σ := by
  refine acalls_fit Tryd.func72 (by kernel_rfl) c72 rfl (by simp [a72]) fun hf => ?_
  clear hf
  simp -implicitDefEqProofs (maxSteps := 2000000) (disch := omega) [-getElem?_pos, a72]
  refine W_loop (α := ISt) ⟨0, l.length⟩ (fun x => x.j - x.i) (fun x => ⟨[(1, fd), (5, .v (.int .i64 x.i)), (6, .v (.int .i64 x.j))], σ⟩)
    (fun x => x.i ≤ x.j ∧ x.j ≤ l.length ∧ (∀ (k : Nat) y, k < x.i → l[k]? = some y → y < s) ∧ ∀ (k : Nat) y, x.j ≤ k → l[k]? = some y → s ≤ y)
    (.eq (by simp)) ⟨by simp, by simp, by simp, fun k y hk hy => absurd (List.getElem?_eq_some_iff.1 hy).1 (by simp at hk; omega)⟩ fun ⟨i, j⟩ ⟨hij, hj, h1, h2⟩ => ?_
  dsimp only at hij hj h1 h2 ⊢
  simp -implicitDefEqProofs (maxSteps := 2000000) (disch := omega) [-getElem?_pos]
  refine .mk (fun h => ?_) fun h => ?_
  · have hh := half h (by omega)
    have hm : (i + j) / 2 < j := by omega
    generalize hmid : (i + j) / 2 = m at hh hm
    simp -implicitDefEqProofs (maxSteps := 2000000) (disch := omega) [-getElem?_pos, hh]
    obtain ⟨y, hy⟩ : ∃ y, l[m]? = some y := ⟨_, List.getElem?_eq_getElem (by omega)⟩
    refine (hp m y hy).then fun r hr => ?_
    subst hr
    simp -implicitDefEqProofs (maxSteps := 2000000) (disch := omega) [-getElem?_pos]
    refine .mk (fun hq => ?_) fun hq => ?_
    rotate_left
    · simp -implicitDefEqProofs (maxSteps := 2000000) (disch := omega) [-getElem?_pos]
      refine ⟨⟨i, m⟩, ⟨by dsimp only; omega, by dsimp only; omega, h1, fun k z hk hz => ?_⟩, by dsimp only; omega, .eq (by simp)⟩
      dsimp only at hk
      have hq' : s ≤ y := List.not_lt.1 hq
      rcases Nat.lt_or_ge m k with h3 | h3
      · exact List.le_trans hq' (hs m k y z h3 hy hz)
      · obtain rfl : k = m := by omega
        rw [hy] at hz
        cases hz
        exact hq'
    · simp -implicitDefEqProofs (maxSteps := 2000000) (disch := omega) [-getElem?_pos]
      refine ⟨⟨m + 1, j⟩, ⟨by dsimp only; omega, by dsimp only; omega, fun k z hk hz => ?_, h2⟩, by dsimp only; omega, .eq (by simp)⟩
      dsimp only at hk
      have hq' : y < s := hq
      rcases Nat.lt_or_ge k m with h3 | h3
      · exact List.lt_of_le_of_lt (hs k m z y h3 hz hy) hq'
      · obtain rfl : k = m := by omega
        rw [hy] at hz
        cases hz
        exact hq'
  · have hat : at0 l s = i := takeWhile_at (fun k y hk hy => decide_eq_true (h1 k y hk hy)) (fun y hy => decide_eq_false (List.not_lt.2 (h2 i y (by omega) hy))) (by omega)
    simp -implicitDefEqProofs (maxSteps := 2000000) (disch := omega) [-getElem?_pos]
    exact .fin _ ⟨by rw [hat], rfl⟩ (.refl _)

theorem k_SearchStrings {l : List Str} {s : Str} {σ : Sg} (hs : sorted l) (hl : l.length ≤ 1048576) : ACalls Tryd.prog 53 [.v (vS l), .v (.str s)] σ fun r σ' => r = .v (.int .i64 (at0 l s)) ∧ σ' = σ := by
  refine acalls_fit Tryd.func53 (by kernel_rfl) c53 rfl (by simp [a53]) fun hf => ?_
  clear hf
  simp -implicitDefEqProofs (maxSteps := 2000000) (disch := omega) [-getElem?_pos, a53]
  refine (k_Search (l := l) (s := s) hs hl fun k y hy => WCall_caps.symm ▸ k_SearchStrings1 (l := l) (s := s) (by simp) (by simp) hy).then fun r hr => ?_
  subst hr
  simp -implicitDefEqProofs (maxSteps := 2000000) (disch := omega) [-getElem?_pos]
  exact .fin _ ⟨rfl, rfl⟩ (.refl _)

theorem k_Offset {l : List Str} {s : Str} {σ : Sg} (hs : sorted l) (hl : l.length ≤ 1048576) : ACalls Tryd.prog 37 [.v (vS l), .v (.str s)] σ fun r σ' => r = .v (.int .i64 (at0 l s)) ∧ σ' = σ := by
  refine acalls_fit Tryd.func37 (by kernel_rfl) c37 rfl (by simp [a37]) fun hf => ?_
  clear hf
  simp -implicitDefEqProofs (maxSteps := 2000000) (disch := omega) [-getElem?_pos, a37]
  refine (k_SearchStrings hs hl).then fun r hr => ?_
  subst hr
  simp -implicitDefEqProofs (maxSteps := 2000000) (disch := omega) [-getElem?_pos]
  exact .fin _ ⟨rfl, rfl⟩ (.refl _)
def Asc (l : List Str) : Prop := l.Pairwise (· < ·)

theorem s_tri {x y : Str} (h : ¬ x < y) (k : ¬ x = y) : y < x := by
  rcases List.le_iff_lt_or_eq.1 (List.not_lt.1 h) with h | h
  · exact h
  · exact absurd h.symm k

theorem Asc.split {l : List Str} (h : Asc l) (s : Str) : (∀ x ∈ l.takeWhile (fun x => decide (x < s)), x < s) ∧ (∀ x ∈ l.dropWhile (fun x => decide (x < s)), ¬ x < s) ∧ l.filter (fun x => decide (x < s)) = l.takeWhile fun x => decide (x < s) := by
  induction l with
  | nil => simp
  | cons a t ih =>
    obtain ⟨h1, h2⟩ := List.pairwise_cons.1 h
    obtain ⟨i1, i2, i3⟩ := ih h2
    by_cases ha : a < s
    · simp only [List.takeWhile_cons, List.dropWhile_cons, List.filter_cons, ha, decide_true, if_true]
      refine ⟨fun x hx => ?_, i2, by rw [i3]⟩
      rcases List.mem_cons.1 hx with rfl | hx
      · exact ha
      · exact i1 x hx
    · simp only [List.takeWhile_cons, List.dropWhile_cons, List.filter_cons, ha, decide_false, Bool.false_eq_true, if_false]
      have hall : ∀ x ∈ t, ¬ x < s := fun x hx hs => ha (List.lt_trans (h1 x hx) hs)
      refine ⟨by simp, fun x hx => ?_, ?_⟩
      · rcases List.mem_cons.1 hx with rfl | hx
        · exact ha
        · exact hall x hx
      · rw [List.filter_eq_nil_iff]
        intro x hx
        simpa using hall x hx

theorem Asc.offs_eq {l : List Str} (h : Asc l) (s : Str) : offs l s = at0 l s := by unfold offs at0; rw [(h.split s).2.2]

theorem take_at (l : List Str) (s : Str) : l.take (at0 l s) = l.takeWhile (fun x => decide (x < s)) ∧ l.drop (at0 l s) = l.dropWhile fun x => decide (x < s) := by
  have e := List.takeWhile_append_dropWhile (p := fun x => decide (x < s)) (l := l)
  unfold at0
  have h1 := List.take_left (l₁ := l.takeWhile fun x => decide (x < s)) (l₂ := l.dropWhile fun x => decide (x < s))
  have h2 := List.drop_left (l₁ := l.takeWhile fun x => decide (x < s)) (l₂ := l.dropWhile fun x => decide (x < s))
  rw [e] at h1 h2
  exact ⟨h1, h2⟩

theorem Asc.parts {l : List Str} (h : Asc l) (s : Str) : Asc (l.takeWhile fun x => decide (x < s)) ∧ Asc (l.dropWhile fun x => decide (x < s)) := by
  have e := List.takeWhile_append_dropWhile (p := fun x => decide (x < s)) (l := l)
  rw [← e] at h
  have := List.pairwise_append.1 h
  exact ⟨this.1, this.2.1⟩

theorem Asc.insert {l : List Str} (h : Asc l) {s : Str} (hs : s ∉ l) : Asc (l.take (at0 l s) ++ (s :: l.drop (at0 l s))) := by
  obtain ⟨t1, t2⟩ := take_at l s
  obtain ⟨p1, p2⟩ := h.parts s
  obtain ⟨s1, s2, _⟩ := h.split s
  rw [t1, t2]
  have hgt : ∀ x ∈ l.dropWhile (fun x => decide (x < s)), s < x := by
    intro x hx
    refine s_tri (s2 x hx) ?_
    rintro rfl
    exact hs (by rw [← List.takeWhile_append_dropWhile (p := fun y => decide (y < x)) (l := l)]; exact List.mem_append.2 (.inr hx))
  refine List.pairwise_append.2 ⟨p1, List.pairwise_cons.2 ⟨hgt, p2⟩, fun x hx y hy => ?_⟩
  rcases List.mem_cons.1 hy with rfl | hy
  · exact s1 x hx
  · exact List.lt_trans (s1 x hx) (hgt y hy)

theorem addS_asc {l : List Str} (h : Asc l) (s : Str) : Asc (addS l s) ∧ ∀ x, x ∈ addS l s ↔ x ∈ l ∨ x = s := by
  unfold addS
  split
  · rename_i hs
    exact ⟨h, fun x => ⟨.inl, fun hx => by rcases hx with hx | rfl; exact hx; exact hs⟩⟩
  · rename_i hs
    rw [h.offs_eq]
    refine ⟨h.insert hs, fun x => ?_⟩
    conv => rhs; lhs; rw [← List.take_append_drop (at0 l s) l]
    simp only [List.mem_append, List.mem_cons]
    constructor
    · rintro (h | rfl | h)
      · exact .inl (.inl h)
      · exact .inr rfl
      · exact .inl (.inr h)
    · rintro ((h | h) | rfl)
      · exact .inl h
      · exact .inr (.inr h)
      · exact .inr (.inl rfl)

theorem ofS_asc_aux : ∀ (l acc : List Str), Asc acc → Asc (l.foldl addS acc) ∧ ∀ x, x ∈ l.foldl addS acc ↔ x ∈ acc ∨ x ∈ l
  | [], acc, h => ⟨h, by simp⟩
  | a :: l, acc, h => by
    obtain ⟨h1, h2⟩ := addS_asc h a
    obtain ⟨h3, h4⟩ := ofS_asc_aux l _ h1
    refine ⟨h3, fun x => ?_⟩
    simp only [List.foldl_cons]
    rw [h4 x, h2 x, List.mem_cons]
    constructor
    · rintro ((h | h) | h)
      · exact .inl h
      · exact .inr (.inl h)
      · exact .inr (.inr h)
    · rintro (h | h | h)
      · exact .inl (.inl h)
      · exact .inl (.inr h)
      · exact .inr h

theorem ofS_asc (l : List Str) : Asc (ofS l) ∧ ∀ x, x ∈ ofS l ↔ x ∈ l := by
  have := ofS_asc_aux l [] List.Pairwise.nil
  exact ⟨this.1, fun x => by rw [show ofS l = l.foldl addS [] from rfl, this.2 x]; simp⟩

theorem Asc.ext : ∀ {a b : List Str}, Asc a → Asc b → (∀ x, x ∈ a ↔ x ∈ b) → a = b
  | [], [], _, _, _ => rfl
  | [], y :: b, _, _, h => absurd ((h y).2 (by simp)) (by simp)
  | x :: a, [], _, _, h => absurd ((h x).1 (by simp)) (by simp)
  | x :: a, y :: b, ha, hb, h => by
    obtain ⟨a1, a2⟩ := List.pairwise_cons.1 ha
    obtain ⟨b1, b2⟩ := List.pairwise_cons.1 hb
    have hxy : x = y := by
      rcases List.mem_cons.1 ((h x).1 (by simp)) with e | hx
      · exact e
      · rcases List.mem_cons.1 ((h y).2 (by simp)) with e | hy
        · exact e.symm
        · exact absurd (List.lt_trans (b1 x hx) (a1 y hy)) (List.lt_irrefl y)
    subst hxy
    congr 1
    refine Asc.ext a2 b2 fun z => ?_
    have hz := h z
    simp only [List.mem_cons] at hz
    constructor
    · intro hm
      rcases hz.1 (.inr hm) with rfl | h
      · exact absurd (a1 z hm) (List.lt_irrefl z)
      · exact h
    · intro hm
      rcases hz.2 (.inr hm) with rfl | h
      · exact absurd (b1 z hm) (List.lt_irrefl z)
      · exact h

theorem Asc.sorted {l : List Str} (h : Asc l) : sorted l := by
  intro i j x y hij hx hy
  obtain ⟨h1, rfl⟩ := List.getElem?_eq_some_iff.1 hx
  obtain ⟨h2, rfl⟩ := List.getElem?_eq_some_iff.1 hy
  exact List.le_iff_lt_or_eq.2 (.inl (List.pairwise_iff_getElem.1 h i j h1 h2 hij))

theorem Asc.isS {l : List Str} (h : Asc l) : isS l = true := by
  induction l with
  | nil => rfl
  | cons a t ih =>
    obtain ⟨h1, h2⟩ := List.pairwise_cons.1 h
    cases t with
    | nil => rfl
    | cons b t =>
      show (decide (a < b) && Go.Proofs.YtppdghfpbliaeaaDoor.isS (b :: t)) = true
      rw [ih h2, decide_eq_true (h1 b (by simp))]
      rfl

theorem Asc.nodup {l : List Str} (h : Asc l) : l.Nodup := List.Pairwise.imp (fun hab e => by subst e; exact List.lt_irrefl _ hab) h
end Go.Proofs.YtppdghfpbliaeaaDoor
