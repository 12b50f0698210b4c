/-
  Layer 9: sets of labels, in plain words. (Own work.)
-/
import Derived.Test.YtppdghfpbliaeaaB4
set_option linter.unusedVariables false
set_option linter.unusedSimpArgs false
namespace Go.Proofs.Ytppdghfpbliaeaa
open Go Go.Abs

def Asc (l : List Str) : Prop := l.Pairwise (· < ·)
theorem s_tri {x y : Str} (h : ¬ x < y) (k : ¬ x = y) : y < x := by
  rcases List.le_iff_lt_or_eq.1 (List.not_lt.1 h) with h | h
  · exact h
  · exact absurd h.symm k

theorem Asc.split {l : List Str} (h : Asc l) (s : Str) : (∀ x ∈ l.takeWhile (fun x => decide (x < s)), x < s) ∧ (∀ x ∈ l.dropWhile (fun x => decide (x < s)), ¬ x < s) ∧ l.filter (fun x => decide (x < s)) = l.takeWhile fun x => decide (x < s) := by
  induction l with
  | nil => simp
  | cons a t ih =>
    obtain ⟨h1, h2⟩ := List.pairwise_cons.1 h
    obtain ⟨i1, i2, i3⟩ := ih h2
    by_cases ha : a < s
    · simp only [List.takeWhile_cons, List.dropWhile_cons, List.filter_cons, ha, decide_true, if_true]
      refine ⟨fun x hx => ?_, i2, by rw [i3]⟩
      rcases List.mem_cons.1 hx with rfl | hx
      · exact ha
      · exact i1 x hx
    · simp only [List.takeWhile_cons, List.dropWhile_cons, List.filter_cons, ha, decide_false, Bool.false_eq_true, if_false]
      have hall : ∀ x ∈ t, ¬ x < s := fun x hx hs => ha (List.lt_trans (h1 x hx) hs)
      refine ⟨by simp, fun x hx => ?_, ?_⟩
      · rcases List.mem_cons.1 hx with rfl | hx
        · exact ha
        · exact hall x hx
      · rw [List.filter_eq_nil_iff]
        intro x hx
        simpa using hall x hx

theorem Asc.offs_eq {l : List Str} (h : Asc l) (s : Str) : offs l s = at0 l s := by unfold offs at0; rw [(h.split s).2.2]
theorem take_at (l : List Str) (s : Str) : l.take (at0 l s) = l.takeWhile (fun x => decide (x < s)) ∧ l.drop (at0 l s) = l.dropWhile fun x => decide (x < s) := by
  have e := List.takeWhile_append_dropWhile (p := fun x => decide (x < s)) (l := l)
  unfold at0
  have h1 := List.take_left (l₁ := l.takeWhile fun x => decide (x < s)) (l₂ := l.dropWhile fun x => decide (x < s))
  have h2 := List.drop_left (l₁ := l.takeWhile fun x => decide (x < s)) (l₂ := l.dropWhile fun x => decide (x < s))
  rw [e] at h1 h2
  exact ⟨h1, h2⟩

theorem Asc.parts {l : List Str} (h : Asc l) (s : Str) : Asc (l.takeWhile fun x => decide (x < s)) ∧ Asc (l.dropWhile fun x => decide (x < s)) := by
  have e := List.takeWhile_append_dropWhile (p := fun x => decide (x < s)) (l := l)
  rw [← e] at h
  have := List.pairwise_append.1 h
  exact ⟨this.1, this.2.1⟩
theorem Asc.insert {l : List Str} (h : Asc l) {s : Str} (hs : s ∉ l) : Asc (l.take (at0 l s) ++ (s :: l.drop (at0 l s))) := by
  obtain ⟨t1, t2⟩ := take_at l s
  obtain ⟨p1, p2⟩ := h.parts s
  obtain ⟨s1, s2, _⟩ := h.split s
  rw [t1, t2]
  have hgt : ∀ x ∈ l.dropWhile (fun x => decide (x < s)), s < x := by
    intro x hx
    refine s_tri (s2 x hx) ?_
    rintro rfl
    exact hs (by rw [← List.takeWhile_append_dropWhile (p := fun y => decide (y < x)) (l := l)]; exact List.mem_append.2 (.inr hx))
  refine List.pairwise_append.2 ⟨p1, List.pairwise_cons.2 ⟨hgt, p2⟩, fun x hx y hy => ?_⟩
  rcases List.mem_cons.1 hy with rfl | hy
  · exact s1 x hx
  · exact List.lt_trans (s1 x hx) (hgt y hy)
theorem addS_asc {l : List Str} (h : Asc l) (s : Str) : Asc (addS l s) ∧ ∀ x, x ∈ addS l s ↔ x ∈ l ∨ x = s := by
  unfold addS
  split
  · rename_i hs
    exact ⟨h, fun x => ⟨.inl, fun hx => by rcases hx with hx | rfl; exact hx; exact hs⟩⟩
  · rename_i hs
    rw [h.offs_eq]
    refine ⟨h.insert hs, fun x => ?_⟩
    conv => rhs; lhs; rw [← List.take_append_drop (at0 l s) l]
    simp only [List.mem_append, List.mem_cons]
    constructor
    · rintro (h | rfl | h)
      · exact .inl (.inl h)
      · exact .inr rfl
      · exact .inl (.inr h)
    · rintro ((h | h) | rfl)
      · exact .inl h
      · exact .inr (.inr h)
      · exact .inr (.inl rfl)
theorem ofS_asc_aux : ∀ (l acc : List Str), Asc acc → Asc (l.foldl addS acc) ∧ ∀ x, x ∈ l.foldl addS acc ↔ x ∈ acc ∨ x ∈ l
  | [], acc, h => ⟨h, by simp⟩
  | a :: l, acc, h => by
    obtain ⟨h1, h2⟩ := addS_asc h a
    obtain ⟨h3, h4⟩ := ofS_asc_aux l _ h1
    refine ⟨h3, fun x => ?_⟩
    simp only [List.foldl_cons]
    rw [h4 x, h2 x, List.mem_cons]
    constructor
    · rintro ((h | h) | h)
      · exact .inl h
      · exact .inr (.inl h)
      · exact .inr (.inr h)
    · rintro (h | h | h)
      · exact .inl (.inl h)
      · exact .inl (.inr h)
      · exact .inr h
theorem ofS_asc (l : List Str) : Asc (ofS l) ∧ ∀ x, x ∈ ofS l ↔ x ∈ l := by
  have := ofS_asc_aux l [] List.Pairwise.nil
  exact ⟨this.1, fun x => by rw [show ofS l = l.foldl addS [] from rfl, this.2 x]; simp⟩

theorem Asc.ext : ∀ {a b : List Str}, Asc a → Asc b → (∀ x, x ∈ a ↔ x ∈ b) → a = b
  | [], [], _, _, _ => rfl
  | [], y :: b, _, _, h => absurd ((h y).2 (by simp)) (by simp)
  | x :: a, [], _, _, h => absurd ((h x).1 (by simp)) (by simp)
  | x :: a, y :: b, ha, hb, h => by
    obtain ⟨a1, a2⟩ := List.pairwise_cons.1 ha
    obtain ⟨b1, b2⟩ := List.pairwise_cons.1 hb
    have hxy : x = y := by
      rcases List.mem_cons.1 ((h x).1 (by simp)) with e | hx
      · exact e
      · rcases List.mem_cons.1 ((h y).2 (by simp)) with e | hy
        · exact e.symm
        · exact absurd (List.lt_trans (b1 x hx) (a1 y hy)) (List.lt_irrefl y)
    subst hxy
    congr 1
    refine Asc.ext a2 b2 fun z => ?_
    have hz := h z
    simp only [List.mem_cons] at hz
    constructor
    · intro hm
      rcases hz.1 (.inr hm) with rfl | h
      · exact absurd (a1 z hm) (List.lt_irrefl z)
      · exact h
    · intro hm
      rcases hz.2 (.inr hm) with rfl | h
      · exact absurd (b1 z hm) (List.lt_irrefl z)
      · exact h

theorem sortS_sorted (l : List Str) : sorted (sortS l) := by
  have h := List.pairwise_mergeSort (le := fun x y : Str => decide (x ≤ y)) (fun a b c h1 h2 => by simp at *; exact List.le_trans h1 h2) (fun a b => by simp; exact List.le_total a b) l
  intro i j x y hij hx hy
  obtain ⟨h1, rfl⟩ := List.getElem?_eq_some_iff.1 hx
  obtain ⟨h2, rfl⟩ := List.getElem?_eq_some_iff.1 hy
  have := List.pairwise_iff_getElem.1 h i j h1 h2 hij
  exact of_decide_eq_true this

theorem cmpN_asc {l : List Str} (hs : sorted l) : ∀ n, n ≤ l.length → Asc (cmpN l n) ∧ ∀ x, x ∈ cmpN l n ↔ x ∈ l.take n
  | 0, _ => ⟨List.Pairwise.nil, by simp [cmpN]⟩
  | n + 1, hn => by
    obtain ⟨h1, h2⟩ := cmpN_asc hs n (by omega)
    obtain ⟨y, hy⟩ : ∃ y, l[n]? = some y := ⟨_, List.getElem?_eq_getElem (by omega)⟩
    rw [cmpN, hy, List.take_add_one, hy]
    dsimp only
    by_cases hc : n ≠ 0 ∧ l[n - 1]? = some y
    · rw [if_pos hc, List.append_nil]
      refine ⟨h1, fun x => ?_⟩
      rw [h2 x]
      simp only [List.mem_append, Option.toList_some, List.mem_singleton]
      refine ⟨.inl, fun h => ?_⟩
      rcases h with h | rfl
      · exact h
      · exact List.mem_of_getElem? (show (l.take n)[n - 1]? = some x by rw [List.getElem?_take_of_lt (by omega)]; exact hc.2)
    · rw [if_neg hc]
      refine ⟨List.pairwise_append.2 ⟨h1, List.pairwise_singleton _ _, fun x hx z hz => ?_⟩, fun x => by simp only [List.mem_append, h2 x, Option.toList_some]⟩
      rw [List.mem_singleton] at hz
      subst hz
      obtain ⟨k, hk⟩ := List.mem_iff_getElem?.1 ((h2 x).1 hx)
      have hkn : k < n := by
        have := (List.getElem?_eq_some_iff.1 hk).1
        simp at this
        omega
      rw [List.getElem?_take_of_lt hkn] at hk
      obtain ⟨w, hw⟩ : ∃ w, l[n - 1]? = some w := ⟨_, List.getElem?_eq_getElem (by omega)⟩
      have hwz : w < z := by
        rcases List.le_iff_lt_or_eq.1 (hs (n - 1) n w z (by omega) hw hy) with h | h
        · exact h
        · exact absurd ⟨by omega, by rw [hw, h]⟩ hc
      have hxw : x ≤ w := by
        rcases Nat.lt_or_ge k (n - 1) with h | h
        · exact hs k (n - 1) x w h hk hw
        · obtain rfl : k = n - 1 := by omega
          rw [hw] at hk
          cases hk
          exact List.le_refl _
      exact List.lt_of_le_of_lt hxw hwz
theorem setS_asc (l : List Str) : Asc (setS l) ∧ ∀ x, x ∈ setS l ↔ x ∈ l := by
  obtain ⟨h1, h2⟩ := cmpN_asc (sortS_sorted l) (sortS l).length (Nat.le_refl _)
  refine ⟨h1, fun x => ?_⟩
  have := h2 x
  rw [List.take_length] at this
  rw [show setS l = cmpN (sortS l) (sortS l).length from rfl, this]
  exact (List.mergeSort_perm l _).mem_iff
theorem set_of (l : List Str) : setS l = ofS l := (setS_asc l).1.ext (ofS_asc l).1 fun x => by rw [(setS_asc l).2, (ofS_asc l).2]

theorem Asc.sorted {l : List Str} (h : Asc l) : sorted l := by
  intro i j x y hij hx hy
  obtain ⟨h1, rfl⟩ := List.getElem?_eq_some_iff.1 hx
  obtain ⟨h2, rfl⟩ := List.getElem?_eq_some_iff.1 hy
  exact List.le_iff_lt_or_eq.2 (.inl (List.pairwise_iff_getElem.1 h i j h1 h2 hij))
theorem Asc.has {l : List Str} (h : Asc l) (s : Str) : hasS l s = decide (s ∈ l) := by
  unfold hasS
  obtain ⟨t1, t2⟩ := take_at l s
  obtain ⟨p1, p2⟩ := h.parts s
  obtain ⟨s1, s2, _⟩ := h.split s
  have hat : l[at0 l s]? = (l.drop (at0 l s))[0]? := by rw [List.getElem?_drop]; rfl
  rw [Bool.eq_iff_iff]
  simp only [decide_eq_true_eq]
  constructor
  · exact fun e => List.mem_of_getElem? e
  · intro hm
    rw [← List.takeWhile_append_dropWhile (p := fun x => decide (x < s)) (l := l)] at hm
    rcases List.mem_append.1 hm with hm | hm
    · exact absurd (s1 s hm) (List.lt_irrefl s)
    · rw [hat, t2]
      cases hd : l.dropWhile (fun x => decide (x < s)) with
      | nil => rw [hd] at hm; cases hm
      | cons a t =>
        rw [hd] at hm p2 s2
        rcases List.mem_cons.1 hm with e | hm
        · rw [e]; rfl
        · exact absurd ((List.pairwise_cons.1 p2).1 s hm) (s2 a (by simp))
theorem Asc.isS {l : List Str} (h : Asc l) : isS l = true := by
  induction l with
  | nil => rfl
  | cons a t ih =>
    obtain ⟨h1, h2⟩ := List.pairwise_cons.1 h
    cases t with
    | nil => rfl
    | cons b t =>
      show (decide (a < b) && Go.Proofs.Ytppdghfpbliaeaa.isS (b :: t)) = true
      rw [ih h2, decide_eq_true (h1 b (by simp))]
      rfl
theorem Asc.nodup {l : List Str} (h : Asc l) : l.Nodup := List.Pairwise.imp (fun hab e => by subst e; exact List.lt_irrefl _ hab) h
theorem join_len {a b : List Str} (ha : Asc a) (hb : Asc b) : (setS (a ++ b)).length = a.length + (b.filter fun s => !hasS a s).length := by
  obtain ⟨h1, h2⟩ := setS_asc (a ++ b)
  have hn : (a ++ b.filter fun s => !hasS a s).Nodup := by
    refine List.nodup_append.2 ⟨ha.nodup, hb.nodup.sublist List.filter_sublist, fun x hx y hy => ?_⟩
    rintro rfl
    have := (List.mem_filter.1 hy).2
    rw [ha.has] at this
    simp [hx] at this
  have hp : (setS (a ++ b)).Perm (a ++ b.filter fun s => !hasS a s) := (List.perm_ext_iff_of_nodup h1.nodup hn).2 fun x => by
    rw [h2 x, List.mem_append, List.mem_append, List.mem_filter, ha.has]
    by_cases hx : x ∈ a <;> simp [hx]
  rw [hp.length_eq, List.length_append]
theorem parts_len (a b : List Str) : a.length = (a.filter fun s => !hasS b s).length + (a.filter fun s => hasS b s).length := by
  induction a with
  | nil => rfl
  | cons x a ih =>
    simp only [List.filter_cons, List.length_cons]
    cases hasS b x <;> simp <;> omega
end Go.Proofs.Ytppdghfpbliaeaa
