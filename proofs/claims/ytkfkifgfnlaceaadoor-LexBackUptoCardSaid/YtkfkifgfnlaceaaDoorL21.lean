/-
  Lexer, plain laws: each token's own slice is cut to that one token. (Own work.)
-/
import Derived.Test.YtkfkifgfnlaceaaDoorL18
set_option linter.unusedVariables false
set_option linter.unusedSimpArgs false
namespace Go.Proofs.YtkfkifgfnlaceaaDoor
open Go Go.Abs

def Runs (b : Str) : Nat → List Tk → Prop
  | i, [] => b[spanE blaB b i]? = none
  | i, t :: r => ∃ c to, b[spanE blaB b i]? = some c ∧ oneL b (spanE blaB b i) c = .tok t to ∧ Runs b to r
theorem cutF_runs {b : Str} : ∀ (f i : Nat) (acc l : List Tk), cutF f b i acc = .ok l → ∃ r, l = acc ++ r ∧ Runs b i r
  | 0, i, acc, l, h => by cases h
  | f + 1, i, acc, l, h => by
    rw [cutF] at h
    cases hc : b[spanE blaB b i]? with
    | none => rw [hc] at h; cases h; exact ⟨[], by simp, hc⟩
    | some c =>
      rw [hc] at h
      dsimp only at h
      cases ho : oneL b (spanE blaB b i) c with
      | bad q => rw [ho] at h; cases h
      | tok t to =>
        rw [ho] at h
        obtain ⟨r, hr, hR⟩ := cutF_runs f to _ l h
        exact ⟨t :: r, by rw [hr]; simp, c, to, hc, ho, hR⟩
/-- Where the token's own slice ends. -/
def endL (b : Str) : List Tk → Nat
  | [] => b.length
  | t :: _ => t.i
theorem Runs.next {b : Str} {i : Nat} {r : List Tk} (hi : i ≤ b.length) (h : Runs b i r) : endL b r = spanE blaB b i := by
  cases r with
  | nil =>
    have h1 : b[spanE blaB b i]? = none := h
    have h2 := spanE_le (q := blaB) hi
    have h3 := List.getElem?_eq_none_iff.1 h1
    show b.length = _
    omega
  | cons t r =>
    obtain ⟨c, to, hc, ho, hR⟩ := h
    have := oneL_to hc ho
    exact (oneL_seg hc ho (Nat.le_refl _)).1
theorem takeWhile_stop {q : UInt8 → Bool} {c : UInt8} : ∀ l : Str, l[(l.takeWhile q).length]? = some c → q c = false
  | [], h => by simp at h
  | x :: l, h => by
    cases hx : q x with
    | true =>
      rw [List.takeWhile_cons_of_pos hx, List.length_cons, List.getElem?_cons_succ] at h
      exact takeWhile_stop l h
    | false =>
      rw [List.takeWhile_cons_of_neg (by simp [hx])] at h
      cases h
      exact hx
theorem spanE_stop {q : UInt8 → Bool} {b : Str} {i : Nat} {c : UInt8} (h : b[spanE q b i]? = some c) : q c = false := by
  unfold spanE at h
  rw [← List.getElem?_drop] at h
  exact takeWhile_stop _ h
theorem seg_cut {b : Str} {i : Nat} {t : Tk} {r : List Tk} (hi : i ≤ b.length) (hb : b.length ≤ 4000) (h : Runs b i (t :: r)) : t.i < endL b r ∧ endL b r ≤ b.length ∧ cutL (segL b t.i (endL b r)) = .ok [⟨t.k, 0, t.n, t.s⟩] := by
  obtain ⟨c, to, hc, ho, hR⟩ := h
  have h1 := oneL_to hc ho
  have h2 := hR.next h1.2
  have h3 := spanE_ge blaB b to
  have h4 := spanE_le (q := blaB) h1.2
  rw [h2]
  have hstop := spanE_stop hc
  obtain ⟨e1, e2⟩ := oneL_seg (hi := spanE blaB b to) hc ho h3
  rw [e1]
  generalize spanE blaB b i = s at *
  have hlen : (segL b s (spanE blaB b to)).length = spanE blaB b to - s := by rw [segL_eq]; simp; omega
  have h0 : (segL b s (spanE blaB b to))[0]? = some c := by
    rw [segL_eq, drop_cons hc]
    rw [show spanE blaB b to - s = (spanE blaB b to - s - 1) + 1 from by omega]
    rfl
  have hend : spanE blaB (segL b s (spanE blaB b to)) (to - s) = spanE blaB b to - s := by
    have e3 : (segL b s (spanE blaB b to)).drop (to - s) = (b.drop to).take (spanE blaB b to - to) := by
      rw [segL_eq, List.drop_take, List.drop_drop]
      congr 1
      · omega
      · congr 1
        omega
    have e4 : spanE blaB b to = to + ((b.drop to).takeWhile blaB).length := rfl
    have e5 : spanE blaB (segL b s (spanE blaB b to)) (to - s) = (to - s) + (((segL b s (spanE blaB b to)).drop (to - s)).takeWhile blaB).length := rfl
    rw [e5, e3, takeWhile_take _ _ (by omega)]
    omega
  refine ⟨by omega, h4, ?_⟩
  unfold cutL
  rw [if_neg (by omega), cutF, spanE_miss h0 hstop, h0]
  dsimp only
  rw [e2]
  dsimp only
  rw [hlen, show spanE blaB b to - s = (spanE blaB b to - s - 1) + 1 from by omega, cutF, hend, List.getElem?_eq_none (by omega)]
  rfl
end Go.Proofs.YtkfkifgfnlaceaaDoor
