/-
  Lexer, plain laws: a token's own slice is cut to that token. (Own work.)
-/
import Derived.Test.YtkfkifgfnlaceaaDoorL9
set_option linter.unusedVariables false
set_option linter.unusedSimpArgs false
namespace Go.Proofs.YtkfkifgfnlaceaaDoor
open Go Go.Abs

theorem takeWhile_take {q : UInt8 → Bool} : ∀ (l : Str) (n : Nat), (l.takeWhile q).length ≤ n → (l.take n).takeWhile q = l.takeWhile q
  | [], n, h => by simp
  | x :: l, n, h => by
    cases hx : q x with
    | true =>
      rw [List.takeWhile_cons_of_pos hx] at h ⊢
      simp only [List.length_cons] at h
      obtain ⟨n, rfl⟩ : ∃ m, n = m + 1 := ⟨n - 1, by omega⟩
      rw [List.take_succ_cons, List.takeWhile_cons_of_pos hx, takeWhile_take l n (by omega)]
    | false =>
      rw [List.takeWhile_cons_of_neg (by simp [hx])]
      cases n with
      | zero => rfl
      | succ n => rw [List.take_succ_cons, List.takeWhile_cons_of_neg (by simp [hx])]
theorem textL_take : ∀ (n : Nat) (r : Str) (k k' : Nat) (out s : Str) (to m : Nat), r.length ≤ n → textL r k out = .ok s to → to ≤ k + m → textL (r.take m) k' out = .ok s (to - k + k')
  | n, [], k, k', out, s, to, m, _, h, _ => by simp [textL] at h
  | 0, c :: r, k, k', out, s, to, m, hn, h, _ => by simp at hn
  | n + 1, c :: r, k, k', out, s, to, m, hn, h, hm => by
    have h0 := textL_to _ _ _ _ _ _ (Nat.le_refl _) h
    simp only [List.length_cons] at hn
    obtain ⟨m, rfl⟩ : ∃ m', m = m' + 1 := ⟨m - 1, by omega⟩
    rw [List.take_succ_cons]
    by_cases h34 : c.toNat = 34
    · rw [textL_q h34] at h ⊢
      cases h
      congr 1
      omega
    · cases hp : plaB c with
      | false => rw [textL_odd h34 hp] at h; cases h
      | true =>
        by_cases h92 : c.toNat = 92
        · cases r with
          | nil => rw [textL_esc0 h92 hp] at h; cases h
          | cons d r =>
            simp only [List.length_cons] at hn
            by_cases h110 : d.toNat = 110
            · rw [textL_escn h92 hp h110] at h
              have h1 := textL_to _ _ _ _ _ _ (Nat.le_refl _) h
              obtain ⟨m, rfl⟩ : ∃ m', m = m' + 1 := ⟨m - 1, by omega⟩
              rw [List.take_succ_cons, textL_escn h92 hp h110, textL_take n r (k + 2) (k' + 2) _ s to m (by omega) h (by omega)]
              congr 1
              omega
            · by_cases h3 : d.toNat = 34 ∨ d.toNat = 92
              · rw [textL_escd h92 hp h110 h3] at h
                have h1 := textL_to _ _ _ _ _ _ (Nat.le_refl _) h
                obtain ⟨m, rfl⟩ : ∃ m', m = m' + 1 := ⟨m - 1, by omega⟩
                rw [List.take_succ_cons, textL_escd h92 hp h110 h3, textL_take n r (k + 2) (k' + 2) _ s to m (by omega) h (by omega)]
                congr 1
                omega
              · rw [textL_esco h92 hp h110 (by omega) (by omega)] at h; cases h
        · rw [textL_plain h34 hp h92] at h
          rw [textL_plain h34 hp h92, textL_take n r (k + 1) (k' + 1) _ s to m (by omega) h (by omega)]
          congr 1
          have h1 := textL_to _ _ _ _ _ _ (Nat.le_refl _) h
          omega
def segL (b : Str) (i hi : Nat) : Str := (b.take hi).drop i
theorem segL_eq {b : Str} {i hi : Nat} : segL b i hi = (b.drop i).take (hi - i) := List.drop_take ..
theorem passS_seg {q : UInt8 → Bool} {b : Str} {i hi : Nat} (h : spanE q b i ≤ hi) : passS q (segL b i hi) 0 = passS q b i ∧ spanE q (segL b i hi) 0 = spanE q b i - i := by
  have h1 : passS q (segL b i hi) 0 = passS q b i := by
    unfold passS
    rw [segL_eq, List.drop_zero]
    exact takeWhile_take _ _ (by unfold spanE at h; omega)
  refine ⟨h1, ?_⟩
  have h2 : spanE q (segL b i hi) 0 = 0 + (passS q (segL b i hi) 0).length := rfl
  have h3 : spanE q b i = i + (passS q b i).length := rfl
  rw [h2, h1, h3]
  omega
theorem oneL_seg {b : Str} {i hi : Nat} {c : UInt8} {t : Tk} {to : Nat} (hc : b[i]? = some c) (h : oneL b i c = .tok t to) (hto : to ≤ hi) : t.i = i ∧ oneL (segL b i hi) 0 c = .tok ⟨t.k, 0, t.n, t.s⟩ (to - i) := by
  have hlt := oneL_to hc h
  unfold oneL at h ⊢
  by_cases hlo : lowB c = true
  · rw [if_pos hlo] at h ⊢
    unfold nameN at h ⊢
    split at h
    · cases h
    · rename_i h20
      cases h
      obtain ⟨e1, e2⟩ := passS_seg (b := b) (i := i) hto
      rw [e1, e2, if_neg h20]
      exact ⟨rfl, rfl⟩
  rw [if_neg hlo] at h ⊢
  by_cases hup : uppB c = true
  · rw [if_pos hup] at h ⊢
    unfold nameN at h ⊢
    split at h
    · cases h
    · rename_i h20
      cases h
      obtain ⟨e1, e2⟩ := passS_seg (b := b) (i := i) hto
      rw [e1, e2, if_neg h20]
      exact ⟨rfl, rfl⟩
  rw [if_neg hup] at h ⊢
  by_cases hdi : digB c = true
  · rw [if_pos hdi] at h ⊢
    unfold numN at h ⊢
    split at h
    · cases h
    · rename_i h20
      cases h
      obtain ⟨e1, e2⟩ := passS_seg (b := b) (i := i) hto
      rw [e1, e2, if_neg h20]
      exact ⟨rfl, rfl⟩
  rw [if_neg hdi] at h ⊢
  by_cases h34 : c.toNat = 34
  · rw [if_pos h34] at h ⊢
    cases ht : textL (b.drop (i + 1)) (i + 1) [] with
    | bad q => rw [ht] at h; cases h
    | ok s e =>
      rw [ht] at h
      unfold textN at h
      split at h
      · rename_i heq; cases heq
      · rename_i s' e' heq
        cases heq
        split at h
        · cases h
        · rename_i h2
          cases h
          have h1 := textL_to _ _ _ _ _ _ (Nat.le_refl _) ht
          have e1 : (segL b i hi).drop 1 = (b.drop (i + 1)).take (hi - (i + 1)) := by
            rw [segL_eq, List.drop_take, List.drop_drop]
            congr 1
          rw [e1, textL_take _ _ (i + 1) (0 + 1) [] s to (hi - (i + 1)) (Nat.le_refl _) ht (by omega)]
          unfold textN
          dsimp only
          rw [if_neg h2]
          refine ⟨rfl, ?_⟩
          congr 1
          omega
  rw [if_neg h34] at h ⊢
  unfold signN at h ⊢
  split at h
  · cases h
  · rename_i hne
    cases h
    have hS : signF (segL b i hi) 0 signsL = signF b i signsL := by
      by_cases hm : i + 2 ≤ hi
      · unfold signF
        rw [segL_eq, List.drop_zero, List.take_take, show min 2 (hi - i) = 2 from by omega]
      · have hL : (signF b i signsL).length = 1 := by
          have : (signF b i signsL).length ≠ 0 := fun h => hne (List.length_eq_zero_iff.1 h)
          omega
        have e1 : segL b i hi = [c] := by
          rw [segL_eq, drop_cons hc, show hi - i = 1 from by omega]
          rfl
        have s1 : signF (segL b i hi) 0 signsL = sgn [c] := by rw [e1]; rfl
        rw [s1]
        cases he : b[i + 1]? with
        | none =>
          have : signF b i signsL = sgn [c] := by rw [signF, drop_cons hc, List.drop_eq_nil_of_le (List.getElem?_eq_none_iff.1 he)]; rfl
          rw [this]
        | some e =>
          have s2 : signF b i signsL = sgn [c, e] := by rw [signF, drop_cons hc, drop_cons he]; rfl
          rw [s2, sgn_two] at hL
          rw [s2, sgn_two, sgn_one]
          by_cases h2 : [c, e] ∈ [[45, 62], [61, 61], [58, 61]]
          · rw [if_pos h2] at hL; simp at hL
          · rw [if_neg h2]
    rw [hS, if_neg hne]
    refine ⟨rfl, ?_⟩
    congr 1
    omega
end Go.Proofs.YtkfkifgfnlaceaaDoor
