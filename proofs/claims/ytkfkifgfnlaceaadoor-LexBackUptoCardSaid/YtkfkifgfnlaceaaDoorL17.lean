/-
  Lexer, plain laws: a text in quotes is cut back. (Own work.)
-/
import Derived.Test.YtkfkifgfnlaceaaDoorL12
set_option linter.unusedVariables false
set_option linter.unusedSimpArgs false
namespace Go.Proofs.YtkfkifgfnlaceaaDoor
open Go Go.Abs

theorem quote_body : ∀ (t acc s : Str), qL t acc = some s → ∃ body, s = acc ++ (body ++ [34]) ∧ body.length ≤ 2 * t.length ∧ ∀ k out rest, textL (body ++ 34 :: rest) k out = .ok (out ++ t) (k + body.length + 1)
  | [], acc, s, h => by
    refine ⟨[], (Option.some.inj h).symm, by simp, fun k out rest => ?_⟩
    rw [List.nil_append, textL_q (by decide)]
    simp
  | c :: t, acc, s, h => by
    rw [qL] at h
    by_cases h10 : c.toNat = 10
    · rw [qB, if_pos h10] at h
      obtain ⟨body, hs, hl, hb⟩ := quote_body t _ s h
      refine ⟨92 :: 110 :: body, by rw [hs]; simp, by simp; omega, fun k out rest => ?_⟩
      rw [List.cons_append, List.cons_append, textL_escn (by decide) (by decide) (by decide), hb]
      have hc : c = 10 := UInt8.toNat_inj.1 h10
      subst hc
      simp
      omega
    · cases hp : plaB c with
      | false => rw [qB, if_neg h10, if_pos hp] at h; cases h
      | true =>
        by_cases h2 : c.toNat = 34 ∨ c.toNat = 92
        · rw [qB, if_neg h10, if_neg (by simp [hp]), if_pos h2] at h
          obtain ⟨body, hs, hl, hb⟩ := quote_body t _ s h
          refine ⟨92 :: c :: body, by rw [hs]; simp, by simp; omega, fun k out rest => ?_⟩
          rw [List.cons_append, List.cons_append, textL_escd (by decide) (by decide) (by omega) h2, hb]
          simp
          omega
        · rw [qB, if_neg h10, if_neg (by simp [hp]), if_neg h2] at h
          obtain ⟨body, hs, hl, hb⟩ := quote_body t _ s h
          refine ⟨c :: body, by rw [hs]; simp, by simp; omega, fun k out rest => ?_⟩
          rw [List.cons_append, textL_plain (by omega) hp (by omega), hb]
          simp
          omega
theorem quote_cut {t s : Str} (hl : t.length ≤ 2000) (h : qL t [34] = some s) (hs : s.length ≤ 4000) : cutL s = .ok [⟨5, 0, 0, t⟩] := by
  obtain ⟨body, rfl, hb, ht⟩ := quote_body t _ s h
  have hlen : ([34] ++ (body ++ [34]) : Str).length = body.length + 2 := by simp
  unfold cutL
  rw [if_neg (by omega), cutF]
  rw [spanE_miss (c := 34) rfl (by decide)]
  have h0 : ([34] ++ (body ++ [34]) : Str)[0]? = some 34 := rfl
  have h1 : oneL ([34] ++ (body ++ [34])) 0 34 = .tok ⟨5, 0, 0, t⟩ (body.length + 2) := by
    have := ht 1 [] []
    rw [oneL, if_neg (by decide), if_neg (by decide), if_neg (by decide), if_pos (by decide)]
    show textN 0 (textL (body ++ [34]) 1 []) = _
    rw [this, textN, if_neg (by simp; omega)]
    simp
    omega
  rw [h0]
  dsimp only
  rw [h1]
  dsimp only
  rw [hlen, cutF, spanE_end (by omega), List.getElem?_eq_none (by omega)]
  rfl
end Go.Proofs.YtkfkifgfnlaceaaDoor
