/-
  Lexer: numbers. (Own work.)
-/
import Derived.Test.YtpdeaekmgljeaaaGreatDoorL5
import Derived.Test.YtpdeaekmgljeaaaGreatDoorShelf
set_option linter.unusedVariables false
set_option linter.unusedSimpArgs false
namespace Go.Proofs.YtpdeaekmgljeaaaGreatDoor
open Go Go.Abs Go.RowKit

theorem Inv.below {σ : Sg} {m : Gh} {w w' : World} (h : Go.Abs.Inv σ m w) (b : Below w.heap.size w w') : Go.Abs.Inv σ m w' ∧ Ext m w m w' := by
  have e : Ext m w m w' := by
    refine ⟨b.os, b.tape, b.output, b.size, fun _ _ h => .inl h, fun _ tk h => ⟨tk, h, rfl, Nat.le_refl _, fun _ => rfl⟩, fun c off f => ⟨cell?_of_heap (b.block c f.1), f.2⟩, fun c hc hn => ⟨b.block c hc, hn⟩⟩
  refine ⟨⟨h.lobj, h.ltok, h.nodup, fun o ob c ho hc => (h.ob o ob c ho hc).mono e (b.block c (h.lt_obj (Gh.mem_objb.2 (List.mem_of_getElem? hc)))), h.gone, fun tk htk => ?_, h.glob.mono e⟩, e⟩
  obtain ⟨h1, h2, h3, h4⟩ := h.tk tk htk
  refine ⟨h1, h2, h3, fun c hc => ?_⟩
  obtain ⟨us, ty, h5, h6⟩ := h4 c hc
  exact ⟨us, ty, (b.block c (Array.getElem?_eq_some_iff.1 h5).1).trans h5, h6⟩
/-- What digits spell. -/
def numV : Str → Nat → Nat
  | [], n => n
  | c :: r, n => numV r (n * 10 + (c.toNat - 48))
theorem numV_nil (n : Nat) : numV [] n = n := rfl
theorem numV_cons (c : UInt8) (r : Str) (n : Nat) : numV (c :: r) n = numV r (n * 10 + (c.toNat - 48)) := rfl
theorem numV_ge : ∀ (s : Str) (n : Nat), n ≤ numV s n
  | [], n => by rw [numV_nil]; exact Nat.le_refl _
  | c :: r, n => by
    have := numV_ge r (n * 10 + (c.toNat - 48))
    rw [numV_cons]
    omega
theorem pu_ok {M : Nat} (hM : M < 18446744073709551620) : ∀ (s : Str) (n : Nat), (∀ c ∈ s, digB c = true) → numV s n ≤ M → Lib.parseUintM M n s = .ok (numV s n)
  | [], n, _, _ => rfl
  | c :: r, n, h, hle => by
    have hc := h c (by simp)
    simp only [digB, Bool.and_eq_true, decide_eq_true_eq] at hc
    have hg := numV_ge r (n * 10 + (c.toNat - 48))
    rw [numV_cons] at hle ⊢
    have h1 : ¬ 1844674407370955162 ≤ n := by omega
    have h2 : ¬ M < n * 10 + (c.toNat - 48) := by omega
    rw [Lib.parseUintM, if_pos hc, if_neg h1, if_neg h2]
    exact pu_ok hM r _ (fun x hx => h x (by simp [hx])) hle
theorem pu_range {M : Nat} (hM : M < 18446744073709551620) : ∀ (s : Str) (n : Nat), (∀ c ∈ s, digB c = true) → n ≤ M → ¬ numV s n ≤ M → Lib.parseUintM M n s = .range
  | [], n, _, hn, hle => absurd hn hle
  | c :: r, n, h, hn, hle => by
    have hc := h c (by simp)
    simp only [digB, Bool.and_eq_true, decide_eq_true_eq] at hc
    rw [numV_cons] at hle
    rw [Lib.parseUintM, if_pos hc]
    by_cases h1 : 1844674407370955162 ≤ n
    · rw [if_pos h1]
    · rw [if_neg h1]
      by_cases h2 : M < n * 10 + (c.toNat - 48)
      · rw [if_pos h2]
      · rw [if_neg h2]
        exact pu_range hM r _ (fun x hx => h x (by simp [hx])) (by omega) hle
theorem pi_eq {s : Str} (h : ∀ c ∈ s, digB c = true) (hne : s ≠ []) : Lib.parseIntB 64 s = if numV s 0 ≤ 9223372036854775807 then .ok (numV s 0 : Nat) else .range := by
  cases s with
  | nil => exact absurd rfl hne
  | cons c r =>
    have hc := h c (by simp)
    simp only [digB, Bool.and_eq_true, decide_eq_true_eq] at hc
    have h43 : ¬ (c.toNat = 43 ∨ c.toNat = 45) := by omega
    have h45 : ¬ c.toNat = 45 := by omega
    have hM : (2 ^ 64 - 1 : Nat) < 18446744073709551620 := by decide
    simp only [Lib.parseIntB]
    rw [if_neg h43]
    unfold Lib.parseUintB
    rw [if_neg (by simp)]
    generalize hN : numV (c :: r) 0 = N
    by_cases h1 : N ≤ 2 ^ 64 - 1
    · rw [pu_ok hM (c :: r) 0 h (by rw [hN]; exact h1), hN]
      dsimp only
      by_cases h2 : N ≤ 9223372036854775807
      · rw [if_pos h2, if_neg (by omega), if_neg (by omega), if_neg h45]
      · rw [if_neg h2, if_pos ⟨h45, by omega⟩]
    · rw [pu_range hM (c :: r) 0 h (Nat.zero_le _) (by rw [hN]; exact h1), if_neg (by omega)]
theorem k_PInt {s : Str} {σ : Sg} (h : ∀ c ∈ s, digB c = true) (hne : s ≠ []) (hl : s.length ≤ 1048576) : ACalls Tryz.prog 122 [.v (.str s), .v (.int .i64 10), .v (.int .i64 64)] σ fun r σ' =>
    ((numV s 0 ≤ 9223372036854775807 → r = .tup [.v (.int .i64 (numV s 0 : Nat)), .v .inil]) ∧ (¬ numV s 0 ≤ 9223372036854775807 → ∃ v t, r = .tup [.v (.int .i64 v), .iface t .junk])) ∧ σ' = σ := by
  have hp := pi_eq h hne
  refine ⟨⟨_, Tryz.func122, by kernel_rfl, by kernel_rfl⟩, fun m w us hI hlen hr => ?_⟩
  match us, hlen with
  | [u1, u2, u3], _ =>
  have g1 := (hr 0 _ _ rfl rfl).v_inv
  have g2 := (hr 1 _ _ rfl rfl).v_inv
  have g3 := (hr 2 _ _ rfl rfl).v_inv
  cases g1 with
  | str _ _ =>
  cases g2 with
  | int _ _ _ =>
  cases g3 with
  | int _ _ _ =>
  by_cases hM : numV s 0 ≤ 9223372036854775807
  · rw [if_pos hM] at hp
    refine (Go.Proofs.Any.strconv_ParseInt_10_at64_ok pintLays ⟨s.toArray⟩ (by simp [ByteArray.size]; omega) _ hp w).mono fun e w' ⟨he, hw⟩ => ?_
    have hB : Below w.heap.size w w' := by
      rcases hw with rfl | ⟨t, rfl⟩
      · exact .refl _ _
      · exact Lib.bytesWorld_below _ _ _
    obtain ⟨hI', hX⟩ := Inv.below hI hB
    refine ⟨_, _, σ, m, he, ⟨⟨fun _ => rfl, fun h => absurd hM h⟩, rfl⟩, hI', hX, .tup _ _ rfl fun i c u h1 h2 => ?_⟩
    match i with
    | 0 => cases h1; cases h2; exact .v _ _ (.int _ _ ⟨by show -9223372036854775808 ≤ ((numV s 0 : Nat) : Int); omega, by show ((numV s 0 : Nat) : Int) ≤ 9223372036854775807; omega⟩)
    | 1 => cases h1; cases h2; exact .v _ _ .inil
    | j + 2 => simp at h1
  · rw [if_neg hM] at hp
    obtain ⟨⟨cs, ty, fr, hh, te, pe, rfl⟩, _⟩ := hI.glob (6, fun cs => ∃ te pe, cs = #[.iface te pe]) (by simp [globs])
    have hv : w.cell? ⟨6, 0, none⟩ = some (.iface te pe) := by rw [cell_of_row w 6 0 _ ty fr hh]; rfl
    refine (Go.Proofs.Any.strconv_ParseInt_10_at64_range pintLays ⟨s.toArray⟩ (by simp [ByteArray.size]; omega) hp _ w hv (.inr ⟨_, _, rfl⟩)).mono fun e w' ⟨N, he, hN, hN2, hB⟩ => ?_
    obtain ⟨hI', hX⟩ := Inv.below hI hB
    refine ⟨_, .tup [.v (.int .i64 (Lib.intSat 64 s)), .iface 230 .junk], σ, m, he, ⟨⟨fun h => absurd h hM, fun _ => ⟨_, _, rfl⟩⟩, rfl⟩, hI', hX, .tup _ _ rfl fun i c u h1 h2 => ?_⟩
    match i with
    | 0 =>
      cases h1; cases h2
      refine .v _ _ (.int _ _ ?_)
      unfold Lib.intSat
      split <;> decide
    | 1 => cases h1; cases h2; exact .iface _ _ _ (.junk _)
    | j + 2 => simp at h1
end Go.Proofs.YtpdeaekmgljeaaaGreatDoor
