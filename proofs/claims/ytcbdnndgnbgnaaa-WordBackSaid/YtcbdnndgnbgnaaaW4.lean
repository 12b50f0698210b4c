/-
  The word package: what was packed is unpacked, and nothing else. (Own work.)
-/
import Derived.Test.YtcbdnndgnbgnaaaW3
set_option linter.unusedVariables false
set_option linter.unusedSimpArgs false
namespace Go.Proofs.Ytcbdnndgnbgnaaa
open Go Go.Abs

theorem wrap_i64_inj {a b : Nat} (ha : a < 18446744073709551616) (hb : b < 18446744073709551616) (h : IntKind.wrap .i64 (a : Int) = IntKind.wrap .i64 (b : Int)) : a = b := by
  unfold IntKind.wrap at h
  simp [IntKind.bits, IntKind.signed] at h
  have h1 : (a : Int) % 18446744073709551616 = a := by omega
  have h2 : (b : Int) % 18446744073709551616 = b := by omega
  rw [h1, h2] at h
  split at h <;> split at h <;> omega
theorem wrap_i64_u64 {n : Int} (h1 : -9223372036854775808 ≤ n) (h2 : n ≤ 9223372036854775807) : IntKind.wrap .i64 (u64 n : Int) = n := by
  rw [← wrap_u64_eq]
  unfold IntKind.wrap
  simp [IntKind.bits, IntKind.signed]
  omega

theorem le_append (a b : List UInt8) : le (a ++ b) = le a + 256 ^ a.length * le b := by
  induction a with
  | nil => simp [le]
  | cons c a ih => simp only [List.cons_append, le, ih, List.length_cons, Nat.pow_succ, Nat.mul_add]; rw [Nat.mul_comm (256 ^ a.length) 256, Nat.mul_assoc]; omega
theorem le_zero {l : List UInt8} : le l = 0 ↔ l.all (fun c => c == 0) = true := by
  induction l with
  | nil => simp [le]
  | cons c l ih =>
    simp only [le, List.all_cons, Bool.and_eq_true, beq_iff_eq]
    rw [← ih, ← UInt8.toNat_inj]
    simp
    omega

theorem le_range (n : Int) : ∀ k, le ((List.range k).map (byteAt n)) = u64 n % 256 ^ k := by
  intro k
  induction k with
  | zero => simp [le, Nat.mod_one]
  | succ k ih =>
    rw [List.range_succ, List.map_append, le_append, ih]
    simp only [List.map_cons, List.map_nil, List.length_map, List.length_range, le, byteAt_toNat, Nat.mul_zero, Nat.add_zero]
    rw [Nat.pow_succ, Nat.mod_mul]
theorem le_bytes8 (n : Int) : le (bytes8 n) = u64 n := by
  rw [bytes8, le_range]
  exact Nat.mod_eq_of_lt (by have := u64_lt n; simpa using this)

def pk (bs : List UInt8) : Nat → List Wd
  | 0 => []
  | m + 1 => ⟨false, IntKind.wrap .i64 (le (bs.take 8))⟩ :: pk (bs.drop 8) m
theorem pk_eq (m : Nat) : ∀ bs : List UInt8, (List.range m).map (fun k => (⟨false, IntKind.wrap .i64 (le ((bs.drop (8 * k)).take 8))⟩ : Wd)) = pk bs m := by
  induction m with
  | zero => intro bs; rfl
  | succ m ih =>
    intro bs
    rw [List.range_succ_eq_map, List.map_cons, List.map_map, pk, ← ih (bs.drop 8)]
    simp only [Nat.mul_zero, List.drop_zero, List.cons.injEq, true_and]
    apply List.map_congr_left
    intro k _
    simp only [Function.comp, List.drop_drop, Nat.mul_succ, Nat.add_comm]
theorem packL_eq (bs : List UInt8) : packL bs = ⟨false, bs.length⟩ :: pk bs ((bs.length + 7) / 8) := by rw [packL, pk_eq]

def ok64 (r : List Wd) : Prop := ∀ w ∈ r, -9223372036854775808 ≤ w.n ∧ w.n ≤ 9223372036854775807

theorem body_cons (w : Wd) (r : List Wd) : body (w :: r) = bytes8 w.n ++ body r := rfl

theorem pk_body : ∀ (r : List Wd) (n : Nat), ok64 r → n ≤ 8 * r.length →
    (pk ((body r).take n) ((n + 7) / 8) = r ↔ (r.all (fun x => !x.p) = true ∧ ((body r).drop n).all (fun c => c == 0) = true ∧ 8 * r.length - n < 8))
  | [], n, _, hn => by
    have : n = 0 := by simpa using hn
    subst this
    simp [pk, body]
  | w :: r, n, hr, hn => by
    have hr' : ok64 r := fun x hx => hr x (by simp [hx])
    have hw := hr w (by simp)
    have hl8 := bytes8_length w.n
    simp only [List.length_cons] at hn ⊢
    rcases Nat.eq_zero_or_pos n with h0 | h0
    · subst h0
      simp [pk]
      omega
    rcases Nat.lt_or_ge n 8 with h8 | h8
    · rw [show (n + 7) / 8 = 0 + 1 by omega, pk, pk, body_cons, List.take_take, Nat.min_eq_right (by omega), List.take_append_of_le_length (by omega), List.drop_append_of_le_length (by omega)]
      simp only [List.cons.injEq, List.all_cons, List.all_append, Bool.and_eq_true]
      have hle : le (bytes8 w.n) = le ((bytes8 w.n).take n) + 256 ^ n * le ((bytes8 w.n).drop n) := by
        conv => lhs; rw [← List.take_append_drop n (bytes8 w.n)]
        rw [le_append]
        congr 3
        simp; omega
      have hp : 0 < 256 ^ n := Nat.pow_pos (by omega)
      constructor
      · rintro ⟨h1, rfl⟩
        have hwp : w.p = false := by rw [← h1]
        have hwn : IntKind.wrap .i64 (le ((bytes8 w.n).take n) : Nat) = w.n := by conv => rhs; rw [← h1]
        refine ⟨⟨by simp [hwp], rfl⟩, ⟨?_, rfl⟩, by simp; omega⟩
        rw [← le_zero]
        have h2 := wrap_i64_inj (a := le ((bytes8 w.n).take n)) (b := u64 w.n) (le_lt8 (by simp; omega)) (u64_lt _) (by rw [hwn, wrap_i64_u64 hw.1 hw.2])
        rw [le_bytes8, h2] at hle
        have : 256 ^ n * le ((bytes8 w.n).drop n) = 0 := by omega
        rcases Nat.mul_eq_zero.1 this with h | h
        · omega
        · exact h
      · rintro ⟨⟨h1, _⟩, ⟨h2, _⟩, h3⟩
        have hr0 : r = [] := List.eq_nil_of_length_eq_zero (by omega)
        subst hr0
        refine ⟨?_, rfl⟩
        rw [← le_zero] at h2
        rw [h2, Nat.mul_zero, Nat.add_zero, le_bytes8] at hle
        obtain ⟨p, m⟩ := w
        simp only [Bool.not_eq_true'] at h1
        subst h1
        rw [← hle, wrap_i64_u64 hw.1 hw.2]
    · have ih := pk_body r (n - 8) hr' (by omega)
      have e1 : (body (w :: r)).take n = bytes8 w.n ++ (body r).take (n - 8) := by rw [body_cons, List.take_append, hl8, List.take_of_length_le (by omega)]
      have e2 : (body (w :: r)).drop n = (body r).drop (n - 8) := by rw [body_cons, List.drop_append, hl8, List.drop_of_length_le (by omega)]; rfl
      rw [e1, e2, show (n + 7) / 8 = (n - 8 + 7) / 8 + 1 by omega, pk, List.take_append_of_le_length (by omega), List.take_of_length_le (by omega), List.drop_append_of_le_length (by omega), List.drop_of_length_le (by omega), List.nil_append, le_bytes8, wrap_i64_u64 hw.1 hw.2]
      simp only [List.cons.injEq, List.all_cons, Bool.and_eq_true, ih]
      obtain ⟨p, m⟩ := w
      cases p <;> simp
      omega

theorem runpack_ok {L : List Wd} (hL : ok64 L) (h : unpackOk L = true) : runpack L = [.sl none false (bytesV ((body (L.drop 1)).take (L.headD ⟨false, 0⟩).n.toNat)), .bool true] := by
  cases L with
  | nil => simp [unpackOk] at h
  | cons w r =>
    obtain ⟨p, n⟩ := w
    simp only [unpackOk, Bool.and_eq_true, decide_eq_true_eq, Bool.not_eq_true'] at h
    obtain ⟨⟨⟨⟨⟨h1, h2⟩, h3⟩, h4⟩, h5⟩, h6⟩ := h
    rw [body_length] at h6
    have hlen : ((body r).take n.toNat).length = n.toNat := by rw [List.length_take, body_length]; omega
    rw [runpack, if_neg (by simp [h1]; omega)]
    simp only [List.drop_succ_cons, List.drop_zero, List.headD_cons, List.cons.injEq, true_and, and_true]
    rw [decide_eq_true]
    rw [packL_eq, hlen, (pk_body r n.toNat (fun x hx => hL x (by simp [hx])) (by omega)).2 ⟨h4, h5, h6⟩]
    simp [h1]
    omega
theorem runpack_no {L : List Wd} (hL : ok64 L) (h : unpackOk L = false) : ∃ bs, runpack L = [.sl none false (bytesV bs), .bool false] := by
  cases L with
  | nil => exact ⟨[], rfl⟩
  | cons w r =>
    obtain ⟨p, n⟩ := w
    rw [runpack]
    by_cases hc : p = true ∨ n < 0 ∨ 8 * (r.length : Int) < n
    · rw [if_pos hc]; exact ⟨[], rfl⟩
    · rw [if_neg hc]
      refine ⟨(body r).take n.toNat, ?_⟩
      rw [decide_eq_false]
      intro he
      have hlen : ((body r).take n.toNat).length = n.toNat := by rw [List.length_take, body_length]; omega
      rw [packL_eq, hlen] at he
      have := (pk_body r n.toNat (fun x hx => hL x (by simp [hx])) (by omega)).1 (List.cons.inj he).2
      simp only [not_or, Bool.not_eq_true] at hc
      simp only [unpackOk, hc.1, this.1, this.2.1, body_length] at h
      simp at h
      omega
end Go.Proofs.Ytcbdnndgnbgnaaa
