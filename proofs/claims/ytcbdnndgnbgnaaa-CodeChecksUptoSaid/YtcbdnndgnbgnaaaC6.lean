/-
  Layer 19: numbers as bytes. (Own work.)
-/
import Derived.Test.YtcbdnndgnbgnaaaC5
set_option linter.unusedVariables false
set_option linter.unusedSimpArgs false
namespace Go.Proofs.Ytcbdnndgnbgnaaa
open Go Go.Abs

/-- The number whose bytes are put. -/
def zig (n : Int) : Nat := if n < 0 then 2 * (-(n + 1)).toNat + 1 else 2 * n.toNat
def bl (u : Nat) : UInt8 := .ofNat u
def bh (u : Nat) : UInt8 := .ofNat (u % 128 + 128)
/-- The bytes of a number, k more than the last at the most. -/
def lebF : Nat → Nat → List UInt8
  | 0, u => [bl u]
  | k + 1, u => if u < 128 then [bl u] else bh u :: lebF k (u / 128)
def leb (n : Int) : List UInt8 := lebF 9 (zig n)

theorem lebF_last {k u : Nat} (h : u < 128) : lebF k u = [bl u] := by
  cases k with
  | zero => rfl
  | succ k => simp [lebF, h]
theorem zig_lt {n : Int} (h1 : -9223372036854775808 ≤ n) (h2 : n ≤ 9223372036854775807) : zig n < 2 * 128 ^ 9 := by
  have : (2 : Nat) * 128 ^ 9 = 18446744073709551616 := by decide
  unfold zig; split <;> omega

theorem lebF_length : ∀ k u, (lebF k u).length ≤ k + 1 := by
  intro k
  induction k with
  | zero => intro u; simp [lebF]
  | succ k ih => intro u; simp only [lebF]; split; simp; simp [ih]

theorem zig_neg {n : Int} (h1 : -9223372036854775808 ≤ n) (h : n < 0) : (2 * (-(n + 1)) + 1 : Int) = (zig n : Nat) := by unfold zig; rw [if_pos h]; omega
theorem zig_pos {n : Int} (h : ¬ n < 0) : (2 * n : Int) = (zig n : Nat) := by unfold zig; rw [if_neg h]; omega
theorem byte_lo {u : Nat} (h : u < 128) : (u : Int) = (bl u).toNat := by
  unfold bl; rw [UInt8.toNat_ofNat_of_lt' (by simp [UInt8.size]; omega)]
theorem byte_hi {u : Nat} : ((u % 128 : Nat) + 128 : Int) = (bh u).toNat := by
  unfold bh; rw [UInt8.toNat_ofNat_of_lt' (by simp [UInt8.size]; omega)]; rfl

theorem set_self {α : Type} {l : List α} {t : Nat} {x : α} (h : l[t]? = some x) : l.set t x = l := by
  obtain ⟨h1, h2⟩ := List.getElem?_eq_some_iff.1 h
  rw [← h2, List.set_getElem_self]
structure NumSt where
  k : Nat
  u : Nat
  d : List UInt8

theorem k_RNumber {n : Int} {l : List UInt8} {t : Nat} {σ : Sg} (ht : σ.toks[t]? = some l.length) (hl : l.length ≤ 1000000000) : ACalls Try.prog 78 [.tsl t none (bytesV l), .v (vi n)] σ fun r σ' => r = .tsl t none (bytesV (l ++ leb n)) ∧ σ' = σ.tput t (l ++ leb n).length := by
  refine acalls_fit Try.func78 (by kernel_rfl) c78 rfl (by simp [a78]) fun hf => ?_
  simp at hf
  simp -implicitDefEqProofs (maxSteps := 2000000) (disch := omega) [-getElem?_pos, a78]
  have hz := zig_lt hf.2.1 hf.2.2
  have htl := (List.getElem?_eq_some_iff.1 ht).1
  have hs : σ = ⟨σ.objs, σ.toks.set t (l.length + ([] : List UInt8).length)⟩ := by
    obtain ⟨o, ts⟩ := σ; dsimp only at ht ⊢; rw [List.length_nil, Nat.add_zero, set_self ht]
  refine .mk (fun hn => ?_) fun hn => ?_
  all_goals simp -implicitDefEqProofs (maxSteps := 2000000) (disch := omega) [-getElem?_pos]
  all_goals first | rw [zig_neg hf.2.1 hn] | rw [zig_pos hn]
  all_goals
    refine W_loop (α := NumSt) ⟨9, zig n, []⟩ (fun x => x.k) (fun x => ⟨[(0, .tsl t none (bytesV (l ++ x.d))), (5, .v (.int .u64 x.u))], ⟨σ.objs, (σ.toks.set t (l.length + x.d.length))⟩⟩) (fun x => x.d ++ lebF x.k x.u = leb n ∧ x.u < 2 * 128 ^ x.k ∧ x.d.length + x.k = 9) (.eq2 hs (by simp)) ⟨rfl, hz, rfl⟩ fun ⟨k, u, d⟩ ⟨h1, h2, h3⟩ => ?_
    dsimp only at h1 h2 h3 ⊢
    simp -implicitDefEqProofs (maxSteps := 2000000) (disch := omega) [-getElem?_pos]
    have h4 : 2 * 128 ^ k ≤ 2 * 128 ^ 9 := Nat.mul_le_mul_left _ (Nat.pow_le_pow_right (by omega) (by omega))
    have h5 : (2 : Nat) * 128 ^ 9 = 18446744073709551616 := by decide
    refine .mk (fun hu => ?_) fun hu => ?_
    · obtain ⟨j, rfl⟩ : ∃ j, k = j + 1 := ⟨k - 1, by rcases k with _ | k; simp at h2; omega; omega⟩
      have h2' : u / 128 < 2 * 128 ^ j := by rw [Nat.pow_succ] at h2; omega
      have hm := byte_hi (u := u)
      simp only [lebF] at h1
      rw [if_neg (by omega)] at h1
      simp -implicitDefEqProofs (maxSteps := 2000000) (disch := omega) [-getElem?_pos]
      have hb : IntKind.wrap .u8 (IntKind.wrap .u8 ((u : Int).tmod 128) + 128) = (bh u).toNat := by
        rw [← byte_hi, Int.tmod_eq_emod_of_nonneg (by omega)]; unfold IntKind.wrap; simp [IntKind.bits, IntKind.signed]; omega
      rw [hb]
      refine ⟨by omega, ⟨j, u / 128, d ++ [bh u]⟩, ⟨by simp [h1], h2', by simp; omega⟩, by dsimp only; omega, .eq2 (by simp [Nat.add_assoc]) (by simp)⟩
    · rw [lebF_last (by omega)] at h1
      have hm := byte_lo (u := u) (by omega)
      simp -implicitDefEqProofs (maxSteps := 2000000) (disch := omega) [-getElem?_pos]
      rw [hm]
      refine ⟨by omega, ?_⟩
      refine ⟨_, _, WeakR.refl _ _ _, ?_, ?_⟩
      · rw [← h1]; simp
      · rw [← h1]; simp [Nat.add_assoc]


theorem k_RNumber0 {n : Int} {σ : Sg} : ACalls Try.prog 78 [.v .snil, .v (vi n)] σ fun r σ' => r = .tsl σ.toks.length none (bytesV (leb n)) ∧ σ' = σ.tadd (leb n).length := by
  refine acalls_fit Try.func78 (by kernel_rfl) c78 rfl (by simp [a78]) fun hf => ?_
  simp at hf
  replace hf := (⟨trivial, hf⟩ : True ∧ _)
  simp -implicitDefEqProofs (maxSteps := 2000000) (disch := omega) [-getElem?_pos, a78]
  have hz := zig_lt hf.2.1 hf.2.2
  refine .mk (fun hn => ?_) fun hn => ?_
  all_goals simp -implicitDefEqProofs (maxSteps := 2000000) (disch := omega) [-getElem?_pos]
  all_goals first | rw [zig_neg hf.2.1 hn] | rw [zig_pos hn]
  all_goals
    refine W_loop (α := NumSt) ⟨9, zig n, []⟩ (fun x => x.k) (fun x => ⟨[(0, .tsl σ.toks.length none (bytesV ( x.d))), (5, .v (.int .u64 x.u))], ⟨σ.objs, (σ.toks ++ [x.d.length])⟩⟩) (fun x => x.d ++ lebF x.k x.u = leb n ∧ x.u < 2 * 128 ^ x.k ∧ x.d.length + x.k = 9) (.tok (i := 0) (sh := none) (by simp) (by simp)) ⟨rfl, hz, rfl⟩ fun ⟨k, u, d⟩ ⟨h1, h2, h3⟩ => ?_
    dsimp only at h1 h2 h3 ⊢
    simp -implicitDefEqProofs (maxSteps := 2000000) (disch := omega) [-getElem?_pos]
    have h4 : 2 * 128 ^ k ≤ 2 * 128 ^ 9 := Nat.mul_le_mul_left _ (Nat.pow_le_pow_right (by omega) (by omega))
    have h5 : (2 : Nat) * 128 ^ 9 = 18446744073709551616 := by decide
    refine .mk (fun hu => ?_) fun hu => ?_
    · obtain ⟨j, rfl⟩ : ∃ j, k = j + 1 := ⟨k - 1, by rcases k with _ | k; simp at h2; omega; omega⟩
      have h2' : u / 128 < 2 * 128 ^ j := by rw [Nat.pow_succ] at h2; omega
      have hm := byte_hi (u := u)
      simp only [lebF] at h1
      rw [if_neg (by omega)] at h1
      simp -implicitDefEqProofs (maxSteps := 2000000) (disch := omega) [-getElem?_pos]
      have hb : IntKind.wrap .u8 (IntKind.wrap .u8 ((u : Int).tmod 128) + 128) = (bh u).toNat := by
        rw [← byte_hi, Int.tmod_eq_emod_of_nonneg (by omega)]; unfold IntKind.wrap; simp [IntKind.bits, IntKind.signed]; omega
      rw [hb]
      refine ⟨by omega, ⟨j, u / 128, d ++ [bh u]⟩, ⟨by simp [h1], h2', by simp; omega⟩, by dsimp only; omega, .eq2 (by simp [Nat.add_assoc]) (by simp)⟩
    · rw [lebF_last (by omega)] at h1
      have hm := byte_lo (u := u) (by omega)
      simp -implicitDefEqProofs (maxSteps := 2000000) (disch := omega) [-getElem?_pos]
      rw [hm]
      refine ⟨by omega, ?_⟩
      refine ⟨_, _, WeakR.refl _ _ _, ?_, ?_⟩
      · rw [← h1]; simp
      · rw [← h1]; simp [Nat.add_assoc]


theorem inot_eq {n : Int} (h1 : -9223372036854775808 ≤ n) (h : n < 0) : inot .u64 (ishl .u64 (IntKind.wrap .u64 n) 1) = (zig n : Nat) := by
  have ha : ishl .u64 (IntKind.wrap .u64 n) 1 = ((2 * n + 18446744073709551616).toNat : Nat) := by
    unfold ishl IntKind.wrap; simp [IntKind.bits, IntKind.signed]; omega
  rw [ha, ← zig_neg h1 h]
  unfold inot
  have hx : ∀ a : Nat, a < 18446744073709551616 → (BitVec.ofInt 64 18446744073709551615 ^^^ BitVec.ofInt 64 (a : Int)).toNat = 18446744073709551615 - a := by
    intro a ha
    have e : BitVec.ofInt 64 18446744073709551615 = BitVec.allOnes 64 := by decide
    rw [e, BitVec.allOnes_xor, BitVec.toNat_not]
    simp
    omega
  have e2 : BitVec.ofInt 64 (IntKind.max .u64) = BitVec.ofInt 64 18446744073709551615 := by decide
  show IntKind.wrap .u64 (BitVec.ofInt 64 (IntKind.max .u64) ^^^ BitVec.ofInt 64 _).toNat = _
  rw [e2, hx _ (by omega)]
  unfold IntKind.wrap; simp [IntKind.bits, IntKind.signed]; omega
theorem shl_eq {n : Int} (h2 : n ≤ 9223372036854775807) (h : ¬ n < 0) : ishl .u64 n 1 = (zig n : Nat) := by
  rw [← zig_pos h]
  unfold ishl IntKind.wrap; simp [IntKind.bits, IntKind.signed]; omega
theorem shr_eq {u : Nat} : ishr .u64 (u : Int) 7 = (u / 128 : Nat) := by
  unfold ishr
  simp [IntKind.bits]
  rw [Int.fdiv_eq_ediv_of_nonneg _ (by omega)]
theorem or_eq {u : Nat} : ior .u8 (IntKind.wrap .u8 (u : Int)) 128 = (bh u).toNat := by
  rw [← byte_hi]
  unfold ior
  have e : ∀ x : BitVec 8, (x ||| 128#8).toNat = x.toNat % 128 + 128 := by decide
  have e1 : BitVec.ofInt 8 (IntKind.wrap .u8 (u : Int)) = BitVec.ofNat 8 u := by
    apply BitVec.eq_of_toNat_eq
    unfold IntKind.wrap
    simp [IntKind.bits, IntKind.signed]
    omega
  have e2 : BitVec.ofInt 8 128 = 128#8 := by decide
  show IntKind.wrap .u8 (BitVec.ofInt 8 _ ||| BitVec.ofInt 8 128).toNat = _
  rw [e1, e2, e]
  unfold IntKind.wrap; simp [IntKind.bits, IntKind.signed]; omega

theorem k_PutN {n : Int} {l : List UInt8} {t : Nat} {σ : Sg} (ht : σ.toks[t]? = some l.length) (hl : l.length ≤ 1000000000) : ACalls Try.prog 65 [.tsl t none (bytesV l), .v (vi n)] σ fun r σ' => r = .tsl t none (bytesV (l ++ leb n)) ∧ σ' = σ.tput t (l ++ leb n).length := by
  refine acalls_fit Try.func65 (by kernel_rfl) c65 rfl (by simp [a65]) fun hf => ?_
  simp at hf
  simp -implicitDefEqProofs (maxSteps := 2000000) (disch := omega) [-getElem?_pos, a65]
  have hz := zig_lt hf.2.1 hf.2.2
  have htl := (List.getElem?_eq_some_iff.1 ht).1
  have hs : σ = ⟨σ.objs, σ.toks.set t (l.length + ([] : List UInt8).length)⟩ := by
    obtain ⟨o, ts⟩ := σ; dsimp only at ht ⊢; rw [List.length_nil, Nat.add_zero, set_self ht]
  refine .mk (fun hn => ?_) fun hn => ?_
  all_goals simp -implicitDefEqProofs (maxSteps := 2000000) (disch := omega) [-getElem?_pos]
  all_goals first | rw [inot_eq hf.2.1 hn] | rw [shl_eq hf.2.2 hn]
  all_goals
    refine W_loop (α := NumSt) ⟨9, zig n, []⟩ (fun x => x.k) (fun x => ⟨[(0, .tsl t none (bytesV (l ++ x.d))), (5, .v (.int .u64 x.u))], ⟨σ.objs, (σ.toks.set t (l.length + x.d.length))⟩⟩) (fun x => x.d ++ lebF x.k x.u = leb n ∧ x.u < 2 * 128 ^ x.k ∧ x.d.length + x.k = 9) (.eq2 hs (by simp)) ⟨rfl, hz, rfl⟩ fun ⟨k, u, d⟩ ⟨h1, h2, h3⟩ => ?_
    dsimp only at h1 h2 h3 ⊢
    simp -implicitDefEqProofs (maxSteps := 2000000) (disch := omega) [-getElem?_pos]
    have h4 : 2 * 128 ^ k ≤ 2 * 128 ^ 9 := Nat.mul_le_mul_left _ (Nat.pow_le_pow_right (by omega) (by omega))
    have h5 : (2 : Nat) * 128 ^ 9 = 18446744073709551616 := by decide
    refine .mk (fun hu => ?_) fun hu => ?_
    · obtain ⟨j, rfl⟩ : ∃ j, k = j + 1 := ⟨k - 1, by rcases k with _ | k; simp at h2; omega; omega⟩
      have h2' : u / 128 < 2 * 128 ^ j := by rw [Nat.pow_succ] at h2; omega
      have hm := byte_hi (u := u)
      simp only [lebF] at h1
      rw [if_neg (by omega)] at h1
      simp -implicitDefEqProofs (maxSteps := 2000000) (disch := omega) [-getElem?_pos]
      rw [or_eq, shr_eq]
      refine ⟨by omega, ⟨j, u / 128, d ++ [bh u]⟩, ⟨by simp [h1], h2', by simp; omega⟩, by dsimp only; omega, .eq2 (by simp [Nat.add_assoc]) (by simp)⟩
    · rw [lebF_last (by omega)] at h1
      have hm := byte_lo (u := u) (by omega)
      simp -implicitDefEqProofs (maxSteps := 2000000) (disch := omega) [-getElem?_pos]
      rw [hm]
      refine ⟨by omega, ?_⟩
      refine ⟨_, _, WeakR.refl _ _ _, ?_, ?_⟩
      · rw [← h1]; simp
      · rw [← h1]; simp [Nat.add_assoc]


theorem k_PutN0 {n : Int} {σ : Sg} : ACalls Try.prog 65 [.v .snil, .v (vi n)] σ fun r σ' => r = .tsl σ.toks.length none (bytesV (leb n)) ∧ σ' = σ.tadd (leb n).length := by
  refine acalls_fit Try.func65 (by kernel_rfl) c65 rfl (by simp [a65]) fun hf => ?_
  simp at hf
  replace hf := (⟨trivial, hf⟩ : True ∧ _)
  simp -implicitDefEqProofs (maxSteps := 2000000) (disch := omega) [-getElem?_pos, a65]
  have hz := zig_lt hf.2.1 hf.2.2
  refine .mk (fun hn => ?_) fun hn => ?_
  all_goals simp -implicitDefEqProofs (maxSteps := 2000000) (disch := omega) [-getElem?_pos]
  all_goals first | rw [inot_eq hf.2.1 hn] | rw [shl_eq hf.2.2 hn]
  all_goals
    refine W_loop (α := NumSt) ⟨9, zig n, []⟩ (fun x => x.k) (fun x => ⟨[(0, .tsl σ.toks.length none (bytesV ( x.d))), (5, .v (.int .u64 x.u))], ⟨σ.objs, (σ.toks ++ [x.d.length])⟩⟩) (fun x => x.d ++ lebF x.k x.u = leb n ∧ x.u < 2 * 128 ^ x.k ∧ x.d.length + x.k = 9) (.tok (i := 0) (sh := none) (by simp) (by simp)) ⟨rfl, hz, rfl⟩ fun ⟨k, u, d⟩ ⟨h1, h2, h3⟩ => ?_
    dsimp only at h1 h2 h3 ⊢
    simp -implicitDefEqProofs (maxSteps := 2000000) (disch := omega) [-getElem?_pos]
    have h4 : 2 * 128 ^ k ≤ 2 * 128 ^ 9 := Nat.mul_le_mul_left _ (Nat.pow_le_pow_right (by omega) (by omega))
    have h5 : (2 : Nat) * 128 ^ 9 = 18446744073709551616 := by decide
    refine .mk (fun hu => ?_) fun hu => ?_
    · obtain ⟨j, rfl⟩ : ∃ j, k = j + 1 := ⟨k - 1, by rcases k with _ | k; simp at h2; omega; omega⟩
      have h2' : u / 128 < 2 * 128 ^ j := by rw [Nat.pow_succ] at h2; omega
      have hm := byte_hi (u := u)
      simp only [lebF] at h1
      rw [if_neg (by omega)] at h1
      simp -implicitDefEqProofs (maxSteps := 2000000) (disch := omega) [-getElem?_pos]
      rw [or_eq, shr_eq]
      refine ⟨by omega, ⟨j, u / 128, d ++ [bh u]⟩, ⟨by simp [h1], h2', by simp; omega⟩, by dsimp only; omega, .eq2 (by simp [Nat.add_assoc]) (by simp)⟩
    · rw [lebF_last (by omega)] at h1
      have hm := byte_lo (u := u) (by omega)
      simp -implicitDefEqProofs (maxSteps := 2000000) (disch := omega) [-getElem?_pos]
      rw [hm]
      refine ⟨by omega, ?_⟩
      refine ⟨_, _, WeakR.refl _ _ _, ?_, ?_⟩
      · rw [← h1]; simp
      · rw [← h1]; simp [Nat.add_assoc]

end Go.Proofs.Ytcbdnndgnbgnaaa
