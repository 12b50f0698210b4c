/-
  Layer 19: images read. (Own work.)
-/
import Derived.Test.YtcbdnndgnbgnaaaC9
import Derived.Test.YtcbdnndgnbgnaaaAbsZ
set_option linter.unusedVariables false
set_option linter.unusedSimpArgs false
namespace Go.Proofs.Ytcbdnndgnbgnaaa
open Go Go.Abs

structure R where
  bs : List UInt8
  bad : Bool
structure Rd (α : Type) where
  x : α
  r : R
@[reducible] def cellsR (r : R) : Ob := .cells [.v (.sl none false (bytesV r.bs)), .v (.bool r.bad)]

def zag (u : Nat) : Int := if u % 2 = 1 then -((u / 2 : Nat) + 1) else (u / 2 : Nat)
/-- A number is read: j bytes may be, acc is what was. -/
def numF : Nat → Nat → List UInt8 → Rd Int
  | 0, _, bs => ⟨0, bs, true⟩
  | _ + 1, _, [] => ⟨0, [], true⟩
  | j + 1, acc, c :: bs =>
    if c.toNat < 128 then ⟨zag ((acc + c.toNat % 128 * 2 ^ (7 * (9 - j))) % 18446744073709551616), bs, (c.toNat == 0 && decide (j < 9)) || (j == 0 && decide (1 < c.toNat))⟩
    else numF j ((acc + c.toNat % 128 * 2 ^ (7 * (9 - j))) % 18446744073709551616) bs
def rN (r : R) : Rd Int := if r.bad = true then ⟨0, r.bs, true⟩ else numF 10 0 r.bs

theorem wrap_u64_nat' {n : Nat} (h : n < 18446744073709551616) : IntKind.wrap .u64 (n : Int) = n := wrap_u64 (by omega) (by omega)
theorem or7 {acc m k : Nat} (ha : acc < 2 ^ (7 * k)) (hm : m < 128) (hk : k ≤ 9) : ior .u64 (acc : Int) (ishl .u64 (m : Int) (7 * (k : Int))) = ((acc + m * 2 ^ (7 * k)) % 18446744073709551616 : Nat) := by
  have e2 : min (7 * (k : Int)).toNat (IntKind.bits .u64) = 7 * k := by simp only [IntKind.bits]; omega
  unfold ior ishl
  rw [e2]
  have h5 : ((m : Int) * 2 ^ (7 * k)) = ((m * 2 ^ (7 * k) : Nat) : Int) := by simp
  have hw : IntKind.wrap .u64 ((m : Int) * 2 ^ (7 * k)) = ((m * 2 ^ (7 * k)) % 18446744073709551616 : Nat) := by
    rw [h5]; unfold IntKind.wrap; simp [IntKind.bits, IntKind.signed]
  show IntKind.wrap .u64 ((BitVec.ofInt 64 (acc : Int) ||| BitVec.ofInt 64 (IntKind.wrap .u64 ((m : Int) * 2 ^ (7 * k)))).toNat : Nat) = _
  have hp : (2 : Nat) ^ 64 = 2 ^ (64 - 7 * k) * 2 ^ (7 * k) := by rw [← Nat.pow_add]; congr 1; omega
  have hp2 : (2 : Nat) ^ 64 = 18446744073709551616 := by decide
  have hs : m * 2 ^ (7 * k) % 18446744073709551616 = m % 2 ^ (64 - 7 * k) * 2 ^ (7 * k) := by rw [← hp2, hp, Nat.mul_mod_mul_right]
  have hlt : m % 2 ^ (64 - 7 * k) < 2 ^ (64 - 7 * k) := Nat.mod_lt _ (Nat.two_pow_pos _)
  have hb : m % 2 ^ (64 - 7 * k) * 2 ^ (7 * k) + 2 ^ (7 * k) ≤ 18446744073709551616 := by
    rw [← hp2, hp, ← Nat.succ_mul]; exact Nat.mul_le_mul_right _ hlt
  rw [hw, BitVec.ofInt_natCast, BitVec.ofInt_natCast, BitVec.toNat_or, BitVec.toNat_ofNat, BitVec.toNat_ofNat, Nat.mod_eq_of_lt (by omega), Nat.mod_eq_of_lt (by omega), hs]
  have h7 : acc ||| m % 2 ^ (64 - 7 * k) * 2 ^ (7 * k) = acc + m % 2 ^ (64 - 7 * k) * 2 ^ (7 * k) := by
    rw [Nat.or_comm, Nat.mul_comm, ← Nat.two_pow_add_eq_or_of_lt ha, Nat.add_comm]
  have h8 : (acc + m * 2 ^ (7 * k)) % 18446744073709551616 = acc + m % 2 ^ (64 - 7 * k) * 2 ^ (7 * k) := by
    rw [Nat.add_mod, hs, Nat.mod_eq_of_lt (a := acc) (by omega)]
    exact Nat.mod_eq_of_lt (by omega)
  rw [h7, h8]
  exact wrap_u64_nat' (by omega)

theorem zag_odd {u : Nat} (hu : u < 18446744073709551616) (h : u % 2 = 1) : IntKind.wrap .i64 (inot .u64 (ishr .u64 (u : Int) 1)) = zag u := by
  have hs : ishr .u64 (u : Int) 1 = (u / 2 : Nat) := by
    unfold ishr
    simp [IntKind.bits]
    rw [Int.fdiv_eq_ediv_of_nonneg _ (by omega)]
  have hx : ∀ a : Nat, a < 18446744073709551616 → (BitVec.ofInt 64 18446744073709551615 ^^^ BitVec.ofInt 64 (a : Int)).toNat = 18446744073709551615 - a := by
    intro a ha
    have e : BitVec.ofInt 64 18446744073709551615 = BitVec.allOnes 64 := by decide
    rw [e, BitVec.allOnes_xor, BitVec.toNat_not]
    simp
    omega
  have e2 : BitVec.ofInt 64 (IntKind.max .u64) = BitVec.ofInt 64 18446744073709551615 := by decide
  have hi : inot .u64 ((u / 2 : Nat) : Int) = ((18446744073709551615 - u / 2 : Nat) : Int) := by
    unfold inot
    show IntKind.wrap .u64 (BitVec.ofInt 64 (IntKind.max .u64) ^^^ BitVec.ofInt 64 _).toNat = _
    rw [e2, hx _ (by omega)]
    exact wrap_u64_nat' (by omega)
  rw [hs, hi]
  unfold zag IntKind.wrap
  rw [if_pos h]
  simp [IntKind.bits, IntKind.signed]
  split <;> omega
theorem zag_even {u : Nat} (hu : u < 18446744073709551616) (h : ¬ u % 2 = 1) : IntKind.wrap .i64 (ishr .u64 (u : Int) 1) = zag u := by
  have hs : ishr .u64 (u : Int) 1 = (u / 2 : Nat) := by
    unfold ishr
    simp [IntKind.bits]
    rw [Int.fdiv_eq_ediv_of_nonneg _ (by omega)]
  rw [hs]
  unfold zag IntKind.wrap
  rw [if_neg h]
  simp [IntKind.bits, IntKind.signed]
  split <;> omega
theorem and1 {u : Nat} : iand .u64 (u : Int) 1 = (u % 2 : Nat) := by
  unfold iand
  show IntKind.wrap .u64 (BitVec.ofInt 64 (u : Int) &&& BitVec.ofInt 64 1).toNat = _
  have e : BitVec.ofInt 64 1 = BitVec.ofNat 64 1 := by decide
  rw [BitVec.ofInt_natCast, e, BitVec.toNat_and, BitVec.toNat_ofNat, BitVec.toNat_ofNat]
  have h1 : 1 % 2 ^ 64 = 1 := by decide
  rw [h1, Nat.and_one_is_mod]
  rw [wrap_u64_nat' (by omega)]
  congr 1
  omega

@[simp] theorem bytesV_tail {s : List UInt8} : (bytesV s).tail = bytesV s.tail := by cases s <;> rfl
theorem setR {os : List Ob} {o : Nat} {cs : List UInt8} {ts : List Nat} {b b' : Bool} (h : b = b') : Sg.mk (os.set o (.cells [.v (.sl none false (bytesV cs)), .v (.bool b)])) ts = ⟨os.set o (cellsR ⟨cs, b'⟩), ts⟩ := by subst h; rfl
structure NSt where
  j : Nat
  acc : Nat
  bs : List UInt8

theorem k_RdNumber {r : R} {o : Nat} {σ : Sg} (h1 : σ.objs[o]? = some (cellsR r)) :
    ACalls Try.prog 80 [.ptr o 0] σ fun d σ' => d = .v (vi (rN r).x) ∧ σ' = ⟨σ.objs.set o (cellsR (rN r).r), σ.toks⟩ := by
  have ho := (List.getElem?_eq_some_iff.1 h1).1
  obtain ⟨bs, bad⟩ := r
  refine acalls_fit Try.func80 (by kernel_rfl) c80 rfl (by simp [a80]) fun hf => ?_
  clear hf
  simp -implicitDefEqProofs (maxSteps := 2000000) (disch := omega) [-getElem?_pos, a80, h1]
  refine W_loop (α := NSt) ⟨10, 0, bs⟩ (fun x => x.j) (fun x => ⟨[(0, .ptr o 0), (3, .v (.int .u64 x.acc)), (4, .v (.int .i64 (10 - x.j : Nat)))], ⟨σ.objs.set o (cellsR ⟨x.bs, bad⟩), σ.toks⟩⟩)
    (fun x => x.j ≤ 10 ∧ x.acc < 2 ^ (7 * (10 - x.j)) ∧ rN ⟨bs, bad⟩ = if bad = true then ⟨0, ⟨x.bs, true⟩⟩ else numF x.j x.acc x.bs) (.eq2 ?_ (by simp)) ⟨by simp, by simp, rfl⟩ fun ⟨j, acc, cs⟩ ⟨hj, ha, he⟩ => ?_
  · obtain ⟨os, ts⟩ := σ
    dsimp only at h1 ⊢
    rw [set_self h1]
  dsimp only at hj ha he ⊢
  simp -implicitDefEqProofs (maxSteps := 2000000) (disch := omega) [-getElem?_pos]
  refine .mk (fun hb => ?_) fun hb => ?_
  · simp -implicitDefEqProofs (maxSteps := 2000000) (disch := omega) [-getElem?_pos]
    refine ⟨_, _, WeakR.refl _ _ _, ?_⟩
    rw [he, if_pos hb]; exact ⟨rfl, rfl⟩
  rw [if_neg hb] at he
  have hb' : bad = false := by simpa using hb
  simp -implicitDefEqProofs (maxSteps := 2000000) (disch := omega) [-getElem?_pos]
  refine .mk (fun hc => ?_) fun hc => ?_
  · simp -implicitDefEqProofs (maxSteps := 2000000) (disch := omega) [-getElem?_pos]
    refine ⟨_, _, WeakR.refl _ _ _, ?_⟩
    subst hc
    rw [he]; cases j <;> exact ⟨rfl, rfl⟩
  simp -implicitDefEqProofs (maxSteps := 2000000) (disch := omega) [-getElem?_pos]
  refine .mk (fun hj0 => ?_) fun hj0 => ?_
  · simp -implicitDefEqProofs (maxSteps := 2000000) (disch := omega) [-getElem?_pos]
    refine ⟨_, _, WeakR.refl _ _ _, ?_⟩
    obtain rfl : j = 0 := by omega
    rw [he]; exact ⟨rfl, rfl⟩
  obtain ⟨i, rfl⟩ : ∃ i, j = i + 1 := ⟨j - 1, by omega⟩
  obtain ⟨c, cs, rfl⟩ := List.exists_cons_of_ne_nil hc
  have hcl := c.toNat_lt
  have hk : 10 - (i + 1) = 9 - i := by omega
  rw [hk] at ha ⊢
  simp only [numF] at he
  have hm : IntKind.wrap .u64 ((c.toNat : Int).tmod 128) = (c.toNat % 128 : Nat) := by
    rw [Int.tmod_eq_emod_of_nonneg (by omega)]; unfold IntKind.wrap; simp [IntKind.bits, IntKind.signed]; omega
  have ho7 := or7 ha (Nat.mod_lt c.toNat (show 0 < 128 by omega)) (show 9 - i ≤ 9 by omega)
  have hlt : (acc + c.toNat % 128 * 2 ^ (7 * (9 - i))) % 18446744073709551616 < 18446744073709551616 := Nat.mod_lt _ (by omega)
  have hbd : i ≠ 0 → (acc + c.toNat % 128 * 2 ^ (7 * (9 - i))) % 18446744073709551616 < 2 ^ (7 * (10 - i)) := by
    intro hi
    have hx : 2 ^ (7 * (10 - i)) = 128 * 2 ^ (7 * (9 - i)) := by
      rw [show (128 : Nat) = 2 ^ 7 from rfl, ← Nat.pow_add]; congr 1; omega
    have hy : c.toNat % 128 * 2 ^ (7 * (9 - i)) ≤ 127 * 2 ^ (7 * (9 - i)) := Nat.mul_le_mul_right _ (by omega)
    refine Nat.lt_of_le_of_lt (Nat.mod_le _ _) ?_
    omega
  generalize hu : (acc + c.toNat % 128 * 2 ^ (7 * (9 - i))) % 18446744073709551616 = u at *
  have ho8 : ior .u64 (acc : Int) (ishl .u64 ((c.toNat : Int) % 128) (7 * ((9 - i : Nat) : Int))) = u := by simpa using ho7
  simp -implicitDefEqProofs (maxSteps := 2000000) (disch := omega) [-getElem?_pos, hm, ho8]
  refine ⟨by omega, by omega, ?_⟩
  refine .mk (fun h => ?_) fun h => ?_
  rotate_left
  · rw [if_neg (by omega)] at he
    simp -implicitDefEqProofs (maxSteps := 2000000) (disch := omega) [-getElem?_pos]
    refine ⟨⟨i, u, cs⟩, ⟨by dsimp only; omega, ?_, ?_⟩, by dsimp only; omega, .eq2 (by simp) (by simp; omega)⟩
    · dsimp only
      rcases Nat.eq_zero_or_pos i with h0 | h0
      · subst h0; exact Nat.lt_of_lt_of_le hlt (by decide)
      · exact hbd (by omega)
    · rw [if_neg hb]; exact he
  · rw [if_pos (by omega)] at he
    simp -implicitDefEqProofs (maxSteps := 2000000) (disch := omega) [-getElem?_pos]
    repeat' (first
      | (refine And.intro (by omega) ?_)
      | (refine Br.mk (fun hb => ?_) (fun hb => ?_) <;> simp -implicitDefEqProofs (maxSteps := 2000000) (disch := omega) [-getElem?_pos, and1, QBlk_exit]))
    all_goals
      refine ⟨_, _, WeakR.refl _ _ _, ?_⟩
      first | rw [zag_odd hlt (by omega)] | rw [zag_even hlt (by omega)]
      rw [he]
      refine ⟨rfl, setR ?_⟩
      rw [Bool.eq_iff_iff]
      simp
      try omega

def rM (r : R) : Rd Int := if (rN r).x < 0 ∨ ((rN r).r.bs.length : Int) < (rN r).x then ⟨0, (rN r).r.bs, true⟩ else rN r

theorem numF_len : ∀ (j acc : Nat) (bs : List UInt8), (numF j acc bs).r.bs.length ≤ bs.length
  | 0, _, _ => Nat.le_refl _
  | _ + 1, _, [] => Nat.le_refl _
  | j + 1, acc, c :: bs => by
    simp only [numF]
    split
    · simp
    · exact Nat.le_trans (numF_len j _ bs) (by simp)
theorem rN_len (r : R) : (rN r).r.bs.length ≤ r.bs.length := by
  unfold rN
  split
  · exact Nat.le_refl _
  · exact numF_len _ _ _
theorem rM_len (r : R) : 0 ≤ (rM r).x ∧ (rM r).x ≤ (rM r).r.bs.length ∧ (rM r).r.bs.length ≤ r.bs.length := by
  have h := rN_len r
  unfold rM
  split
  · exact ⟨Int.le_refl _, by simp, h⟩
  · exact ⟨by omega, by omega, h⟩

theorem k_RdMany {r : R} {o : Nat} {σ : Sg} (h1 : σ.objs[o]? = some (cellsR r)) :
    ACalls Try.prog 79 [.ptr o 0] σ fun d σ' => d = .v (vi (rM r).x) ∧ σ' = ⟨σ.objs.set o (cellsR (rM r).r), σ.toks⟩ := by
  have ho := (List.getElem?_eq_some_iff.1 h1).1
  refine acalls_fit Try.func79 (by kernel_rfl) c79 rfl (by simp [a79]) fun hf => ?_
  clear hf
  simp -implicitDefEqProofs (maxSteps := 2000000) (disch := omega) [-getElem?_pos, a79]
  refine (k_RdNumber h1).mono fun d σ' h => ?_
  obtain ⟨rfl, rfl⟩ := h
  generalize hq : rN r = q
  have hM : rM r = if q.x < 0 ∨ (q.r.bs.length : Int) < q.x then ⟨0, q.r.bs, true⟩ else q := by rw [← hq]; rfl
  simp -implicitDefEqProofs (maxSteps := 2000000) (disch := omega) [-getElem?_pos]
  repeat' (first
    | (refine And.intro (by omega) ?_)
    | (refine Br.mk (fun hb => ?_) (fun hb => ?_) <;> simp -implicitDefEqProofs (maxSteps := 2000000) (disch := omega) [-getElem?_pos]))
  all_goals
    refine ⟨_, _, WeakR.refl _ _ _, ?_⟩
    first | (rw [hM, if_pos (by omega)]; simp; done) | (rw [hM, if_neg (by omega)]; simp; done)

theorem get_left {os xs : List Ob} {o : Nat} {x : Ob} (h : os[o]? = some x) : (os ++ xs)[o]? = some x := by rw [List.getElem?_append_left (List.getElem?_eq_some_iff.1 h).1, h]
theorem get_set {os : List Ob} {o : Nat} {x : Ob} (h : o < os.length) : (os.set o x)[o]? = some x := by simp [h]
theorem k_RdInt {r : R} {o : Nat} {σ : Sg} (h1 : σ.objs[o]? = some (cellsR r)) :
    ACalls Try.prog 96 [.ptr o 0] σ fun d σ' => d = .v (vi (rN r).x) ∧ σ' = ⟨σ.objs.set o (cellsR (rN r).r), σ.toks⟩ := by
  have ho := (List.getElem?_eq_some_iff.1 h1).1
  refine acalls_fit Try.func96 (by kernel_rfl) c96 rfl (by simp [a96]) fun hf => ?_
  clear hf
  simp -implicitDefEqProofs (maxSteps := 2000000) (disch := omega) [-getElem?_pos, a96]
  refine (k_RdNumber h1).mono fun d σ' h => ?_
  obtain ⟨rfl, rfl⟩ := h
  simp -implicitDefEqProofs (maxSteps := 2000000) (disch := omega) [-getElem?_pos]
  exact ⟨_, _, WeakR.refl _ _ _, rfl, rfl⟩

def rL {α : Type} (p : R → Rd α) : Nat → R → Rd (List α)
  | 0, r => ⟨[], r⟩
  | n + 1, r => ⟨(p r).x :: (rL p n (p r).r).x, (rL p n (p r).r).r⟩
def rI (r : R) : Rd Ins := ⟨⟨(rN r).x, (rN (rN r).r).x, (rL rN (rM (rN (rN r).r).r).x.toNat (rM (rN (rN r).r).r).r).x⟩, (rL rN (rM (rN (rN r).r).r).x.toNat (rM (rN (rN r).r).r).r).r⟩
def rF (r : R) : Rd Fn := ⟨⟨(rN r).x, (rN (rN r).r).x, (rL rI (rM (rN (rN r).r).r).x.toNat (rM (rN (rN r).r).r).r).x⟩, (rL rI (rM (rN (rN r).r).r).x.toNat (rM (rN (rN r).r).r).r).r⟩

structure LSt (α : Type) where
  i : Nat
  r : R
  l : List α


theorem k_RdInstr {r : R} {o : Nat} {σ : Sg} (h1 : σ.objs[o]? = some (cellsR r)) (hbs : r.bs.length ≤ 1000000000) :
    ACalls Try.prog 97 [.ptr o 0] σ fun d σ' => d = .v (encI (rI r).x) ∧ σ' = ⟨σ.objs.set o (cellsR (rI r).r), σ.toks⟩ := by
  have ho := (List.getElem?_eq_some_iff.1 h1).1
  refine acalls_fit Try.func97 (by kernel_rfl) c97 rfl (by simp [a97]) fun hf => ?_
  clear hf
  simp -implicitDefEqProofs (maxSteps := 2000000) (disch := omega) [-getElem?_pos, a97]
  refine (k_RdInt (r := r) (get_left h1)).mono fun d σ' h => ?_
  obtain ⟨rfl, rfl⟩ := h
  generalize hr1 : rN r = q1
  simp -implicitDefEqProofs (maxSteps := 2000000) (disch := omega) [-getElem?_pos]
  refine (k_RdInt (r := q1.r) (get_left (get_set ho))).mono fun d σ' h => ?_
  obtain ⟨rfl, rfl⟩ := h
  generalize hr2 : rN q1.r = q2
  simp -implicitDefEqProofs (maxSteps := 2000000) (disch := omega) [-getElem?_pos]
  refine (k_RdMany (r := q2.r) (get_left (get_set ho))).mono fun d σ' h => ?_
  obtain ⟨rfl, rfl⟩ := h
  generalize hr3 : rM q2.r = q3
  have hn := rM_len q2.r
  rw [hr3] at hn
  have hl2 := rN_len q1.r
  rw [hr2] at hl2
  have hl1 := rN_len r
  rw [hr1] at hl1
  obtain ⟨n, hnn⟩ : ∃ n : Nat, q3.x = n := ⟨q3.x.toNat, by omega⟩
  rw [hnn] at hn ⊢
  have hP : rI r = ⟨⟨q1.x, q2.x, (rL rN n q3.r).x⟩, (rL rN n q3.r).r⟩ := by simp [rI, hr1, hr2, hr3, hnn]
  rw [hP]
  simp -implicitDefEqProofs (maxSteps := 2000000) (disch := omega) [-getElem?_pos]
  refine W_loop (α := LSt Int) ⟨0, q3.r, []⟩ (fun x => n - x.i) (fun x => ⟨[(0, .ptr o 0), (2, .ptr σ.objs.length 0), (5, .ptr (σ.objs.length + 1) 0), (14, .v (.int .i64 n)), (15, .v (.int .i64 x.i))], ⟨σ.objs.set o (cellsR x.r) ++ [.cells [.v (.int .i64 0), .v (.int .i64 0), .v .snil], .cells [.v (vi q1.x), .v (vi q2.x), .tsl σ.toks.length none (x.l.map vi)]], σ.toks ++ [x.l.length]⟩⟩)
    (fun x => x.i ≤ n ∧ x.l.length = x.i ∧ x.r.bs.length ≤ q3.r.bs.length ∧ rL rN n q3.r = ⟨x.l ++ (rL rN (n - x.i) x.r).x, (rL rN (n - x.i) x.r).r⟩) (.tokE (σ.objs.length + 1) 2 none [.v (vi q1.x), .v (vi q2.x), .v .snil] (by simp) (by simp) (by simp) (by simp)) ⟨by simp, rfl, Nat.le_refl _, by simp⟩ fun ⟨i, s, l⟩ ⟨hi, hil, hsl, he⟩ => ?_
  dsimp only at hi hil hsl he ⊢
  simp -implicitDefEqProofs (maxSteps := 2000000) (disch := omega) [-getElem?_pos]
  refine .mk (fun h => ?_) fun h => ?_
  · simp -implicitDefEqProofs (maxSteps := 2000000) (disch := omega) [-getElem?_pos]
    refine (k_RdInt (r := s) (get_left (get_set ho))  ).mono fun d σ' h => ?_
    obtain ⟨rfl, rfl⟩ := h
    obtain ⟨j, hj⟩ : ∃ j, n - i = j + 1 := ⟨n - i - 1, by omega⟩
    rw [hj] at he
    simp only [rL] at he
    have hsl2 := rN_len s
    generalize rN s = q4 at *
    simp -implicitDefEqProofs (maxSteps := 2000000) (disch := omega) [-getElem?_pos]
    refine ⟨by omega, ⟨i + 1, q4.r, l ++ [q4.x]⟩, ⟨by dsimp only; omega, by simp [hil], by dsimp only; omega, ?_⟩, by dsimp only; omega, .eq2 (by simp [hil]) (by simp)⟩
    dsimp only
    rw [he, show n - (i + 1) = j by omega]
    simp
  · simp -implicitDefEqProofs (maxSteps := 2000000) (disch := omega) [-getElem?_pos]
    rw [show n - i = 0 by omega] at he
    simp only [rL, List.append_nil] at he
    rw [show rL rN n q3.r = ⟨l, s⟩ from he]
    refine .finS (.v (encI ⟨q1.x, q2.x, l⟩)) ⟨σ.objs.set o (cellsR s), σ.toks⟩ ⟨rfl, rfl⟩ (.agg3 rfl rfl rfl (.refl _) (.refl _) .tsl) (low_set (by simp))

theorem rL_len {α : Type} {p : R → Rd α} (hp : ∀ r, (p r).r.bs.length ≤ r.bs.length) : ∀ n r, (rL p n r).r.bs.length ≤ r.bs.length
  | 0, _ => Nat.le_refl _
  | n + 1, r => by
    simp only [rL]
    exact Nat.le_trans (rL_len hp n _) (hp r)
theorem rI_len (r : R) : (rI r).r.bs.length ≤ r.bs.length := by
  have h1 := rN_len r
  have h2 := rN_len (rN r).r
  have h3 := (rM_len (rN (rN r).r).r).2.2
  have h4 := rL_len rN_len (rM (rN (rN r).r).r).x.toNat (rM (rN (rN r).r).r).r
  simp only [rI]
  omega

theorem k_RdFun {r : R} {o : Nat} {σ : Sg} (h1 : σ.objs[o]? = some (cellsR r)) (hbs : r.bs.length ≤ 1000000000) :
    ACalls Try.prog 81 [.ptr o 0] σ fun d σ' => d = .v (encF (rF r).x) ∧ σ' = ⟨σ.objs.set o (cellsR (rF r).r), σ.toks⟩ := by
  have ho := (List.getElem?_eq_some_iff.1 h1).1
  refine acalls_fit Try.func81 (by kernel_rfl) c81 rfl (by simp [a81]) fun hf => ?_
  clear hf
  simp -implicitDefEqProofs (maxSteps := 2000000) (disch := omega) [-getElem?_pos, a81]
  refine (k_RdInt (r := r) (get_left h1)).mono fun d σ' h => ?_
  obtain ⟨rfl, rfl⟩ := h
  generalize hr1 : rN r = q1
  simp -implicitDefEqProofs (maxSteps := 2000000) (disch := omega) [-getElem?_pos]
  refine (k_RdInt (r := q1.r) (get_left (get_set ho))).mono fun d σ' h => ?_
  obtain ⟨rfl, rfl⟩ := h
  generalize hr2 : rN q1.r = q2
  simp -implicitDefEqProofs (maxSteps := 2000000) (disch := omega) [-getElem?_pos]
  refine (k_RdMany (r := q2.r) (get_left (get_set ho))).mono fun d σ' h => ?_
  obtain ⟨rfl, rfl⟩ := h
  generalize hr3 : rM q2.r = q3
  have hn := rM_len q2.r
  rw [hr3] at hn
  have hl2 := rN_len q1.r
  rw [hr2] at hl2
  have hl1 := rN_len r
  rw [hr1] at hl1
  obtain ⟨n, hnn⟩ : ∃ n : Nat, q3.x = n := ⟨q3.x.toNat, by omega⟩
  rw [hnn] at hn ⊢
  have hP : rF r = ⟨⟨q1.x, q2.x, (rL rI n q3.r).x⟩, (rL rI n q3.r).r⟩ := by simp [rF, hr1, hr2, hr3, hnn]
  rw [hP]
  simp -implicitDefEqProofs (maxSteps := 2000000) (disch := omega) [-getElem?_pos]
  refine W_loop (α := LSt Ins) ⟨0, q3.r, []⟩ (fun x => n - x.i) (fun x => ⟨[(0, .ptr o 0), (2, .ptr σ.objs.length 0), (5, .ptr (σ.objs.length + 1) 0), (14, .v (.int .i64 n)), (15, .v (.int .i64 x.i))], ⟨σ.objs.set o (cellsR x.r) ++ [.cells [.v (.int .i64 0), .v (.int .i64 0), .v .snil], .cells [.v (vi q1.x), .v (vi q2.x), .tsl σ.toks.length (some 3) (x.l.map encI)]], σ.toks ++ [x.l.length]⟩⟩)
    (fun x => x.i ≤ n ∧ x.l.length = x.i ∧ x.r.bs.length ≤ q3.r.bs.length ∧ rL rI n q3.r = ⟨x.l ++ (rL rI (n - x.i) x.r).x, (rL rI (n - x.i) x.r).r⟩) (.tokE (σ.objs.length + 1) 2 (some 3) [.v (vi q1.x), .v (vi q2.x), .v .snil] (by simp) (by simp) (by simp) (by simp)) ⟨by simp, rfl, Nat.le_refl _, by simp⟩ fun ⟨i, s, l⟩ ⟨hi, hil, hsl, he⟩ => ?_
  dsimp only at hi hil hsl he ⊢
  simp -implicitDefEqProofs (maxSteps := 2000000) (disch := omega) [-getElem?_pos]
  refine .mk (fun h => ?_) fun h => ?_
  · simp -implicitDefEqProofs (maxSteps := 2000000) (disch := omega) [-getElem?_pos]
    refine (k_RdInstr (r := s) (get_left (get_set ho)) (by dsimp only at *; omega)).mono fun d σ' h => ?_
    obtain ⟨rfl, rfl⟩ := h
    obtain ⟨j, hj⟩ : ∃ j, n - i = j + 1 := ⟨n - i - 1, by omega⟩
    rw [hj] at he
    simp only [rL] at he
    have hsl2 := rI_len s
    generalize rI s = q4 at *
    simp -implicitDefEqProofs (maxSteps := 2000000) (disch := omega) [-getElem?_pos]
    refine ⟨by omega, ⟨i + 1, q4.r, l ++ [q4.x]⟩, ⟨by dsimp only; omega, by simp [hil], by dsimp only; omega, ?_⟩, by dsimp only; omega, .eq2 (by simp [hil]) (by simp)⟩
    dsimp only
    rw [he, show n - (i + 1) = j by omega]
    simp
  · simp -implicitDefEqProofs (maxSteps := 2000000) (disch := omega) [-getElem?_pos]
    rw [show n - i = 0 by omega] at he
    simp only [rL, List.append_nil] at he
    rw [show rL rI n q3.r = ⟨l, s⟩ from he]
    refine .finS (.v (encF ⟨q1.x, q2.x, l⟩)) ⟨σ.objs.set o (cellsR s), σ.toks⟩ ⟨rfl, rfl⟩ (.agg3 rfl rfl rfl (.refl _) (.refl _) .tsl) (low_set (by simp))

theorem rF_len (r : R) : (rF r).r.bs.length ≤ r.bs.length := by
  have h1 := rN_len r
  have h2 := rN_len (rN r).r
  have h3 := (rM_len (rN (rN r).r).r).2.2
  have h4 := rL_len rI_len (rM (rN (rN r).r).r).x.toNat (rM (rN (rN r).r).r).r
  simp only [rF]
  omega
end Go.Proofs.Ytcbdnndgnbgnaaa
