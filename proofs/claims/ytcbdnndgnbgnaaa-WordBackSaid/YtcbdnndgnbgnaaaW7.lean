/-
  What was packed is unpacked as it was, and nothing else is. (Own work.)
-/
import Derived.Test.YtcbdnndgnbgnaaaW5
set_option linter.unusedVariables false
set_option linter.unusedSimpArgs false
namespace Go.Proofs.Ytcbdnndgnbgnaaa
open Go Go.Abs

theorem u64_wrap {x : Nat} (h : x < 18446744073709551616) : u64 (IntKind.wrap .i64 (x : Int)) = x := by
  have h1 := inR_wrap .i64 (x : Int)
  simp at h1
  have h2 := wrap_i64_u64 h1.1 h1.2
  have h3 := wrap_i64_inj (u64_lt _) h h2
  exact h3

theorem le_div (q : List UInt8) : ∀ k, le q / 256 ^ k = le (q.drop k) := by
  intro k
  induction k with
  | zero => simp
  | succ k ih =>
    rw [Nat.pow_succ, ← Nat.div_div_eq_div_mul, ih, le_drop q k]
    split
    · rename_i c _
      have := c.toNat_lt
      omega
    · omega

theorem bytes8_le {q : List UInt8} (h : q.length ≤ 8) : bytes8 (IntKind.wrap .i64 (le q : Nat)) = q ++ List.replicate (8 - q.length) 0 := by
  apply List.ext_getElem
  · simp [bytes8]; omega
  · intro k h1 h2
    have hk : k < 8 := by simpa [bytes8] using h1
    simp only [bytes8, List.getElem_map, List.getElem_range]
    apply UInt8.toNat_inj.1
    rw [byteAt_toNat, u64_wrap (le_lt8 h), le_div, le_drop q k]
    rcases Nat.lt_or_ge k q.length with hq | hq
    · rw [List.getElem_append_left hq, List.getElem?_eq_getElem hq]
      have := (q[k]).toNat_lt
      dsimp only
      omega
    · rw [List.getElem_append_right hq, List.getElem?_eq_none hq, List.drop_eq_nil_of_le (by omega)]
      simp [le]

theorem body_pk : ∀ (m : Nat) (bs : List UInt8), bs.length ≤ 8 * m → body (pk bs m) = bs ++ List.replicate (8 * m - bs.length) 0
  | 0, bs, h => by
    have : bs = [] := List.eq_nil_of_length_eq_zero (by omega)
    subst this
    rfl
  | m + 1, bs, h => by
    rw [pk, body_cons, bytes8_le (by simp; omega), body_pk m (bs.drop 8) (by simp; omega)]
    rcases Nat.lt_or_ge bs.length 8 with h8 | h8
    · rw [List.take_of_length_le (by omega), List.drop_of_length_le (by omega), List.nil_append, List.append_assoc, List.replicate_append_replicate]
      simp
      congr 1
      omega
    · have : 8 - (bs.take 8).length = 0 := by simp; omega
      have h9 : 8 * m - (bs.drop 8).length = 8 * (m + 1) - bs.length := by simp; omega
      rw [this, List.replicate_zero, List.append_nil, ← List.append_assoc, List.take_append_drop, h9]
theorem pk_length (m : Nat) : ∀ bs, (pk bs m).length = m := by
  induction m with
  | zero => intro bs; rfl
  | succ m ih => intro bs; simp [pk, ih]
theorem pk_ptr (m : Nat) : ∀ bs, (pk bs m).all (fun x => !x.p) = true := by
  induction m with
  | zero => intro bs; rfl
  | succ m ih => intro bs; simp only [pk, List.all_cons, ih]; rfl

theorem unpack_pack (bs : List UInt8) : unpackOk (packL bs) = true ∧ (body ((packL bs).drop 1)).take ((packL bs).headD ⟨false, 0⟩).n.toNat = bs := by
  have h1 := body_pk ((bs.length + 7) / 8) bs (by omega)
  have h2 := pk_length ((bs.length + 7) / 8) bs
  have h3 := pk_ptr ((bs.length + 7) / 8) bs
  rw [packL_eq]
  constructor
  · simp only [unpackOk, h1, h2, h3]
    simp
    omega
  · simp only [List.drop_succ_cons, List.drop_zero, List.headD_cons, h1, Int.toNat_natCast]
    simp
theorem unpack_more (bs : List UInt8) (w : Wd) : unpackOk (packL bs ++ [w]) = false := by
  have h2 := pk_length ((bs.length + 7) / 8) bs
  rw [packL_eq]
  simp only [unpackOk, List.cons_append, body_length, List.length_append, h2]
  rw [Bool.and_eq_false_iff]
  right
  simp
  omega
theorem unpack_less (bs : List UInt8) : unpackOk ((packL bs).take ((packL bs).length - 1)) = false := by
  have h2 := pk_length ((bs.length + 7) / 8) bs
  rw [packL_eq]
  simp only [List.length_cons, h2, Nat.add_sub_cancel]
  cases hm : (bs.length + 7) / 8 with
  | zero => rfl
  | succ m =>
    rw [hm] at h2
    simp only [List.take_succ_cons, unpackOk, List.length_take, h2]
    have : decide ((bs.length : Int) ≤ 8 * ((min m (m + 1) : Nat) : Int)) = false := by simp; omega
    rw [this]
    simp
theorem packL_length (bs : List UInt8) : (packL bs).length = (bs.length + 7) / 8 + 1 := by simp [packL]

theorem parts_head {k z : Int} (h : headOk k z) : parts false (z * 16 + k) = [.int .i64 k, .int .i64 z, .bool true] := by
  unfold headOk at h
  unfold parts
  rw [if_neg (by simp; omega)]
  have h1 : (z * 16 + k) % 16 = k := by omega
  have h2 : (z * 16 + k) / 16 = z := by omega
  rw [h1, h2]

theorem k_WordBack (bs : List UInt8) (f : Bool) (kind size : Int) (w : Wd) (σ : Sg) : ACalls Try.prog 5 [.v (.sl none f (bytesV bs)), .v (.int .i64 kind), .v (.int .i64 size), .v (wv w)] σ fun r σ' => r = .v (.bool true) := by
  refine acalls_fit Try.func5 (by kernel_rfl) c5 rfl (by simp [a5]) fun hf => ?_
  simp at hf
  have hlen := packL_length bs
  simp -implicitDefEqProofs (maxSteps := 2000000) (disch := omega) [-getElem?_pos, a5]
  refine (k_Up _).then fun r hr => ?_
  subst hr
  by_cases h1 : (2000 : Int) < bs.length
  · simp -implicitDefEqProofs (maxSteps := 2000000) (disch := omega) [-getElem?_pos, h1]
    exact .fin _ rfl (.refl _)
  simp -implicitDefEqProofs (maxSteps := 2000000) (disch := omega) [-getElem?_pos, h1]
  refine (k_Pack bs _ (by omega) _).then fun r hr => ?_
  subst hr
  rw [packV_eq]
  simp -implicitDefEqProofs (maxSteps := 2000000) (disch := omega) [-getElem?_pos]
  refine (k_Unpack (packL bs) _ (by omega) _).then2 fun r h2 h3 => ?_
  obtain rfl := h2 (unpack_pack bs).1
  rw [(unpack_pack bs).2]
  clear h2 h3
  have hne : ¬ packL bs = [] := by rw [packL_eq]; simp
  simp -implicitDefEqProofs (maxSteps := 2000000) (disch := omega) [-getElem?_pos, hne]
  refine ⟨by omega, by omega, ?_⟩
  have e1 : (packL bs).map wv ++ [V.agg [.bool w.p, .int .i64 w.n]] = (packL bs ++ [w]).map wv := by simp
  rw [e1]
  refine ((k_Unpack (packL bs ++ [w]) false (by simp; omega) _).arg1 .tsl).then2 fun r h2 h3 => ?_
  obtain rfl := h3 (unpack_more bs w)
  clear h2 h3
  simp -implicitDefEqProofs (maxSteps := 2000000) (disch := omega) [-getElem?_pos, hne]
  rw [← List.map_take]
  refine ⟨by omega, by omega, (k_Unpack ((packL bs).take ((packL bs).length - 1)) false (by simp; omega) _).then2 fun r h2 h3 => ?_⟩
  obtain rfl := h3 (unpack_less bs)
  clear h2 h3
  simp -implicitDefEqProofs (maxSteps := 2000000) (disch := omega) [-getElem?_pos]
  by_cases hh : headOk kind size
  · refine (k_Head _ _ _).then2 fun r h1 h2 => ?_
    obtain rfl := h1 hh
    clear h1 h2
    simp -implicitDefEqProofs (maxSteps := 2000000) (disch := omega) [-getElem?_pos]
    refine (k_Parts _ _ _).then fun r hr => ?_
    subst hr
    rw [parts_head hh]
    simp -implicitDefEqProofs (maxSteps := 2000000) (disch := omega) [-getElem?_pos]
    refine (k_Moved _ _ _).then fun r hr => ?_
    subst hr
    simp -implicitDefEqProofs (maxSteps := 2000000) (disch := omega) [-getElem?_pos]
    exact .fin _ rfl (.refl _)
  · refine (k_Head _ _ _).then2 fun r h1 h2 => ?_
    obtain rfl := h2 hh
    clear h1 h2
    simp -implicitDefEqProofs (maxSteps := 2000000) (disch := omega) [-getElem?_pos]
    exact .fin _ rfl (.refl _)
end Go.Proofs.Ytcbdnndgnbgnaaa
