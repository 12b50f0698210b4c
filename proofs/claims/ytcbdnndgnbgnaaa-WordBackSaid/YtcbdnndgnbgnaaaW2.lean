/-
  The word package: bytes and words. (Own work.)
-/
import Derived.Test.YtcbdnndgnbgnaaaW1
set_option linter.unusedVariables false
set_option linter.unusedSimpArgs false
namespace Go.Proofs.Ytcbdnndgnbgnaaa
open Go Go.Abs

/-- The number that bytes make, the lowest first. -/
def le : List UInt8 → Nat
  | [] => 0
  | c :: l => c.toNat + 256 * le l

theorem le_lt : ∀ l : List UInt8, le l < 256 ^ l.length
  | [] => by simp [le]
  | c :: l => by
    have h := le_lt l
    have hc := c.toNat_lt
    simp only [le, List.length_cons, Nat.pow_succ]
    have : 256 * le l + 256 ≤ 256 ^ l.length * 256 := by omega
    omega

theorem le_lt8 {l : List UInt8} (h : l.length ≤ 8) : le l < 18446744073709551616 := by
  have h1 := le_lt l
  have h2 : 256 ^ l.length ≤ 256 ^ 8 := Nat.pow_le_pow_right (by omega) h
  have h3 : (256 : Nat) ^ 8 = 18446744073709551616 := by decide
  omega

theorem le_drop (bs : List UInt8) (j : Nat) : le (bs.drop j) = (match bs[j]? with | some c => c.toNat | none => 0) + 256 * le (bs.drop (j + 1)) := by
  rcases Nat.lt_or_ge j bs.length with h | h
  · rw [List.drop_eq_getElem_cons h, List.getElem?_eq_getElem h]
    simp [le]
  · rw [List.drop_eq_nil_of_le h, List.drop_eq_nil_of_le (by omega), List.getElem?_eq_none h]
    simp [le]

theorem le_lt7 {l : List UInt8} (h : l.length ≤ 7) : le l * 256 + 255 < 18446744073709551616 := by
  have h1 := le_lt l
  have h2 : 256 ^ l.length ≤ 256 ^ 7 := Nat.pow_le_pow_right (by omega) h
  have h3 : (256 : Nat) ^ 7 = 72057594037927936 := by decide
  omega

theorem k_Eight (bs : List UInt8) (f : Bool) (hb : bs.length ≤ 1000000) (σ : Sg) : ACalls Try.prog 51 [.v (.sl none f (bytesV bs))] σ fun r σ' =>
    r = .v (.int .i64 (IntKind.wrap .i64 (le (bs.take 8)))) ∧ σ' = σ := by
  refine acalls_fit Try.func51 (by kernel_rfl) c51 rfl (by simp [a51]) fun hf => ?_
  simp -implicitDefEqProofs (maxSteps := 2000000) (disch := omega) [-getElem?_pos, a51]
  refine W_loop (α := Nat) 8 (fun j => j)
    (fun j => ⟨[(0, .v (.sl none f (bytesV bs))), (3, .v (.int .u64 (le ((bs.take 8).drop j)))), (4, .v (.int .i64 (j - 1)))], σ⟩) (fun j => j ≤ 8)
    (.eq ?_) (by omega) fun j hj => ?_
  · simp [EnvEq, le]
  · simp -implicitDefEqProofs (maxSteps := 2000000) (disch := omega) [-getElem?_pos]
    refine ⟨fun h => ?_, fun h => ?_⟩
    · obtain ⟨i, rfl⟩ : ∃ i, j = i + 1 := ⟨j - 1, by omega⟩
      have hv := le_lt7 (l := (bs.take 8).drop (i + 1)) (by simp; omega)
      have hd := le_drop (bs.take 8) i
      rw [List.getElem?_take, if_pos (by omega)] at hd
      simp -implicitDefEqProofs (maxSteps := 2000000) (disch := omega) [-getElem?_pos]
      refine ⟨fun h2 => ?_, fun h2 => ?_⟩
      · simp -implicitDefEqProofs (maxSteps := 2000000) (disch := omega) [-getElem?_pos]
        refine ⟨h2, fun c hc => ?_⟩
        have hcl := c.toNat_lt
        rw [hc] at hd
        dsimp only at hd
        simp -implicitDefEqProofs (maxSteps := 2000000) (disch := omega) [-getElem?_pos]
        exact ⟨i, by omega, by dsimp only; omega, .eq (by simp [EnvEq, hd]; omega)⟩
      · rw [List.getElem?_eq_none (by omega)] at hd
        dsimp only at hd
        simp -implicitDefEqProofs (maxSteps := 2000000) (disch := omega) [-getElem?_pos]
        exact ⟨i, by omega, by dsimp only; omega, .eq (by simp [EnvEq, hd]; omega)⟩
    · have hj0 : j = 0 := by omega
      subst hj0
      simp -implicitDefEqProofs (maxSteps := 2000000) (disch := omega) [-getElem?_pos]
      exact .mk0 _ ⟨rfl, rfl⟩ (.refl _) trivial

/-- The words of bytes. -/
def wd (bs : List UInt8) (k : Nat) : V := word false (IntKind.wrap .i64 (le ((bs.drop (8 * k)).take 8)))
def words (bs : List UInt8) (k : Nat) : List V := word false bs.length :: (List.range k).map (wd bs)
def packV (bs : List UInt8) : List V := words bs ((bs.length + 7) / 8)
theorem words_length (bs : List UInt8) (k : Nat) : (words bs k).length = k + 1 := by simp [words]
theorem words_succ (bs : List UInt8) (k : Nat) : words bs k ++ [wd bs k] = words bs (k + 1) := by simp [words, List.range_succ]

theorem drop_cons {α : Type} {l : List α} {i : Nat} {x : α} (h : l[i]? = some x) : l.drop i = x :: l.drop (i + 1) := by
  obtain ⟨hlt, he⟩ := List.getElem?_eq_some_iff.1 h
  rw [List.drop_eq_getElem_cons hlt, he]

/-- A word. -/
structure Wd where
  p : Bool
  n : Int
  deriving DecidableEq
@[reducible] def wv (w : Wd) : V := word w.p w.n

theorem k_RPack (bs : List UInt8) (hb : bs.length ≤ 1000000) (σ : Sg) : ACalls Try.prog 24 [.v (.sl none false (bytesV bs))] σ fun r σ' =>
    r = .v (.sl (some 2) false (packV bs)) ∧ σ' = σ := by
  refine acalls_fit Try.func24 (by kernel_rfl) c24 rfl (by simp [a24]) fun hf => ?_
  simp -implicitDefEqProofs (maxSteps := 2000000) (disch := omega) [-getElem?_pos, a24]
  refine W_loop (α := Nat) 0 (fun k => bs.length - 8 * k)
    (fun k => ⟨[(0, .v (.sl none false (bytesV (bs.drop (8 * k))))), (3, .tsl σ.toks.length (some 2) (words bs k))], ⟨σ.objs, σ.toks ++ [k + 1]⟩⟩) (fun k => 8 * k ≤ bs.length)
    (Weak.tokF (i := 3) (sh := some 2) (xs := [word false bs.length]) ?_ ?_ (by simp [maxLen])) (by omega) fun k hk => ?_
  · simp [EnvEq, words]
  · simp [look]
  · simp -implicitDefEqProofs (maxSteps := 2000000) (disch := omega) [-getElem?_pos]
    refine ⟨fun h => ?_, fun h => ?_⟩
    · simp -implicitDefEqProofs (maxSteps := 2000000) (disch := omega) [-getElem?_pos]
      refine (k_Eight (bs.drop (8 * k)) false (by simp; omega) _).then fun r hr => ?_
      subst hr
      simp -implicitDefEqProofs (maxSteps := 2000000) (disch := omega) [-getElem?_pos, words_length]
      refine ⟨by omega, .mk (fun h2 => ?_) fun h2 => ?_⟩
      · simp -implicitDefEqProofs (maxSteps := 2000000) (disch := omega) [-getElem?_pos]
        refine .mkT (.v (.sl (some 2) false (words bs k ++ [wd bs k]))) ⟨?_, rfl⟩ .tsl (by simp)
        rw [words_succ, packV, show (bs.length + 7) / 8 = k + 1 by omega]
      · simp -implicitDefEqProofs (maxSteps := 2000000) (disch := omega) [-getElem?_pos]
        refine ⟨by omega, k + 1, by omega, by dsimp only; omega, .eq ?_⟩
        simp [EnvEq, bytesV_drop, bytesV_take, ← words_succ, Nat.mul_add]
        refine ⟨?_, rfl⟩
        rw [List.take_of_length_le (by simp), List.drop_drop]
    · simp -implicitDefEqProofs (maxSteps := 2000000) (disch := omega) [-getElem?_pos]
      refine .mkT (.v (.sl (some 2) false (words bs k))) ⟨?_, rfl⟩ .tsl (by simp)
      rw [packV, show (bs.length + 7) / 8 = k by omega]

theorem k_All (ws : List Wd) (f : Bool) (hw : ws.length ≤ 1000000) (σ : Sg) : ACalls Try.prog 21 [.v (.sl (some 2) f (ws.map wv))] σ fun r σ' => r = .v (.sl (some 2) false (ws.map wv)) ∧ σ' = σ := by
  refine acalls_fit Try.func21 (by kernel_rfl) c21 rfl (by simp [a21]) fun hf => ?_
  simp at hf
  simp -implicitDefEqProofs (maxSteps := 2000000) (disch := omega) [-getElem?_pos, a21]
  refine W_loop (α := Nat) 0 (fun i => ws.length - i)
    (fun i => ⟨[(0, .v (.sl (some 2) f (ws.map wv))), (3, .tsl σ.toks.length (some 2) ((ws.map wv).take i)), (4, .v (.int .i64 i))], ⟨σ.objs, σ.toks ++ [i]⟩⟩) (fun i => i ≤ ws.length)
    (Weak.tok (i := 3) (sh := some 2) ?_ ?_) (by omega) fun i hi => ?_
  · simp [EnvEq]
  · simp [look]
  · simp -implicitDefEqProofs (maxSteps := 2000000) (disch := omega) [-getElem?_pos]
    refine ⟨fun h => ?_, fun h => ?_⟩
    · simp -implicitDefEqProofs (maxSteps := 2000000) (disch := omega) [-getElem?_pos]
      refine ⟨h, fun w hx => ?_⟩
      refine (k_As _ _ _).then fun r hr => ?_
      subst hr
      simp -implicitDefEqProofs (maxSteps := 2000000) (disch := omega) [-getElem?_pos, Nat.min_eq_left hi]
      refine ⟨by omega, i + 1, by omega, by dsimp only; omega, .eq2 (by simp) ?_⟩
      simp [EnvEq, List.take_add_one, hx]
    · simp -implicitDefEqProofs (maxSteps := 2000000) (disch := omega) [-getElem?_pos]
      exact .mkT (.v (.sl (some 2) false (ws.map wv))) ⟨rfl, rfl⟩ (by rw [List.take_of_length_le (by simp; omega)]; exact .tsl) (by simp)

theorem k_RSame (us ws : List Wd) (f g : Bool) (σ : Sg) : ACalls Try.prog 22 [.v (.sl (some 2) f (us.map wv)), .v (.sl (some 2) g (ws.map wv))] σ fun r σ' => r = .v (.bool (decide (us = ws))) ∧ σ' = σ := by
  refine acalls_fit Try.func22 (by kernel_rfl) c22 rfl (by simp [a22]) fun hf => ?_
  simp at hf
  simp -implicitDefEqProofs (maxSteps := 2000000) (disch := omega) [-getElem?_pos, a22]
  refine .mk (fun hl => ?_) fun hl => ?_
  · simp -implicitDefEqProofs (maxSteps := 2000000) (disch := omega) [-getElem?_pos]
    exact .mk0 _ ⟨by rw [decide_eq_false]; rintro rfl; exact hl rfl, rfl⟩ (.refl _) trivial
  · simp -implicitDefEqProofs (maxSteps := 2000000) (disch := omega) [-getElem?_pos]
    refine W_loop (α := Nat) 0 (fun i => us.length - i)
      (fun i => ⟨[(0, .v (.sl (some 2) f (us.map wv))), (1, .v (.sl (some 2) g (ws.map wv))), (5, .v (.int .i64 i))], σ⟩) (fun i => i ≤ us.length ∧ (us = ws ↔ us.drop i = ws.drop i))
      (.eq ?_) ⟨by omega, by simp⟩ fun i ⟨hi, he⟩ => ?_
    · simp [EnvEq]
    simp -implicitDefEqProofs (maxSteps := 2000000) (disch := omega) [-getElem?_pos]
    refine .mk (fun h => ?_) fun h => ?_
    · simp -implicitDefEqProofs (maxSteps := 2000000) (disch := omega) [-getElem?_pos]
      refine ⟨h, fun u hu => ⟨by omega, fun w hw => ?_⟩⟩
      have e1 := drop_cons hu
      have e2 := drop_cons hw
      refine .mk (fun hne => ?_) fun hne => ?_
      · simp -implicitDefEqProofs (maxSteps := 2000000) (disch := omega) [-getElem?_pos]
        refine .mk0 _ ⟨?_, rfl⟩ (.refl _) trivial
        rw [decide_eq_false]
        rw [he, e1, e2]
        intro h2
        have := (List.cons.inj h2).1
        subst this
        simp at hne
      · simp -implicitDefEqProofs (maxSteps := 2000000) (disch := omega) [-getElem?_pos]
        refine ⟨i + 1, ⟨by omega, ?_⟩, by dsimp only; omega, .eq (by simp [EnvEq, wv, word])⟩
        have huw : u = w := by cases u; cases w; simp at hne ⊢; exact hne
        rw [he, e1, e2, huw]
        simp
    · simp -implicitDefEqProofs (maxSteps := 2000000) (disch := omega) [-getElem?_pos]
      refine .mk0 _ ⟨?_, rfl⟩ (.refl _) trivial
      rw [decide_eq_true]
      rw [he, List.drop_eq_nil_of_le (by omega), List.drop_eq_nil_of_le (by omega)]

theorem le_snoc (l : List UInt8) (c : UInt8) : le (l ++ [c]) = le l + 256 ^ l.length * c.toNat := by
  induction l with
  | nil => simp [le]
  | cons a l ih => simp only [List.cons_append, le, ih, List.length_cons, Nat.pow_succ, Nat.mul_add]; rw [Nat.mul_comm (256 ^ l.length) 256]; simp [Nat.mul_assoc, Nat.add_assoc]

/-- One byte more, by shift and or. -/
theorem wrap_u64_nat {n : Nat} (h : n < 18446744073709551616) : IntKind.wrap .u64 (n : Int) = n := wrap_u64 (by omega) (by omega)
theorem or_byte {q : List UInt8} {k : Nat} (hk : k < 8) {c : UInt8} (hc : q[k]? = some c) :
    ior .u64 (le (q.take k) : Nat) (ishl .u64 c.toNat (8 * k)) = (le (q.take (k + 1)) : Nat) := by
  have e2 : min (8 * (k : Int)).toNat (IntKind.bits .u64) = 8 * k := by simp only [IntKind.bits]; omega
  unfold ior ishl
  rw [e2]
  show IntKind.wrap .u64 ((BitVec.ofInt 64 (le (q.take k) : Nat) ||| BitVec.ofInt 64 (IntKind.wrap .u64 ((c.toNat : Int) * 2 ^ (8 * k)))).toNat : Nat) = (le (q.take (k + 1)) : Nat)
  have hkl := (List.getElem?_eq_some_iff.1 hc).1
  have hlen : (q.take k).length = k := by simp; omega
  have h1 : le (q.take (k + 1)) = le (q.take k) + 256 ^ k * c.toNat := by
    rw [List.take_add_one, hc]
    simp only [Option.toList_some]
    rw [le_snoc, hlen]
  have h2 := le_lt (q.take k)
  rw [hlen] at h2
  have h3 := le_lt8 (l := q.take (k + 1)) (by simp; omega)
  have h4 : (256 : Nat) ^ k = 2 ^ (8 * k) := by rw [Nat.pow_mul]
  have h5 : ((c.toNat : Int) * 2 ^ (8 * k)) = ((c.toNat * 2 ^ (8 * k) : Nat) : Int) := by simp
  rw [h4] at h1 h2
  have h6 : c.toNat * 2 ^ (8 * k) < 18446744073709551616 := by rw [Nat.mul_comm]; omega
  rw [h5, wrap_u64_nat h6, BitVec.ofInt_natCast, BitVec.ofInt_natCast, BitVec.toNat_or, BitVec.toNat_ofNat, BitVec.toNat_ofNat, Nat.mod_eq_of_lt (by omega), Nat.mod_eq_of_lt (by omega)]
  have h7 : le (q.take k) ||| c.toNat * 2 ^ (8 * k) = le (q.take (k + 1)) := by
    rw [Nat.or_comm, Nat.mul_comm, ← Nat.two_pow_add_eq_or_of_lt h2, h1, Nat.add_comm]
  rw [h7, wrap_u64_nat h3]

theorem k_Pack (bs : List UInt8) (f : Bool) (hb : bs.length ≤ 1000000) (σ : Sg) : ACalls Try.prog 23 [.v (.sl none f (bytesV bs))] σ fun r σ' =>
    r = .v (.sl (some 2) false (packV bs)) ∧ σ' = σ := by
  refine acalls_fit Try.func23 (by kernel_rfl) c23 rfl (by simp [a23]) fun hf => ?_
  simp -implicitDefEqProofs (maxSteps := 2000000) (disch := omega) [-getElem?_pos, a23]
  refine (k_Int _ _).then fun r hr => ?_
  subst hr
  simp -implicitDefEqProofs (maxSteps := 2000000) (disch := omega) [-getElem?_pos, words_length]
  refine W_loop (α := Nat) 0 (fun j => bs.length + 8 - j)
    (fun j => ⟨[(0, .v (.sl none f (bytesV bs))), (3, .tsl σ.toks.length (some 2) (words bs (j / 8))), (4, .v (.int .i64 j))], ⟨σ.objs, σ.toks ++ [j / 8 + 1]⟩⟩) (fun j => j % 8 = 0 ∧ j ≤ bs.length + 7)
    (Weak.tokF (i := 3) (sh := some 2) (xs := [word false bs.length]) ?_ ?_ (by simp [maxLen])) (by omega) fun j ⟨h8, hj⟩ => ?_
  · simp [EnvEq, words]
  · simp [look]
  simp -implicitDefEqProofs (maxSteps := 2000000) (disch := omega) [-getElem?_pos]
  refine .mk (fun h => ?_) fun h => ?_
  · have hm : (if (bs.length : Int) < (j : Int) + 8 then (bs.length : Int) else (j : Int) + 8) = ((min (j + 8) bs.length : Nat) : Int) := by split <;> omega
    simp -implicitDefEqProofs (maxSteps := 2000000) (disch := omega) [-getElem?_pos, hm]
    repeat refine ⟨by omega, ?_⟩
    have hd : List.drop j (List.take (min (j + 8) bs.length) bs) = (bs.drop j).take 8 := by
      rw [List.drop_take]
      rcases Nat.le_total (j + 8) bs.length with h1 | h1
      · rw [Nat.min_eq_left h1, Nat.add_sub_cancel_left]
      · rw [Nat.min_eq_right h1, List.take_of_length_le (by simp), List.take_of_length_le (by simp; omega)]
    rw [hd]
    refine W_loop (α := Nat) 0 (fun k => 8 - k)
      (fun k => ⟨[(0, .v (.sl none f (bytesV bs))), (3, .tsl σ.toks.length (some 2) (words bs (j / 8))), (4, .v (.int .i64 j)), (5, .v (.int .u64 (le (((bs.drop j).take 8).take k)))), (25, .v (.sl none false (bytesV ((bs.drop j).take 8)))),
        (26, .v (.int .i64 ((bs.drop j).take 8).length)), (27, .v (.int .i64 k))], ⟨σ.objs, σ.toks ++ [j / 8 + 1]⟩⟩) (fun k => k ≤ ((bs.drop j).take 8).length)
      (.eq ?_) (by omega) fun k hk => ?_
    · simp [EnvEq, le]
      omega
    generalize hq : (bs.drop j).take 8 = q at hk ⊢
    have hq8 : q.length ≤ 8 := by rw [← hq]; simp; omega
    simp -implicitDefEqProofs (maxSteps := 2000000) (disch := omega) [-getElem?_pos]
    refine .mk (fun h2 => ?_) fun h2 => ?_
    · simp -implicitDefEqProofs (maxSteps := 2000000) (disch := omega) [-getElem?_pos]
      refine ⟨h2, fun c hc => ?_⟩
      have e := or_byte (q := q) (k := k) (by omega) hc
      have e1 : IntKind.wrap .u64 (c.toNat : Int) = c.toNat := wrap_u64_nat (by have := c.toNat_lt; omega)
      rw [e1, e]
      exact ⟨by omega, k + 1, by omega, by dsimp only; omega, .eq (by simp [EnvEq])⟩
    · refine (k_Int _ _).then fun r hr => ?_
      subst hr
      simp -implicitDefEqProofs (maxSteps := 2000000) (disch := omega) [-getElem?_pos, words_length]
      have hkq : q.take k = q := List.take_of_length_le (by omega)
      have hw : word false (IntKind.wrap .i64 (le q : Nat)) = wd bs (j / 8) := by rw [wd, show 8 * (j / 8) = j by omega, hq]
      refine ⟨by omega, j + 8, ⟨by omega, by omega⟩, by dsimp only; omega, .eq2 (by simp) ?_⟩
      simp [EnvEq, hkq, hw]
      rw [words_succ]
  · simp -implicitDefEqProofs (maxSteps := 2000000) (disch := omega) [-getElem?_pos]
    refine .mkT (.v (.sl (some 2) false (words bs (j / 8)))) ⟨?_, rfl⟩ .tsl (by simp)
    rw [packV, show (bs.length + 7) / 8 = j / 8 by omega]
end Go.Proofs.Ytcbdnndgnbgnaaa
