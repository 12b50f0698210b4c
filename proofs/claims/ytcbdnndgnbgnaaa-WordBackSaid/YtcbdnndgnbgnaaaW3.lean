/-
  The word package: bytes out of words. (Own work.)
-/
import Derived.Test.YtcbdnndgnbgnaaaW2
set_option linter.unusedVariables false
set_option linter.unusedSimpArgs false
namespace Go.Proofs.Ytcbdnndgnbgnaaa
open Go Go.Abs

/-- A number, as one of 64 bits without a sign. -/
def u64 (n : Int) : Nat := (IntKind.wrap .u64 n).toNat
theorem wrap_u64_eq (n : Int) : IntKind.wrap .u64 n = (u64 n : Int) := by
  have := inR_wrap .u64 n
  simp at this
  unfold u64
  omega
theorem u64_lt (n : Int) : u64 n < 18446744073709551616 := by
  have := inR_wrap .u64 n
  simp at this
  unfold u64
  omega
def byteAt (n : Int) (k : Nat) : UInt8 := UInt8.ofNat (u64 n / 256 ^ k)
theorem byteAt_toNat (n : Int) (k : Nat) : (byteAt n k).toNat = u64 n / 256 ^ k % 256 := by simp [byteAt]
def bytes8 (n : Int) : List UInt8 := (List.range 8).map (byteAt n)
theorem bytes8_length (n : Int) : (bytes8 n).length = 8 := by simp [bytes8]
theorem bytes8_get {n : Int} {k : Nat} (h : k < 8) : (bytes8 n)[k]? = some (byteAt n k) := by simp [bytes8, h]
theorem bytes8_take {n : Int} {k : Nat} (h : k < 8) : (bytes8 n).take (k + 1) = (bytes8 n).take k ++ [byteAt n k] := by
  rw [List.take_add_one, bytes8_get h]; rfl
def body (l : List Wd) : List UInt8 := l.flatMap fun w => bytes8 w.n
theorem body_length (l : List Wd) : (body l).length = 8 * l.length := by
  induction l with
  | nil => rfl
  | cons w l ih => simp only [body, List.flatMap_cons, List.length_append, bytes8_length, List.length_cons] at *; omega

def packL (bs : List UInt8) : List Wd := ⟨false, bs.length⟩ :: (List.range ((bs.length + 7) / 8)).map fun k => ⟨false, IntKind.wrap .i64 (le ((bs.drop (8 * k)).take 8))⟩
theorem packV_eq (bs : List UInt8) : packV bs = (packL bs).map wv := by simp [packV, words, packL, wd]

theorem wrap_u8_byte (n : Int) (k : Nat) : IntKind.wrap .u8 ((u64 n / 256 ^ k : Nat) : Int) = (byteAt n k).toNat := by
  rw [byteAt_toNat]
  generalize u64 n / 256 ^ k = x
  unfold IntKind.wrap
  simp [IntKind.bits, IntKind.signed]

/-- A number without its last bytes. -/
def dig (n : Int) (k : Nat) : Nat := u64 n / 256 ^ k
theorem dig_zero (n : Int) : dig n 0 = u64 n := by simp [dig]
theorem dig_le (n : Int) (k : Nat) : dig n k ≤ 18446744073709551615 := by
  have h1 := u64_lt n
  have h2 : dig n k ≤ u64 n := Nat.div_le_self _ _
  omega
theorem dig_tmod (n : Int) (k : Nat) : IntKind.wrap .u8 ((dig n k : Int).tmod 256) = (byteAt n k).toNat := by
  rw [byteAt_toNat, Int.tmod_eq_emod_of_nonneg (by omega)]
  show IntKind.wrap .u8 (((dig n k : Nat) : Int) % ((256 : Nat) : Int)) = _
  rw [← Int.natCast_emod, wrap_u8 (by omega) (by have := Nat.mod_lt (dig n k) (show 0 < 256 by decide); omega)]
  rfl
theorem dig_tdiv (n : Int) (k : Nat) : IntKind.wrap .u64 ((dig n k : Int).tdiv 256) = dig n (k + 1) := by
  have h := dig_le n (k + 1)
  have e : (dig n k : Int).tdiv 256 = (dig n (k + 1) : Nat) := by
    rw [Int.tdiv_eq_ediv_of_nonneg (by omega)]
    show ((dig n k : Nat) : Int) / ((256 : Nat) : Int) = _
    rw [← Int.natCast_ediv]
    simp only [dig, Nat.div_div_eq_div_mul, Nat.pow_succ]
  rw [e, wrap_u64 (by omega) (by omega)]

theorem dig_ediv (n : Int) (k : Nat) : IntKind.wrap .u64 ((dig n k : Int) / 256) = dig n (k + 1) := by
  rw [← dig_tdiv, Int.tdiv_eq_ediv_of_nonneg (by omega)]

/-- What the document's Unpack tells. -/
def runpack (l : List Wd) : List V := match l with
  | [] => [.sl none false [], .bool false]
  | w :: r => if w.p = true ∨ w.n < 0 ∨ 8 * (r.length : Int) < w.n then [.sl none false [], .bool false] else
    [.sl none false (bytesV ((body r).take w.n.toNat)), .bool (decide (packL ((body r).take w.n.toNat) = w :: r))]

theorem cons_of {L : List Wd} (h : L ≠ []) : ∃ w l, L = w :: l ∧ L[0]? = some w ∧ L.length = l.length + 1 ∧ L.drop 1 = l := by
  cases L with
  | nil => exact absurd rfl h
  | cons w l => exact ⟨w, l, rfl, rfl, rfl, rfl⟩

theorem k_RUnpack (L : List Wd) (f : Bool) (hl : L.length ≤ 1000) (σ : Sg) : ACalls Try.prog 20 [.v (.sl (some 2) f (L.map wv))] σ fun r σ' => r = .tup ((runpack L).map .v) ∧ σ' = σ := by
  refine acalls_fit Try.func20 (by kernel_rfl) c20 rfl (by simp [a20]) fun hf => ?_
  by_cases hn : L = []
  · subst hn
    simp -implicitDefEqProofs (maxSteps := 2000000) (disch := omega) [-getElem?_pos, a20]
    exact .mk0 _ ⟨rfl, rfl⟩ (.tup2 .snil (.refl _)) (by simp)
  obtain ⟨⟨p, n⟩, l, rfl, hd, hlen, hdr⟩ := cons_of hn
  simp at hf
  generalize hL : (⟨p, n⟩ : Wd) :: l = L at *

  have hbad : ∀ st : D, st = .tup [.v .snil, .v (.bool false)] → (p = true ∨ n < 0 ∨ 8 * (l.length : Int) < n) → PostV σ st σ fun r σ' => r = .tup ((runpack L).map .v) ∧ σ' = σ := by
    rintro st rfl hb
    refine .mk0 _ ⟨rfl, rfl⟩ ?_ (by simp)
    rw [← hL, runpack, if_pos (by simpa using hb)]
    exact .tup2 .snil (.refl _)
  cases p with
  | true =>
    simp -implicitDefEqProofs (maxSteps := 2000000) (disch := omega) [-getElem?_pos, a20, hn, hd]
    exact ⟨by omega, hbad _ rfl (.inl rfl)⟩
  | false =>
  by_cases h1 : n < 0
  · simp -implicitDefEqProofs (maxSteps := 2000000) (disch := omega) [-getElem?_pos, a20, hn, h1, hd]
    exact ⟨by omega, hbad _ rfl (.inr (.inl h1))⟩
  by_cases h2 : 8 * (L.length : Int) < n
  · simp -implicitDefEqProofs (maxSteps := 2000000) (disch := omega) [-getElem?_pos, a20, hn, h1, h2, hd]
    exact ⟨by omega, hbad _ rfl (.inr (.inr (by omega)))⟩
  simp -implicitDefEqProofs (maxSteps := 2000000) (disch := omega) [-getElem?_pos, a20, hn, h1, h2, hd]
  refine ⟨by omega, W_loop (α := Nat × List UInt8) (1, []) (fun x => L.length - x.1)
    (fun x => ⟨[(0, .v (.sl (some 2) f (L.map wv))), (4, .tsl σ.toks.length none (bytesV x.2)), (5, .v (.int .i64 x.1))], ⟨σ.objs, σ.toks ++ [x.2.length]⟩⟩)
    (fun x => 1 ≤ x.1 ∧ x.1 ≤ L.length ∧ x.2 ++ body (L.drop x.1) = body l)
    (Weak.tok (i := 4) (sh := none) ?_ ?_) ⟨by simp, by dsimp only; omega, by simp [hdr]⟩ fun ⟨i, out⟩ ⟨hi1, hi2, ho⟩ => ?_⟩
  · simp
  · simp [look]
  have hol : out.length + 8 * (L.length - i) = 8 * l.length := by
    have := congrArg List.length ho
    simpa [body_length] using this
  dsimp only at ho hi1 hi2
  simp -implicitDefEqProofs (maxSteps := 2000000) (disch := omega) [-getElem?_pos]
  refine .mk (fun h => ?_) fun h => ?_
  · simp -implicitDefEqProofs (maxSteps := 2000000) (disch := omega) [-getElem?_pos]
    refine ⟨by omega, fun w hw => ?_⟩
    have hdc := drop_cons hw
    rw [wrap_u64_eq]
    refine W_loop (α := Nat) 0 (fun k => 8 - k)
      (fun k => ⟨[(0, .v (.sl (some 2) f (L.map wv))), (4, .tsl σ.toks.length none (bytesV (out ++ (bytes8 w.n).take k))), (5, .v (.int .i64 i)), (6, .v (.int .u64 (dig w.n k))), (7, .v (.int .i64 k))], ⟨σ.objs, σ.toks ++ [out.length + k]⟩⟩)
      (fun k => k ≤ 8) (.eq ?_) (by simp) fun k hk => ?_
    · simp [dig_zero]
    have hbl : (bytes8 w.n).length = 8 := bytes8_length _
    simp -implicitDefEqProofs (maxSteps := 2000000) (disch := omega) [-getElem?_pos, Nat.min_eq_left, hbl]
    refine .mk (fun h2 => ?_) fun h2 => ?_
    · simp -implicitDefEqProofs (maxSteps := 2000000) (disch := omega) [-getElem?_pos, Nat.min_eq_left, hbl, dig_tmod, dig_tdiv, dig_ediv]
      refine ⟨by omega, k + 1, by omega, by dsimp only; omega, .eq2 (by simp [Nat.add_assoc]) ?_⟩
      simp [bytes8_take (show k < 8 by omega)]
    · simp -implicitDefEqProofs (maxSteps := 2000000) (disch := omega) [-getElem?_pos, Nat.min_eq_left, hbl]
      have hk8 : k = 8 := by omega
      subst hk8
      refine ⟨(i + 1, out ++ bytes8 w.n), ⟨by dsimp only; omega, by dsimp only; omega, ?_⟩, by dsimp only; omega, .eq2 (by simp [hbl]) ?_⟩
      · rw [← ho, hdc]
        simp [body]
      · simp [List.take_of_length_le (Nat.le_of_eq hbl)]
  · have hi : i = L.length := by omega
    subst hi
    have hob : out = body l := by simpa [body] using ho
    subst hob
    rw [body_length] at hol
    simp -implicitDefEqProofs (maxSteps := 2000000) (disch := omega) [-getElem?_pos, body_length, hd]
    refine ⟨by omega, .mk (fun h3 => ?_) fun h3 => ?_⟩
    · simp -implicitDefEqProofs (maxSteps := 2000000) (disch := omega) [-getElem?_pos]
      refine .mkT (.tup [.v (.sl none false []), .v (.bool false)]) ⟨?_, rfl⟩ (.tup2 .snil (.refl _)) (by simp)
      rw [← hL, runpack, if_pos (.inr (.inr (by dsimp only; omega)))]
      rfl
    · simp -implicitDefEqProofs (maxSteps := 2000000) (disch := omega) [-getElem?_pos, hd, body_length]
      have hbl : (List.take n.toNat (body l)).length ≤ 1000000 := by rw [List.length_take, body_length]; omega
      refine ⟨by omega, by omega, by omega, (k_RPack _ hbl _).then fun r hr => ?_⟩
      subst hr
      simp -implicitDefEqProofs (maxSteps := 2000000) (disch := omega) [-getElem?_pos, packV_eq]
      refine (k_RSame _ _ _ _ _).then fun r hr => ?_
      subst hr
      simp -implicitDefEqProofs (maxSteps := 2000000) (disch := omega) [-getElem?_pos]
      refine .mkT _ ⟨?_, rfl⟩ (.refl _) (by simp)
      rw [← hL, runpack, if_neg (by simp; omega)]
      simp

theorem shr_byte (n : Int) {k : Nat} (hk : k < 8) : IntKind.wrap .u8 (ishr .u64 (IntKind.wrap .u64 n) (8 * (k : Int))) = (byteAt n k).toNat := by
  have e2 : min (8 * (k : Int)).toNat (IntKind.bits .u64) = 8 * k := by simp only [IntKind.bits]; omega
  unfold ishr
  rw [e2, wrap_u64_eq, Int.fdiv_eq_ediv_of_nonneg _ (by have : (0 : Int) < 2 ^ (8 * k) := Int.pow_pos (by omega); omega), ← wrap_u8_byte]
  have : (2 : Int) ^ (8 * k) = ((256 ^ k : Nat) : Int) := by rw [Int.pow_mul]; simp
  rw [this, ← Int.natCast_ediv]

/-- What the program's Unpack tells: is all well, and the bytes. -/
def unpackOk (L : List Wd) : Bool := match L with
  | [] => false
  | w :: r => !w.p && decide (0 ≤ w.n) && decide (w.n ≤ 8 * (r.length : Int)) && r.all (fun x => !x.p) && ((body r).drop w.n.toNat).all (fun c => c == 0) && (decide ((body r).length - w.n.toNat < 8))

theorem k_Unpack (L : List Wd) (f : Bool) (hl : L.length ≤ 1000) (σ : Sg) : ACalls Try.prog 19 [.v (.sl (some 2) f (L.map wv))] σ fun r σ' =>
    (unpackOk L = true → r = .tup [.v (.sl none false (bytesV ((body (L.drop 1)).take (L.headD ⟨false, 0⟩).n.toNat))), .v .inil]) ∧ (unpackOk L = false → r = .tup [.v (.sl none false []), .v argErr]) ∧ σ' = σ := by
  refine acalls_fit Try.func19 (by kernel_rfl) c19 rfl (by simp [a19]) fun hf => ?_
  by_cases hn : L = []
  · subst hn
    simp -implicitDefEqProofs (maxSteps := 2000000) (disch := omega) [-getElem?_pos, a19]
    exact .mk0 _ ⟨by simp [unpackOk], fun _ => rfl, rfl⟩ (.tup2 .snil (.refl _)) (by simp)
  obtain ⟨⟨p, n⟩, l, rfl, hd, hlen, hdr⟩ := cons_of hn
  simp at hf
  have hun : unpackOk (⟨p, n⟩ :: l) = (!p && decide (0 ≤ n) && decide (n ≤ 8 * (l.length : Int)) && l.all (fun x => !x.p) && ((body l).drop n.toNat).all (fun c => c == 0) && (decide ((body l).length - n.toNat < 8))) := rfl
  have hhd : (List.headD (⟨p, n⟩ :: l) ⟨false, 0⟩).n = n := rfl
  generalize hL : (⟨p, n⟩ : Wd) :: l = L at *
  rw [hdr, hhd]
  have hbad : ∀ st : D, st = .tup [.v .snil, .v argErr] → unpackOk L = false → D.Le st (.tup [.v (.sl none false []), .v argErr]) := by
    rintro st rfl _
    exact .tup2 .snil (.refl _)
  have hend : ∀ {r : D} {σ1 : Sg}, r = .tup [.v .snil, .v argErr] → unpackOk L = false → σ1.objs = σ.objs ++ σ1.objs.drop σ.objs.length → σ1.toks = σ.toks ++ σ1.toks.drop σ.toks.length → PostV σ r σ1 fun r σ' =>
      (unpackOk L = true → r = .tup [.v (.sl none false (bytesV ((body l).take n.toNat))), .v .inil]) ∧ (unpackOk L = false → r = .tup [.v (.sl none false []), .v argErr]) ∧ σ' = σ := by
    rintro r σ1 rfl hu h1 h2
    exact .fin (.tup [.v (.sl none false []), .v argErr]) ⟨by simp [hu], fun _ => rfl, rfl⟩ (.tup2 .snil (.refl _)) (by simp) h1 h2
  cases p with
  | true =>
    simp -implicitDefEqProofs (maxSteps := 2000000) (disch := omega) [-getElem?_pos, a19, hn, hd]
    exact ⟨by omega, hend rfl (by simp [hun]) (by simp) (by simp)⟩
  | false =>
  by_cases h1 : n < 0
  · simp -implicitDefEqProofs (maxSteps := 2000000) (disch := omega) [-getElem?_pos, a19, hn, h1, hd]
    exact ⟨by omega, hend rfl (by simp [hun]; omega) (by simp) (by simp)⟩
  by_cases h2 : ((L.length : Int) - 1) * 8 < n
  · simp -implicitDefEqProofs (maxSteps := 2000000) (disch := omega) [-getElem?_pos, a19, hn, h1, h2, hd]
    have h3 : decide (n ≤ 8 * (l.length : Int)) = false := by simp; omega
    exact ⟨by omega, hend rfl (by simp [hun, h3]) (by simp) (by simp)⟩
  simp -implicitDefEqProofs (maxSteps := 2000000) (disch := omega) [-getElem?_pos, a19, hn, h1, h2, hd]
  refine ⟨by omega, by omega, ?_⟩
  have htl : (List.take L.length (L.map wv)).tail = l.map wv := by rw [List.take_of_length_le (by simp), ← hL]; rfl
  rw [htl]
  refine W_loop (α := Nat × List UInt8) (0, []) (fun x => l.length - x.1)
    (fun x => ⟨[(0, .v (.sl (some 2) f (L.map wv))), (4, .tsl σ.toks.length none (bytesV x.2)), (41, .v (.sl (some 2) false (l.map wv))), (42, .v (.int .i64 l.length)), (43, .v (.int .i64 x.1))], ⟨σ.objs, σ.toks ++ [x.2.length]⟩⟩)
    (fun x => x.1 ≤ l.length ∧ x.2 ++ body (l.drop x.1) = body l ∧ l.all (fun x => !x.p) = (l.drop x.1).all (fun x => !x.p))
    (Weak.tokF (i := 4) (sh := none) (xs := []) ?_ ?_ (by simp)) ⟨by simp, by simp, by simp⟩ fun ⟨i, out⟩ ⟨hi, ho, ha⟩ => ?_
  · simp
    omega
  · simp [look]
  have hol : out.length + 8 * (l.length - i) = 8 * l.length := by
    have := congrArg List.length ho
    simpa [body_length] using this
  dsimp only at ho hi ha
  simp -implicitDefEqProofs (maxSteps := 2000000) (disch := omega) [-getElem?_pos]
  refine .mk (fun h => ?_) fun h => ?_
  · simp -implicitDefEqProofs (maxSteps := 2000000) (disch := omega) [-getElem?_pos]
    refine ⟨by omega, fun w hw => ?_⟩
    have hdc := drop_cons hw
    rw [hdc, List.all_cons] at ha
    refine .mk (fun hp => ?_) fun hp => ?_
    · simp -implicitDefEqProofs (maxSteps := 2000000) (disch := omega) [-getElem?_pos]
      exact hend rfl (by rw [hun, ha]; simp [hp]) (by simp) (by simp)
    simp -implicitDefEqProofs (maxSteps := 2000000) (disch := omega) [-getElem?_pos]
    refine W_loop (α := Nat) 0 (fun k => 8 - k)
      (fun k => ⟨[(0, .v (.sl (some 2) f (L.map wv))), (4, .tsl σ.toks.length none (bytesV (out ++ (bytes8 w.n).take k))), (41, .v (.sl (some 2) false (l.map wv))), (42, .v (.int .i64 l.length)), (43, .v (.int .i64 i)), (6, .ptr σ.objs.length 0), (50, .v (.int .i64 k))],
        ⟨σ.objs ++ [.cells [.v (.bool w.p), .v (.int .i64 w.n)]], σ.toks ++ [out.length + k]⟩⟩)
      (fun k => k ≤ 8) (.eq2 (by simp) ?_) (by simp) fun k hk => ?_
    · simp
    have hbl : (bytes8 w.n).length = 8 := bytes8_length _
    simp -implicitDefEqProofs (maxSteps := 2000000) (disch := omega) [-getElem?_pos, Nat.min_eq_left, hbl]
    refine .mk (fun h2 => ?_) fun h2 => ?_
    · have hsh := shr_byte w.n (k := k) (by omega)
      simp -implicitDefEqProofs (maxSteps := 2000000) (disch := omega) [-getElem?_pos, Nat.min_eq_left, hbl, hsh]
      refine ⟨by omega, by omega, k + 1, by omega, by dsimp only; omega, .eq2 (by simp [Nat.add_assoc]) ?_⟩
      simp [bytes8_take (show k < 8 by omega)]
    · simp -implicitDefEqProofs (maxSteps := 2000000) (disch := omega) [-getElem?_pos, Nat.min_eq_left, hbl]
      have hk8 : k = 8 := by omega
      subst hk8
      refine ⟨(i + 1, out ++ bytes8 w.n), ⟨by dsimp only; omega, ?_, ?_⟩, by dsimp only; omega, .dropO (by simp [hbl]) (by simp) ?_ (by simp)⟩
      · rw [← ho, hdc]
        simp [body]
      · dsimp only
        rw [ha]
        simp [hp]
      · simp [List.take_of_length_le (Nat.le_of_eq hbl)]
  · have hi : i = l.length := by omega
    subst hi
    have hob : out = body l := by simpa [body] using ho
    subst hob
    simp only [List.drop_length, List.all_nil] at ha
    have hB : (body l).length = 8 * l.length := body_length l
    generalize body l = B at *
    simp -implicitDefEqProofs (maxSteps := 2000000) (disch := omega) [-getElem?_pos, hd]
    refine ⟨by omega, by omega, by omega, ?_⟩
    refine W_loop (α := Nat) 0 (fun j => (B.drop n.toNat).length - j)
      (fun j => ⟨[(4, .tsl σ.toks.length none (bytesV B)), (8, .v (.int .i64 n)), (71, .v (.sl none false (bytesV (B.drop n.toNat)))), (72, .v (.int .i64 (B.drop n.toNat).length)), (73, .v (.int .i64 j))], ⟨σ.objs, σ.toks ++ [B.length]⟩⟩)
      (fun j => j ≤ (B.drop n.toNat).length ∧ (B.drop n.toNat).all (fun c => c == 0) = ((B.drop n.toNat).drop j).all (fun c => c == 0) ∧ (0 < j → B.length - n.toNat < 8))
      (.eq2 (by simp) ?_) ⟨by simp, by simp, by simp⟩ fun j ⟨hj, hz, h8⟩ => ?_
    · simp
    have hD : (B.drop n.toNat).length = B.length - n.toNat := by simp
    generalize hDd : B.drop n.toNat = D at *
    simp -implicitDefEqProofs (maxSteps := 2000000) (disch := omega) [-getElem?_pos]
    refine .mk (fun h3 => ?_) fun h3 => ?_
    · simp -implicitDefEqProofs (maxSteps := 2000000) (disch := omega) [-getElem?_pos]
      refine ⟨by omega, fun c hc => ?_⟩
      have hdc := drop_cons hc
      rw [hdc, List.all_cons] at hz
      have hcz : ((c : UInt8) == 0) = decide (c.toNat = 0) := by
        rw [Bool.eq_iff_iff]
        simp [← UInt8.toNat_inj]
      rw [hcz] at hz
      refine .mk (fun h4 => ?_) fun h4 => ?_
      · simp -implicitDefEqProofs (maxSteps := 2000000) (disch := omega) [-getElem?_pos]
        refine .mk (fun h5 => ?_) fun h5 => ?_
        · simp -implicitDefEqProofs (maxSteps := 2000000) (disch := omega) [-getElem?_pos]
          exact hend rfl (by rw [hun]; simp; intros; omega) (by simp) (by simp)
        · simp -implicitDefEqProofs (maxSteps := 2000000) (disch := omega) [-getElem?_pos]
          refine ⟨j + 1, ⟨by omega, by rw [hz]; simp [h4], by omega⟩, by dsimp only; omega, .eq2 (by simp) (by simp)⟩
      · simp -implicitDefEqProofs (maxSteps := 2000000) (disch := omega) [-getElem?_pos]
        exact hend rfl (by rw [hun, hz]; simp [h4]) (by simp) (by simp)
    · simp -implicitDefEqProofs (maxSteps := 2000000) (disch := omega) [-getElem?_pos]
      refine ⟨by omega, by omega, .fin (.tup [.v (.sl none false (bytesV (B.take n.toNat))), .v .inil]) ⟨fun _ => rfl, fun hu => ?_, rfl⟩ (.refl _)⟩
      exfalso
      have hj2 : j = D.length := by omega
      subst hj2
      rw [hun, hz, ha] at hu
      simp at hu
      rcases Nat.eq_zero_or_pos D.length with h6 | h6
      · omega
      · have := h8 h6
        omega
end Go.Proofs.Ytcbdnndgnbgnaaa
