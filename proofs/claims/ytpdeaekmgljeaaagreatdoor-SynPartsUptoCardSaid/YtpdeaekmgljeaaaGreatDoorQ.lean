/-
  Lexer: a text in quotes. (Own work.)
-/
import Derived.Test.YtpdeaekmgljeaaaGreatDoorL9
set_option linter.unusedVariables false
set_option linter.unusedSimpArgs false
namespace Go.Proofs.YtpdeaekmgljeaaaGreatDoor
open Go Go.Abs

def qB (c : UInt8) : Option Str := if c.toNat = 10 then some [92, 110] else if plaB c = false then none else if c.toNat = 34 ∨ c.toNat = 92 then some [92, c] else some [c]
def qL : Str → Str → Option Str
  | [], out => some (out ++ [34])
  | c :: r, out => match qB c with
    | none => none
    | some s => qL r (out ++ s)
structure QSt where
  k : Nat
  out : Str
structure QIn (b : Str) (x : QSt) : Prop where
  hk : x.k ≤ b.length
  ho : x.out.length ≤ 1 + 2 * x.k
  he : qL b [34] = qL (b.drop x.k) x.out
def quoteE (t : Str) : Option Str := if 2000 < t.length then none else qL t [34]
def QPost (x : Option Str) (r : D) : Prop := match x with
  | some s => r = .tup [.v (.str s), .v .inil]
  | none => r = .tup [.v (.str []), .v (.iface 32 (.int .i64 1))]
theorem qL_step {b : Str} {k : Nat} {c : UInt8} {out : Str} (h : b[k]? = some c) : qL (b.drop k) out = match qB c with | none => none | some s => qL (b.drop (k + 1)) (out ++ s) := by
  rw [drop_cons h]
  rfl
@[simp] theorem qb1_0 {Q : XE → St → Prop} {st : St} : QBlk 1 Q (.exit 0) st = Q (.exit 0) st := QBlk_exit (by decide)
@[simp] theorem qb1_2 {Q : XE → St → Prop} {st : St} : QBlk 1 Q (.exit 2) st = Q (.exit 2) st := QBlk_exit (by decide)
@[simp] theorem qb1_3 {Q : XE → St → Prop} {st : St} : QBlk 1 Q (.exit 3) st = Q (.exit 3) st := QBlk_exit (by decide)
@[simp] theorem qb1_4 {Q : XE → St → Prop} {st : St} : QBlk 1 Q (.exit 4) st = Q (.exit 4) st := QBlk_exit (by decide)
@[simp] theorem qb1_5 {Q : XE → St → Prop} {st : St} : QBlk 1 Q (.exit 5) st = Q (.exit 5) st := QBlk_exit (by decide)
@[simp] theorem qb1_6 {Q : XE → St → Prop} {st : St} : QBlk 1 Q (.exit 6) st = Q (.exit 6) st := QBlk_exit (by decide)
@[simp] theorem qb2_0 {Q : XE → St → Prop} {st : St} : QBlk 2 Q (.exit 0) st = Q (.exit 0) st := QBlk_exit (by decide)
@[simp] theorem qb2_1 {Q : XE → St → Prop} {st : St} : QBlk 2 Q (.exit 1) st = Q (.exit 1) st := QBlk_exit (by decide)
@[simp] theorem qb2_3 {Q : XE → St → Prop} {st : St} : QBlk 2 Q (.exit 3) st = Q (.exit 3) st := QBlk_exit (by decide)
@[simp] theorem qb2_4 {Q : XE → St → Prop} {st : St} : QBlk 2 Q (.exit 4) st = Q (.exit 4) st := QBlk_exit (by decide)
@[simp] theorem qb2_5 {Q : XE → St → Prop} {st : St} : QBlk 2 Q (.exit 5) st = Q (.exit 5) st := QBlk_exit (by decide)
@[simp] theorem qb2_6 {Q : XE → St → Prop} {st : St} : QBlk 2 Q (.exit 6) st = Q (.exit 6) st := QBlk_exit (by decide)
@[simp] theorem qb3_0 {Q : XE → St → Prop} {st : St} : QBlk 3 Q (.exit 0) st = Q (.exit 0) st := QBlk_exit (by decide)
@[simp] theorem qb3_1 {Q : XE → St → Prop} {st : St} : QBlk 3 Q (.exit 1) st = Q (.exit 1) st := QBlk_exit (by decide)
@[simp] theorem qb3_2 {Q : XE → St → Prop} {st : St} : QBlk 3 Q (.exit 2) st = Q (.exit 2) st := QBlk_exit (by decide)
@[simp] theorem qb3_4 {Q : XE → St → Prop} {st : St} : QBlk 3 Q (.exit 4) st = Q (.exit 4) st := QBlk_exit (by decide)
@[simp] theorem qb3_5 {Q : XE → St → Prop} {st : St} : QBlk 3 Q (.exit 5) st = Q (.exit 5) st := QBlk_exit (by decide)
@[simp] theorem qb3_6 {Q : XE → St → Prop} {st : St} : QBlk 3 Q (.exit 6) st = Q (.exit 6) st := QBlk_exit (by decide)
@[simp] theorem qb4_0 {Q : XE → St → Prop} {st : St} : QBlk 4 Q (.exit 0) st = Q (.exit 0) st := QBlk_exit (by decide)
@[simp] theorem qb4_1 {Q : XE → St → Prop} {st : St} : QBlk 4 Q (.exit 1) st = Q (.exit 1) st := QBlk_exit (by decide)
@[simp] theorem qb4_2 {Q : XE → St → Prop} {st : St} : QBlk 4 Q (.exit 2) st = Q (.exit 2) st := QBlk_exit (by decide)
@[simp] theorem qb4_3 {Q : XE → St → Prop} {st : St} : QBlk 4 Q (.exit 3) st = Q (.exit 3) st := QBlk_exit (by decide)
@[simp] theorem qb4_5 {Q : XE → St → Prop} {st : St} : QBlk 4 Q (.exit 5) st = Q (.exit 5) st := QBlk_exit (by decide)
@[simp] theorem qb4_6 {Q : XE → St → Prop} {st : St} : QBlk 4 Q (.exit 6) st = Q (.exit 6) st := QBlk_exit (by decide)
@[simp] theorem qb5_0 {Q : XE → St → Prop} {st : St} : QBlk 5 Q (.exit 0) st = Q (.exit 0) st := QBlk_exit (by decide)
@[simp] theorem qb5_1 {Q : XE → St → Prop} {st : St} : QBlk 5 Q (.exit 1) st = Q (.exit 1) st := QBlk_exit (by decide)
@[simp] theorem qb5_2 {Q : XE → St → Prop} {st : St} : QBlk 5 Q (.exit 2) st = Q (.exit 2) st := QBlk_exit (by decide)
@[simp] theorem qb5_3 {Q : XE → St → Prop} {st : St} : QBlk 5 Q (.exit 3) st = Q (.exit 3) st := QBlk_exit (by decide)
@[simp] theorem qb5_4 {Q : XE → St → Prop} {st : St} : QBlk 5 Q (.exit 4) st = Q (.exit 4) st := QBlk_exit (by decide)
@[simp] theorem qb5_6 {Q : XE → St → Prop} {st : St} : QBlk 5 Q (.exit 6) st = Q (.exit 6) st := QBlk_exit (by decide)
@[simp] theorem qb6_0 {Q : XE → St → Prop} {st : St} : QBlk 6 Q (.exit 0) st = Q (.exit 0) st := QBlk_exit (by decide)
@[simp] theorem qb6_1 {Q : XE → St → Prop} {st : St} : QBlk 6 Q (.exit 1) st = Q (.exit 1) st := QBlk_exit (by decide)
@[simp] theorem qb6_2 {Q : XE → St → Prop} {st : St} : QBlk 6 Q (.exit 2) st = Q (.exit 2) st := QBlk_exit (by decide)
@[simp] theorem qb6_3 {Q : XE → St → Prop} {st : St} : QBlk 6 Q (.exit 3) st = Q (.exit 3) st := QBlk_exit (by decide)
@[simp] theorem qb6_4 {Q : XE → St → Prop} {st : St} : QBlk 6 Q (.exit 4) st = Q (.exit 4) st := QBlk_exit (by decide)
@[simp] theorem qb6_5 {Q : XE → St → Prop} {st : St} : QBlk 6 Q (.exit 5) st = Q (.exit 5) st := QBlk_exit (by decide)
theorem k_Quote {b : Str} {σ : Sg} (hb : b.length ≤ 1048576) : ACalls Tryz.prog 55 [.v (.str b)] σ fun r σ' => QPost (quoteE b) r ∧ σ' = σ := by
  unfold quoteE
  refine acalls_fit Tryz.func55 (by kernel_rfl) c55 rfl (by simp [a55]) fun hf => ?_
  clear hf
  simp -implicitDefEqProofs (maxSteps := 2000000) (disch := omega) [-getElem?_pos, a55]
  refine .mk (fun h => ?_) fun h => ?_
  · rw [if_pos (by omega)]
    simp -implicitDefEqProofs (maxSteps := 2000000) (disch := omega) [-getElem?_pos]
    exact .fin _ ⟨rfl, rfl⟩ (.refl _)
  rw [if_neg (by omega)]
  simp -implicitDefEqProofs (maxSteps := 2000000) (disch := omega) [-getElem?_pos]
  refine ⟨by omega, ?_⟩
  refine W_loop (α := QSt) ⟨0, [34]⟩ (fun x => b.length - x.k) (fun x => ⟨[(4, .tsl σ.toks.length none (bytesV x.out)), (13, .v (vBs b)), (14, .v (.int .i64 b.length)), (15, .v (.int .i64 x.k))], ⟨σ.objs, σ.toks ++ [x.out.length]⟩⟩)
    (fun x => QIn b x) (.tokF (i := 4) (sh := none) (xs := bytesV [34]) (by simp) (by rfl) (by decide)) ⟨Nat.zero_le _, by simp, rfl⟩ fun ⟨k, out⟩ ⟨hk, ho, he⟩ => ?_
  dsimp only at hk ho he ⊢
  have lo : (bytesV out).length = out.length := by simp [bytesV]
  have bA : bytesV out ++ [V.int .u8 92, V.int .u8 110] = bytesV (out ++ [92, 110]) := by simp [bytesV]
  have bB : ∀ c : UInt8, bytesV out ++ [V.int .u8 92, V.int .u8 c.toNat] = bytesV (out ++ [92, c]) := fun c => by simp [bytesV]
  have bC : bytesV out ++ [V.int .u8 34] = bytesV (out ++ [34]) := by simp [bytesV]
  have cp := fun c σ => k_Plain (c := c) (σ := σ)
  unfold vB at cp
  simp -implicitDefEqProofs (maxSteps := 2000000) (disch := omega) [-getElem?_pos]
  refine .mk (fun h => ?_) fun h => ?_
  · obtain ⟨c, hc⟩ : ∃ c, b[k]? = some c := ⟨b[k]'(by omega), List.getElem?_eq_getElem _⟩
    rw [qL_step hc] at he
    simp -implicitDefEqProofs (maxSteps := 2000000) (disch := omega) [-getElem?_pos]
    refine ⟨by omega, fun c' hc' => ?_⟩
    rw [hc] at hc'
    cases hc'
    refine .mk (fun h10 => ?_) fun h10 => ?_
    · rw [qB, if_pos (by omega)] at he
      simp -implicitDefEqProofs (maxSteps := 2000000) (disch := omega) [-getElem?_pos]
      exact ⟨by omega, ⟨k + 1, out ++ [92, 110]⟩, ⟨by show k + 1 ≤ b.length; omega, by simp; omega, he⟩, by show b.length - (k + 1) < b.length - k; omega, .eq2 (by simp) (by simp [bA])⟩
    · simp -implicitDefEqProofs (maxSteps := 2000000) (disch := omega) [-getElem?_pos]
      refine (cp _ _).then fun r hr => ?_
      subst hr
      cases hpc : plaB c with
      | false =>
        rw [qB, if_neg (by omega), if_pos hpc] at he
        rw [he]
        simp -implicitDefEqProofs (maxSteps := 2000000) (disch := omega) [-getElem?_pos]
        exact .fin _ ⟨rfl, rfl⟩ (.refl _)
      | true =>
        simp -implicitDefEqProofs (maxSteps := 2000000) (disch := omega) [-getElem?_pos]
        refine .mk (fun h34 => ?_) fun h34 => ?_
        · skip
          rw [qB, if_neg (by omega), if_neg (by simp [hpc]), if_pos (by omega)] at he
          simp -implicitDefEqProofs (maxSteps := 2000000) (disch := omega) [-getElem?_pos]
          exact ⟨by omega, by omega, ⟨k + 1, out ++ [92, c]⟩, ⟨by show k + 1 ≤ b.length; omega, by simp; omega, he⟩, by show b.length - (k + 1) < b.length - k; omega, .eq2 (by simp) (by simp [bB])⟩

        · simp -implicitDefEqProofs (maxSteps := 2000000) (disch := omega) [-getElem?_pos]
          refine .mk (fun h92 => ?_) fun h92 => ?_
          · skip
            rw [qB, if_neg (by omega), if_neg (by simp [hpc]), if_pos (by omega)] at he
            simp -implicitDefEqProofs (maxSteps := 2000000) (disch := omega) [-getElem?_pos]
            exact ⟨by omega, by omega, ⟨k + 1, out ++ [92, c]⟩, ⟨by show k + 1 ≤ b.length; omega, by simp; omega, he⟩, by show b.length - (k + 1) < b.length - k; omega, .eq2 (by simp) (by simp [bB])⟩

          · rw [qB, if_neg (by omega), if_neg (by simp [hpc]), if_neg (by omega)] at he
            simp -implicitDefEqProofs (maxSteps := 2000000) (disch := omega) [-getElem?_pos]
            exact ⟨by omega, ⟨k + 1, out ++ [c]⟩, ⟨by show k + 1 ≤ b.length; omega, by simp; omega, he⟩, by show b.length - (k + 1) < b.length - k; omega, .eq2 (by simp) (by simp [bytesV])⟩
  · rw [List.drop_eq_nil_of_le (by omega)] at he
    have he2 : qL b [34] = some (out ++ [34]) := he
    rw [he2]
    simp -implicitDefEqProofs (maxSteps := 2000000) (disch := omega) [-getElem?_pos, bC]
    exact ⟨by omega, .fin _ ⟨rfl, rfl⟩ (.refl _)⟩
theorem k_RQuote {b : Str} {σ : Sg} (hb : b.length ≤ 1048576) : ACalls Tryz.prog 36 [.v (.str b)] σ fun r σ' => r = (match qL b [34] with | some s => .tup [.v (.str s), .v (.bool (decide (b.length ≤ 2000)))] | none => .tup [.v (.str []), .v (.bool false)]) ∧ σ' = σ := by
  refine acalls_fit Tryz.func36 (by kernel_rfl) c36 rfl (by simp [a36]) fun hf => ?_
  clear hf
  simp -implicitDefEqProofs (maxSteps := 2000000) (disch := omega) [-getElem?_pos, a36]
  refine W_loop (α := QSt) ⟨0, [34]⟩ (fun x => b.length - x.k) (fun x => ⟨[(0, .v (.str b)), (4, .v (.str x.out)), (5, .v (.int .i64 x.k))], σ⟩)
    (fun x => QIn b x) (.eq (by simp)) ⟨Nat.zero_le _, by simp, rfl⟩ fun ⟨k, out⟩ ⟨hk, ho, he⟩ => ?_
  dsimp only at hk ho he ⊢
  simp -implicitDefEqProofs (maxSteps := 2000000) (disch := omega) [-getElem?_pos]
  refine .mk (fun h => ?_) fun h => ?_
  · obtain ⟨c, hc⟩ : ∃ c, b[k]? = some c := ⟨b[k]'(by omega), List.getElem?_eq_getElem _⟩
    rw [qL_step hc] at he
    have hone : List.drop k (List.take (k + 1) b) = [c] := by rw [List.drop_take, drop_cons hc]; simp
    have h1i : ((k : Int) + 1).toNat = k + 1 := by omega
    simp -implicitDefEqProofs (maxSteps := 2000000) (disch := omega) [-getElem?_pos]
    refine ⟨by omega, fun c' hc' => ?_⟩
    rw [hc] at hc'
    cases hc'
    refine .mk (fun h10 => ?_) fun h10 => ?_
    · rw [qB, if_pos (by omega)] at he
      simp -implicitDefEqProofs (maxSteps := 2000000) (disch := omega) [-getElem?_pos, hone, h1i]
      exact ⟨by omega, ⟨k + 1, out ++ [92, 110]⟩, ⟨by show k + 1 ≤ b.length; omega, by simp; omega, he⟩, by show b.length - (k + 1) < b.length - k; omega, .eq (by simp)⟩
    · simp -implicitDefEqProofs (maxSteps := 2000000) (disch := omega) [-getElem?_pos, hone, h1i]
      refine .mk (fun h32 => ?_) fun h32 => ?_
      rotate_left
      · rw [qB, if_neg (by omega), if_pos (by simp [plaB]; omega)] at he
        rw [he]
        simp -implicitDefEqProofs (maxSteps := 2000000) (disch := omega) [-getElem?_pos]
        exact .fin _ ⟨rfl, rfl⟩ (.refl _)
      simp -implicitDefEqProofs (maxSteps := 2000000) (disch := omega) [-getElem?_pos, hone, h1i]
      refine .mk (fun h126 => ?_) fun h126 => ?_
      · rw [qB, if_neg (by omega), if_pos (by simp [plaB]; omega)] at he
        rw [he]
        simp -implicitDefEqProofs (maxSteps := 2000000) (disch := omega) [-getElem?_pos]
        exact .fin _ ⟨rfl, rfl⟩ (.refl _)
      simp -implicitDefEqProofs (maxSteps := 2000000) (disch := omega) [-getElem?_pos, hone, h1i]
      refine .mk (fun h34 => ?_) fun h34 => ?_
      · skip
        rw [qB, if_neg (by omega), if_neg (by simp [plaB]; omega), if_pos (by omega)] at he
        simp -implicitDefEqProofs (maxSteps := 2000000) (disch := omega) [-getElem?_pos, hone, h1i]
        exact ⟨by omega, by omega, by omega, by omega, ⟨k + 1, out ++ [92, c]⟩, ⟨by show k + 1 ≤ b.length; omega, by simp; omega, he⟩, by show b.length - (k + 1) < b.length - k; omega, .eq (by simp)⟩

      · simp -implicitDefEqProofs (maxSteps := 2000000) (disch := omega) [-getElem?_pos, hone, h1i]
        refine .mk (fun h92 => ?_) fun h92 => ?_
        · skip
          rw [qB, if_neg (by omega), if_neg (by simp [plaB]; omega), if_pos (by omega)] at he
          simp -implicitDefEqProofs (maxSteps := 2000000) (disch := omega) [-getElem?_pos, hone, h1i]
          exact ⟨by omega, by omega, by omega, by omega, ⟨k + 1, out ++ [92, c]⟩, ⟨by show k + 1 ≤ b.length; omega, by simp; omega, he⟩, by show b.length - (k + 1) < b.length - k; omega, .eq (by simp)⟩

        · rw [qB, if_neg (by omega), if_neg (by simp [plaB]; omega), if_neg (by omega)] at he
          simp -implicitDefEqProofs (maxSteps := 2000000) (disch := omega) [-getElem?_pos, hone, h1i]
          exact ⟨by omega, by omega, by omega, ⟨k + 1, out ++ [c]⟩, ⟨by show k + 1 ≤ b.length; omega, by simp; omega, he⟩, by show b.length - (k + 1) < b.length - k; omega, .eq (by simp)⟩
  · rw [List.drop_eq_nil_of_le (by omega)] at he
    have he2 : qL b [34] = some (out ++ [34]) := he
    rw [he2]
    simp -implicitDefEqProofs (maxSteps := 2000000) (disch := omega) [-getElem?_pos]
    exact ⟨by omega, .fin _ ⟨by simp; omega, rfl⟩ (.refl _)⟩
end Go.Proofs.YtpdeaekmgljeaaaGreatDoor
