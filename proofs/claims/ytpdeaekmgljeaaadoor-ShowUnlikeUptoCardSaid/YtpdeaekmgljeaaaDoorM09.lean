/-
  Lexer: a text in quotes. (Own work.)
-/
import Derived.Test.YtpdeaekmgljeaaaDoorM08
import Derived.Sort.Walk0
import Derived.Sort.OwnSorted
import Derived.Lib.Join
import Derived.Shelf.Strings.OnBuilder
import Derived.Shelf.Strconv.Itoa4
import Derived.Test.YtpdeaekmgljeaaaDoorChecked
import Derived.Lib.ItoaLen
set_option linter.unusedVariables false
set_option linter.unusedSimpArgs false
namespace Go.Proofs.YtpdeaekmgljeaaaDoor
open Go Go.Abs

def qB (c : UInt8) : Option Str := if c.toNat = 10 then some [92, 110] else if plaB c = false then none else if c.toNat = 34 ∨ c.toNat = 92 then some [92, c] else some [c]
def qL : Str → Str → Option Str
  | [], out => some (out ++ [34])
  | c :: r, out => match qB c with
    | none => none
    | some s => qL r (out ++ s)
structure QSt where
  k : Nat
  out : Str
structure QIn (b : Str) (x : QSt) : Prop where
  hk : x.k ≤ b.length
  ho : x.out.length ≤ 1 + 2 * x.k
  he : qL b [34] = qL (b.drop x.k) x.out
def quoteE (t : Str) : Option Str := if 2000 < t.length then none else qL t [34]
def QPost (x : Option Str) (r : D) : Prop := match x with
  | some s => r = .tup [.v (.str s), .v .inil]
  | none => r = .tup [.v (.str []), .v (.iface 33 (.int .i64 1))]
theorem qL_step {b : Str} {k : Nat} {c : UInt8} {out : Str} (h : b[k]? = some c) : qL (b.drop k) out = match qB c with | none => none | some s => qL (b.drop (k + 1)) (out ++ s) := by
  rw [drop_cons h]
  rfl
@[simp] theorem qb1_0 {Q : XE → St → Prop} {st : St} : QBlk 1 Q (.exit 0) st = Q (.exit 0) st := QBlk_exit (by decide)
@[simp] theorem qb1_2 {Q : XE → St → Prop} {st : St} : QBlk 1 Q (.exit 2) st = Q (.exit 2) st := QBlk_exit (by decide)
@[simp] theorem qb1_3 {Q : XE → St → Prop} {st : St} : QBlk 1 Q (.exit 3) st = Q (.exit 3) st := QBlk_exit (by decide)
@[simp] theorem qb1_4 {Q : XE → St → Prop} {st : St} : QBlk 1 Q (.exit 4) st = Q (.exit 4) st := QBlk_exit (by decide)
@[simp] theorem qb1_5 {Q : XE → St → Prop} {st : St} : QBlk 1 Q (.exit 5) st = Q (.exit 5) st := QBlk_exit (by decide)
@[simp] theorem qb1_6 {Q : XE → St → Prop} {st : St} : QBlk 1 Q (.exit 6) st = Q (.exit 6) st := QBlk_exit (by decide)
@[simp] theorem qb2_0 {Q : XE → St → Prop} {st : St} : QBlk 2 Q (.exit 0) st = Q (.exit 0) st := QBlk_exit (by decide)
@[simp] theorem qb2_1 {Q : XE → St → Prop} {st : St} : QBlk 2 Q (.exit 1) st = Q (.exit 1) st := QBlk_exit (by decide)
@[simp] theorem qb2_3 {Q : XE → St → Prop} {st : St} : QBlk 2 Q (.exit 3) st = Q (.exit 3) st := QBlk_exit (by decide)
@[simp] theorem qb2_4 {Q : XE → St → Prop} {st : St} : QBlk 2 Q (.exit 4) st = Q (.exit 4) st := QBlk_exit (by decide)
@[simp] theorem qb2_5 {Q : XE → St → Prop} {st : St} : QBlk 2 Q (.exit 5) st = Q (.exit 5) st := QBlk_exit (by decide)
@[simp] theorem qb2_6 {Q : XE → St → Prop} {st : St} : QBlk 2 Q (.exit 6) st = Q (.exit 6) st := QBlk_exit (by decide)
@[simp] theorem qb3_0 {Q : XE → St → Prop} {st : St} : QBlk 3 Q (.exit 0) st = Q (.exit 0) st := QBlk_exit (by decide)
@[simp] theorem qb3_1 {Q : XE → St → Prop} {st : St} : QBlk 3 Q (.exit 1) st = Q (.exit 1) st := QBlk_exit (by decide)
@[simp] theorem qb3_2 {Q : XE → St → Prop} {st : St} : QBlk 3 Q (.exit 2) st = Q (.exit 2) st := QBlk_exit (by decide)
@[simp] theorem qb3_4 {Q : XE → St → Prop} {st : St} : QBlk 3 Q (.exit 4) st = Q (.exit 4) st := QBlk_exit (by decide)
@[simp] theorem qb3_5 {Q : XE → St → Prop} {st : St} : QBlk 3 Q (.exit 5) st = Q (.exit 5) st := QBlk_exit (by decide)
@[simp] theorem qb3_6 {Q : XE → St → Prop} {st : St} : QBlk 3 Q (.exit 6) st = Q (.exit 6) st := QBlk_exit (by decide)
@[simp] theorem qb4_0 {Q : XE → St → Prop} {st : St} : QBlk 4 Q (.exit 0) st = Q (.exit 0) st := QBlk_exit (by decide)
@[simp] theorem qb4_1 {Q : XE → St → Prop} {st : St} : QBlk 4 Q (.exit 1) st = Q (.exit 1) st := QBlk_exit (by decide)
@[simp] theorem qb4_2 {Q : XE → St → Prop} {st : St} : QBlk 4 Q (.exit 2) st = Q (.exit 2) st := QBlk_exit (by decide)
@[simp] theorem qb4_3 {Q : XE → St → Prop} {st : St} : QBlk 4 Q (.exit 3) st = Q (.exit 3) st := QBlk_exit (by decide)
@[simp] theorem qb4_5 {Q : XE → St → Prop} {st : St} : QBlk 4 Q (.exit 5) st = Q (.exit 5) st := QBlk_exit (by decide)
@[simp] theorem qb4_6 {Q : XE → St → Prop} {st : St} : QBlk 4 Q (.exit 6) st = Q (.exit 6) st := QBlk_exit (by decide)
@[simp] theorem qb5_0 {Q : XE → St → Prop} {st : St} : QBlk 5 Q (.exit 0) st = Q (.exit 0) st := QBlk_exit (by decide)
@[simp] theorem qb5_1 {Q : XE → St → Prop} {st : St} : QBlk 5 Q (.exit 1) st = Q (.exit 1) st := QBlk_exit (by decide)
@[simp] theorem qb5_2 {Q : XE → St → Prop} {st : St} : QBlk 5 Q (.exit 2) st = Q (.exit 2) st := QBlk_exit (by decide)
@[simp] theorem qb5_3 {Q : XE → St → Prop} {st : St} : QBlk 5 Q (.exit 3) st = Q (.exit 3) st := QBlk_exit (by decide)
@[simp] theorem qb5_4 {Q : XE → St → Prop} {st : St} : QBlk 5 Q (.exit 4) st = Q (.exit 4) st := QBlk_exit (by decide)
@[simp] theorem qb5_6 {Q : XE → St → Prop} {st : St} : QBlk 5 Q (.exit 6) st = Q (.exit 6) st := QBlk_exit (by decide)
@[simp] theorem qb6_0 {Q : XE → St → Prop} {st : St} : QBlk 6 Q (.exit 0) st = Q (.exit 0) st := QBlk_exit (by decide)
@[simp] theorem qb6_1 {Q : XE → St → Prop} {st : St} : QBlk 6 Q (.exit 1) st = Q (.exit 1) st := QBlk_exit (by decide)
@[simp] theorem qb6_2 {Q : XE → St → Prop} {st : St} : QBlk 6 Q (.exit 2) st = Q (.exit 2) st := QBlk_exit (by decide)
@[simp] theorem qb6_3 {Q : XE → St → Prop} {st : St} : QBlk 6 Q (.exit 3) st = Q (.exit 3) st := QBlk_exit (by decide)
@[simp] theorem qb6_4 {Q : XE → St → Prop} {st : St} : QBlk 6 Q (.exit 4) st = Q (.exit 4) st := QBlk_exit (by decide)
@[simp] theorem qb6_5 {Q : XE → St → Prop} {st : St} : QBlk 6 Q (.exit 5) st = Q (.exit 5) st := QBlk_exit (by decide)
theorem k_Quote {b : Str} {σ : Sg} (hb : b.length ≤ 1048576) : ACalls Tryd.prog 16 [.v (.str b)] σ fun r σ' => QPost (quoteE b) r ∧ σ' = σ := by
  unfold quoteE
  refine acalls_fit Tryd.func16 (by kernel_rfl) c16 rfl (by simp [a16]) fun hf => ?_
  clear hf
  simp -implicitDefEqProofs (maxSteps := 2000000) (disch := omega) [-getElem?_pos, a16]
  refine .mk (fun h => ?_) fun h => ?_
  · rw [if_pos (by omega)]
    simp -implicitDefEqProofs (maxSteps := 2000000) (disch := omega) [-getElem?_pos]
    exact .fin _ ⟨rfl, rfl⟩ (.refl _)
  rw [if_neg (by omega)]
  simp -implicitDefEqProofs (maxSteps := 2000000) (disch := omega) [-getElem?_pos]
  refine ⟨by omega, ?_⟩
  refine W_loop (α := QSt) ⟨0, [34]⟩ (fun x => b.length - x.k) (fun x => ⟨[(4, .tsl σ.toks.length none (bytesV x.out)), (13, .v (vBs b)), (14, .v (.int .i64 b.length)), (15, .v (.int .i64 x.k))], ⟨σ.objs, σ.toks ++ [x.out.length]⟩⟩)
    (fun x => QIn b x) (.tokF (i := 4) (sh := none) (xs := bytesV [34]) (by simp) (by rfl) (by decide)) ⟨Nat.zero_le _, by simp, rfl⟩ fun ⟨k, out⟩ ⟨hk, ho, he⟩ => ?_
  dsimp only at hk ho he ⊢
  have lo : (bytesV out).length = out.length := by simp [bytesV]
  have bA : bytesV out ++ [V.int .u8 92, V.int .u8 110] = bytesV (out ++ [92, 110]) := by simp [bytesV]
  have bB : ∀ c : UInt8, bytesV out ++ [V.int .u8 92, V.int .u8 c.toNat] = bytesV (out ++ [92, c]) := fun c => by simp [bytesV]
  have bC : bytesV out ++ [V.int .u8 34] = bytesV (out ++ [34]) := by simp [bytesV]
  have cp := fun c σ => k_Plain (c := c) (σ := σ)
  unfold vB at cp
  simp -implicitDefEqProofs (maxSteps := 2000000) (disch := omega) [-getElem?_pos]
  refine .mk (fun h => ?_) fun h => ?_
  · obtain ⟨c, hc⟩ : ∃ c, b[k]? = some c := ⟨b[k]'(by omega), List.getElem?_eq_getElem _⟩
    rw [qL_step hc] at he
    simp -implicitDefEqProofs (maxSteps := 2000000) (disch := omega) [-getElem?_pos]
    refine ⟨by omega, fun c' hc' => ?_⟩
    rw [hc] at hc'
    cases hc'
    refine .mk (fun h10 => ?_) fun h10 => ?_
    · rw [qB, if_pos (by omega)] at he
      simp -implicitDefEqProofs (maxSteps := 2000000) (disch := omega) [-getElem?_pos]
      exact ⟨by omega, ⟨k + 1, out ++ [92, 110]⟩, ⟨by show k + 1 ≤ b.length; omega, by simp; omega, he⟩, by show b.length - (k + 1) < b.length - k; omega, .eq2 (by simp) (by simp [bA])⟩
    · simp -implicitDefEqProofs (maxSteps := 2000000) (disch := omega) [-getElem?_pos]
      refine (cp _ _).then fun r hr => ?_
      subst hr
      cases hpc : plaB c with
      | false =>
        rw [qB, if_neg (by omega), if_pos hpc] at he
        rw [he]
        simp -implicitDefEqProofs (maxSteps := 2000000) (disch := omega) [-getElem?_pos]
        exact .fin _ ⟨rfl, rfl⟩ (.refl _)
      | true =>
        simp -implicitDefEqProofs (maxSteps := 2000000) (disch := omega) [-getElem?_pos]
        refine .mk (fun h34 => ?_) fun h34 => ?_
        · skip
          rw [qB, if_neg (by omega), if_neg (by simp [hpc]), if_pos (by omega)] at he
          simp -implicitDefEqProofs (maxSteps := 2000000) (disch := omega) [-getElem?_pos]
          exact ⟨by omega, by omega, ⟨k + 1, out ++ [92, c]⟩, ⟨by show k + 1 ≤ b.length; omega, by simp; omega, he⟩, by show b.length - (k + 1) < b.length - k; omega, .eq2 (by simp) (by simp [bB])⟩

        · simp -implicitDefEqProofs (maxSteps := 2000000) (disch := omega) [-getElem?_pos]
          refine .mk (fun h92 => ?_) fun h92 => ?_
          · skip
            rw [qB, if_neg (by omega), if_neg (by simp [hpc]), if_pos (by omega)] at he
            simp -implicitDefEqProofs (maxSteps := 2000000) (disch := omega) [-getElem?_pos]
            exact ⟨by omega, by omega, ⟨k + 1, out ++ [92, c]⟩, ⟨by show k + 1 ≤ b.length; omega, by simp; omega, he⟩, by show b.length - (k + 1) < b.length - k; omega, .eq2 (by simp) (by simp [bB])⟩

          · rw [qB, if_neg (by omega), if_neg (by simp [hpc]), if_neg (by omega)] at he
            simp -implicitDefEqProofs (maxSteps := 2000000) (disch := omega) [-getElem?_pos]
            exact ⟨by omega, ⟨k + 1, out ++ [c]⟩, ⟨by show k + 1 ≤ b.length; omega, by simp; omega, he⟩, by show b.length - (k + 1) < b.length - k; omega, .eq2 (by simp) (by simp [bytesV])⟩
  · rw [List.drop_eq_nil_of_le (by omega)] at he
    have he2 : qL b [34] = some (out ++ [34]) := he
    rw [he2]
    simp -implicitDefEqProofs (maxSteps := 2000000) (disch := omega) [-getElem?_pos, bC]
    exact ⟨by omega, .fin _ ⟨rfl, rfl⟩ (.refl _)⟩
end Go.Proofs.YtpdeaekmgljeaaaDoor

/-
  Expressions: which may be: the code's own words for it, but for whole expressions. (Own work.)
-/
set_option linter.unusedVariables false
set_option linter.unusedSimpArgs false
namespace Go.Proofs.YtpdeaekmgljeaaaDoor
open Go Go.Abs

/-- What a kind of expressions has: how many parts; whether its text is a name, a label, a tag, an operator. -/
structure FT where
  p : Int
  nm : Bool
  lb : Bool
  tg : Bool
  op : Bool
def encF (f : FT) : D := .v (.agg [.int .i64 f.p, .bool f.nm, .bool f.lb, .bool f.tg, .bool f.op])
def formsT : List (Int × FT) := [(1, ⟨0, false, false, false, false⟩), (2, ⟨0, false, false, false, false⟩), (3, ⟨0, true, false, false, false⟩), (22, ⟨0, false, false, false, false⟩), (4, ⟨1, true, false, false, false⟩), (5, ⟨2, false, false, false, false⟩), (6, ⟨2, true, false, false, false⟩), (7, ⟨2, true, false, false, false⟩), (9, ⟨1, false, true, false, false⟩), (10, ⟨2, false, true, false, false⟩), (11, ⟨1, false, true, false, false⟩), (12, ⟨2, false, true, false, false⟩), (13, ⟨1, false, false, true, false⟩), (15, ⟨3, false, false, false, false⟩), (16, ⟨2, false, false, false, true⟩), (17, ⟨1, false, false, false, false⟩), (18, ⟨1, false, false, false, false⟩), (19, ⟨2, false, false, false, false⟩), (20, ⟨1, false, false, false, false⟩), (21, ⟨1, false, false, false, false⟩)]
def formsE : List (V × D) := formsT.map fun q => (.int .i64 q.1, encF q.2)
def formT (k : Int) : Option FT := formsT.lookup k
theorem find_form (k : Int) : mfind (.int .i64 k) formsE = (formT k).map encF := by
  unfold formsE formT
  generalize formsT = l
  induction l with
  | nil => rfl
  | cons q l ih =>
    obtain ⟨a, f⟩ := q
    rw [List.map_cons, mfind, List.lookup_cons, ih]
    by_cases h : k = a
    · subst h; simp [keq]
    · have hb : (k == a) = false := by simp [h]
      simp [keq, h, hb]
theorem forms_ok : keysOk (.int .i64) formsE = true := by rfl
theorem k_Forms {σ : Sg} : ACalls Tryd.prog 41 [] σ fun r σ' => r = .map σ.objs.length ∧ σ' = ⟨σ.objs ++ [.map formsE], σ.toks⟩ := by
  refine acalls_fit Tryd.func41 (by kernel_rfl) c41 rfl (by simp [a41]) fun hf => ?_
  clear hf
  simp -implicitDefEqProofs (maxSteps := 2000000) (disch := omega) [-getElem?_pos, a41]
  exact ⟨_, _, WeakR.refl _ _ _, rfl, rfl⟩
def partsN (k labels : Int) (other : Bool) : Int := if k = 8 then labels else if k = 14 then labels + (if other = true then 1 else 0) + 1 else match formT k with
  | none => -1
  | some f => f.p
theorem k_Parts {k labels : Int} {o : Bool} {σ : Sg} (hl : 0 ≤ labels) (hl2 : labels ≤ 2000000) : ACalls Tryd.prog 29 [.v (.int .i64 k), .v (.int .i64 labels), .v (.bool o)] σ fun r σ' => r = .v (.int .i64 (partsN k labels o)) ∧ σ' = σ := by
  have kf := fun σ => k_Forms (σ := σ)
  refine acalls_fit Tryd.func29 (by kernel_rfl) c29 rfl (by simp [a29]) fun hf => ?_
  clear hf
  by_cases h8 : k = 8
  · subst h8
    simp -implicitDefEqProofs (maxSteps := 2000000) (disch := omega) [-getElem?_pos, a29]
    exact .fin _ ⟨rfl, rfl⟩ (.refl _)
  by_cases h14 : k = 14
  · subst h14
    cases o with
    | true =>
      simp -implicitDefEqProofs (maxSteps := 2000000) (disch := omega) [-getElem?_pos, a29]
      exact .fin _ ⟨rfl, rfl⟩ (.refl _)
    | false =>
      simp -implicitDefEqProofs (maxSteps := 2000000) (disch := omega) [-getElem?_pos, a29]
      exact .fin _ ⟨by simp [partsN], rfl⟩ (.refl _)
  simp -implicitDefEqProofs (maxSteps := 2000000) (disch := omega) [-getElem?_pos, a29, h8, h14]
  refine (kf _).mono fun r σ' hr => ?_
  obtain ⟨rfl, rfl⟩ := hr
  cases hk : formT k with
  | none =>
    simp -implicitDefEqProofs (maxSteps := 2000000) (disch := omega) [-getElem?_pos, find_form, forms_ok, hk]
    exact .fin _ ⟨by simp [partsN, h8, h14, hk], rfl⟩ (.refl _)
  | some f =>
    simp -implicitDefEqProofs (maxSteps := 2000000) (disch := omega) [-getElem?_pos, find_form, forms_ok, hk, encF]
    exact .fin _ ⟨by simp [partsN, h8, h14, hk], rfl⟩ (.refl _)
theorem beq_sd {a b : Str} : (a == b) = decide (a = b) := by cases h : decide (a = b) <;> simp at h <;> simp [h]
/-- Is a text one token of a kind? -/
def isL (s : Str) (k : Int) : Bool := if 20 < s.length then false else match cutL s with
  | .ok [t] => decide (t.k = k) && decide (t.s = s)
  | _ => false
theorem k_Is {s : Str} {k : Int} {σ : Sg} (hs : s.length ≤ 1048576) : ACalls Tryd.prog 33 [.v (.str s), .v (.int .i64 k)] σ fun r σ' => r = .v (.bool (isL s k)) ∧ σ' = σ := by
  have kc := k_Cut (b := s) (σ := σ) hs
  refine acalls_fit Tryd.func33 (by kernel_rfl) c33 rfl (by simp [a33]) fun hf => ?_
  clear hf
  simp -implicitDefEqProofs (maxSteps := 2000000) (disch := omega) [-getElem?_pos, a33]
  refine .mk (fun h => ?_) fun h => ?_
  · simp -implicitDefEqProofs (maxSteps := 2000000) (disch := omega) [-getElem?_pos]
    exact .fin _ ⟨by rw [isL, if_pos (by omega)], rfl⟩ (.refl _)
  have hI : isL s k = match cutL s with
    | .ok [t] => decide (t.k = k) && decide (t.s = s)
    | _ => false := by rw [isL, if_neg (by omega)]
  simp -implicitDefEqProofs (maxSteps := 2000000) (disch := omega) [-getElem?_pos]
  refine ⟨by omega, ?_⟩
  cases hx : cutL s with
  | ok l =>
    rw [hx] at kc hI
    refine (show ACalls Tryd.prog 45 [.v (vBs s)] σ fun r σ' => r = .tup [.v (.sl (some 4) false (l.map encK)), .v .inil] ∧ σ' = σ from kc).then fun r hr => ?_
    subst hr
    match l with
    | [] =>
      simp -implicitDefEqProofs (maxSteps := 2000000) (disch := omega) [-getElem?_pos]
      exact .fin _ ⟨by rw [hI], rfl⟩ (.refl _)
    | [t] =>
      simp -implicitDefEqProofs (maxSteps := 2000000) (disch := omega) [-getElem?_pos, encK]
      refine .mk (fun hq => ?_) fun hq => ?_
      · simp -implicitDefEqProofs (maxSteps := 2000000) (disch := omega) [-getElem?_pos]
        exact .fin _ ⟨by rw [hI]; simp [hq, beq_sd], rfl⟩ (.refl _)
      · simp -implicitDefEqProofs (maxSteps := 2000000) (disch := omega) [-getElem?_pos]
        exact .fin _ ⟨by rw [hI]; simp [hq], rfl⟩ (.refl _)
    | t :: t2 :: l =>
      simp -implicitDefEqProofs (maxSteps := 2000000) (disch := omega) [-getElem?_pos]
      refine .mk (fun hq => absurd hq (by omega)) fun hq => ?_
      simp -implicitDefEqProofs (maxSteps := 2000000) (disch := omega) [-getElem?_pos]
      exact .fin _ ⟨by rw [hI], rfl⟩ (.refl _)
  | bad q =>
    rw [hx] at kc hI
    refine kc.mono fun r σ' hr => ?_
    obtain ⟨o, xs, ts, rfl, rfl, hxs⟩ := hr
    simp -implicitDefEqProofs (maxSteps := 2000000) (disch := omega) [-getElem?_pos]
    exact .fin _ ⟨by rw [hI], rfl⟩ (.refl _)
  | great =>
    rw [hx] at kc hI
    refine (show ACalls Tryd.prog 45 [.v (vBs s)] σ fun r σ' => r = .tup [.v .snil, .v (.iface 33 (.int .i64 6))] ∧ σ' = σ from kc).then fun r hr => ?_
    subst hr
    simp -implicitDefEqProofs (maxSteps := 2000000) (disch := omega) [-getElem?_pos]
    exact .fin _ ⟨by rw [hI], rfl⟩ (.refl _)
theorem k_All1 {s : Str} {k : Int} {o : Nat} {σ : Sg} (hs : s.length ≤ 1048576) (ho : σ.objs[o]? = some (.cells [.v (.int .i64 k)])) : ACalls Tryd.prog 44 [.v (.str s), .ptr o 0] σ fun r σ' => r = .v (.bool (!isL s k)) ∧ σ' = σ := by
  refine acalls_fit Tryd.func44 (by kernel_rfl) c44 rfl (by simp [a44]) fun hf => ?_
  clear hf
  simp -implicitDefEqProofs (maxSteps := 2000000) (disch := omega) [-getElem?_pos, a44, ho]
  refine (k_Is hs).then fun r hr => ?_
  subst hr
  simp -implicitDefEqProofs (maxSteps := 2000000) (disch := omega) [-getElem?_pos]
  exact .fin _ ⟨by simp, rfl⟩ (.refl _)
theorem k_IndexFuncStr {xs : List V} {f : Bool} {fd : D} {p : V → Bool} {σ : Sg} (hp : ∀ x ∈ xs, WCall Tryd.prog fd [.v x] σ fun r σ' => r = .v (.bool (p x)) ∧ σ' = σ) :
    ACalls Tryd.prog 54 [.v (.sl none f xs), fd] σ fun r σ' => r = .v (.int .i64 ((xs.findIdx? p).elim (-1) fun i => (i : Int))) ∧ σ' = σ := by
  refine acalls_fit Tryd.func54 (by kernel_rfl) c54 rfl (by simp [a54]) fun hf => ?_
  simp at hf
  simp -implicitDefEqProofs (maxSteps := 2000000) (disch := omega) [-getElem?_pos, a54]
  refine W_loop (α := Nat) 0 (fun i => xs.length - i) (fun i => ⟨[(0, .v (.sl none f xs)), (1, fd), (7, .v (.int .i64 xs.length)), (8, .v (.int .i64 i))], σ⟩) (fun i => i ≤ xs.length ∧ xs.findIdx? p = ((xs.drop i).findIdx? p).map fun k => k + i)
    (.eq (by simp)) ⟨by omega, by simp⟩ fun i ⟨hi, he⟩ => ?_
  simp -implicitDefEqProofs (maxSteps := 2000000) (disch := omega) [-getElem?_pos]
  refine .mk (fun h => ?_) fun h => ?_
  · simp -implicitDefEqProofs (maxSteps := 2000000) (disch := omega) [-getElem?_pos]
    refine ⟨by omega, fun x hx => ?_⟩
    refine (hp x (List.mem_of_getElem? hx)).then fun r hr => ?_
    subst hr
    have hdc := drop_cons hx
    rw [hdc, List.findIdx?_cons] at he
    simp -implicitDefEqProofs (maxSteps := 2000000) (disch := omega) [-getElem?_pos]
    refine .mk (fun hq => ?_) fun hq => ?_
    · rw [if_pos hq] at he
      simp -implicitDefEqProofs (maxSteps := 2000000) (disch := omega) [-getElem?_pos]
      refine .fin _ ⟨?_, rfl⟩ (.refl _)
      rw [he]
      simp
    · rw [if_neg hq] at he
      simp -implicitDefEqProofs (maxSteps := 2000000) (disch := omega) [-getElem?_pos]
      refine ⟨i + 1, ⟨by omega, ?_⟩, by dsimp only; omega, .eq (by simp)⟩
      rw [he]
      simp only [Option.map_map]
      congr 1
      funext k
      simp only [Function.comp]
      omega
  · simp -implicitDefEqProofs (maxSteps := 2000000) (disch := omega) [-getElem?_pos]
    refine .fin _ ⟨?_, rfl⟩ (.refl _)
    rw [he, List.drop_eq_nil_of_le (by omega)]
    rfl
theorem k_ContainsFuncStr {xs : List V} {f : Bool} {fd : D} {p : V → Bool} {σ : Sg} (hp : ∀ x ∈ xs, WCall Tryd.prog fd [.v x] σ fun r σ' => r = .v (.bool (p x)) ∧ σ' = σ) :
    ACalls Tryd.prog 43 [.v (.sl none f xs), fd] σ fun r σ' => r = .v (.bool (xs.any p)) ∧ σ' = σ := by
  refine acalls_fit Tryd.func43 (by kernel_rfl) c43 rfl (by simp [a43]) fun hf => ?_
  simp -implicitDefEqProofs (maxSteps := 2000000) (disch := omega) [-getElem?_pos, a43]
  refine (k_IndexFuncStr hp).then fun r hr => ?_
  subst hr
  simp -implicitDefEqProofs (maxSteps := 2000000) (disch := omega) [-getElem?_pos]
  refine .fin _ ⟨?_, rfl⟩ (.refl _)
  congr 2
  cases h : xs.findIdx? p with
  | none =>
    have h2 := List.findIdx?_eq_none_iff.1 h
    simp
    exact fun x hx => by simpa using h2 x hx
  | some i =>
    have h2 := List.findIdx?_eq_some_iff_getElem.1 h
    obtain ⟨hlt, hq, _⟩ := h2
    simp
    exact ⟨_, List.getElem_mem hlt, hq⟩

def notIs (k : Int) : V → Bool
  | .str s => !isL s k
  | _ => false
theorem any_is (k : Int) : ∀ l : List Str, (l.map V.str).any (notIs k) = !(l.all fun s => isL s k)
  | [] => rfl
  | s :: l => by rw [List.map_cons, List.any_cons, List.all_cons, any_is k l, Bool.not_and]; rfl
theorem k_All {l : List Str} {k : Int} {σ : Sg} (hs : nsz l ≤ 1048576) : ACalls Tryd.prog 31 [.v (vS l), .v (.int .i64 k)] σ fun r σ' => r = .v (.bool (l.all fun s => isL s k)) ∧ σ' = σ := by
  have hsz : ∀ s ∈ l, s.length ≤ 1048576 := fun s h => by
    have : s.length + 1 ≤ nsz l := by
      clear hs
      induction l with
      | nil => cases h
      | cons x l ih =>
        simp only [nsz]
        rcases List.mem_cons.1 h with rfl | h
        · omega
        · have := ih h; omega
    omega
  refine acalls_fit Tryd.func31 (by kernel_rfl) c31 rfl (by simp [a31]) fun hf => ?_
  clear hf
  simp -implicitDefEqProofs (maxSteps := 2000000) (disch := omega) [-getElem?_pos, a31]
  refine (k_ContainsFuncStr (p := notIs k) (fun x hx => ?_)).then fun r hr => ?_
  · obtain ⟨s, hm, rfl⟩ := List.mem_map.1 hx
    rw [WCall_caps]
    exact k_All1 (hsz s hm) (by simp)
  · rw [any_is] at hr
    subst hr
    simp -implicitDefEqProofs (maxSteps := 2000000) (disch := omega) [-getElem?_pos]
    exact .fin _ ⟨by simp, rfl⟩ (.refl _)
/-- Do texts rise? -/
def riseL : List Str → Bool
  | [] => true
  | [_] => true
  | a :: b :: r => decide (a < b) && riseL (b :: r)
theorem riseL_iff : ∀ l : List Str, riseL l = true ↔ ∀ i a b, l[i]? = some a → l[i + 1]? = some b → a < b
  | [] => by simp [riseL]
  | [x] => by simp [riseL]
  | x :: y :: r => by
    rw [riseL, Bool.and_eq_true, decide_eq_true_iff, riseL_iff (y :: r)]
    constructor
    · rintro ⟨h1, h2⟩ i a b ha hb
      cases i with
      | zero => simp at ha hb; subst ha hb; exact h1
      | succ i => exact h2 i a b (by simpa using ha) (by simpa using hb)
    · intro h
      exact ⟨h 0 x y rfl rfl, fun i a b ha hb => h (i + 1) a b (by simpa using ha) (by simpa using hb)⟩
theorem less_eq (x y : Str) : Op.bytesLess x y = decide (x < y) := bytesLess_eq x y
theorem k_Rises {l : List Str} {σ : Sg} : ACalls Tryd.prog 32 [.v (vS l)] σ fun r σ' => r = .v (.bool (riseL l && decide (l.length ≤ 30))) ∧ σ' = σ := by
  refine acalls_fit Tryd.func32 (by kernel_rfl) c32 rfl (by simp [a32]) fun hf => ?_
  simp at hf
  simp -implicitDefEqProofs (maxSteps := 2000000) (disch := omega) [-getElem?_pos, a32]
  refine W_loop (α := Nat) 0 (fun i => l.length - i) (fun i => ⟨[(0, .v (vS l)), (5, .v (.int .i64 l.length)), (6, .v (.int .i64 i))], σ⟩) (fun i => i ≤ l.length ∧ ∀ j a b, j + 1 < i → l[j]? = some a → l[j + 1]? = some b → a < b)
    (.eq (by simp)) ⟨Nat.zero_le _, fun j a b h => by omega⟩ fun i ⟨hi, hr⟩ => ?_
  simp -implicitDefEqProofs (maxSteps := 2000000) (disch := omega) [-getElem?_pos]
  refine .mk (fun h => ?_) fun h => ?_
  · obtain ⟨x, hx⟩ : ∃ x, l[i]? = some x := ⟨l[i], List.getElem?_eq_getElem h⟩
    simp -implicitDefEqProofs (maxSteps := 2000000) (disch := omega) [-getElem?_pos, hx]
    refine .mk (fun h0 => ?_) fun h0 => ?_
    · obtain ⟨y, hy⟩ : ∃ y, l[i - 1]? = some y := ⟨l[i - 1], List.getElem?_eq_getElem (by omega)⟩
      have ei : ((i : Int) - 1).toNat = i - 1 := by omega
      simp -implicitDefEqProofs (maxSteps := 2000000) (disch := omega) [-getElem?_pos, hx, ei, hy]
      refine ⟨by omega, by omega, by omega, ?_⟩
      simp -implicitDefEqProofs (maxSteps := 2000000) (disch := omega) [-getElem?_pos, hx, less_eq]
      refine .mk (fun hq => ?_) fun hq => ?_
      · simp -implicitDefEqProofs (maxSteps := 2000000) (disch := omega) [-getElem?_pos]
        refine ⟨i + 1, ⟨by omega, fun j a b hj ha hb => ?_⟩, by dsimp only; omega, .eq (by simp)⟩
        by_cases hji : j + 1 < i
        · exact hr j a b hji ha hb
        · have : j = i - 1 := by omega
          subst this
          rw [hy] at ha
          rw [show i - 1 + 1 = i by omega, hx] at hb
          cases ha
          cases hb
          exact hq
      · simp -implicitDefEqProofs (maxSteps := 2000000) (disch := omega) [-getElem?_pos]
        have hR : riseL l = false := by
          cases hb : riseL l with
          | false => rfl
          | true => exact absurd ((riseL_iff l).1 hb (i - 1) y x hy (by rw [show i - 1 + 1 = i by omega]; exact hx)) hq
        exact .fin _ ⟨by rw [hR]; rfl, rfl⟩ (.refl _)
    · simp -implicitDefEqProofs (maxSteps := 2000000) (disch := omega) [-getElem?_pos, hx]
      refine ⟨i + 1, ⟨by omega, fun j a b hj => ?_⟩, by dsimp only; omega, .eq (by simp)⟩
      omega
  · simp -implicitDefEqProofs (maxSteps := 2000000) (disch := omega) [-getElem?_pos]
    have hR : riseL l = true := (riseL_iff l).2 fun j a b ha hb => hr j a b (by have := (List.getElem?_eq_some_iff.1 hb).1; omega) ha hb
    refine .fin _ ⟨?_, rfl⟩ (.refl _)
    rw [hR, Bool.true_and]
    congr 2
    simp
    omega
def opsL : List Str := [[43], [45], [42], [47], [60], [61, 61], [94], [35]]
/-- Is an expression's text as its kind asks for? -/
def textB (k : Int) (s : Str) : Bool := if k = 2 then (quoteE s).isSome else match formT k with
  | some f => if f.nm || f.lb then isL s 1 else if f.tg then isL s 3 else if f.op then decide (s ∈ opsL) else decide (s = [])
  | none => decide (s = [])
theorem k_SText {k p n : Int} {s t : Str} {ls ns : List Str} {l : List Ex} {σ : Sg} (hs : s.length ≤ 1048576) : ACalls Tryd.prog 30 [.v (encE (.mk k p n s t ls ns l))] σ fun r σ' => r = .v (.bool (textB k s)) ∧ σ' = σ := by
  have kf := fun σ => k_Forms (σ := σ)
  have kq := fun σ => k_Quote (b := s) (σ := σ) hs
  have ki := fun (k : Int) σ => k_Is (s := s) (k := k) (σ := σ) hs
  have ko : ∀ σ, ACalls Tryd.prog 42 [.v (.sl none true [.str [43], .str [45], .str [42], .str [47], .str [60], .str [61, 61], .str [94], .str [35]]), .v (.str s)] σ fun r σ' => r = .v (.bool (decide (s ∈ opsL))) ∧ σ' = σ := fun σ => (k_ContainsStr (l := opsL) (s := s) (σ := σ)).argA VLe.lax.d
  rw [encE_mk]
  refine acalls_fit Tryd.func30 (by kernel_rfl) c30 rfl (by simp [a30]) fun hf => ?_
  clear hf
  obtain ⟨X, hX⟩ : ∃ X, X = Ob.cells [.v (.int .i64 k), .v (.int .i64 p), .v (.int .i64 n), .v (.str s), .v (.str t), .v (.sl none false (ls.map .str)), .v (.sl none false (ns.map .str)), .v (.sl (some 8) false (l.map encE))] := ⟨_, rfl⟩
  simp -implicitDefEqProofs (maxSteps := 2000000) (disch := omega) [-getElem?_pos, a30]
  rw [← hX]
  have hk2 : textB k s = if k = 2 then (quoteE s).isSome else match formT k with
    | some f => if f.nm || f.lb then isL s 1 else if f.tg then isL s 3 else if f.op then decide (s ∈ opsL) else decide (s = [])
    | none => decide (s = []) := rfl
  generalize textB k s = B at hk2 ⊢
  refine ⟨(kf _).mono fun r σ' hr => ?_, (kf _).mono fun r σ' hr => ?_⟩
  all_goals
    obtain ⟨rfl, rfl⟩ := hr
    by_cases h2 : k = 2
    · subst h2
      rw [if_pos rfl] at hk2
      simp -implicitDefEqProofs (maxSteps := 2000000) (disch := omega) [-getElem?_pos, find_form, forms_ok, show formT 2 = some ⟨0, false, false, false, false⟩ from rfl, encF, hX]
      refine (kq _).then fun r hr => ?_
      cases hqe : quoteE s with
      | none =>
        rw [hqe] at hr hk2
        unfold QPost at hr
        dsimp only at hr
        subst hr
        simp -implicitDefEqProofs (maxSteps := 2000000) (disch := omega) [-getElem?_pos]
        exact .fin (.v (.bool false)) ⟨by rw [hk2]; rfl, rfl⟩ (.refl _)
      | some z =>
        rw [hqe] at hr hk2
        unfold QPost at hr
        dsimp only at hr
        subst hr
        simp -implicitDefEqProofs (maxSteps := 2000000) (disch := omega) [-getElem?_pos]
        exact .fin (.v (.bool true)) ⟨by rw [hk2]; rfl, rfl⟩ (.refl _)
    rw [if_neg h2] at hk2
    have hse : List.isEmpty s = decide (s = []) := by cases s <;> simp
    cases hk : formT k with
    | none =>
      rw [hk] at hk2
      simp -implicitDefEqProofs (maxSteps := 2000000) (disch := omega) [-getElem?_pos, find_form, forms_ok, hk, hX, h2]
      exact .fin (.v (.bool (List.isEmpty s))) ⟨by rw [hk2, hse], rfl⟩ (.refl _)
    | some f =>
      obtain ⟨q, nm, lb, tg, op⟩ := f
      rw [hk] at hk2
      cases nm with
      | true =>
        cases lb <;> cases tg <;> cases op
        all_goals
          simp only [Bool.or_false, Bool.or_true, Bool.or_self, Bool.true_or, Bool.false_or, Bool.false_eq_true, if_true, if_false] at hk2
          simp -implicitDefEqProofs (maxSteps := 2000000) (disch := omega) [-getElem?_pos, find_form, forms_ok, hk, encF, hX, h2]
          refine (ki 1 _).then fun r hr => ?_
          subst hr
          simp -implicitDefEqProofs (maxSteps := 2000000) (disch := omega) [-getElem?_pos]
          exact .fin (.v (.bool (isL s 1))) ⟨by rw [hk2], rfl⟩ (.refl _)
      | false =>
      cases lb with
      | true =>
        cases tg <;> cases op
        all_goals
          simp only [Bool.or_false, Bool.or_true, Bool.or_self, Bool.true_or, Bool.false_or, Bool.false_eq_true, if_true, if_false] at hk2
          simp -implicitDefEqProofs (maxSteps := 2000000) (disch := omega) [-getElem?_pos, find_form, forms_ok, hk, encF, hX, h2]
          refine (ki 1 _).then fun r hr => ?_
          subst hr
          simp -implicitDefEqProofs (maxSteps := 2000000) (disch := omega) [-getElem?_pos]
          exact .fin (.v (.bool (isL s 1))) ⟨by rw [hk2], rfl⟩ (.refl _)
      | false =>
      cases tg with
      | true =>
        cases op
        all_goals
          simp only [Bool.or_false, Bool.or_true, Bool.or_self, Bool.true_or, Bool.false_or, Bool.false_eq_true, if_true, if_false] at hk2
          simp -implicitDefEqProofs (maxSteps := 2000000) (disch := omega) [-getElem?_pos, find_form, forms_ok, hk, encF, hX, h2]
          refine (ki 3 _).then fun r hr => ?_
          subst hr
          simp -implicitDefEqProofs (maxSteps := 2000000) (disch := omega) [-getElem?_pos]
          exact .fin (.v (.bool (isL s 3))) ⟨by rw [hk2], rfl⟩ (.refl _)
      | false =>
      cases op with
      | true =>
        simp only [Bool.or_false, Bool.or_true, Bool.or_self, Bool.true_or, Bool.false_or, Bool.false_eq_true, if_true, if_false] at hk2
        simp -implicitDefEqProofs (maxSteps := 2000000) (disch := omega) [-getElem?_pos, find_form, forms_ok, hk, encF, hX, h2]
        refine (ko _).then fun r hr => ?_
        subst hr
        simp -implicitDefEqProofs (maxSteps := 2000000) (disch := omega) [-getElem?_pos]
        exact .fin (.v (.bool (decide (s ∈ opsL)))) ⟨by rw [hk2], rfl⟩ (.refl _)
      | false =>
        simp only [Bool.or_false, Bool.or_true, Bool.or_self, Bool.true_or, Bool.false_or, Bool.false_eq_true, if_true, if_false] at hk2
        simp -implicitDefEqProofs (maxSteps := 2000000) (disch := omega) [-getElem?_pos, find_form, forms_ok, hk, encF, hX, h2]
        exact .fin (.v (.bool (List.isEmpty s))) ⟨by rw [hk2, hse], rfl⟩ (.refl _)
end Go.Proofs.YtpdeaekmgljeaaaDoor

/-
  Expressions: which may be: the code's own words. (Own work.)
-/
set_option linter.unusedVariables false
set_option linter.unusedSimpArgs false
namespace Go.Proofs.YtpdeaekmgljeaaaDoor
open Go Go.Abs

/-- May an expression be, but for its parts? -/
def ownB : Ex → Bool
  | .mk k p n s t ls ns l =>
    if (l.length : Int) ≠ partsN k ls.length (decide (t ≠ [])) ∨ n < 0 ∨ (0 < n ∧ k ≠ 1) ∨ textB k s = false then false
    else if k = 8 then (ls.all fun s => isL s 1) && (riseL ls && decide (ls.length ≤ 30)) && decide (ns.length = 0) && decide (t = [])
    else if k = 14 then (ls.all fun s => isL s 3) && (riseL ls && decide (ls.length ≤ 30)) && decide (ns.length = ls.length) && (ns.all fun s => isL s 1) && (decide (t = []) || isL t 1) && decide (1 < l.length)
    else if k = 7 then isL t 1 && decide (ls.length + ns.length = 0)
    else decide (t = []) && decide (ls.length + ns.length = 0)
theorem k_Own {e : Ex} {σ : Sg} (he : csz e ≤ 1048576) : ACalls Tryd.prog 21 [.v (encE e)] σ fun r σ' => r = .v (.bool (ownB e)) ∧ σ' = σ := by
  cases e with
  | mk k p n s t ls ns l =>
  have hB : ownB (.mk k p n s t ls ns l) = if (l.length : Int) ≠ partsN k ls.length (decide (t ≠ [])) ∨ n < 0 ∨ (0 < n ∧ k ≠ 1) ∨ textB k s = false then false
    else if k = 8 then (ls.all fun s => isL s 1) && (riseL ls && decide (ls.length ≤ 30)) && decide (ns.length = 0) && decide (t = [])
    else if k = 14 then (ls.all fun s => isL s 3) && (riseL ls && decide (ls.length ≤ 30)) && decide (ns.length = ls.length) && (ns.all fun s => isL s 1) && (decide (t = []) || isL t 1) && decide (1 < l.length)
    else if k = 7 then isL t 1 && decide (ls.length + ns.length = 0)
    else decide (t = []) && decide (ls.length + ns.length = 0) := rfl
  simp only [csz] at he
  have hn1 := nsz_len ls
  have hn2 := nsz_len ns
  have hll := cszL_len l
  generalize ownB (.mk k p n s t ls ns l) = B at hB ⊢
  have kp := fun o σ => k_Parts (k := k) (labels := ls.length) (o := o) (σ := σ) (by omega) (by omega)
  have kt := fun σ => k_SText (k := k) (p := p) (n := n) (s := s) (t := t) (ls := ls) (ns := ns) (l := l) (σ := σ) (by omega)
  have ka := fun k σ => k_All (l := ls) (k := k) (σ := σ) (by omega)
  have kn := fun k σ => k_All (l := ns) (k := k) (σ := σ) (by omega)
  have kr := fun σ => k_Rises (l := ls) (σ := σ)
  have ki := fun k σ => k_Is (s := t) (k := k) (σ := σ) (by omega)
  rw [encE_mk] at kt ⊢
  have hte : (!List.isEmpty t) = decide (t ≠ []) := by cases t <;> simp
  have hte2 : List.isEmpty t = decide (t = []) := by cases t <;> simp
  have hz : ((ls.length : Int) + ns.length == 0) = decide (ls.length + ns.length = 0) := by rw [Bool.eq_iff_iff, beq_iff_eq, decide_eq_true_iff]; omega
  refine acalls_fit Tryd.func21 (by kernel_rfl) c21 rfl (by simp [a21]) fun hf => ?_
  clear hf
  rw [← hte] at hB
  simp -implicitDefEqProofs (maxSteps := 2000000) (disch := omega) [-getElem?_pos, a21]
  refine (kp _ _).then fun r hr => ?_
  subst hr
  obtain ⟨P, hP⟩ : ∃ P, P = partsN k ls.length (!List.isEmpty t) := ⟨_, rfl⟩
  rw [← hP] at hB ⊢
  by_cases h1 : (l.length : Int) = P
  rotate_left
  · rw [if_pos (.inl h1)] at hB
    simp -implicitDefEqProofs (maxSteps := 2000000) (disch := omega) [-getElem?_pos, h1]
    exact .fin (.v (.bool false)) ⟨by rw [hB], rfl⟩ (.refl _)
  by_cases h2 : n < 0
  · rw [if_pos (.inr (.inl h2))] at hB
    simp -implicitDefEqProofs (maxSteps := 2000000) (disch := omega) [-getElem?_pos, h1, h2]
    exact .fin (.v (.bool false)) ⟨by rw [hB], rfl⟩ (.refl _)
  by_cases h3 : 0 < n
  · by_cases h4 : k = 1
    rotate_left
    · rw [if_pos (.inr (.inr (.inl ⟨h3, h4⟩)))] at hB
      simp -implicitDefEqProofs (maxSteps := 2000000) (disch := omega) [-getElem?_pos, h1, h2, h3, h4]
      exact .fin (.v (.bool false)) ⟨by rw [hB], rfl⟩ (.refl _)
    subst h4
    simp -implicitDefEqProofs (maxSteps := 2000000) (disch := omega) [-getElem?_pos, h1, h2, h3]
    refine (kt _).then fun r hr => ?_
    subst hr
    cases hT : textB 1 s with
    | false =>
      rw [if_pos (.inr (.inr (.inr hT)))] at hB
      simp -implicitDefEqProofs (maxSteps := 2000000) (disch := omega) [-getElem?_pos]
      exact .fin (.v (.bool false)) ⟨by rw [hB], rfl⟩ (.refl _)
    | true =>
      rw [if_neg (by simp [h1, h2, hT]), if_neg (by decide), if_neg (by decide), if_neg (by decide)] at hB
      simp -implicitDefEqProofs (maxSteps := 2000000) (disch := omega) [-getElem?_pos]
      refine .mk (fun ht => ?_) fun ht => ?_
      · simp -implicitDefEqProofs (maxSteps := 2000000) (disch := omega) [-getElem?_pos, ht]
        exact .fin (.v (.bool ((ls.length : Int) + ns.length == 0))) ⟨by rw [hB, hz]; simp [ht], rfl⟩ (.refl _)
      · simp -implicitDefEqProofs (maxSteps := 2000000) (disch := omega) [-getElem?_pos, ht]
        exact .fin (.v (.bool false)) ⟨by rw [hB]; simp [ht], rfl⟩ (.refl _)
  · simp -implicitDefEqProofs (maxSteps := 2000000) (disch := omega) [-getElem?_pos, h1, h2, h3]
    refine (kt _).then fun r hr => ?_
    subst hr
    cases hT : textB k s with
    | false =>
      rw [if_pos (.inr (.inr (.inr hT)))] at hB
      simp -implicitDefEqProofs (maxSteps := 2000000) (disch := omega) [-getElem?_pos]
      exact .fin (.v (.bool false)) ⟨by rw [hB], rfl⟩ (.refl _)
    | true =>
      rw [if_neg (by simp [h1, h2, h3, hT])] at hB
      by_cases h8 : k = 8
      · rw [if_pos h8] at hB
        subst h8
        simp -implicitDefEqProofs (maxSteps := 2000000) (disch := omega) [-getElem?_pos]
        refine (ka 1 _).then fun r hr => ?_
        subst hr
        cases hc0 : ls.all fun s => isL s 1 with
        | false =>
          rw [hc0] at hB
          simp -implicitDefEqProofs (maxSteps := 2000000) (disch := omega) [-getElem?_pos]
          exact .fin (.v (.bool false)) ⟨by rw [hB]; simp, rfl⟩ (.refl _)
        | true =>
          rw [hc0] at hB
          simp -implicitDefEqProofs (maxSteps := 2000000) (disch := omega) [-getElem?_pos]
          refine (kr _).then fun r hr => ?_
          subst hr
          cases hc2 : riseL ls && decide (ls.length ≤ 30) with
          | false =>
            rw [hc2] at hB
            simp -implicitDefEqProofs (maxSteps := 2000000) (disch := omega) [-getElem?_pos]
            exact .fin (.v (.bool false)) ⟨by rw [hB]; simp, rfl⟩ (.refl _)
          | true =>
            rw [hc2] at hB
            simp -implicitDefEqProofs (maxSteps := 2000000) (disch := omega) [-getElem?_pos]
            refine .mk (fun hz1 => ?_) fun hz1 => ?_
            · simp -implicitDefEqProofs (maxSteps := 2000000) (disch := omega) [-getElem?_pos, hz1]
              exact .fin (.v (.bool (List.isEmpty t))) ⟨by rw [hB, hte2]; simp [hz1], rfl⟩ (.refl _)
            · simp -implicitDefEqProofs (maxSteps := 2000000) (disch := omega) [-getElem?_pos, hz1]
              exact .fin (.v (.bool false)) ⟨by rw [hB]; simp [hz1], rfl⟩ (.refl _)
      rw [if_neg h8] at hB
      by_cases h14 : k = 14
      · rw [if_pos h14] at hB
        subst h14
        simp -implicitDefEqProofs (maxSteps := 2000000) (disch := omega) [-getElem?_pos]
        refine (ka 3 _).then fun r hr => ?_
        subst hr
        cases hc0 : ls.all fun s => isL s 3 with
        | false =>
          rw [hc0] at hB
          simp -implicitDefEqProofs (maxSteps := 2000000) (disch := omega) [-getElem?_pos]
          exact .fin (.v (.bool false)) ⟨by rw [hB]; simp, rfl⟩ (.refl _)
        | true =>
          rw [hc0] at hB
          simp -implicitDefEqProofs (maxSteps := 2000000) (disch := omega) [-getElem?_pos]
          refine (kr _).then fun r hr => ?_
          subst hr
          cases hc2 : riseL ls && decide (ls.length ≤ 30) with
          | false =>
            rw [hc2] at hB
            simp -implicitDefEqProofs (maxSteps := 2000000) (disch := omega) [-getElem?_pos]
            exact .fin (.v (.bool false)) ⟨by rw [hB]; simp, rfl⟩ (.refl _)
          | true =>
            rw [hc2] at hB
            simp -implicitDefEqProofs (maxSteps := 2000000) (disch := omega) [-getElem?_pos]
            refine .mk (fun he1 => ?_) fun he1 => ?_
            rotate_left
            · simp -implicitDefEqProofs (maxSteps := 2000000) (disch := omega) [-getElem?_pos, he1]
              exact .fin (.v (.bool false)) ⟨by rw [hB]; have : ¬ ns.length = ls.length := fun h => he1 (by rw [h]); simp [this], rfl⟩ (.refl _)
            have he2 : ns.length = ls.length := by omega
            simp -implicitDefEqProofs (maxSteps := 2000000) (disch := omega) [-getElem?_pos, he1]
            refine (kn 1 _).then fun r hr => ?_
            subst hr
            cases hcn : ns.all fun s => isL s 1 with
            | false =>
              rw [hcn] at hB
              simp -implicitDefEqProofs (maxSteps := 2000000) (disch := omega) [-getElem?_pos]
              exact .fin (.v (.bool false)) ⟨by rw [hB]; simp, rfl⟩ (.refl _)
            | true =>
              rw [hcn] at hB
              simp -implicitDefEqProofs (maxSteps := 2000000) (disch := omega) [-getElem?_pos]
              refine .mk (fun ht => ?_) fun ht => ?_
              · simp -implicitDefEqProofs (maxSteps := 2000000) (disch := omega) [-getElem?_pos, ht]
                exact .fin (.v (.bool (decide (1 < (l.length : Int))))) ⟨by rw [hB]; simp [ht, he2]; omega, rfl⟩ (.refl _)
              · simp -implicitDefEqProofs (maxSteps := 2000000) (disch := omega) [-getElem?_pos, ht]
                refine (ki 1 _).then fun r hr => ?_
                subst hr
                cases hct : isL t 1 with
                | false =>
                  rw [hct] at hB
                  simp -implicitDefEqProofs (maxSteps := 2000000) (disch := omega) [-getElem?_pos]
                  exact .fin (.v (.bool false)) ⟨by rw [hB]; simp [ht], rfl⟩ (.refl _)
                | true =>
                  rw [hct] at hB
                  simp -implicitDefEqProofs (maxSteps := 2000000) (disch := omega) [-getElem?_pos]
                  exact .fin (.v (.bool (decide (1 < (l.length : Int))))) ⟨by rw [hB]; simp [he2]; omega, rfl⟩ (.refl _)
      rw [if_neg h14] at hB
      by_cases h7 : k = 7
      · rw [if_pos h7] at hB
        subst h7
        simp -implicitDefEqProofs (maxSteps := 2000000) (disch := omega) [-getElem?_pos]
        refine (ki 1 _).then fun r hr => ?_
        subst hr
        cases hc0 : isL t 1 with
        | false =>
          rw [hc0] at hB
          simp -implicitDefEqProofs (maxSteps := 2000000) (disch := omega) [-getElem?_pos]
          exact .fin (.v (.bool false)) ⟨by rw [hB]; simp, rfl⟩ (.refl _)
        | true =>
          rw [hc0] at hB
          simp -implicitDefEqProofs (maxSteps := 2000000) (disch := omega) [-getElem?_pos]
          exact .fin (.v (.bool ((ls.length : Int) + ns.length == 0))) ⟨by rw [hB, hz]; simp, rfl⟩ (.refl _)
      rw [if_neg h7] at hB
      simp -implicitDefEqProofs (maxSteps := 2000000) (disch := omega) [-getElem?_pos, h8, h14, h7]
      refine .mk (fun ht => ?_) fun ht => ?_
      · simp -implicitDefEqProofs (maxSteps := 2000000) (disch := omega) [-getElem?_pos, ht]
        exact .fin (.v (.bool ((ls.length : Int) + ns.length == 0))) ⟨by rw [hB, hz]; simp [ht], rfl⟩ (.refl _)
      · simp -implicitDefEqProofs (maxSteps := 2000000) (disch := omega) [-getElem?_pos, ht]
        exact .fin (.v (.bool false)) ⟨by rw [hB]; simp [ht], rfl⟩ (.refl _)
theorem k_IndexFuncEx {xs : List Ex} {f : Bool} {fd : D} {p : Ex → Bool} {σ : Sg} (hp : ∀ x ∈ xs, WCall Tryd.prog fd [.v (encE x)] σ fun r σ' => r = .v (.bool (p x)) ∧ σ' = σ) :
    ACalls Tryd.prog 34 [.v (.sl (some 8) f (xs.map encE)), fd] σ fun r σ' => r = .v (.int .i64 ((xs.findIdx? p).elim (-1) fun i => (i : Int))) ∧ σ' = σ := by
  refine acalls_fit Tryd.func34 (by kernel_rfl) c34 rfl (by simp [a34]) fun hf => ?_
  simp at hf
  simp -implicitDefEqProofs (maxSteps := 2000000) (disch := omega) [-getElem?_pos, a34]
  refine W_loop (α := Nat) 0 (fun i => xs.length - i) (fun i => ⟨[(0, .v (.sl (some 8) f (xs.map encE))), (1, fd), (7, .v (.int .i64 xs.length)), (8, .v (.int .i64 i))], σ⟩) (fun i => i ≤ xs.length ∧ xs.findIdx? p = ((xs.drop i).findIdx? p).map fun k => k + i)
    (.eq (by simp)) ⟨by omega, by simp⟩ fun i ⟨hi, he⟩ => ?_
  simp -implicitDefEqProofs (maxSteps := 2000000) (disch := omega) [-getElem?_pos]
  refine .mk (fun h => ?_) fun h => ?_
  · simp -implicitDefEqProofs (maxSteps := 2000000) (disch := omega) [-getElem?_pos]
    refine ⟨by omega, fun x hx => ?_⟩
    refine (hp x (List.mem_of_getElem? hx)).then fun r hr => ?_
    subst hr
    have hdc := drop_cons hx
    rw [hdc, List.findIdx?_cons] at he
    simp -implicitDefEqProofs (maxSteps := 2000000) (disch := omega) [-getElem?_pos]
    refine .mk (fun hq => ?_) fun hq => ?_
    · rw [if_pos hq] at he
      simp -implicitDefEqProofs (maxSteps := 2000000) (disch := omega) [-getElem?_pos]
      refine .fin _ ⟨?_, rfl⟩ (.refl _)
      rw [he]
      simp
    · rw [if_neg hq] at he
      simp -implicitDefEqProofs (maxSteps := 2000000) (disch := omega) [-getElem?_pos]
      refine ⟨i + 1, ⟨by omega, ?_⟩, by dsimp only; omega, .eq (by simp)⟩
      rw [he]
      simp only [Option.map_map]
      congr 1
      funext k
      simp only [Function.comp]
      omega
  · simp -implicitDefEqProofs (maxSteps := 2000000) (disch := omega) [-getElem?_pos]
    refine .fin _ ⟨?_, rfl⟩ (.refl _)
    rw [he, List.drop_eq_nil_of_le (by omega)]
    rfl
theorem k_ContainsFuncEx {xs : List Ex} {f : Bool} {fd : D} {p : Ex → Bool} {σ : Sg} (hp : ∀ x ∈ xs, WCall Tryd.prog fd [.v (encE x)] σ fun r σ' => r = .v (.bool (p x)) ∧ σ' = σ) :
    ACalls Tryd.prog 22 [.v (.sl (some 8) f (xs.map encE)), fd] σ fun r σ' => r = .v (.bool (xs.any p)) ∧ σ' = σ := by
  refine acalls_fit Tryd.func22 (by kernel_rfl) c22 rfl (by simp [a22]) fun hf => ?_
  simp -implicitDefEqProofs (maxSteps := 2000000) (disch := omega) [-getElem?_pos, a22]
  refine (k_IndexFuncEx hp).then fun r hr => ?_
  subst hr
  simp -implicitDefEqProofs (maxSteps := 2000000) (disch := omega) [-getElem?_pos]
  refine .fin _ ⟨?_, rfl⟩ (.refl _)
  congr 2
  cases h : xs.findIdx? p with
  | none =>
    have h2 := List.findIdx?_eq_none_iff.1 h
    simp
    exact fun x hx => by simpa using h2 x hx
  | some i =>
    have h2 := List.findIdx?_eq_some_iff_getElem.1 h
    obtain ⟨hlt, hq, _⟩ := h2
    simp
    exact ⟨_, List.getElem_mem hlt, hq⟩

mutual
def fineB : Ex → Bool
  | .mk k p n s t ls ns l => ownB (.mk k p n s t ls ns l) && fineLB l
def fineLB : List Ex → Bool
  | [] => true
  | x :: l => fineB x && fineLB l
end
theorem any_fine : ∀ l : List Ex, l.any (fun x => !fineB x) = !fineLB l
  | [] => rfl
  | x :: l => by rw [List.any_cons, any_fine l, fineLB, Bool.not_and]
theorem k_Fine1 {e : Ex} {σ : Sg} (hF : ∀ σ, ACalls Tryd.prog 14 [.v (encE e)] σ fun r σ' => r = .v (.bool (fineB e)) ∧ σ' = σ) : ACalls Tryd.prog 23 [.v (encE e)] σ fun r σ' => r = .v (.bool (!fineB e)) ∧ σ' = σ := by
  obtain ⟨b, hb⟩ : ∃ b, b = fineB e := ⟨_, rfl⟩
  rw [← hb] at hF ⊢
  cases e with
  | mk k p n s t ls ns l =>
  rw [encE_mk] at hF ⊢
  refine acalls_fit Tryd.func23 (by kernel_rfl) c23 rfl (by simp [a23]) fun hf => ?_
  clear hf
  simp -implicitDefEqProofs (maxSteps := 2000000) (disch := omega) [-getElem?_pos, a23]
  refine (hF _).then fun r hr => ?_
  subst hr
  simp -implicitDefEqProofs (maxSteps := 2000000) (disch := omega) [-getElem?_pos]
  exact .fin _ ⟨rfl, rfl⟩ (.refl _)
theorem k_Fine (e : Ex) : ∀ {σ : Sg}, csz e ≤ 1048576 → ACalls Tryd.prog 14 [.v (encE e)] σ fun r σ' => r = .v (.bool (fineB e)) ∧ σ' = σ := by
  refine Ex.ind (P := fun e => ∀ {σ : Sg}, csz e ≤ 1048576 → ACalls Tryd.prog 14 [.v (encE e)] σ fun r σ' => r = .v (.bool (fineB e)) ∧ σ' = σ) (fun k p n s t ls ns l ih => ?_) e
  intro σ he
  have ko := fun σ => k_Own (e := .mk k p n s t ls ns l) (σ := σ) he
  have hB : fineB (.mk k p n s t ls ns l) = (ownB (.mk k p n s t ls ns l) && fineLB l) := by rw [fineB]
  generalize fineB (.mk k p n s t ls ns l) = B at hB ⊢
  generalize ownB (.mk k p n s t ls ns l) = O at hB ko
  have hsz : ∀ x ∈ l, csz x ≤ 1048576 := fun x hx => by
    have := cszL_mem hx
    simp only [csz] at he
    omega
  have kc := fun σ => k_ContainsFuncEx (xs := l) (f := false) (fd := .v (.fn 23)) (p := fun x => !fineB x) (σ := σ) fun x hx => by
    rw [WCall_fn]
    exact k_Fine1 fun σ => ih x hx (hsz x hx)
  rw [encE_mk] at ko ⊢
  refine acalls_fit Tryd.func14 (by kernel_rfl) c14 rfl (by simp [a14]) fun hf => ?_
  clear hf
  simp -implicitDefEqProofs (maxSteps := 2000000) (disch := omega) [-getElem?_pos, a14]
  refine (ko _).then fun r hr => ?_
  subst hr
  cases O with
  | false =>
    simp -implicitDefEqProofs (maxSteps := 2000000) (disch := omega) [-getElem?_pos]
    exact .fin (.v (.bool false)) ⟨by rw [hB]; simp, rfl⟩ (.refl _)
  | true =>
    simp -implicitDefEqProofs (maxSteps := 2000000) (disch := omega) [-getElem?_pos]
    refine (kc _).then fun r hr => ?_
    rw [any_fine] at hr
    subst hr
    simp -implicitDefEqProofs (maxSteps := 2000000) (disch := omega) [-getElem?_pos]
    exact .fin (.v (.bool (fineLB l))) ⟨by rw [hB]; simp, rfl⟩ (by simp)
def mayB (e : Ex) : Bool := decide (dep e ≤ 60) && (decide (nds e ≤ 1500) && fineB e)
theorem k_May {e : Ex} {σ : Sg} (he : csz e ≤ 1048576) : ACalls Tryd.prog 9 [.v (encE e)] σ fun r σ' => r = .v (.bool (mayB e)) ∧ σ' = σ := by
  have kd := fun σ => k_Depth e (σ := σ) he
  have kn := fun σ => k_Nodes e (σ := σ) he
  have kf := fun σ => k_Fine e (σ := σ) he
  have hB : mayB e = (decide (dep e ≤ 60) && (decide (nds e ≤ 1500) && fineB e)) := rfl
  generalize mayB e = B at hB ⊢
  generalize fineB e = F at hB kf
  generalize dep e = d at hB kd
  generalize nds e = m at hB kn
  cases e with
  | mk k p n s t ls ns l =>
  rw [encE_mk] at kd kn kf ⊢
  refine acalls_fit Tryd.func9 (by kernel_rfl) c9 rfl (by simp [a9]) fun hf => ?_
  clear hf
  simp -implicitDefEqProofs (maxSteps := 2000000) (disch := omega) [-getElem?_pos, a9]
  refine (kd _).then fun r hr => ?_
  subst hr
  simp -implicitDefEqProofs (maxSteps := 2000000) (disch := omega) [-getElem?_pos]
  refine .mk (fun h1 => ?_) fun h1 => ?_
  rotate_left
  · simp -implicitDefEqProofs (maxSteps := 2000000) (disch := omega) [-getElem?_pos]
    exact .fin (.v (.bool false)) ⟨by rw [hB]; simp; intros; omega, rfl⟩ (.refl _)
  simp -implicitDefEqProofs (maxSteps := 2000000) (disch := omega) [-getElem?_pos]
  refine (kn _).then fun r hr => ?_
  subst hr
  simp -implicitDefEqProofs (maxSteps := 2000000) (disch := omega) [-getElem?_pos]
  refine .mk (fun h2 => ?_) fun h2 => ?_
  rotate_left
  · simp -implicitDefEqProofs (maxSteps := 2000000) (disch := omega) [-getElem?_pos]
    exact .fin (.v (.bool false)) ⟨by rw [hB]; simp; intros; omega, rfl⟩ (.refl _)
  simp -implicitDefEqProofs (maxSteps := 2000000) (disch := omega) [-getElem?_pos]
  refine (kf _).then fun r hr => ?_
  subst hr
  simp -implicitDefEqProofs (maxSteps := 2000000) (disch := omega) [-getElem?_pos]
  exact .fin (.v (.bool F)) ⟨by rw [hB, decide_eq_true (by omega : d ≤ 60), decide_eq_true (by omega : m ≤ 1500)]; simp, rfl⟩ (.refl _)
end Go.Proofs.YtpdeaekmgljeaaaDoor

/-
  Expressions: which may be: the document's words are the code's. (Own work.)
-/
set_option linter.unusedVariables false
set_option linter.unusedSimpArgs false
namespace Go.Proofs.YtpdeaekmgljeaaaDoor
open Go Go.Abs

theorem tok_name {b : Str} {i : Nat} {c : UInt8} {t : Tk} {to : Nat} (h : oneL b i c = .tok t to) (hk : t.k = 1 ∨ t.k = 3) : (lowB c = true ∨ uppB c = true) ∧ ∃ q, t.s = passS q b i ∧ to = spanE q b i := by
  unfold oneL at h
  split at h
  · rename_i hl
    unfold nameN at h
    split at h
    · cases h
    · cases h
      exact ⟨.inl hl, _, rfl, rfl⟩
  · split at h
    · rename_i hu
      unfold nameN at h
      split at h
      · cases h
      · cases h
        exact ⟨.inr hu, _, rfl, rfl⟩
    · split at h
      · unfold numN at h
        split at h
        · cases h
        · cases h
          rcases hk with hk | hk <;> (dsimp only at hk; omega)
      · split at h
        · cases ht : textL (b.drop (i + 1)) (i + 1) [] with
          | bad q => rw [ht] at h; cases h
          | ok s e =>
            rw [ht] at h
            unfold textN at h
            dsimp only at h
            split at h
            · cases h
            · cases h
              rcases hk with hk | hk <;> (dsimp only at hk; omega)
        · unfold signN at h
          split at h
          · cases h
          · cases h
            rcases hk with hk | hk <;> (dsimp only at hk; omega)
theorem letter_bla {c : UInt8} (h : lowB c = true ∨ uppB c = true) : blaB c = false := by
  unfold lowB uppB at h
  unfold blaB
  simp only [Bool.and_eq_true, decide_eq_true_eq, Bool.or_eq_false_iff, decide_eq_false_iff_not] at h ⊢
  omega
def Runs : Str → Nat → List Tk → Prop
  | b, i, [] => b[spanE blaB b i]? = none
  | b, i, t :: r => ∃ c to, b[spanE blaB b i]? = some c ∧ oneL b (spanE blaB b i) c = .tok t to ∧ Runs b to r
theorem cutF_runs {b : Str} : ∀ (f i : Nat) (acc l : List Tk), cutF f b i acc = .ok l → ∃ r, l = acc ++ r ∧ Runs b i r
  | 0, i, acc, l, h => by cases h
  | f + 1, i, acc, l, h => by
    rw [cutF] at h
    cases hc : b[spanE blaB b i]? with
    | none => rw [hc] at h; cases h; exact ⟨[], by simp, hc⟩
    | some c =>
      rw [hc] at h
      dsimp only at h
      cases ho : oneL b (spanE blaB b i) c with
      | bad q => rw [ho] at h; cases h
      | tok t to =>
        rw [ho] at h
        obtain ⟨r, hr, hR⟩ := cutF_runs f to _ l h
        exact ⟨t :: r, by rw [hr]; simp, c, to, hc, ho, hR⟩
def isR (s : Str) (k : Int) : Bool := match s with
  | [] => false
  | c :: r => if 20 < (c :: r).length then false else match oneL (c :: r) 0 c with
    | .tok t to => decide (to = (c :: r).length) && decide (t.k = k)
    | .bad _ => false
theorem passS_full {q : UInt8 → Bool} {b : Str} (h : (passS q b 0).length = b.length) : passS q b 0 = b := by
  have h1 : (passS q b 0) <+: b := by
    unfold passS
    rw [List.drop_zero]
    exact List.takeWhile_prefix q
  exact h1.eq_of_length h
theorem isR_imp {s : Str} {k : Int} (hk : k = 1 ∨ k = 3) (h : isR s k = true) : isL s k = true := by
  cases s with
  | nil => cases h
  | cons c r =>
    unfold isR at h
    dsimp only at h
    by_cases hl : 20 < (c :: r).length
    · rw [if_pos hl] at h
      cases h
    rw [if_neg hl] at h
    unfold isL
    rw [if_neg hl]
    have h0 : (c :: r)[0]? = some c := rfl
    have hpos : ∃ m, (c :: r).length = m + 1 := ⟨r.length, rfl⟩
    generalize c :: r = s at *
    cases ho : oneL s 0 c with
    | bad q => rw [ho] at h; cases h
    | tok t to =>
      rw [ho] at h
      simp only [Bool.and_eq_true, decide_eq_true_eq] at h
      obtain ⟨hto, htk⟩ := h
      obtain ⟨hlet, q, hts, hspan⟩ := tok_name ho (by rw [htk]; exact hk)
      have hfull : passS q s 0 = s := passS_full (by unfold spanE at hspan; unfold passS; omega)
      have hcut : cutL s = .ok [t] := by
        obtain ⟨m, hm⟩ := hpos
        unfold cutL
        rw [if_neg (by omega), cutF, spanE_miss h0 (letter_bla hlet), h0]
        dsimp only
        rw [ho]
        dsimp only
        rw [hm, cutF, spanE_end (by omega), List.getElem?_eq_none (by omega)]
        rfl
      rw [hcut]
      simp [htk, hts, hfull]
theorem isL_imp {s : Str} {k : Int} (hk : k = 1 ∨ k = 3) (h : isL s k = true) : isR s k = true := by
  unfold isL at h
  split at h
  · cases h
  rename_i hl
  split at h
  · rename_i t hcut
    simp only [Bool.and_eq_true, decide_eq_true_eq] at h
    obtain ⟨htk, hts⟩ := h
    unfold cutL at hcut
    split at hcut
    · cases hcut
    obtain ⟨r, hr, hR⟩ := cutF_runs _ 0 [] _ hcut
    rw [List.nil_append] at hr
    subst hr
    obtain ⟨c, to, hc, ho, _⟩ := hR
    obtain ⟨hlet, q, hp, hspan⟩ := tok_name ho (by rw [htk]; exact hk)
    have hlt := (List.getElem?_eq_some_iff.1 hc).1
    have hle : (passS q s (spanE blaB s 0)).length ≤ s.length - spanE blaB s 0 := by
      unfold passS
      have h1 : ((s.drop (spanE blaB s 0)).takeWhile q).length ≤ (s.drop (spanE blaB s 0)).length := (List.takeWhile_prefix q).length_le
      rw [List.length_drop] at h1
      exact h1
    rw [← hp, hts] at hle
    have hj : spanE blaB s 0 = 0 := by omega
    rw [hj] at hc ho hp hspan
    have hto : to = s.length := by
      have h1 : spanE q s 0 = 0 + (passS q s 0).length := rfl
      rw [← hp, hts] at h1
      omega
    cases s with
    | nil => simp at hlt
    | cons c' r =>
      have hcc : c' = c := Option.some.inj hc
      subst hcc
      unfold isR
      dsimp only
      rw [if_neg hl, ho]
      simp [hto, htk]
  · cases h
theorem is_eq {s : Str} {k : Int} (hk : k = 1 ∨ k = 3) : isR s k = isL s k := by
  rw [Bool.eq_iff_iff]
  exact ⟨isR_imp hk, isL_imp hk⟩
end Go.Proofs.YtpdeaekmgljeaaaDoor

/-
  Expressions: the document's Oper, Parts, text. (Own work.)
-/
set_option linter.unusedVariables false
set_option linter.unusedSimpArgs false
namespace Go.Proofs.YtpdeaekmgljeaaaDoor
open Go Go.Abs

theorem form_none {k : Int} (h : ∀ j ∈ formsT.map (·.1), k ≠ j) : formT k = none := by
  unfold formT
  generalize formsT = l at h
  induction l with
  | nil => rfl
  | cons q l ih =>
    obtain ⟨a, f⟩ := q
    have h1 : ¬ k = a := h a (by simp)
    have hb : (k == a) = false := by simp [h1]
    rw [List.lookup_cons, hb]
    exact ih fun j hj => h j (by simp at hj ⊢; exact .inr hj)
end Go.Proofs.YtpdeaekmgljeaaaDoor

/-
  Expressions: which may be: the document's own, fine, May. (Own work.)
-/
set_option linter.unusedVariables false
set_option linter.unusedSimpArgs false
namespace Go.Proofs.YtpdeaekmgljeaaaDoor
open Go Go.Abs

theorem nsz_mem {l : List Str} {s : Str} (h : s ∈ l) : s.length + 1 ≤ nsz l := by
  induction l with
  | nil => cases h
  | cons x l ih =>
    simp only [nsz]
    rcases List.mem_cons.1 h with rfl | h
    · omega
    · have := ih h; omega
structure AIn (l : List Str) (k : Int) (i : Nat) : Prop where
  hi : i ≤ l.length
  ha : ∀ (j : Nat) a, j < i → l[j]? = some a → isL a k = true
  hr : ∀ (j : Nat) a b, j + 1 < i → l[j]? = some a → l[j + 1]? = some b → a < b
end Go.Proofs.YtpdeaekmgljeaaaDoor

/-
  Expressions: which may be: the document's own, fine, May. (Own work.)
-/
set_option linter.unusedVariables false
set_option linter.unusedSimpArgs false
namespace Go.Proofs.YtpdeaekmgljeaaaDoor
open Go Go.Abs

structure MSt2 where
  i : Nat
  m : Bool
end Go.Proofs.YtpdeaekmgljeaaaDoor

/-
  strconv.FormatInt and strings.Join, laid at this program: written by the kit's tool lay-plain.mjs, in plain words.
-/
namespace Go.Proofs.YtpdeaekmgljeaaaDoor
open Go.Shelf
def fmtLays_ren : Go.Shelf.Ren := ⟨fun | 173 => 15 | 246 => 24 | 283 => 35 | 284 => 36 | 285 => 37 | 286 => 38 | 129 => 47 | 317 => 46 | 318 => 48 | 319 => 49 | 320 => 50 | 337 => 58 | 338 => 59 | n => n, fun | 2 => 2 | 3 => 3 | 9 => 9 | 4 => 4 | 171 => 57 | 0 => 0 | 53 => 58 | 37 => 42 | 5 => 5 | 173 => 61 | 212 => 79 | 51 => 80 | 20 => 20 | 213 => 81 | 46 => 83 | 232 => 102 | 233 => 103 | n => n, fun | 17 => 0 | 18 => 2 | 19 => 3 | n => n⟩
theorem fmtLays : Go.Proofs.LaysM.n173 Tryd.prog fmtLays_ren := {
  mixed := by kernel_rfl
  f129 := Tryd.func47.trans (congrArg some (by kernel_rfl))
  f173 := Tryd.func15.trans (congrArg some (by kernel_rfl))
  f246 := Tryd.func24.trans (congrArg some (by kernel_rfl))
  f283 := Tryd.func35.trans (congrArg some (by kernel_rfl))
  f284 := Tryd.func36.trans (congrArg some (by kernel_rfl))
  f285 := Tryd.func37.trans (congrArg some (by kernel_rfl))
  f286 := Tryd.func38.trans (congrArg some (by kernel_rfl))
  f317 := Tryd.func46.trans (congrArg some (by kernel_rfl))
  f318 := Tryd.func48.trans (congrArg some (by kernel_rfl))
  f319 := Tryd.func49.trans (congrArg some (by kernel_rfl))
  f320 := Tryd.func50.trans (congrArg some (by kernel_rfl))
  f337 := Tryd.func58.trans (congrArg some (by kernel_rfl))
  f338 := Tryd.func59.trans (congrArg some (by kernel_rfl))
  t0 := Tryd.underlying0
  a0 := Tryd.isAgg0
  z0 := Tryd.sizeOf0
  v0 := Tryd.zeroValue0
  t2 := Tryd.underlying2
  a2 := Tryd.isAgg2
  z2 := Tryd.sizeOf2
  v2 := Tryd.zeroValue2
  t3 := Tryd.underlying3
  a3 := Tryd.isAgg3
  z3 := Tryd.sizeOf3
  v3 := Tryd.zeroValue3
  t4 := Tryd.underlying4
  a4 := Tryd.isAgg4
  z4 := Tryd.sizeOf4
  v4 := Tryd.zeroValue4
  t5 := Tryd.underlying5
  a5 := Tryd.isAgg5
  z5 := Tryd.sizeOf5
  v5 := Tryd.zeroValue5
  t9 := Tryd.underlying9
  a9 := Tryd.isAgg9
  z9 := Tryd.sizeOf9
  v9 := Tryd.zeroValue9
  t20 := Tryd.underlying20
  a20 := Tryd.isAgg20
  z20 := Tryd.sizeOf20
  v20 := Tryd.zeroValue20
  t37 := Tryd.underlying42
  a37 := Tryd.isAgg42
  z37 := Tryd.sizeOf42
  v37 := Tryd.zeroValue42
  t46 := Tryd.underlying83
  a46 := Tryd.isAgg83
  z46 := Tryd.sizeOf83
  v46 := Tryd.zeroValue83
  t51 := Tryd.underlying80
  a51 := Tryd.isAgg80
  z51 := Tryd.sizeOf80
  v51 := Tryd.zeroValue80
  t53 := Tryd.underlying58
  a53 := Tryd.isAgg58
  z53 := Tryd.sizeOf58
  v53 := Tryd.zeroValue58
  t171 := Tryd.underlying57
  a171 := Tryd.isAgg57
  z171 := Tryd.sizeOf57
  v171 := Tryd.zeroValue57
  t173 := Tryd.underlying61
  a173 := Tryd.isAgg61
  z173 := Tryd.sizeOf61
  v173 := Tryd.zeroValue61
  t212 := Tryd.underlying79
  a212 := Tryd.isAgg79
  z212 := Tryd.sizeOf79
  v212 := Tryd.zeroValue79
  t213 := Tryd.underlying81
  a213 := Tryd.isAgg81
  z213 := Tryd.sizeOf81
  t232 := Tryd.underlying102
  a232 := Tryd.isAgg102
  z232 := Tryd.sizeOf102
  v232 := Tryd.zeroValue102
  t233 := Tryd.underlying103
  a233 := Tryd.isAgg103
  z233 := Tryd.sizeOf103
  v233 := Tryd.zeroValue103
  g17 := by kernel_rfl
  g18 := by kernel_rfl
  g19 := by kernel_rfl
  i0 := by kernel_rfl
  i2 := by kernel_rfl
  i3 := by kernel_rfl
  i4 := by kernel_rfl
  i5 := by kernel_rfl
  i9 := by kernel_rfl
  i20 := by kernel_rfl
  i37 := by kernel_rfl
  i46 := by kernel_rfl
  i51 := by kernel_rfl
  i53 := by kernel_rfl
  i171 := by kernel_rfl
  i173 := by kernel_rfl
  i212 := by kernel_rfl
  i232 := by kernel_rfl
  i233 := by kernel_rfl
  m17 := by kernel_rfl
  m18 := by kernel_rfl
  m19 := by kernel_rfl }
def joinLays_ren : Go.Shelf.Ren := ⟨fun | 156 => 18 | 165 => 26 | 166 => 27 | 169 => 28 | 240 => 39 | 241 => 40 | 276 => 51 | 277 => 52 | n => n, fun | 31 => 22 | 9 => 9 | 3 => 3 | 4 => 4 | 0 => 0 | 20 => 20 | 72 => 46 | 76 => 48 | 70 => 44 | 37 => 42 | 75 => 29 | 127 => 63 | 164 => 85 | 5 => 5 | 80 => 50 | n => n, fun | n => n⟩
theorem joinLays : Go.Proofs.Lays.n156 Tryd.prog joinLays_ren := {
  mixed := by kernel_rfl
  f156 := Tryd.func18.trans (congrArg some (by kernel_rfl))
  f165 := Tryd.func26.trans (congrArg some (by kernel_rfl))
  f166 := Tryd.func27.trans (congrArg some (by kernel_rfl))
  f169 := Tryd.func28.trans (congrArg some (by kernel_rfl))
  f240 := Tryd.func39.trans (congrArg some (by kernel_rfl))
  f241 := Tryd.func40.trans (congrArg some (by kernel_rfl))
  f276 := Tryd.func51.trans (congrArg some (by kernel_rfl))
  f277 := Tryd.func52.trans (congrArg some (by kernel_rfl))
  t0 := Tryd.underlying0
  a0 := Tryd.isAgg0
  z0 := Tryd.sizeOf0
  v0 := Tryd.zeroValue0
  t3 := Tryd.underlying3
  a3 := Tryd.isAgg3
  z3 := Tryd.sizeOf3
  v3 := Tryd.zeroValue3
  t4 := Tryd.underlying4
  a4 := Tryd.isAgg4
  z4 := Tryd.sizeOf4
  v4 := Tryd.zeroValue4
  t9 := Tryd.underlying9
  a9 := Tryd.isAgg9
  z9 := Tryd.sizeOf9
  v9 := Tryd.zeroValue9
  t20 := Tryd.underlying20
  a20 := Tryd.isAgg20
  z20 := Tryd.sizeOf20
  v20 := Tryd.zeroValue20
  t31 := Tryd.underlying22
  a31 := Tryd.isAgg22
  z31 := Tryd.sizeOf22
  v31 := Tryd.zeroValue22
  t37 := Tryd.underlying42
  a37 := Tryd.isAgg42
  z37 := Tryd.sizeOf42
  v37 := Tryd.zeroValue42
  t70 := Tryd.underlying44
  a70 := Tryd.isAgg44
  z70 := Tryd.sizeOf44
  v70 := Tryd.zeroValue44
  t72 := Tryd.underlying46
  a72 := Tryd.isAgg46
  z72 := Tryd.sizeOf46
  v72 := Tryd.zeroValue46
  t75 := Tryd.underlying29
  a75 := Tryd.isAgg29
  z75 := Tryd.sizeOf29
  v75 := Tryd.zeroValue29
  t76 := Tryd.underlying48
  a76 := Tryd.isAgg48
  z76 := Tryd.sizeOf48
  v76 := Tryd.zeroValue48
  t127 := Tryd.underlying63
  a127 := Tryd.isAgg63
  z127 := Tryd.sizeOf63
  v127 := Tryd.zeroValue63
  t164 := Tryd.underlying85
  a164 := Tryd.isAgg85
  z164 := Tryd.sizeOf85
  v164 := Tryd.zeroValue85 }
theorem joinExtra : Builder.Extra Tryd.prog joinLays_ren := {
  sizeBuilder := by kernel_rfl
  liesBuilder := by kernel_rfl
  t5 := Tryd.underlying5
  a5 := Tryd.isAgg5
  z5 := Tryd.sizeOf5
  v5 := Tryd.zeroValue5
  infoByte := by kernel_rfl
  cellsByte := by kernel_rfl
  sizeByte := by kernel_rfl
  neB5 := by decide }
end Go.Proofs.YtpdeaekmgljeaaaDoor

/-
  Expressions as text: numbers as text; texts joined. (Own work.)
-/
set_option linter.unusedVariables false
set_option linter.unusedSimpArgs false
namespace Go.Proofs.YtpdeaekmgljeaaaDoor
open Go Go.Abs Go.RowKit

theorem grown_inv {σ : Sg} {m : Gh} {w : World} (h : Go.Abs.Inv σ m w) (k : Nat) (os : Array Obj) : Go.Abs.Inv σ m (Go.Sort.grow (w.drewN k) os) ∧ Ext m w m (Go.Sort.grow (w.drewN k) os) := by
  have hb : ∀ c, c < w.heap.size → (Go.Sort.grow (w.drewN k) os).heap[c]? = w.heap[c]? := fun c hc => Array.getElem?_append_left hc
  have e : Ext m w m (Go.Sort.grow (w.drewN k) os) :=
    ⟨rfl, rfl, rfl, by show w.heap.size ≤ (w.heap ++ os).size; simp, fun _ _ h => .inl h, fun _ tk h => ⟨tk, h, rfl, Nat.le_refl _, fun _ => rfl⟩, fun c off f => ⟨cell?_of_heap (hb c f.1), f.2⟩, fun c hc hn => ⟨hb c hc, hn⟩⟩
  refine ⟨⟨h.lobj, h.ltok, h.nodup, fun o ob c ho hc => (h.ob o ob c ho hc).mono e (hb c (h.lt_obj (Gh.mem_objb.2 (List.mem_of_getElem? hc)))), h.gone, fun tk htk => ?_, h.glob.mono e⟩, e⟩
  obtain ⟨h1, h2, h3, h4⟩ := h.tk tk htk
  refine ⟨h1, h2, h3, fun c hc => ?_⟩
  obtain ⟨us, ty, h5, h6⟩ := h4 c hc
  exact ⟨us, ty, (hb c (Array.getElem?_eq_some_iff.1 h5).1).trans h5, h6⟩
theorem tab_is {σ : Sg} {m : Gh} {w : World} (h : Inv σ m w) : Lib.TabIs Tryd.prog w "internal/strconv.uint64pow10" .u64 Lib.pow10Tab := by
  obtain ⟨⟨cs, ty, fr, hh, rfl⟩, _⟩ := h.glob _ List.mem_cons_self
  unfold Lib.TabIs World.var?
  rw [show Tryd.prog.globalNamed "internal/strconv.uint64pow10" = some 0 by kernel_rfl]
  simp only [Option.bind_some]
  rw [hh]
  rfl
theorem k_Fmt {n : Int} {σ : Sg} : ACalls Tryd.prog 15 [.v (.int .i64 n), .v (.int .i64 10)] σ fun r σ' => (r = .v (.str (Lib.itoa n)) ∧ (Lib.itoa n).length ≤ 21) ∧ σ' = σ := by
  refine ⟨⟨_, Tryd.func15, by kernel_rfl, by kernel_rfl⟩, fun m w us hI hl hr => ?_⟩
  match us, hl with
  | [u, u2], _ =>
    have h0 := (hr 0 _ _ rfl rfl).v_inv
    have h2 := (hr 1 _ _ rfl rfl).v_inv
    cases h2
    cases h0 with
    | int _ _ hn =>
        have hn1 : -9223372036854775808 ≤ n := hn.1
        have hn2 : n ≤ 9223372036854775807 := hn.2
        refine (Go.Proofs.Any.strconv_FormatInt_10 fmtLays n hn1 hn2 w (tab_is hI)).mono fun e w' ⟨he, k, os, hw⟩ => ?_
        subst hw
        obtain ⟨hI', hX⟩ := grown_inv hI k os
        have hlen := Lib.itoa_length_le n hn1 hn2
        exact ⟨_, _, σ, m, he, ⟨⟨rfl, hlen⟩, rfl⟩, hI', hX, .v _ _ (.str _ (by unfold maxLen; omega))⟩
theorem k_Join {L : List Str} {sep : Str} {σ : Sg} (hn : L.length ≤ 1048576) (hj : (Lib.join L sep).length ≤ 100000000) : ACalls Tryd.prog 18 [.v (vS L), .v (.str sep)] σ fun r σ' => r = .v (.str (Lib.join L sep)) ∧ σ' = σ := by
  refine ⟨⟨_, Tryd.func18, by kernel_rfl, by kernel_rfl⟩, fun m w us hI hl hr => ?_⟩
  match us, hl with
  | [u1, u2], _ =>
    have g1 := (hr 0 _ _ rfl rfl).v_inv
    have g2 := (hr 1 _ _ rfl rfl).v_inv
    clear hr
    cases g2 with
    | str _ hsep =>
    obtain ⟨a, cap, rfl, hc1, hc2, _, _, _, hor⟩ := g1.sl_inv
    clear g1
    rw [List.length_map] at hc1 ⊢
    cases L with
    | nil =>
      refine (Go.Proofs.Any.strings_Join_none joinLays joinExtra a cap ⟨sep.toArray⟩ w).mono fun e w' ⟨he, hw⟩ => ?_
      subst hw
      exact ⟨_, _, σ, m, he, ⟨rfl, rfl⟩, hI, .refl _ _, .v _ _ (.str [] (by simp [maxLen]))⟩
    | cons x L0 =>
    rcases hor with ⟨h, _⟩ | ⟨b, off, us, rfl, hcell, hrep⟩
    · simp at h
    obtain ⟨L, hL⟩ : ∃ L, L = x :: L0 := ⟨_, rfl⟩
    rw [← hL] at hn hj hc1 hcell hrep ⊢
    rw [flat_str] at hrep
    rw [List.length_map] at hcell
    have hpos : 0 < L.length := by rw [hL]; simp
    have hb : b < w.heap.size := (hcell 0 (by simpa [shn] using hpos)).2.1
    have hmap : (L.map fun s : Str => (⟨s.toArray⟩ : ByteArray)).map (·.data.toList) = L := by
      rw [List.map_map]
      have : ((fun x : ByteArray => x.data.toList) ∘ fun s : Str => (⟨s.toArray⟩ : ByteArray)) = id := by
        funext s; simp
      rw [this, List.map_id]
    have hcs : ∀ (j : Nat) y, (L.map fun s : Str => (⟨s.toArray⟩ : ByteArray))[j]? = some y → w.cell? ⟨b, off + j, none⟩ = some (.string y) := by
      intro j y hy
      rw [List.getElem?_map] at hy
      cases hx : L[j]? with
      | none => rw [hx] at hy; cases hy
      | some z =>
        rw [hx] at hy
        cases hy
        have hj := (List.getElem?_eq_some_iff.1 hx).1
        have h3 := hrep j (.str z) (by rw [List.getElem?_map, hx]; rfl)
        have h4 := (hcell j (by simpa [shn] using hj)).1
        rw [h4]
        generalize us j = u at h3
        cases h3
        rfl
    have hlen : (L.map fun s : Str => (⟨s.toArray⟩ : ByteArray)).length = L.length := List.length_map _
    have h := Go.Proofs.Any.strings_Join joinLays joinExtra b off cap (L.map fun s : Str => (⟨s.toArray⟩ : ByteArray)) ⟨sep.toArray⟩ w hcs hb (by rw [hlen]; omega) (by rw [hlen]; exact hc1) (by rw [hmap]; show (Lib.join L sep.toArray.toList).length ≤ _; simp only []; omega)
    rw [hlen, hmap] at h
    refine h.mono fun e w' ⟨he, hw⟩ => ?_
    obtain ⟨hI', hX⟩ := Inv.below hI hw
    exact ⟨_, _, σ, m, he, ⟨rfl, rfl⟩, hI', hX, .v _ _ (.str _ (by unfold maxLen; omega))⟩
end Go.Proofs.YtpdeaekmgljeaaaDoor

/-
  Expressions as text, plainly; how long. (Own work.)
-/
set_option linter.unusedVariables false
set_option linter.unusedSimpArgs false
namespace Go.Proofs.YtpdeaekmgljeaaaDoor
open Go Go.Abs

def items : List Str → List Str → List Str
  | s :: ls, x :: xs => (s ++ [32, 61, 32] ++ x) :: items ls xs
  | _, _ => []
theorem join_snoc (sep x : Str) : ∀ L : List Str, Lib.join (L ++ [x]) sep = if L = [] then x else Lib.join L sep ++ sep ++ x
  | [] => by simp [Lib.join_one]
  | y :: L => by
    rw [List.cons_append, Lib.join_cons, Lib.join_cons]
    simp [Lib.joinTail]
theorem items_len : ∀ (ls xs : List Str), ls.length = xs.length → (items ls xs).length = xs.length
  | [], [], _ => rfl
  | [], _ :: _, h => by simp at h
  | _ :: _, [], h => by simp at h
  | s :: ls, x :: xs, h => by simp [items, items_len ls xs (by simpa using h)]
theorem items_get : ∀ (ls xs : List Str) (i : Nat) (s x : Str), ls[i]? = some s → xs[i]? = some x → (items ls xs)[i]? = some (s ++ [32, 61, 32] ++ x)
  | [], _, i, s, x, h, _ => by simp at h
  | _ :: _, [], i, s, x, _, h => by simp at h
  | a :: ls, b :: xs, 0, s, x, h1, h2 => by simp at h1 h2; subst h1 h2; simp [items]
  | a :: ls, b :: xs, i + 1, s, x, h1, h2 => by
    have := items_get ls xs i s x (by simpa using h1) (by simpa using h2)
    simpa [items] using this
def lenL : List Str → Nat
  | [] => 0
  | x :: l => x.length + lenL l
theorem getD_lenL : ∀ (l : List Str) (i : Nat), (l.getD i []).length ≤ lenL l
  | [], i => by simp
  | x :: l, 0 => by simp [lenL]
  | x :: l, i + 1 => by
    have := getD_lenL l i
    simp only [lenL, List.getD_cons_succ]
    omega
theorem join_len (sep : Str) : ∀ L : List Str, (Lib.join L sep).length ≤ lenL L + L.length * sep.length
  | [] => by simp [Lib.join_nil]
  | x :: L => by
    have : ∀ L : List Str, (Lib.joinTail sep L).length = lenL L + L.length * sep.length := by
      intro L
      induction L with
      | nil => simp [Lib.joinTail, lenL]
      | cons y L ih =>
        simp only [Lib.joinTail, List.map_cons, List.flatten_cons, List.length_append, lenL, List.length_cons, Nat.succ_mul] at ih ⊢
        omega
    rw [Lib.join_cons, List.length_append, this]
    simp only [lenL, List.length_cons, Nat.succ_mul]
    omega
theorem items_lenL : ∀ (ls xs : List Str), lenL (items ls xs) + 2 * (items ls xs).length ≤ lenL xs + 5 * nsz ls
  | [], [] => by simp [items, lenL]
  | [], _ :: _ => by simp [items, lenL]
  | _ :: _, [] => by simp [items, lenL]
  | s :: ls, x :: xs => by
    have := items_lenL ls xs
    simp only [items, lenL, List.length_cons, List.length_append, List.length_nil, nsz]
    omega
def joinTo (ls xs : List Str) (i : Nat) : Str := Lib.join ((items ls xs).take i) [44, 32]
theorem joinTo_zero (ls xs : List Str) : joinTo ls xs 0 = [] := rfl
theorem joinTo_step {ls xs : List Str} {i : Nat} {s x : Str} (h1 : ls[i]? = some s) (h2 : xs[i]? = some x) : joinTo ls xs (i + 1) = if i = 0 then s ++ [32, 61, 32] ++ x else joinTo ls xs i ++ [44, 32] ++ (s ++ [32, 61, 32] ++ x) := by
  have h3 := items_get ls xs i s x h1 h2
  have h4 := (List.getElem?_eq_some_iff.1 h3).1
  unfold joinTo
  rw [List.take_add_one, h3]
  simp only [Option.toList_some]
  rw [join_snoc]
  by_cases hi : i = 0
  · subst hi; simp
  · rw [if_neg hi, if_neg]
    intro h
    have := congrArg List.length h
    rw [List.length_take, List.length_nil] at this
    omega
theorem lenL_take : ∀ (L : List Str) (i : Nat), lenL (L.take i) ≤ lenL L
  | [], i => by simp [lenL]
  | x :: L, 0 => by simp [lenL]
  | x :: L, i + 1 => by have := lenL_take L i; simp only [List.take_succ_cons, lenL]; omega
theorem joinTo_len (ls xs : List Str) (i : Nat) : (joinTo ls xs i).length ≤ lenL xs + 5 * nsz ls := by
  have h1 := join_len [44, 32] ((items ls xs).take i)
  have h2 := lenL_take (items ls xs) i
  have h3 := items_lenL ls xs
  have h4 : ((items ls xs).take i).length ≤ (items ls xs).length := by simp; omega
  simp only [List.length_cons, List.length_nil] at h1
  unfold joinTo
  omega
theorem joinTo_all {ls xs : List Str} {i : Nat} (h : (items ls xs).length ≤ i) : joinTo ls xs i = Lib.join (items ls xs) [44, 32] := by
  unfold joinTo
  rw [List.take_of_length_le h]
def itemsO (ls xs : List Str) (i : Nat) : List V := ((items ls xs).take i).map .str
theorem itemsO_zero (ls xs : List Str) : itemsO ls xs 0 = [] := rfl
theorem itemsO_step {ls xs : List Str} {i : Nat} {s x : Str} (h1 : ls[i]? = some s) (h2 : xs[i]? = some x) : itemsO ls xs i ++ [.str (s ++ [32, 61, 32] ++ x)] = itemsO ls xs (i + 1) := by
  unfold itemsO
  rw [List.take_add_one, items_get ls xs i s x h1 h2]
  simp
theorem itemsO_all {ls xs : List Str} (h : ls.length = xs.length) {i : Nat} (hi : xs.length ≤ i) : itemsO ls xs i = (items ls xs).map .str := by
  unfold itemsO
  rw [List.take_of_length_le (by rw [items_len ls xs h]; omega)]
theorem itemsO_len {ls xs : List Str} (h : ls.length = xs.length) {i : Nat} (hi : i ≤ xs.length) : (itemsO ls xs i).length = i := by
  unfold itemsO
  rw [List.length_map, List.length_take, items_len ls xs h]
  omega
/-- Is a kind's text one by itself? -/
def soleK (k : Int) : Bool := k == 1 || (k == 2 || (k == 3 || (k == 8 || (k == 10 || (k == 12 || k == 22)))))
def smallT (q : Int × Str) : Str := if soleK q.1 = true then q.2 else [40] ++ q.2 ++ [41]
def armL : List Str → List Str → List Str → List Str
  | a :: ls, n :: ns, x :: xs => ([32, 124, 32] ++ a ++ [32] ++ n ++ [32, 45, 62, 32] ++ x) :: armL ls ns xs
  | _, _, _ => []
def txQ (q : List (Int × Str)) (i : Nat) : Str := (q.map (·.2)).getD i []
def smQ (q : List (Int × Str)) (i : Nat) : Str := match q[i]? with
  | some x => smallT x
  | none => []
def elseT (t : Str) (x : Str) : Str := if t = [] then [] else [32, 124, 32] ++ t ++ [32, 45, 62, 32] ++ x
def headK (k : Int) (s : Str) : Str := if k = 17 then [114, 101, 102, 32] else if k = 20 then [112, 114, 105, 110, 116, 32] else if k = 21 then [115, 104, 111, 119, 32] else if k = 18 then [33] else s ++ [32]
def showK (k n : Int) (s t : Str) (ls ns : List Str) (q : List (Int × Str)) : Str :=
  if k = 1 then Lib.itoa n
  else if k = 2 then (quoteE s).getD []
  else if k = 3 then s
  else if k = 4 then [102, 110, 32] ++ s ++ [32, 45, 62, 32] ++ txQ q 0
  else if k = 5 then smQ q 0 ++ [32] ++ smQ q 1
  else if k = 6 then [108, 101, 116, 32] ++ s ++ [32, 61, 32] ++ txQ q 0 ++ [32, 105, 110, 32] ++ txQ q 1
  else if k = 7 then [108, 101, 116, 32, 114, 101, 99, 32] ++ s ++ [32] ++ t ++ [32, 61, 32] ++ txQ q 0 ++ [32, 105, 110, 32] ++ txQ q 1
  else if k = 8 then [123] ++ Lib.join (items ls (q.map (·.2))) [44, 32] ++ [125]
  else if k = 9 then smQ q 0 ++ [46] ++ s
  else if k = 10 then [123] ++ s ++ [32, 61, 32] ++ txQ q 0 ++ [32, 124, 32] ++ txQ q 1 ++ [125]
  else if k = 11 then smQ q 0 ++ [92] ++ s
  else if k = 12 then [123] ++ smQ q 1 ++ [32, 119, 105, 116, 104, 32] ++ s ++ [32, 61, 32] ++ txQ q 0 ++ [125]
  else if k = 14 then [109, 97, 116, 99, 104, 32] ++ txQ q 0 ++ [32, 119, 105, 116, 104] ++ (armL ls ns ((q.map (·.2)).drop 1)).flatten ++ elseT t (txQ q (ls.length + 1)) ++ [32, 101, 110, 100]
  else if k = 15 then [105, 102, 32] ++ txQ q 0 ++ [32, 116, 104, 101, 110, 32] ++ txQ q 1 ++ [32, 101, 108, 115, 101, 32] ++ txQ q 2
  else if k = 16 then smQ q 0 ++ [32] ++ s ++ [32] ++ smQ q 1
  else if k = 19 then smQ q 0 ++ [32, 58, 61, 32] ++ smQ q 1
  else if k = 22 then [114, 101, 97, 100]
  else headK k s ++ smQ q 0
def kdE : Ex → Int
  | .mk k _ _ _ _ _ _ _ => k
mutual
def showL : Ex → Str
  | .mk k _ n s t ls ns l => showK k n s t ls ns (showQ l)
def showQ : List Ex → List (Int × Str)
  | [] => []
  | x :: l => (kdE x, showL x) :: showQ l
end
theorem showQ_eq : ∀ l, showQ l = l.map fun x => (kdE x, showL x)
  | [] => by simp [showQ]
  | x :: l => by simp [showQ, showQ_eq l]
theorem showQ_get {l : List Ex} {i : Nat} {x : Ex} (h : l[i]? = some x) : (showQ l)[i]? = some (kdE x, showL x) := by
  rw [showQ_eq, List.getElem?_map, h]; rfl
theorem txQ_get {l : List Ex} {i : Nat} {x : Ex} (h : l[i]? = some x) : txQ (showQ l) i = showL x := by
  unfold txQ
  rw [List.getD_eq_getElem?_getD, List.getElem?_map, showQ_get h]; rfl
theorem smQ_get {l : List Ex} {i : Nat} {x : Ex} (h : l[i]? = some x) : smQ (showQ l) i = smallT (kdE x, showL x) := by
  unfold smQ
  rw [showQ_get h]
/-- How long. -/
def lenQ (q : List (Int × Str)) : Nat := lenL (q.map (·.2))
theorem small_len (q : Int × Str) : (smallT q).length ≤ q.2.length + 2 := by
  unfold smallT
  split <;> simp
theorem smQ_len0 (q : List (Int × Str)) (i : Nat) : (smQ q i).length ≤ (txQ q i).length + 2 := by
  unfold smQ txQ
  rw [List.getD_eq_getElem?_getD, List.getElem?_map]
  cases q[i]? with
  | none => simp
  | some x => exact small_len x
theorem tx3 (q : List (Int × Str)) : (txQ q 0).length + (txQ q 1).length + (txQ q 2).length ≤ lenQ q := by
  unfold txQ lenQ
  generalize q.map (·.2) = L
  match L with
  | [] => simp
  | [a] => simp [lenL]
  | [a, b] => simp [lenL]
  | a :: b :: c :: l => simp [lenL]; omega
theorem arm_len : ∀ (ls ns ys : List Str), (armL ls ns ys).flatten.length + (ys.getD ls.length []).length ≤ lenL ys + 8 * nsz ls + nsz ns
  | [], ns, ys => by
    have := getD_lenL ys 0
    simp only [armL, List.flatten_nil, List.length_nil, nsz]
    omega
  | a :: ls, [], ys => by
    have := getD_lenL ys (ls.length + 1)
    simp only [armL, List.flatten_nil, List.length_nil, List.length_cons, nsz]
    omega
  | a :: ls, n :: ns, [] => by simp [armL]
  | a :: ls, n :: ns, x :: xs => by
    have := arm_len ls ns xs
    simp only [armL, List.flatten_cons, List.length_append, List.length_cons, List.length_nil, List.getD_cons_succ, nsz, lenL]
    omega
theorem qB_len {c : UInt8} {s : Str} (h : qB c = some s) : s.length ≤ 2 := by
  unfold qB at h
  split at h
  · cases h; simp
  · split at h
    · cases h
    · split at h <;> (cases h; simp)
theorem qL_len : ∀ (t acc s : Str), qL t acc = some s → s.length ≤ acc.length + 2 * t.length + 1
  | [], acc, s, h => by
    have := Option.some.inj h
    subst this
    simp
  | c :: t, acc, s, h => by
    rw [qL] at h
    cases hc : qB c with
    | none => rw [hc] at h; cases h
    | some r =>
      rw [hc] at h
      have h1 := qL_len t _ s h
      have h2 := qB_len hc
      simp only [List.length_append, List.length_cons] at h1 ⊢
      omega
theorem quote_len {s : Str} : ((quoteE s).getD []).length ≤ 2 * s.length + 2 := by
  unfold quoteE
  split
  · simp
  · cases h : qL s [34] with
    | none => simp
    | some r =>
      have := qL_len s [34] r h
      simp only [List.length_cons, List.length_nil] at this
      simp only [Option.getD_some]
      omega
theorem ite_len {p : Prop} [Decidable p] {a b : Str} {N : Nat} (ha : a.length ≤ N) (hb : b.length ≤ N) : (if p then a else b).length ≤ N := by
  split
  · exact ha
  · exact hb
theorem headK_len (k : Int) (s : Str) : (headK k s).length ≤ s.length + 6 := by
  unfold headK
  repeat' apply ite_len
  all_goals simp only [List.length_append, List.length_cons, List.length_nil]; omega
theorem elseT_len (t x : Str) : (elseT t x).length ≤ t.length + x.length + 7 := by
  unfold elseT
  apply ite_len
  · simp
  · simp only [List.length_append, List.length_cons, List.length_nil]; omega
theorem showK_len {k n : Int} {s t : Str} {ls ns : List Str} {q : List (Int × Str)} (hn : -9223372036854775808 ≤ n) (hn2 : n ≤ 9223372036854775807) : (showK k n s t ls ns q).length ≤ lenQ q + 8 * nsz ls + 8 * nsz ns + 2 * s.length + t.length + 40 := by
  have h3 := tx3 q
  have s0 := smQ_len0 q 0
  have s1 := smQ_len0 q 1
  have hi := Lib.itoa_length_le n hn hn2
  have hq := quote_len (s := s)
  have hj := join_len [44, 32] (items ls (q.map (·.2)))
  have hj2 := items_lenL ls (q.map (·.2))
  simp only [List.length_cons, List.length_nil] at hj
  have hQ : lenL (q.map (·.2)) = lenQ q := rfl
  have ha : (txQ q 0).length + (armL ls ns ((q.map (·.2)).drop 1)).flatten.length + (txQ q (ls.length + 1)).length ≤ lenQ q + 8 * nsz ls + nsz ns := by
    unfold txQ lenQ
    cases q.map (·.2) with
    | nil =>
      have := arm_len ls ns []
      simpa using this
    | cons x l =>
      have := arm_len ls ns l
      simp only [List.drop_succ_cons, List.drop_zero, List.getD_cons_succ, List.getD_cons_zero, lenL]
      omega
  have hh := headK_len k s
  have he := elseT_len t (txQ q (ls.length + 1))
  unfold showK
  generalize Lib.itoa n = I at hi ⊢
  repeat' apply ite_len
  all_goals (try simp only [List.length_append, List.length_cons, List.length_nil]); omega
/- Integers within their range. -/
mutual
def intsE : Ex → Prop
  | .mk _ _ n _ _ _ _ l => (-9223372036854775808 ≤ n ∧ n ≤ 9223372036854775807) ∧ intsL l
def intsL : List Ex → Prop
  | [] => True
  | x :: l => intsE x ∧ intsL l
end
theorem show_len (e : Ex) : intsE e → (showL e).length ≤ 8 * csz e := by
  refine Ex.ind (P := fun e => intsE e → (showL e).length ≤ 8 * csz e) (fun k p n s t ls ns l ih hi => ?_) e
  rw [intsE] at hi
  have h1 := showK_len (k := k) (s := s) (t := t) (ls := ls) (ns := ns) (q := showQ l) hi.1.1 hi.1.2
  have h2 : lenQ (showQ l) ≤ 8 * cszL l := by
    replace hi := hi.2
    clear h1
    induction l with
    | nil => simp [lenQ, showQ, lenL]
    | cons x l ihl =>
      rw [intsL] at hi
      have g1 := ih x (by simp) hi.1
      have g2 := ihl (fun y hy => ih y (by simp [hy])) hi.2
      simp only [lenQ, showQ, List.map_cons, lenL, cszL] at g2 ⊢
      omega
  simp only [showL, csz]
  omega
end Go.Proofs.YtpdeaekmgljeaaaDoor

/-
  ShowTells: arguments, with their integers' range. (Own work.)
-/
set_option linter.unusedVariables false
set_option linter.unusedSimpArgs false
namespace Go.Proofs.YtpdeaekmgljeaaaDoor
open Go Go.Abs
namespace synS
theorem intsL_sub : ∀ l : List {e : Ex // intsE e}, intsL (l.map (·.1))
  | [] => by simp [intsL]
  | z :: l => by rw [List.map_cons, intsL]; exact ⟨z.2, intsL_sub l⟩
theorem expr_of2 : ∀ (n : Nat) {x : V}, x.bulk ≤ n → Arg Tryd.prog 25 x → ∃ t : Ex, x = encE t ∧ intsE t
  | 0, x, hn, h => by
    obtain ⟨parts, rfl, hp⟩ := h.struct (t := 25) (fs := Tryd.prog.fieldsOf 25) (n := 8) (ts := [3, 3, 2, 9, 9, 22, 22, 23]) (by kernel_rfl) (by kernel_rfl) (by kernel_rfl)
    match parts, hp with
    | [p, q, r, s, t, u, v, w], ⟨h1, h2, h3, h4, h5, h6, h7, h8, _⟩ =>
      obtain ⟨a, rfl, _⟩ := h1.int_inv (k := .i64) (by kernel_rfl)
      simp [V.bulk, V.bulkL] at hn
  | n + 1, x, hn, h => by
    obtain ⟨parts, rfl, hp⟩ := h.struct (t := 25) (fs := Tryd.prog.fieldsOf 25) (n := 8) (ts := [3, 3, 2, 9, 9, 22, 22, 23]) (by kernel_rfl) (by kernel_rfl) (by kernel_rfl)
    match parts, hp with
    | [p, q, r, s, t, u, v, w], ⟨h1, h2, h3, h4, h5, h6, h7, h8, _⟩ =>
      obtain ⟨a, rfl, _⟩ := h1.int_inv (k := .i64) (by kernel_rfl)
      obtain ⟨a2, rfl, _⟩ := h2.int_inv (k := .i64) (by kernel_rfl)
      obtain ⟨b, rfl, hb⟩ := h3.int_inv (k := .i64) (by kernel_rfl)
      obtain ⟨c, rfl, _⟩ := h4.str_inv (by kernel_rfl)
      obtain ⟨d, rfl, _⟩ := h5.str_inv (by kernel_rfl)
      obtain ⟨y0, rfl, hy0⟩ := sl_arg (e := 9) (sh := none) (by kernel_rfl) (by kernel_rfl) (by kernel_rfl) h6
      obtain ⟨ls, rfl⟩ := strs_of hy0
      obtain ⟨y1, rfl, hy1⟩ := sl_arg (e := 9) (sh := none) (by kernel_rfl) (by kernel_rfl) (by kernel_rfl) h7
      obtain ⟨ns, rfl⟩ := strs_of hy1
      obtain ⟨y2, rfl, hy2⟩ := sl_arg (e := 25) (sh := some 8) (by kernel_rfl) (by kernel_rfl) (by kernel_rfl) h8
      obtain ⟨xs, rfl, _, hx⟩ := hy2.sl (e := 25) (sh := some 8) (by kernel_rfl) (by kernel_rfl) (by kernel_rfl)
      simp [V.bulk, V.bulkL] at hn
      obtain ⟨l, rfl⟩ := list_of_all (enc := fun e : {e : Ex // intsE e} => encE e.1) fun y hy => by
        obtain ⟨t, ht, hi⟩ := expr_of2 n (by have := bulk_mem hy; omega) (hx y hy)
        exact ⟨⟨t, hi⟩, ht⟩
      refine ⟨.mk a a2 b c d ls ns (l.map (·.1)), by rw [encE_mk, List.map_map]; rfl, ?_⟩
      rw [intsE]
      refine ⟨hb, ?_⟩
      exact intsL_sub l
end synS
end Go.Proofs.YtpdeaekmgljeaaaDoor
