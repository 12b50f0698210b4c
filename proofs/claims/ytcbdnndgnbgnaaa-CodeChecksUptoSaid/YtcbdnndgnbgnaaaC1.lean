/-
  Layer 19: instructions that may be. (Own work.)
-/
import Derived.Test.YtcbdnndgnbgnaaaF2
set_option linter.unusedVariables false
set_option linter.unusedSimpArgs false
namespace Go.Proofs.Ytcbdnndgnbgnaaa
open Go Go.Abs

@[reducible] def vi (n : Int) : V := .int .i64 n
/-- An instruction. -/
structure Ins where
  op : Int
  a : Int
  l : List Int
  deriving DecidableEq
@[reducible] def encI (x : Ins) : V := .agg [vi x.op, vi x.a, .sl none false (x.l.map vi)]
/-- A function. -/
structure Fn where
  regs : Int
  caps : Int
  code : List Ins
  deriving DecidableEq
@[reducible] def encF (f : Fn) : V := .agg [vi f.regs, vi f.caps, .sl (some 3) false (f.code.map encI)]
/-- An image. -/
structure Img where
  ints : List Int
  texts : List (List UInt8)
  funs : List Fn
  deriving DecidableEq
@[reducible] def encM (m : Img) : V := .agg [.sl none false (m.ints.map vi), .sl none false (m.texts.map .str), .sl (some 3) false (m.funs.map encF)]

/-- How many numbers operations have. -/
def cnts : List (Int × Int) := [(1, 1), (2, 1), (3, 1), (4, -1), (6, 2), (7, 3), (8, 2), (9, 3), (10, 2), (11, 2), (12, 3), (13, 1), (14, 1), (15, 2), (16, 1), (17, 1), (18, 0), (19, 2), (20, 1), (21, -1), (22, 2), (23, 1), (24, 1)]
def cntMap : List (V × D) := cnts.map fun p => (vi p.1, .v (vi p.2))

def inS (n many : Int) : Bool := decide (0 ≤ n ∧ n < many)

theorem k_In {n many : Int} {σ : Sg} : ACalls Try.prog 101 [.v (vi n), .v (vi many)] σ fun r σ' => r = .v (.bool (inS n many)) ∧ σ' = σ := by
  refine acalls_fit Try.func101 (by kernel_rfl) c101 rfl (by simp [a101]) fun hf => ?_
  simp -implicitDefEqProofs (maxSteps := 2000000) (disch := omega) [-getElem?_pos, a101]
  repeat' (first
    | (refine And.intro (by omega) ?_)
    | (refine Br.mk (fun hb => ?_) (fun hb => ?_) <;> simp -implicitDefEqProofs (maxSteps := 2000000) (disch := omega) [-getElem?_pos, hb]))
  all_goals exact .fin _ ⟨by simp [inS, *], rfl⟩ (.refl _)

theorem k_RIn {n many : Int} {σ : Sg} : ACalls Try.prog 89 [.v (vi n), .v (vi many)] σ fun r σ' => r = .v (.bool (inS n many)) ∧ σ' = σ := by
  refine acalls_fit Try.func89 (by kernel_rfl) c89 rfl (by simp [a89]) fun hf => ?_
  simp -implicitDefEqProofs (maxSteps := 2000000) (disch := omega) [-getElem?_pos, a89]
  repeat' (first
    | (refine And.intro (by omega) ?_)
    | (refine Br.mk (fun hb => ?_) (fun hb => ?_) <;> simp -implicitDefEqProofs (maxSteps := 2000000) (disch := omega) [-getElem?_pos, hb]))
  all_goals exact .fin _ ⟨by simp [inS, *], rfl⟩ (.refl _)

theorem k_Counts {σ : Sg} : ACalls Try.prog 104 [] σ fun r σ' => r = .map σ.objs.length ∧ σ' = ⟨σ.objs ++ [.map cntMap], σ.toks⟩ := by
  refine acalls_fit Try.func104 (by kernel_rfl) c104 rfl (by simp [a104]) fun hf => ?_
  simp -implicitDefEqProofs (maxSteps := 2000000) (disch := omega) [-getElem?_pos, a104]
  exact ⟨_, _, .refl _ _ _, rfl, rfl⟩

def cnt (op : Int) : Option Int := cnts.lookup op
theorem mfind_cnt (op : Int) : mfind (vi op) cntMap = (cnt op).map fun n => .v (vi n) := by
  unfold cntMap cnt
  induction cnts with
  | nil => rfl
  | cons p l ih =>
    obtain ⟨a, b⟩ := p
    simp only [List.map_cons, mfind, keq, List.lookup_cons, ih]
    cases h : op == a <;> simp
theorem keysOk_cnt : keysOk (.int .i64) cntMap = true := by simp [cntMap, keysOk]

/-- Has an instruction as many numbers as its operation tells? -/
def countedS (x : Ins) : Bool := decide (x.op = 5) || (match cnt x.op with
  | some n => decide (n = x.l.length) || (decide (n = -1) && decide (0 < x.l.length))
  | none => false)

theorem k_Counted {x : Ins} {σ : Sg} : ACalls Try.prog 100 [.v (encI x)] σ fun r σ' => r = .v (.bool (countedS x)) ∧ σ' = σ := by
  refine acalls_fit Try.func100 (by kernel_rfl) c100 rfl (by simp [a100]) fun hf => ?_
  simp -implicitDefEqProofs (maxSteps := 2000000) (disch := omega) [-getElem?_pos, a100]
  refine k_Counts.mono fun r σ' ⟨hr, hs⟩ => ?_
  subst hr hs
  simp -implicitDefEqProofs (maxSteps := 2000000) (disch := omega) [-getElem?_pos, keysOk_cnt, mfind_cnt]
  cases hc : cnt x.op with
  | none =>
    simp -implicitDefEqProofs (maxSteps := 2000000) (disch := omega) [-getElem?_pos]
    repeat' (first
      | (refine And.intro (by omega) ?_)
      | (refine Br.mk (fun hb => ?_) (fun hb => ?_) <;> simp -implicitDefEqProofs (maxSteps := 2000000) (disch := omega) [-getElem?_pos, hb]))
    all_goals exact .fin _ ⟨by simp [countedS, hc, *], rfl⟩ (.refl _)
  | some n =>
    simp -implicitDefEqProofs (maxSteps := 2000000) (disch := omega) [-getElem?_pos]
    repeat' (first
      | (refine And.intro (by omega) ?_)
      | (refine Br.mk (fun hb => ?_) (fun hb => ?_) <;> simp -implicitDefEqProofs (maxSteps := 2000000) (disch := omega) [-getElem?_pos, hb]))
    all_goals exact .fin _ ⟨by simp [countedS, hc, *], rfl⟩ (.refl _)

def rcnt (op : Int) : Int := if op = 5 then -2 else (cnt op).getD (-3)
theorem k_RCount {op : Int} {σ : Sg} : ACalls Try.prog 88 [.v (vi op)] σ fun r σ' => r = .v (vi (rcnt op)) ∧ σ' = σ := by
  refine acalls_fit Try.func88 (by kernel_rfl) c88 rfl (by simp [a88]) fun hf => ?_
  simp -implicitDefEqProofs (maxSteps := 2000000) (disch := omega) [-getElem?_pos, a88]
  repeat' (first
    | (refine And.intro (by omega) ?_)
    | (refine Br.mk (fun hb => ?_) (fun hb => ?_) <;> simp -implicitDefEqProofs (maxSteps := 2000000) (disch := omega) [-getElem?_pos, hb]))
  all_goals first
    | (refine .fin _ ⟨?_, rfl⟩ (.refl _); subst op; rfl)
    | exact .fin _ ⟨by simp [rcnt, cnt, cnts, List.lookup_cons, beq_eq_false_iff_ne.2, *], rfl⟩ (.refl _)

theorem k_RLimit {m : Img} {f : Fn} {x : Ins} {i : Int} {σ : Sg} : ACalls Try.prog 90 [.v (encM m), .v (encF f), .v (encI x), .v (vi i)] σ fun r σ' =>
    r = .v (vi (if i = 0 ∧ x.op = 1 then m.ints.length else if i = 0 ∧ x.op = 2 then m.texts.length else if i = 0 ∧ x.op = 4 then m.funs.length else if i = 0 ∧ x.op = 12 then 8 else if i = 0 ∧ x.op = 23 then f.code.length else
      if i = 1 ∧ x.op = 22 then f.code.length else f.regs)) ∧ σ' = σ := by
  refine acalls_fit Try.func90 (by kernel_rfl) c90 rfl (by simp [a90]) fun hf => ?_
  simp -implicitDefEqProofs (maxSteps := 2000000) (disch := omega) [-getElem?_pos, a90]
  repeat' (first
    | (refine And.intro (by omega) ?_)
    | (refine Br.mk (fun hb => ?_) (fun hb => ?_) <;> simp -implicitDefEqProofs (maxSteps := 2000000) (disch := omega) [-getElem?_pos, hb]))
  all_goals exact .fin _ ⟨by simp [*], rfl⟩ (.refl _)
end Go.Proofs.Ytcbdnndgnbgnaaa
