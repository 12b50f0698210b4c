/-
  What is known of rows' tails: a map; an offset as a number. (Own work.)
-/
import Derived.Test.YtppdghfpbliaeaaDoorE13
set_option linter.unusedVariables false
set_option linter.unusedSimpArgs false
namespace Go.Proofs.YtppdghfpbliaeaaDoor
open Go Go.Abs

def mN (es : List ((Int × Str) × Int)) : List (V × D) := es.map fun e => (vN e.1, .v (.int .i64 e.2))
def getN (k : Int × Str) : List ((Int × Str) × Int) → Option Int
  | [] => none
  | (a, v) :: r => if k = a then some v else getN k r
def setN (k : Int × Str) (v : Int) : List ((Int × Str) × Int) → List ((Int × Str) × Int)
  | [] => [(k, v)]
  | (a, u) :: r => if k = a then (k, v) :: r else (a, u) :: setN k v r
theorem keq_N (a b : Int × Str) : keq (vN a) (vN b) = decide (a = b) := by
  obtain ⟨x, s⟩ := a
  obtain ⟨y, t⟩ := b
  rw [Bool.eq_iff_iff]
  simp [vN, keq]
theorem mfind_N (k : Int × Str) : ∀ es, mfind (vN k) (mN es) = (getN k es).map fun v => .v (.int .i64 v)
  | [] => rfl
  | (a, v) :: r => by
    show (if keq (vN k) (vN a) = true then _ else mfind (vN k) (mN r)) = _
    rw [keq_N, mfind_N k r]
    simp only [getN, decide_eq_true_eq]
    split <;> rfl
theorem mset_N (k : Int × Str) (v : Int) : ∀ es, mset (vN k) (.v (.int .i64 v)) (mN es) = mN (setN k v es)
  | [] => rfl
  | (a, u) :: r => by
    show (if keq (vN k) (vN a) = true then _ else _ :: mset (vN k) _ (mN r)) = _
    rw [keq_N, mset_N k v r]
    simp only [setN, decide_eq_true_eq]
    split <;> rfl
theorem keysOk_N (es : List ((Int × Str) × Int)) : keysOk (.pair .i64) (mN es) = true := by
  simp [keysOk, mN, vN, keyOk]
/-- An offset as a number: what is handed back, and with it what went wrong. -/
def valN (N row : Int) (label : Str) (es : List ((Int × Str) × Int)) : V × V :=
  if row < 0 then (.int .i64 N, .inil) else
    match getN (row, label) es with
    | none => (.int .i64 0, .iface 47 (.int .i64 4))
    | some v => (.int .i64 (IntKind.i64.wrap (N + v)), .inil)
theorem k_ValueN {N row : Int} {label : Str} {o : Nat} {es : List ((Int × Str) × Int)} {σ : Sg} (ho : σ.objs[o]? = some (.map (mN es))) :
    ACalls Tryd.prog 13 [.v (.agg [.int .i64 N, .int .i64 row, .str label]), .map o] σ fun r σ' => r = .tup [.v (valN N row label es).1, .v (valN N row label es).2] ∧ σ' = σ := by
  have hol := (List.getElem?_eq_some_iff.1 ho).1
  have ho' : ∀ r, (σ.objs ++ r)[o]? = some (.map (mN es)) := fun r => by rw [List.getElem?_append_left hol, ho]
  have hk := keysOk_N es
  have hf2 := mfind_N (row, label) es
  simp only [vN] at hf2
  refine acalls_fit Tryd.func13 (by kernel_rfl) c13 rfl (by simp [a13]) fun hf => ?_
  clear hf
  by_cases h0 : row < 0
  · simp -implicitDefEqProofs (maxSteps := 2000000) (disch := omega) [-getElem?_pos, a13, h0]
    exact .finS _ σ ⟨rfl, rfl⟩ (by simp [valN, h0]) (fun ob h => .inl h) (by simp) (by simp) (by simp) (by simp) (by simp)
  cases hg : getN (row, label) es with
  | none =>
    rw [hg] at hf2
    simp -implicitDefEqProofs (maxSteps := 2000000) (disch := omega) [-getElem?_pos, a13, h0, ho', hk, hf2, mgot]
    exact .finS _ σ ⟨rfl, rfl⟩ (by simp [valN, h0, hg]) (fun ob h => .inl h) (by simp) (by simp) (by simp) (by simp) (by simp)
  | some v =>
    rw [hg] at hf2
    simp -implicitDefEqProofs (maxSteps := 2000000) (disch := omega) [-getElem?_pos, a13, h0, ho', hk, hf2, mgot]
    exact .finS _ σ ⟨rfl, rfl⟩ (by simp [valN, h0, hg]) (fun ob h => .inl h) (by simp) (by simp) (by simp) (by simp) (by simp)
@[reducible] def vSS (l : List (List Str)) : V := .sl none false (l.map vS)
def lkOf (l : List (List Str)) (n : Int) : List Str := if n < 0 ∨ (l.length : Int) ≤ n then [] else l.getD n.toNat []
theorem k_Lack {l : List (List Str)} {n : Int} {q : Nat} {σ : Sg} (hq : σ.objs[q]? = some (.cells [.v (vSS l)])) :
    ACalls Tryd.prog 20 [.v (.int .i64 n), .ptr q 0] σ fun r σ' => r = .v (vS (lkOf l n)) ∧ σ' = σ := by
  refine acalls_fit Tryd.func20 (by kernel_rfl) c20 rfl (by simp [a20]) fun hf => ?_
  clear hf
  by_cases h0 : n < 0
  · simp -implicitDefEqProofs (maxSteps := 2000000) (disch := omega) [-getElem?_pos, a20, h0]
    exact .fin _ ⟨rfl, rfl⟩ (by rw [lkOf, if_pos (.inl h0)]; exact .snil)
  by_cases h1 : (l.length : Int) ≤ n
  · simp -implicitDefEqProofs (maxSteps := 2000000) (disch := omega) [-getElem?_pos, a20, h0, h1, hq]
    exact .fin _ ⟨rfl, rfl⟩ (by rw [lkOf, if_pos (.inr h1)]; exact .snil)
  simp -implicitDefEqProofs (maxSteps := 2000000) (disch := omega) [-getElem?_pos, a20, h0, h1, hq]
  refine ⟨by omega, by omega, fun a ha => ?_⟩
  exact .fin _ ⟨rfl, rfl⟩ (by rw [lkOf, if_neg (by omega), List.getD, ha]; exact .refl _)
end Go.Proofs.YtppdghfpbliaeaaDoor
