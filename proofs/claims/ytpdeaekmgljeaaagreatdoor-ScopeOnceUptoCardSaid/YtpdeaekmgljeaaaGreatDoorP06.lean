/-
  Expressions: which may be: the code's own words for it, but for whole expressions. (Own work.)
-/
import Derived.Test.YtpdeaekmgljeaaaGreatDoorP05
import Derived.Sort.Walk0
import Derived.Sort.OwnSorted
import Derived.Lib.Join
import Derived.Shelf.Strings.OnBuilder
import Derived.Shelf.Strconv.Itoa4
import Derived.Test.YtpdeaekmgljeaaaGreatDoorChecked
import Derived.Lib.ItoaLen
import Derived.RangeFuncBox
import Derived.RangeFuncNested
import Derived.RangeFuncLeaves
import Derived.Shelf.Abstract
import Derived.WalkKit
import Derived.OwnWalkIn
import Derived.TacticsInMore
import Derived.LoopNIn
import Derived.LoopIn
import Derived.CallsIn
import Derived.Shelf.SlIter.Nil
import Derived.Shelf.SortM.Plain
import Derived.Shelf.SortM.SortNone
import Derived.Ground.GgzProg
import Derived.Ground.SlgmProg
import Derived.Ground.SlmpProg
import Derived.Shelf.SlMaps.Copy
import Derived.Shelf.SlGeneric
import Derived.Sort.KeysCollected
import Derived.Lib.SlMapMerge
set_option linter.unusedVariables false
set_option maxHeartbeats 1000000
set_option linter.unusedSimpArgs false
namespace Go.Proofs.YtpdeaekmgljeaaaGreatDoor
open Go Go.Abs
structure FT where
  p : Int
  nm : Bool
  lb : Bool
  tg : Bool
  op : Bool
def encF (f : FT) : D := .v (.agg [.int .i64 f.p, .bool f.nm, .bool f.lb, .bool f.tg, .bool f.op])
def formsT : List (Int × FT) := [(1, ⟨0, false, false, false, false⟩), (2, ⟨0, false, false, false, false⟩), (3, ⟨0, true, false, false, false⟩), (22, ⟨0, false, false, false, false⟩), (4, ⟨1, true, false, false, false⟩), (5, ⟨2, false, false, false, false⟩), (6, ⟨2, true, false, false, false⟩), (7, ⟨2, true, false, false, false⟩), (9, ⟨1, false, true, false, false⟩), (10, ⟨2, false, true, false, false⟩), (11, ⟨1, false, true, false, false⟩), (12, ⟨2, false, true, false, false⟩), (13, ⟨1, false, false, true, false⟩), (15, ⟨3, false, false, false, false⟩), (16, ⟨2, false, false, false, true⟩), (17, ⟨1, false, false, false, false⟩), (18, ⟨1, false, false, false, false⟩), (19, ⟨2, false, false, false, false⟩), (20, ⟨1, false, false, false, false⟩), (21, ⟨1, false, false, false, false⟩)]
def formsE : List (V × D) := formsT.map fun q => (.int .i64 q.1, encF q.2)
def formT (k : Int) : Option FT := formsT.lookup k
theorem find_form (k : Int) : mfind (.int .i64 k) formsE = (formT k).map encF := by
  unfold formsE formT
  generalize formsT = l
  induction l with
  | nil => rfl
  | cons q l ih =>
    obtain ⟨a, f⟩ := q
    rw [List.map_cons, mfind, List.lookup_cons, ih]
    by_cases h : k = a
    · subst h; simp [keq]
    · have hb : (k == a) = false := by simp [h]
      simp [keq, h, hb]
theorem forms_ok : keysOk (.int .i64) formsE = true := by rfl
theorem k_Forms {σ : Sg} : ACalls Tryz.prog 142 [] σ fun r σ' => r = .map σ.objs.length ∧ σ' = ⟨σ.objs ++ [.map formsE], σ.toks⟩ := by
  refine acalls_fit Tryz.func142 (by kernel_rfl) c142 rfl (by simp [a142]) fun hf => ?_
  clear hf
  simp -implicitDefEqProofs (maxSteps := 2000000) (disch := omega) [-getElem?_pos, a142]
  exact ⟨_, _, WeakR.refl _ _ _, rfl, rfl⟩
def partsN (k labels : Int) (other : Bool) : Int := if k = 8 then labels else if k = 14 then labels + (if other = true then 1 else 0) + 1 else match formT k with
  | none => -1
  | some f => f.p
theorem k_Parts {k labels : Int} {o : Bool} {σ : Sg} (hl : 0 ≤ labels) (hl2 : labels ≤ 2000000) : ACalls Tryz.prog 106 [.v (.int .i64 k), .v (.int .i64 labels), .v (.bool o)] σ fun r σ' => r = .v (.int .i64 (partsN k labels o)) ∧ σ' = σ := by
  have kf := fun σ => k_Forms (σ := σ)
  refine acalls_fit Tryz.func106 (by kernel_rfl) c106 rfl (by simp [a106]) fun hf => ?_
  clear hf
  by_cases h8 : k = 8
  · subst h8
    simp -implicitDefEqProofs (maxSteps := 2000000) (disch := omega) [-getElem?_pos, a106]
    exact .fin _ ⟨rfl, rfl⟩ (.refl _)
  by_cases h14 : k = 14
  · subst h14
    cases o with
    | true =>
      simp -implicitDefEqProofs (maxSteps := 2000000) (disch := omega) [-getElem?_pos, a106]
      exact .fin _ ⟨rfl, rfl⟩ (.refl _)
    | false =>
      simp -implicitDefEqProofs (maxSteps := 2000000) (disch := omega) [-getElem?_pos, a106]
      exact .fin _ ⟨by simp [partsN], rfl⟩ (.refl _)
  simp -implicitDefEqProofs (maxSteps := 2000000) (disch := omega) [-getElem?_pos, a106, h8, h14]
  refine (kf _).mono fun r σ' hr => ?_
  obtain ⟨rfl, rfl⟩ := hr
  cases hk : formT k with
  | none =>
    simp -implicitDefEqProofs (maxSteps := 2000000) (disch := omega) [-getElem?_pos, find_form, forms_ok, hk]
    exact .fin _ ⟨by simp [partsN, h8, h14, hk], rfl⟩ (.refl _)
  | some f =>
    simp -implicitDefEqProofs (maxSteps := 2000000) (disch := omega) [-getElem?_pos, find_form, forms_ok, hk, encF]
    exact .fin _ ⟨by simp [partsN, h8, h14, hk], rfl⟩ (.refl _)
theorem beq_sd {a b : Str} : (a == b) = decide (a = b) := by cases h : decide (a = b) <;> simp at h <;> simp [h]
def isL (s : Str) (k : Int) : Bool := if 20 < s.length then false else match cutL s with
  | .ok [t] => decide (t.k = k) && decide (t.s = s)
  | _ => false
theorem k_Is {s : Str} {k : Int} {σ : Sg} (hs : s.length ≤ 1048576) : ACalls Tryz.prog 110 [.v (.str s), .v (.int .i64 k)] σ fun r σ' => r = .v (.bool (isL s k)) ∧ σ' = σ := by
  have kc := k_Cut (b := s) (σ := σ) hs
  refine acalls_fit Tryz.func110 (by kernel_rfl) c110 rfl (by simp [a110]) fun hf => ?_
  clear hf
  simp -implicitDefEqProofs (maxSteps := 2000000) (disch := omega) [-getElem?_pos, a110]
  refine .mk (fun h => ?_) fun h => ?_
  · simp -implicitDefEqProofs (maxSteps := 2000000) (disch := omega) [-getElem?_pos]
    exact .fin _ ⟨by rw [isL, if_pos (by omega)], rfl⟩ (.refl _)
  have hI : isL s k = match cutL s with
    | .ok [t] => decide (t.k = k) && decide (t.s = s)
    | _ => false := by rw [isL, if_neg (by omega)]
  simp -implicitDefEqProofs (maxSteps := 2000000) (disch := omega) [-getElem?_pos]
  refine ⟨by omega, ?_⟩
  cases hx : cutL s with
  | ok l =>
    rw [hx] at kc hI
    refine (show ACalls Tryz.prog 51 [.v (vBs s)] σ fun r σ' => r = .tup [.v (.sl (some 4) false (l.map encK)), .v .inil] ∧ σ' = σ from kc).then fun r hr => ?_
    subst hr
    match l with
    | [] =>
      simp -implicitDefEqProofs (maxSteps := 2000000) (disch := omega) [-getElem?_pos]
      exact .fin _ ⟨by rw [hI], rfl⟩ (.refl _)
    | [t] =>
      simp -implicitDefEqProofs (maxSteps := 2000000) (disch := omega) [-getElem?_pos, encK]
      refine .mk (fun hq => ?_) fun hq => ?_
      · simp -implicitDefEqProofs (maxSteps := 2000000) (disch := omega) [-getElem?_pos]
        exact .fin _ ⟨by rw [hI]; simp [hq, beq_sd], rfl⟩ (.refl _)
      · simp -implicitDefEqProofs (maxSteps := 2000000) (disch := omega) [-getElem?_pos]
        exact .fin _ ⟨by rw [hI]; simp [hq], rfl⟩ (.refl _)
    | t :: t2 :: l =>
      simp -implicitDefEqProofs (maxSteps := 2000000) (disch := omega) [-getElem?_pos]
      refine .mk (fun hq => absurd hq (by omega)) fun hq => ?_
      simp -implicitDefEqProofs (maxSteps := 2000000) (disch := omega) [-getElem?_pos]
      exact .fin _ ⟨by rw [hI], rfl⟩ (.refl _)
  | bad q =>
    rw [hx] at kc hI
    refine kc.mono fun r σ' hr => ?_
    obtain ⟨o, xs, ts, rfl, rfl, hxs⟩ := hr
    simp -implicitDefEqProofs (maxSteps := 2000000) (disch := omega) [-getElem?_pos]
    exact .fin _ ⟨by rw [hI], rfl⟩ (.refl _)
  | great =>
    rw [hx] at kc hI
    refine (show ACalls Tryz.prog 51 [.v (vBs s)] σ fun r σ' => r = .tup [.v .snil, .v (.iface 32 (.int .i64 6))] ∧ σ' = σ from kc).then fun r hr => ?_
    subst hr
    simp -implicitDefEqProofs (maxSteps := 2000000) (disch := omega) [-getElem?_pos]
    exact .fin _ ⟨by rw [hI], rfl⟩ (.refl _)
theorem k_All1 {s : Str} {k : Int} {o : Nat} {σ : Sg} (hs : s.length ≤ 1048576) (ho : σ.objs[o]? = some (.cells [.v (.int .i64 k)])) : ACalls Tryz.prog 144 [.v (.str s), .ptr o 0] σ fun r σ' => r = .v (.bool (!isL s k)) ∧ σ' = σ := by
  refine acalls_fit Tryz.func144 (by kernel_rfl) c144 rfl (by simp [a144]) fun hf => ?_
  clear hf
  simp -implicitDefEqProofs (maxSteps := 2000000) (disch := omega) [-getElem?_pos, a144, ho]
  refine (k_Is hs).then fun r hr => ?_
  subst hr
  simp -implicitDefEqProofs (maxSteps := 2000000) (disch := omega) [-getElem?_pos]
  exact .fin _ ⟨by simp, rfl⟩ (.refl _)
theorem k_IndexFuncStr {xs : List V} {f : Bool} {fd : D} {p : V → Bool} {σ : Sg} (hp : ∀ x ∈ xs, WCall Tryz.prog fd [.v x] σ fun r σ' => r = .v (.bool (p x)) ∧ σ' = σ) :
    ACalls Tryz.prog 177 [.v (.sl none f xs), fd] σ fun r σ' => r = .v (.int .i64 ((xs.findIdx? p).elim (-1) fun i => (i : Int))) ∧ σ' = σ := by
  refine acalls_fit Tryz.func177 (by kernel_rfl) c177 rfl (by simp [a177]) fun hf => ?_
  simp at hf
  simp -implicitDefEqProofs (maxSteps := 2000000) (disch := omega) [-getElem?_pos, a177]
  refine W_loop (α := Nat) 0 (fun i => xs.length - i) (fun i => ⟨[(0, .v (.sl none f xs)), (1, fd), (7, .v (.int .i64 xs.length)), (8, .v (.int .i64 i))], σ⟩) (fun i => i ≤ xs.length ∧ xs.findIdx? p = ((xs.drop i).findIdx? p).map fun k => k + i)
    (.eq (by simp)) ⟨by omega, by simp⟩ fun i ⟨hi, he⟩ => ?_
  simp -implicitDefEqProofs (maxSteps := 2000000) (disch := omega) [-getElem?_pos]
  refine .mk (fun h => ?_) fun h => ?_
  · simp -implicitDefEqProofs (maxSteps := 2000000) (disch := omega) [-getElem?_pos]
    refine ⟨by omega, fun x hx => ?_⟩
    refine (hp x (List.mem_of_getElem? hx)).then fun r hr => ?_
    subst hr
    have hdc := drop_cons hx
    rw [hdc, List.findIdx?_cons] at he
    simp -implicitDefEqProofs (maxSteps := 2000000) (disch := omega) [-getElem?_pos]
    refine .mk (fun hq => ?_) fun hq => ?_
    · rw [if_pos hq] at he
      simp -implicitDefEqProofs (maxSteps := 2000000) (disch := omega) [-getElem?_pos]
      refine .fin _ ⟨?_, rfl⟩ (.refl _)
      rw [he]
      simp
    · rw [if_neg hq] at he
      simp -implicitDefEqProofs (maxSteps := 2000000) (disch := omega) [-getElem?_pos]
      refine ⟨i + 1, ⟨by omega, ?_⟩, by dsimp only; omega, .eq (by simp)⟩
      rw [he]
      simp only [Option.map_map]
      congr 1
      funext k
      simp only [Function.comp]
      omega
  · simp -implicitDefEqProofs (maxSteps := 2000000) (disch := omega) [-getElem?_pos]
    refine .fin _ ⟨?_, rfl⟩ (.refl _)
    rw [he, List.drop_eq_nil_of_le (by omega)]
    rfl
theorem k_ContainsFuncStr {xs : List V} {f : Bool} {fd : D} {p : V → Bool} {σ : Sg} (hp : ∀ x ∈ xs, WCall Tryz.prog fd [.v x] σ fun r σ' => r = .v (.bool (p x)) ∧ σ' = σ) :
    ACalls Tryz.prog 143 [.v (.sl none f xs), fd] σ fun r σ' => r = .v (.bool (xs.any p)) ∧ σ' = σ := by
  refine acalls_fit Tryz.func143 (by kernel_rfl) c143 rfl (by simp [a143]) fun hf => ?_
  simp -implicitDefEqProofs (maxSteps := 2000000) (disch := omega) [-getElem?_pos, a143]
  refine (k_IndexFuncStr hp).then fun r hr => ?_
  subst hr
  simp -implicitDefEqProofs (maxSteps := 2000000) (disch := omega) [-getElem?_pos]
  refine .fin _ ⟨?_, rfl⟩ (.refl _)
  congr 2
  cases h : xs.findIdx? p with
  | none =>
    have h2 := List.findIdx?_eq_none_iff.1 h
    simp
    exact fun x hx => by simpa using h2 x hx
  | some i =>
    have h2 := List.findIdx?_eq_some_iff_getElem.1 h
    obtain ⟨hlt, hq, _⟩ := h2
    simp
    exact ⟨_, List.getElem_mem hlt, hq⟩
def notIs (k : Int) : V → Bool
  | .str s => !isL s k
  | _ => false
theorem any_is (k : Int) : ∀ l : List Str, (l.map V.str).any (notIs k) = !(l.all fun s => isL s k)
  | [] => rfl
  | s :: l => by rw [List.map_cons, List.any_cons, List.all_cons, any_is k l, Bool.not_and]; rfl
theorem k_All {l : List Str} {k : Int} {σ : Sg} (hs : nsz l ≤ 1048576) : ACalls Tryz.prog 108 [.v (vS l), .v (.int .i64 k)] σ fun r σ' => r = .v (.bool (l.all fun s => isL s k)) ∧ σ' = σ := by
  have hsz : ∀ s ∈ l, s.length ≤ 1048576 := fun s h => by
    have : s.length + 1 ≤ nsz l := by
      clear hs
      induction l with
      | nil => cases h
      | cons x l ih =>
        simp only [nsz]
        rcases List.mem_cons.1 h with rfl | h
        · omega
        · have := ih h; omega
    omega
  refine acalls_fit Tryz.func108 (by kernel_rfl) c108 rfl (by simp [a108]) fun hf => ?_
  clear hf
  simp -implicitDefEqProofs (maxSteps := 2000000) (disch := omega) [-getElem?_pos, a108]
  refine (k_ContainsFuncStr (p := notIs k) (fun x hx => ?_)).then fun r hr => ?_
  · obtain ⟨s, hm, rfl⟩ := List.mem_map.1 hx
    rw [WCall_caps]
    exact k_All1 (hsz s hm) (by simp)
  · rw [any_is] at hr
    subst hr
    simp -implicitDefEqProofs (maxSteps := 2000000) (disch := omega) [-getElem?_pos]
    exact .fin _ ⟨by simp, rfl⟩ (.refl _)
def riseL : List Str → Bool
  | [] => true
  | [_] => true
  | a :: b :: r => decide (a < b) && riseL (b :: r)
theorem riseL_iff : ∀ l : List Str, riseL l = true ↔ ∀ i a b, l[i]? = some a → l[i + 1]? = some b → a < b
  | [] => by simp [riseL]
  | [x] => by simp [riseL]
  | x :: y :: r => by
    rw [riseL, Bool.and_eq_true, decide_eq_true_iff, riseL_iff (y :: r)]
    constructor
    · rintro ⟨h1, h2⟩ i a b ha hb
      cases i with
      | zero => simp at ha hb; subst ha hb; exact h1
      | succ i => exact h2 i a b (by simpa using ha) (by simpa using hb)
    · intro h
      exact ⟨h 0 x y rfl rfl, fun i a b ha hb => h (i + 1) a b (by simpa using ha) (by simpa using hb)⟩
theorem less_eq (x y : Str) : Op.bytesLess x y = decide (x < y) := bytesLess_eq x y
theorem k_Rises {l : List Str} {σ : Sg} : ACalls Tryz.prog 109 [.v (vS l)] σ fun r σ' => r = .v (.bool (riseL l && decide (l.length ≤ 30))) ∧ σ' = σ := by
  refine acalls_fit Tryz.func109 (by kernel_rfl) c109 rfl (by simp [a109]) fun hf => ?_
  simp at hf
  simp -implicitDefEqProofs (maxSteps := 2000000) (disch := omega) [-getElem?_pos, a109]
  refine W_loop (α := Nat) 0 (fun i => l.length - i) (fun i => ⟨[(0, .v (vS l)), (5, .v (.int .i64 l.length)), (6, .v (.int .i64 i))], σ⟩) (fun i => i ≤ l.length ∧ ∀ j a b, j + 1 < i → l[j]? = some a → l[j + 1]? = some b → a < b)
    (.eq (by simp)) ⟨Nat.zero_le _, fun j a b h => by omega⟩ fun i ⟨hi, hr⟩ => ?_
  simp -implicitDefEqProofs (maxSteps := 2000000) (disch := omega) [-getElem?_pos]
  refine .mk (fun h => ?_) fun h => ?_
  · obtain ⟨x, hx⟩ : ∃ x, l[i]? = some x := ⟨l[i], List.getElem?_eq_getElem h⟩
    simp -implicitDefEqProofs (maxSteps := 2000000) (disch := omega) [-getElem?_pos, hx]
    refine .mk (fun h0 => ?_) fun h0 => ?_
    · obtain ⟨y, hy⟩ : ∃ y, l[i - 1]? = some y := ⟨l[i - 1], List.getElem?_eq_getElem (by omega)⟩
      have ei : ((i : Int) - 1).toNat = i - 1 := by omega
      simp -implicitDefEqProofs (maxSteps := 2000000) (disch := omega) [-getElem?_pos, hx, ei, hy]
      refine ⟨by omega, by omega, by omega, ?_⟩
      simp -implicitDefEqProofs (maxSteps := 2000000) (disch := omega) [-getElem?_pos, hx, less_eq]
      refine .mk (fun hq => ?_) fun hq => ?_
      · simp -implicitDefEqProofs (maxSteps := 2000000) (disch := omega) [-getElem?_pos]
        refine ⟨i + 1, ⟨by omega, fun j a b hj ha hb => ?_⟩, by dsimp only; omega, .eq (by simp)⟩
        by_cases hji : j + 1 < i
        · exact hr j a b hji ha hb
        · have : j = i - 1 := by omega
          subst this
          rw [hy] at ha
          rw [show i - 1 + 1 = i by omega, hx] at hb
          cases ha
          cases hb
          exact hq
      · simp -implicitDefEqProofs (maxSteps := 2000000) (disch := omega) [-getElem?_pos]
        have hR : riseL l = false := by
          cases hb : riseL l with
          | false => rfl
          | true => exact absurd ((riseL_iff l).1 hb (i - 1) y x hy (by rw [show i - 1 + 1 = i by omega]; exact hx)) hq
        exact .fin _ ⟨by rw [hR]; rfl, rfl⟩ (.refl _)
    · simp -implicitDefEqProofs (maxSteps := 2000000) (disch := omega) [-getElem?_pos, hx]
      refine ⟨i + 1, ⟨by omega, fun j a b hj => ?_⟩, by dsimp only; omega, .eq (by simp)⟩
      omega
  · simp -implicitDefEqProofs (maxSteps := 2000000) (disch := omega) [-getElem?_pos]
    have hR : riseL l = true := (riseL_iff l).2 fun j a b ha hb => hr j a b (by have := (List.getElem?_eq_some_iff.1 hb).1; omega) ha hb
    refine .fin _ ⟨?_, rfl⟩ (.refl _)
    rw [hR, Bool.true_and]
    congr 2
    simp
    omega
def opsL : List Str := [[43], [45], [42], [47], [60], [61, 61], [94], [35]]
def textB (k : Int) (s : Str) : Bool := if k = 2 then (quoteE s).isSome else match formT k with
  | some f => if f.nm || f.lb then isL s 1 else if f.tg then isL s 3 else if f.op then decide (s ∈ opsL) else decide (s = [])
  | none => decide (s = [])
theorem k_SText {k p n : Int} {s t : Str} {ls ns : List Str} {l : List Ex} {σ : Sg} (hs : s.length ≤ 1048576) : ACalls Tryz.prog 107 [.v (encE (.mk k p n s t ls ns l))] σ fun r σ' => r = .v (.bool (textB k s)) ∧ σ' = σ := by
  have kf := fun σ => k_Forms (σ := σ)
  have kq := fun σ => k_Quote (b := s) (σ := σ) hs
  have ki := fun (k : Int) σ => k_Is (s := s) (k := k) (σ := σ) hs
  have ko : ∀ σ, ACalls Tryz.prog 118 [.v (.sl none true [.str [43], .str [45], .str [42], .str [47], .str [60], .str [61, 61], .str [94], .str [35]]), .v (.str s)] σ fun r σ' => r = .v (.bool (decide (s ∈ opsL))) ∧ σ' = σ := fun σ => (k_ContainsStr (l := opsL) (s := s) (σ := σ)).argA VLe.lax.d
  rw [encE_mk]
  refine acalls_fit Tryz.func107 (by kernel_rfl) c107 rfl (by simp [a107]) fun hf => ?_
  clear hf
  obtain ⟨X, hX⟩ : ∃ X, X = Ob.cells [.v (.int .i64 k), .v (.int .i64 p), .v (.int .i64 n), .v (.str s), .v (.str t), .v (.sl none false (ls.map .str)), .v (.sl none false (ns.map .str)), .v (.sl (some 8) false (l.map encE))] := ⟨_, rfl⟩
  simp -implicitDefEqProofs (maxSteps := 2000000) (disch := omega) [-getElem?_pos, a107]
  rw [← hX]
  have hk2 : textB k s = if k = 2 then (quoteE s).isSome else match formT k with
    | some f => if f.nm || f.lb then isL s 1 else if f.tg then isL s 3 else if f.op then decide (s ∈ opsL) else decide (s = [])
    | none => decide (s = []) := rfl
  generalize textB k s = B at hk2 ⊢
  refine ⟨(kf _).mono fun r σ' hr => ?_, (kf _).mono fun r σ' hr => ?_⟩
  all_goals
    obtain ⟨rfl, rfl⟩ := hr
    by_cases h2 : k = 2
    · subst h2
      rw [if_pos rfl] at hk2
      simp -implicitDefEqProofs (maxSteps := 2000000) (disch := omega) [-getElem?_pos, find_form, forms_ok, show formT 2 = some ⟨0, false, false, false, false⟩ from rfl, encF, hX]
      refine (kq _).then fun r hr => ?_
      cases hqe : quoteE s with
      | none =>
        rw [hqe] at hr hk2
        unfold QPost at hr
        dsimp only at hr
        subst hr
        simp -implicitDefEqProofs (maxSteps := 2000000) (disch := omega) [-getElem?_pos]
        exact .fin (.v (.bool false)) ⟨by rw [hk2]; rfl, rfl⟩ (.refl _)
      | some z =>
        rw [hqe] at hr hk2
        unfold QPost at hr
        dsimp only at hr
        subst hr
        simp -implicitDefEqProofs (maxSteps := 2000000) (disch := omega) [-getElem?_pos]
        exact .fin (.v (.bool true)) ⟨by rw [hk2]; rfl, rfl⟩ (.refl _)
    rw [if_neg h2] at hk2
    have hse : List.isEmpty s = decide (s = []) := by cases s <;> simp
    cases hk : formT k with
    | none =>
      rw [hk] at hk2
      simp -implicitDefEqProofs (maxSteps := 2000000) (disch := omega) [-getElem?_pos, find_form, forms_ok, hk, hX, h2]
      exact .fin (.v (.bool (List.isEmpty s))) ⟨by rw [hk2, hse], rfl⟩ (.refl _)
    | some f =>
      obtain ⟨q, nm, lb, tg, op⟩ := f
      rw [hk] at hk2
      cases nm with
      | true =>
        cases lb <;> cases tg <;> cases op
        all_goals
          simp only [Bool.or_false, Bool.or_true, Bool.or_self, Bool.true_or, Bool.false_or, Bool.false_eq_true, if_true, if_false] at hk2
          simp -implicitDefEqProofs (maxSteps := 2000000) (disch := omega) [-getElem?_pos, find_form, forms_ok, hk, encF, hX, h2]
          refine (ki 1 _).then fun r hr => ?_
          subst hr
          simp -implicitDefEqProofs (maxSteps := 2000000) (disch := omega) [-getElem?_pos]
          exact .fin (.v (.bool (isL s 1))) ⟨by rw [hk2], rfl⟩ (.refl _)
      | false =>
      cases lb with
      | true =>
        cases tg <;> cases op
        all_goals
          simp only [Bool.or_false, Bool.or_true, Bool.or_self, Bool.true_or, Bool.false_or, Bool.false_eq_true, if_true, if_false] at hk2
          simp -implicitDefEqProofs (maxSteps := 2000000) (disch := omega) [-getElem?_pos, find_form, forms_ok, hk, encF, hX, h2]
          refine (ki 1 _).then fun r hr => ?_
          subst hr
          simp -implicitDefEqProofs (maxSteps := 2000000) (disch := omega) [-getElem?_pos]
          exact .fin (.v (.bool (isL s 1))) ⟨by rw [hk2], rfl⟩ (.refl _)
      | false =>
      cases tg with
      | true =>
        cases op
        all_goals
          simp only [Bool.or_false, Bool.or_true, Bool.or_self, Bool.true_or, Bool.false_or, Bool.false_eq_true, if_true, if_false] at hk2
          simp -implicitDefEqProofs (maxSteps := 2000000) (disch := omega) [-getElem?_pos, find_form, forms_ok, hk, encF, hX, h2]
          refine (ki 3 _).then fun r hr => ?_
          subst hr
          simp -implicitDefEqProofs (maxSteps := 2000000) (disch := omega) [-getElem?_pos]
          exact .fin (.v (.bool (isL s 3))) ⟨by rw [hk2], rfl⟩ (.refl _)
      | false =>
      cases op with
      | true =>
        simp only [Bool.or_false, Bool.or_true, Bool.or_self, Bool.true_or, Bool.false_or, Bool.false_eq_true, if_true, if_false] at hk2
        simp -implicitDefEqProofs (maxSteps := 2000000) (disch := omega) [-getElem?_pos, find_form, forms_ok, hk, encF, hX, h2]
        refine (ko _).then fun r hr => ?_
        subst hr
        simp -implicitDefEqProofs (maxSteps := 2000000) (disch := omega) [-getElem?_pos]
        exact .fin (.v (.bool (decide (s ∈ opsL)))) ⟨by rw [hk2], rfl⟩ (.refl _)
      | false =>
        simp only [Bool.or_false, Bool.or_true, Bool.or_self, Bool.true_or, Bool.false_or, Bool.false_eq_true, if_true, if_false] at hk2
        simp -implicitDefEqProofs (maxSteps := 2000000) (disch := omega) [-getElem?_pos, find_form, forms_ok, hk, encF, hX, h2]
        exact .fin (.v (.bool (List.isEmpty s))) ⟨by rw [hk2, hse], rfl⟩ (.refl _)
def ownB : Ex → Bool
  | .mk k p n s t ls ns l =>
    if (l.length : Int) ≠ partsN k ls.length (decide (t ≠ [])) ∨ n < 0 ∨ (0 < n ∧ k ≠ 1) ∨ textB k s = false then false
    else if k = 8 then (ls.all fun s => isL s 1) && (riseL ls && decide (ls.length ≤ 30)) && decide (ns.length = 0) && decide (t = [])
    else if k = 14 then (ls.all fun s => isL s 3) && (riseL ls && decide (ls.length ≤ 30)) && decide (ns.length = ls.length) && (ns.all fun s => isL s 1) && (decide (t = []) || isL t 1) && decide (1 < l.length)
    else if k = 7 then isL t 1 && decide (ls.length + ns.length = 0)
    else decide (t = []) && decide (ls.length + ns.length = 0)
theorem k_Own {e : Ex} {σ : Sg} (he : csz e ≤ 1048576) : ACalls Tryz.prog 72 [.v (encE e)] σ fun r σ' => r = .v (.bool (ownB e)) ∧ σ' = σ := by
  cases e with
  | mk k p n s t ls ns l =>
  have hB : ownB (.mk k p n s t ls ns l) = if (l.length : Int) ≠ partsN k ls.length (decide (t ≠ [])) ∨ n < 0 ∨ (0 < n ∧ k ≠ 1) ∨ textB k s = false then false
    else if k = 8 then (ls.all fun s => isL s 1) && (riseL ls && decide (ls.length ≤ 30)) && decide (ns.length = 0) && decide (t = [])
    else if k = 14 then (ls.all fun s => isL s 3) && (riseL ls && decide (ls.length ≤ 30)) && decide (ns.length = ls.length) && (ns.all fun s => isL s 1) && (decide (t = []) || isL t 1) && decide (1 < l.length)
    else if k = 7 then isL t 1 && decide (ls.length + ns.length = 0)
    else decide (t = []) && decide (ls.length + ns.length = 0) := rfl
  simp only [csz] at he
  have hn1 := nsz_len ls
  have hn2 := nsz_len ns
  have hll := cszL_len l
  generalize ownB (.mk k p n s t ls ns l) = B at hB ⊢
  have kp := fun o σ => k_Parts (k := k) (labels := ls.length) (o := o) (σ := σ) (by omega) (by omega)
  have kt := fun σ => k_SText (k := k) (p := p) (n := n) (s := s) (t := t) (ls := ls) (ns := ns) (l := l) (σ := σ) (by omega)
  have ka := fun k σ => k_All (l := ls) (k := k) (σ := σ) (by omega)
  have kn := fun k σ => k_All (l := ns) (k := k) (σ := σ) (by omega)
  have kr := fun σ => k_Rises (l := ls) (σ := σ)
  have ki := fun k σ => k_Is (s := t) (k := k) (σ := σ) (by omega)
  rw [encE_mk] at kt ⊢
  have hte : (!List.isEmpty t) = decide (t ≠ []) := by cases t <;> simp
  have hte2 : List.isEmpty t = decide (t = []) := by cases t <;> simp
  have hz : ((ls.length : Int) + ns.length == 0) = decide (ls.length + ns.length = 0) := by rw [Bool.eq_iff_iff, beq_iff_eq, decide_eq_true_iff]; omega
  refine acalls_fit Tryz.func72 (by kernel_rfl) c72 rfl (by simp [a72]) fun hf => ?_
  clear hf
  rw [← hte] at hB
  simp -implicitDefEqProofs (maxSteps := 2000000) (disch := omega) [-getElem?_pos, a72]
  refine (kp _ _).then fun r hr => ?_
  subst hr
  obtain ⟨P, hP⟩ : ∃ P, P = partsN k ls.length (!List.isEmpty t) := ⟨_, rfl⟩
  rw [← hP] at hB ⊢
  by_cases h1 : (l.length : Int) = P
  rotate_left
  · rw [if_pos (.inl h1)] at hB
    simp -implicitDefEqProofs (maxSteps := 2000000) (disch := omega) [-getElem?_pos, h1]
    exact .fin (.v (.bool false)) ⟨by rw [hB], rfl⟩ (.refl _)
  by_cases h2 : n < 0
  · rw [if_pos (.inr (.inl h2))] at hB
    simp -implicitDefEqProofs (maxSteps := 2000000) (disch := omega) [-getElem?_pos, h1, h2]
    exact .fin (.v (.bool false)) ⟨by rw [hB], rfl⟩ (.refl _)
  by_cases h3 : 0 < n
  · by_cases h4 : k = 1
    rotate_left
    · rw [if_pos (.inr (.inr (.inl ⟨h3, h4⟩)))] at hB
      simp -implicitDefEqProofs (maxSteps := 2000000) (disch := omega) [-getElem?_pos, h1, h2, h3, h4]
      exact .fin (.v (.bool false)) ⟨by rw [hB], rfl⟩ (.refl _)
    subst h4
    simp -implicitDefEqProofs (maxSteps := 2000000) (disch := omega) [-getElem?_pos, h1, h2, h3]
    refine (kt _).then fun r hr => ?_
    subst hr
    cases hT : textB 1 s with
    | false =>
      rw [if_pos (.inr (.inr (.inr hT)))] at hB
      simp -implicitDefEqProofs (maxSteps := 2000000) (disch := omega) [-getElem?_pos]
      exact .fin (.v (.bool false)) ⟨by rw [hB], rfl⟩ (.refl _)
    | true =>
      rw [if_neg (by simp [h1, h2, hT]), if_neg (by decide), if_neg (by decide), if_neg (by decide)] at hB
      simp -implicitDefEqProofs (maxSteps := 2000000) (disch := omega) [-getElem?_pos]
      refine .mk (fun ht => ?_) fun ht => ?_
      · simp -implicitDefEqProofs (maxSteps := 2000000) (disch := omega) [-getElem?_pos, ht]
        exact .fin (.v (.bool ((ls.length : Int) + ns.length == 0))) ⟨by rw [hB, hz]; simp [ht], rfl⟩ (.refl _)
      · simp -implicitDefEqProofs (maxSteps := 2000000) (disch := omega) [-getElem?_pos, ht]
        exact .fin (.v (.bool false)) ⟨by rw [hB]; simp [ht], rfl⟩ (.refl _)
  · simp -implicitDefEqProofs (maxSteps := 2000000) (disch := omega) [-getElem?_pos, h1, h2, h3]
    refine (kt _).then fun r hr => ?_
    subst hr
    cases hT : textB k s with
    | false =>
      rw [if_pos (.inr (.inr (.inr hT)))] at hB
      simp -implicitDefEqProofs (maxSteps := 2000000) (disch := omega) [-getElem?_pos]
      exact .fin (.v (.bool false)) ⟨by rw [hB], rfl⟩ (.refl _)
    | true =>
      rw [if_neg (by simp [h1, h2, h3, hT])] at hB
      by_cases h8 : k = 8
      · rw [if_pos h8] at hB
        subst h8
        simp -implicitDefEqProofs (maxSteps := 2000000) (disch := omega) [-getElem?_pos]
        refine (ka 1 _).then fun r hr => ?_
        subst hr
        cases hc0 : ls.all fun s => isL s 1 with
        | false =>
          rw [hc0] at hB
          simp -implicitDefEqProofs (maxSteps := 2000000) (disch := omega) [-getElem?_pos]
          exact .fin (.v (.bool false)) ⟨by rw [hB]; simp, rfl⟩ (.refl _)
        | true =>
          rw [hc0] at hB
          simp -implicitDefEqProofs (maxSteps := 2000000) (disch := omega) [-getElem?_pos]
          refine (kr _).then fun r hr => ?_
          subst hr
          cases hc2 : riseL ls && decide (ls.length ≤ 30) with
          | false =>
            rw [hc2] at hB
            simp -implicitDefEqProofs (maxSteps := 2000000) (disch := omega) [-getElem?_pos]
            exact .fin (.v (.bool false)) ⟨by rw [hB]; simp, rfl⟩ (.refl _)
          | true =>
            rw [hc2] at hB
            simp -implicitDefEqProofs (maxSteps := 2000000) (disch := omega) [-getElem?_pos]
            refine .mk (fun hz1 => ?_) fun hz1 => ?_
            · simp -implicitDefEqProofs (maxSteps := 2000000) (disch := omega) [-getElem?_pos, hz1]
              exact .fin (.v (.bool (List.isEmpty t))) ⟨by rw [hB, hte2]; simp [hz1], rfl⟩ (.refl _)
            · simp -implicitDefEqProofs (maxSteps := 2000000) (disch := omega) [-getElem?_pos, hz1]
              exact .fin (.v (.bool false)) ⟨by rw [hB]; simp [hz1], rfl⟩ (.refl _)
      rw [if_neg h8] at hB
      by_cases h14 : k = 14
      · rw [if_pos h14] at hB
        subst h14
        simp -implicitDefEqProofs (maxSteps := 2000000) (disch := omega) [-getElem?_pos]
        refine (ka 3 _).then fun r hr => ?_
        subst hr
        cases hc0 : ls.all fun s => isL s 3 with
        | false =>
          rw [hc0] at hB
          simp -implicitDefEqProofs (maxSteps := 2000000) (disch := omega) [-getElem?_pos]
          exact .fin (.v (.bool false)) ⟨by rw [hB]; simp, rfl⟩ (.refl _)
        | true =>
          rw [hc0] at hB
          simp -implicitDefEqProofs (maxSteps := 2000000) (disch := omega) [-getElem?_pos]
          refine (kr _).then fun r hr => ?_
          subst hr
          cases hc2 : riseL ls && decide (ls.length ≤ 30) with
          | false =>
            rw [hc2] at hB
            simp -implicitDefEqProofs (maxSteps := 2000000) (disch := omega) [-getElem?_pos]
            exact .fin (.v (.bool false)) ⟨by rw [hB]; simp, rfl⟩ (.refl _)
          | true =>
            rw [hc2] at hB
            simp -implicitDefEqProofs (maxSteps := 2000000) (disch := omega) [-getElem?_pos]
            refine .mk (fun he1 => ?_) fun he1 => ?_
            rotate_left
            · simp -implicitDefEqProofs (maxSteps := 2000000) (disch := omega) [-getElem?_pos, he1]
              exact .fin (.v (.bool false)) ⟨by rw [hB]; have : ¬ ns.length = ls.length := fun h => he1 (by rw [h]); simp [this], rfl⟩ (.refl _)
            have he2 : ns.length = ls.length := by omega
            simp -implicitDefEqProofs (maxSteps := 2000000) (disch := omega) [-getElem?_pos, he1]
            refine (kn 1 _).then fun r hr => ?_
            subst hr
            cases hcn : ns.all fun s => isL s 1 with
            | false =>
              rw [hcn] at hB
              simp -implicitDefEqProofs (maxSteps := 2000000) (disch := omega) [-getElem?_pos]
              exact .fin (.v (.bool false)) ⟨by rw [hB]; simp, rfl⟩ (.refl _)
            | true =>
              rw [hcn] at hB
              simp -implicitDefEqProofs (maxSteps := 2000000) (disch := omega) [-getElem?_pos]
              refine .mk (fun ht => ?_) fun ht => ?_
              · simp -implicitDefEqProofs (maxSteps := 2000000) (disch := omega) [-getElem?_pos, ht]
                exact .fin (.v (.bool (decide (1 < (l.length : Int))))) ⟨by rw [hB]; simp [ht, he2]; omega, rfl⟩ (.refl _)
              · simp -implicitDefEqProofs (maxSteps := 2000000) (disch := omega) [-getElem?_pos, ht]
                refine (ki 1 _).then fun r hr => ?_
                subst hr
                cases hct : isL t 1 with
                | false =>
                  rw [hct] at hB
                  simp -implicitDefEqProofs (maxSteps := 2000000) (disch := omega) [-getElem?_pos]
                  exact .fin (.v (.bool false)) ⟨by rw [hB]; simp [ht], rfl⟩ (.refl _)
                | true =>
                  rw [hct] at hB
                  simp -implicitDefEqProofs (maxSteps := 2000000) (disch := omega) [-getElem?_pos]
                  exact .fin (.v (.bool (decide (1 < (l.length : Int))))) ⟨by rw [hB]; simp [he2]; omega, rfl⟩ (.refl _)
      rw [if_neg h14] at hB
      by_cases h7 : k = 7
      · rw [if_pos h7] at hB
        subst h7
        simp -implicitDefEqProofs (maxSteps := 2000000) (disch := omega) [-getElem?_pos]
        refine (ki 1 _).then fun r hr => ?_
        subst hr
        cases hc0 : isL t 1 with
        | false =>
          rw [hc0] at hB
          simp -implicitDefEqProofs (maxSteps := 2000000) (disch := omega) [-getElem?_pos]
          exact .fin (.v (.bool false)) ⟨by rw [hB]; simp, rfl⟩ (.refl _)
        | true =>
          rw [hc0] at hB
          simp -implicitDefEqProofs (maxSteps := 2000000) (disch := omega) [-getElem?_pos]
          exact .fin (.v (.bool ((ls.length : Int) + ns.length == 0))) ⟨by rw [hB, hz]; simp, rfl⟩ (.refl _)
      rw [if_neg h7] at hB
      simp -implicitDefEqProofs (maxSteps := 2000000) (disch := omega) [-getElem?_pos, h8, h14, h7]
      refine .mk (fun ht => ?_) fun ht => ?_
      · simp -implicitDefEqProofs (maxSteps := 2000000) (disch := omega) [-getElem?_pos, ht]
        exact .fin (.v (.bool ((ls.length : Int) + ns.length == 0))) ⟨by rw [hB, hz]; simp [ht], rfl⟩ (.refl _)
      · simp -implicitDefEqProofs (maxSteps := 2000000) (disch := omega) [-getElem?_pos, ht]
        exact .fin (.v (.bool false)) ⟨by rw [hB]; simp [ht], rfl⟩ (.refl _)
theorem k_IndexFuncEx {xs : List Ex} {f : Bool} {fd : D} {p : Ex → Bool} {σ : Sg} (hp : ∀ x ∈ xs, WCall Tryz.prog fd [.v (encE x)] σ fun r σ' => r = .v (.bool (p x)) ∧ σ' = σ) :
    ACalls Tryz.prog 111 [.v (.sl (some 8) f (xs.map encE)), fd] σ fun r σ' => r = .v (.int .i64 ((xs.findIdx? p).elim (-1) fun i => (i : Int))) ∧ σ' = σ := by
  refine acalls_fit Tryz.func111 (by kernel_rfl) c111 rfl (by simp [a111]) fun hf => ?_
  simp at hf
  simp -implicitDefEqProofs (maxSteps := 2000000) (disch := omega) [-getElem?_pos, a111]
  refine W_loop (α := Nat) 0 (fun i => xs.length - i) (fun i => ⟨[(0, .v (.sl (some 8) f (xs.map encE))), (1, fd), (7, .v (.int .i64 xs.length)), (8, .v (.int .i64 i))], σ⟩) (fun i => i ≤ xs.length ∧ xs.findIdx? p = ((xs.drop i).findIdx? p).map fun k => k + i)
    (.eq (by simp)) ⟨by omega, by simp⟩ fun i ⟨hi, he⟩ => ?_
  simp -implicitDefEqProofs (maxSteps := 2000000) (disch := omega) [-getElem?_pos]
  refine .mk (fun h => ?_) fun h => ?_
  · simp -implicitDefEqProofs (maxSteps := 2000000) (disch := omega) [-getElem?_pos]
    refine ⟨by omega, fun x hx => ?_⟩
    refine (hp x (List.mem_of_getElem? hx)).then fun r hr => ?_
    subst hr
    have hdc := drop_cons hx
    rw [hdc, List.findIdx?_cons] at he
    simp -implicitDefEqProofs (maxSteps := 2000000) (disch := omega) [-getElem?_pos]
    refine .mk (fun hq => ?_) fun hq => ?_
    · rw [if_pos hq] at he
      simp -implicitDefEqProofs (maxSteps := 2000000) (disch := omega) [-getElem?_pos]
      refine .fin _ ⟨?_, rfl⟩ (.refl _)
      rw [he]
      simp
    · rw [if_neg hq] at he
      simp -implicitDefEqProofs (maxSteps := 2000000) (disch := omega) [-getElem?_pos]
      refine ⟨i + 1, ⟨by omega, ?_⟩, by dsimp only; omega, .eq (by simp)⟩
      rw [he]
      simp only [Option.map_map]
      congr 1
      funext k
      simp only [Function.comp]
      omega
  · simp -implicitDefEqProofs (maxSteps := 2000000) (disch := omega) [-getElem?_pos]
    refine .fin _ ⟨?_, rfl⟩ (.refl _)
    rw [he, List.drop_eq_nil_of_le (by omega)]
    rfl
theorem k_ContainsFuncEx {xs : List Ex} {f : Bool} {fd : D} {p : Ex → Bool} {σ : Sg} (hp : ∀ x ∈ xs, WCall Tryz.prog fd [.v (encE x)] σ fun r σ' => r = .v (.bool (p x)) ∧ σ' = σ) :
    ACalls Tryz.prog 73 [.v (.sl (some 8) f (xs.map encE)), fd] σ fun r σ' => r = .v (.bool (xs.any p)) ∧ σ' = σ := by
  refine acalls_fit Tryz.func73 (by kernel_rfl) c73 rfl (by simp [a73]) fun hf => ?_
  simp -implicitDefEqProofs (maxSteps := 2000000) (disch := omega) [-getElem?_pos, a73]
  refine (k_IndexFuncEx hp).then fun r hr => ?_
  subst hr
  simp -implicitDefEqProofs (maxSteps := 2000000) (disch := omega) [-getElem?_pos]
  refine .fin _ ⟨?_, rfl⟩ (.refl _)
  congr 2
  cases h : xs.findIdx? p with
  | none =>
    have h2 := List.findIdx?_eq_none_iff.1 h
    simp
    exact fun x hx => by simpa using h2 x hx
  | some i =>
    have h2 := List.findIdx?_eq_some_iff_getElem.1 h
    obtain ⟨hlt, hq, _⟩ := h2
    simp
    exact ⟨_, List.getElem_mem hlt, hq⟩
mutual
def fineB : Ex → Bool
  | .mk k p n s t ls ns l => ownB (.mk k p n s t ls ns l) && fineLB l
def fineLB : List Ex → Bool
  | [] => true
  | x :: l => fineB x && fineLB l
end
theorem any_fine : ∀ l : List Ex, l.any (fun x => !fineB x) = !fineLB l
  | [] => rfl
  | x :: l => by rw [List.any_cons, any_fine l, fineLB, Bool.not_and]
theorem k_Fine1 {e : Ex} {σ : Sg} (hF : ∀ σ, ACalls Tryz.prog 47 [.v (encE e)] σ fun r σ' => r = .v (.bool (fineB e)) ∧ σ' = σ) : ACalls Tryz.prog 74 [.v (encE e)] σ fun r σ' => r = .v (.bool (!fineB e)) ∧ σ' = σ := by
  obtain ⟨b, hb⟩ : ∃ b, b = fineB e := ⟨_, rfl⟩
  rw [← hb] at hF ⊢
  cases e with
  | mk k p n s t ls ns l =>
  rw [encE_mk] at hF ⊢
  refine acalls_fit Tryz.func74 (by kernel_rfl) c74 rfl (by simp [a74]) fun hf => ?_
  clear hf
  simp -implicitDefEqProofs (maxSteps := 2000000) (disch := omega) [-getElem?_pos, a74]
  refine (hF _).then fun r hr => ?_
  subst hr
  simp -implicitDefEqProofs (maxSteps := 2000000) (disch := omega) [-getElem?_pos]
  exact .fin _ ⟨rfl, rfl⟩ (.refl _)
theorem k_Fine (e : Ex) : ∀ {σ : Sg}, csz e ≤ 1048576 → ACalls Tryz.prog 47 [.v (encE e)] σ fun r σ' => r = .v (.bool (fineB e)) ∧ σ' = σ := by
  refine Ex.ind (P := fun e => ∀ {σ : Sg}, csz e ≤ 1048576 → ACalls Tryz.prog 47 [.v (encE e)] σ fun r σ' => r = .v (.bool (fineB e)) ∧ σ' = σ) (fun k p n s t ls ns l ih => ?_) e
  intro σ he
  have ko := fun σ => k_Own (e := .mk k p n s t ls ns l) (σ := σ) he
  have hB : fineB (.mk k p n s t ls ns l) = (ownB (.mk k p n s t ls ns l) && fineLB l) := by rw [fineB]
  generalize fineB (.mk k p n s t ls ns l) = B at hB ⊢
  generalize ownB (.mk k p n s t ls ns l) = O at hB ko
  have hsz : ∀ x ∈ l, csz x ≤ 1048576 := fun x hx => by
    have := cszL_mem hx
    simp only [csz] at he
    omega
  have kc := fun σ => k_ContainsFuncEx (xs := l) (f := false) (fd := .v (.fn 74)) (p := fun x => !fineB x) (σ := σ) fun x hx => by
    rw [WCall_fn]
    exact k_Fine1 fun σ => ih x hx (hsz x hx)
  rw [encE_mk] at ko ⊢
  refine acalls_fit Tryz.func47 (by kernel_rfl) c47 rfl (by simp [a47]) fun hf => ?_
  clear hf
  simp -implicitDefEqProofs (maxSteps := 2000000) (disch := omega) [-getElem?_pos, a47]
  refine (ko _).then fun r hr => ?_
  subst hr
  cases O with
  | false =>
    simp -implicitDefEqProofs (maxSteps := 2000000) (disch := omega) [-getElem?_pos]
    exact .fin (.v (.bool false)) ⟨by rw [hB]; simp, rfl⟩ (.refl _)
  | true =>
    simp -implicitDefEqProofs (maxSteps := 2000000) (disch := omega) [-getElem?_pos]
    refine (kc _).then fun r hr => ?_
    rw [any_fine] at hr
    subst hr
    simp -implicitDefEqProofs (maxSteps := 2000000) (disch := omega) [-getElem?_pos]
    exact .fin (.v (.bool (fineLB l))) ⟨by rw [hB]; simp, rfl⟩ (by simp)
def mayB (e : Ex) : Bool := decide (dep e ≤ 60) && (decide (nds e ≤ 1500) && fineB e)
theorem k_May {e : Ex} {σ : Sg} (he : csz e ≤ 1048576) : ACalls Tryz.prog 23 [.v (encE e)] σ fun r σ' => r = .v (.bool (mayB e)) ∧ σ' = σ := by
  have kd := fun σ => k_Depth e (σ := σ) he
  have kn := fun σ => k_Nodes e (σ := σ) he
  have kf := fun σ => k_Fine e (σ := σ) he
  have hB : mayB e = (decide (dep e ≤ 60) && (decide (nds e ≤ 1500) && fineB e)) := rfl
  generalize mayB e = B at hB ⊢
  generalize fineB e = F at hB kf
  generalize dep e = d at hB kd
  generalize nds e = m at hB kn
  cases e with
  | mk k p n s t ls ns l =>
  rw [encE_mk] at kd kn kf ⊢
  refine acalls_fit Tryz.func23 (by kernel_rfl) c23 rfl (by simp [a23]) fun hf => ?_
  clear hf
  simp -implicitDefEqProofs (maxSteps := 2000000) (disch := omega) [-getElem?_pos, a23]
  refine (kd _).then fun r hr => ?_
  subst hr
  simp -implicitDefEqProofs (maxSteps := 2000000) (disch := omega) [-getElem?_pos]
  refine .mk (fun h1 => ?_) fun h1 => ?_
  rotate_left
  · simp -implicitDefEqProofs (maxSteps := 2000000) (disch := omega) [-getElem?_pos]
    exact .fin (.v (.bool false)) ⟨by rw [hB]; simp; intros; omega, rfl⟩ (.refl _)
  simp -implicitDefEqProofs (maxSteps := 2000000) (disch := omega) [-getElem?_pos]
  refine (kn _).then fun r hr => ?_
  subst hr
  simp -implicitDefEqProofs (maxSteps := 2000000) (disch := omega) [-getElem?_pos]
  refine .mk (fun h2 => ?_) fun h2 => ?_
  rotate_left
  · simp -implicitDefEqProofs (maxSteps := 2000000) (disch := omega) [-getElem?_pos]
    exact .fin (.v (.bool false)) ⟨by rw [hB]; simp; intros; omega, rfl⟩ (.refl _)
  simp -implicitDefEqProofs (maxSteps := 2000000) (disch := omega) [-getElem?_pos]
  refine (kf _).then fun r hr => ?_
  subst hr
  simp -implicitDefEqProofs (maxSteps := 2000000) (disch := omega) [-getElem?_pos]
  exact .fin (.v (.bool F)) ⟨by rw [hB, decide_eq_true (by omega : d ≤ 60), decide_eq_true (by omega : m ≤ 1500)]; simp, rfl⟩ (.refl _)
theorem tok_name {b : Str} {i : Nat} {c : UInt8} {t : Tk} {to : Nat} (h : oneL b i c = .tok t to) (hk : t.k = 1 ∨ t.k = 3) : (lowB c = true ∨ uppB c = true) ∧ ∃ q, t.s = passS q b i ∧ to = spanE q b i := by
  unfold oneL at h
  split at h
  · rename_i hl
    unfold nameN at h
    split at h
    · cases h
    · cases h
      exact ⟨.inl hl, _, rfl, rfl⟩
  · split at h
    · rename_i hu
      unfold nameN at h
      split at h
      · cases h
      · cases h
        exact ⟨.inr hu, _, rfl, rfl⟩
    · split at h
      · unfold numN at h
        split at h
        · cases h
        · cases h
          rcases hk with hk | hk <;> (dsimp only at hk; omega)
      · split at h
        · cases ht : textL (b.drop (i + 1)) (i + 1) [] with
          | bad q => rw [ht] at h; cases h
          | ok s e =>
            rw [ht] at h
            unfold textN at h
            dsimp only at h
            split at h
            · cases h
            · cases h
              rcases hk with hk | hk <;> (dsimp only at hk; omega)
        · unfold signN at h
          split at h
          · cases h
          · cases h
            rcases hk with hk | hk <;> (dsimp only at hk; omega)
theorem letter_bla {c : UInt8} (h : lowB c = true ∨ uppB c = true) : blaB c = false := by
  unfold lowB uppB at h
  unfold blaB
  simp only [Bool.and_eq_true, decide_eq_true_eq, Bool.or_eq_false_iff, decide_eq_false_iff_not] at h ⊢
  omega
def Runs : Str → Nat → List Tk → Prop
  | b, i, [] => b[spanE blaB b i]? = none
  | b, i, t :: r => ∃ c to, b[spanE blaB b i]? = some c ∧ oneL b (spanE blaB b i) c = .tok t to ∧ Runs b to r
theorem cutF_runs {b : Str} : ∀ (f i : Nat) (acc l : List Tk), cutF f b i acc = .ok l → ∃ r, l = acc ++ r ∧ Runs b i r
  | 0, i, acc, l, h => by cases h
  | f + 1, i, acc, l, h => by
    rw [cutF] at h
    cases hc : b[spanE blaB b i]? with
    | none => rw [hc] at h; cases h; exact ⟨[], by simp, hc⟩
    | some c =>
      rw [hc] at h
      dsimp only at h
      cases ho : oneL b (spanE blaB b i) c with
      | bad q => rw [ho] at h; cases h
      | tok t to =>
        rw [ho] at h
        obtain ⟨r, hr, hR⟩ := cutF_runs f to _ l h
        exact ⟨t :: r, by rw [hr]; simp, c, to, hc, ho, hR⟩
def isR (s : Str) (k : Int) : Bool := match s with
  | [] => false
  | c :: r => if 20 < (c :: r).length then false else match oneL (c :: r) 0 c with
    | .tok t to => decide (to = (c :: r).length) && decide (t.k = k)
    | .bad _ => false
theorem passS_full {q : UInt8 → Bool} {b : Str} (h : (passS q b 0).length = b.length) : passS q b 0 = b := by
  have h1 : (passS q b 0) <+: b := by
    unfold passS
    rw [List.drop_zero]
    exact List.takeWhile_prefix q
  exact h1.eq_of_length h
theorem isR_imp {s : Str} {k : Int} (hk : k = 1 ∨ k = 3) (h : isR s k = true) : isL s k = true := by
  cases s with
  | nil => cases h
  | cons c r =>
    unfold isR at h
    dsimp only at h
    by_cases hl : 20 < (c :: r).length
    · rw [if_pos hl] at h
      cases h
    rw [if_neg hl] at h
    unfold isL
    rw [if_neg hl]
    have h0 : (c :: r)[0]? = some c := rfl
    have hpos : ∃ m, (c :: r).length = m + 1 := ⟨r.length, rfl⟩
    generalize c :: r = s at *
    cases ho : oneL s 0 c with
    | bad q => rw [ho] at h; cases h
    | tok t to =>
      rw [ho] at h
      simp only [Bool.and_eq_true, decide_eq_true_eq] at h
      obtain ⟨hto, htk⟩ := h
      obtain ⟨hlet, q, hts, hspan⟩ := tok_name ho (by rw [htk]; exact hk)
      have hfull : passS q s 0 = s := passS_full (by unfold spanE at hspan; unfold passS; omega)
      have hcut : cutL s = .ok [t] := by
        obtain ⟨m, hm⟩ := hpos
        unfold cutL
        rw [if_neg (by omega), cutF, spanE_miss h0 (letter_bla hlet), h0]
        dsimp only
        rw [ho]
        dsimp only
        rw [hm, cutF, spanE_end (by omega), List.getElem?_eq_none (by omega)]
        rfl
      rw [hcut]
      simp [htk, hts, hfull]
theorem isL_imp {s : Str} {k : Int} (hk : k = 1 ∨ k = 3) (h : isL s k = true) : isR s k = true := by
  unfold isL at h
  split at h
  · cases h
  rename_i hl
  split at h
  · rename_i t hcut
    simp only [Bool.and_eq_true, decide_eq_true_eq] at h
    obtain ⟨htk, hts⟩ := h
    unfold cutL at hcut
    split at hcut
    · cases hcut
    obtain ⟨r, hr, hR⟩ := cutF_runs _ 0 [] _ hcut
    rw [List.nil_append] at hr
    subst hr
    obtain ⟨c, to, hc, ho, _⟩ := hR
    obtain ⟨hlet, q, hp, hspan⟩ := tok_name ho (by rw [htk]; exact hk)
    have hlt := (List.getElem?_eq_some_iff.1 hc).1
    have hle : (passS q s (spanE blaB s 0)).length ≤ s.length - spanE blaB s 0 := by
      unfold passS
      have h1 : ((s.drop (spanE blaB s 0)).takeWhile q).length ≤ (s.drop (spanE blaB s 0)).length := (List.takeWhile_prefix q).length_le
      rw [List.length_drop] at h1
      exact h1
    rw [← hp, hts] at hle
    have hj : spanE blaB s 0 = 0 := by omega
    rw [hj] at hc ho hp hspan
    have hto : to = s.length := by
      have h1 : spanE q s 0 = 0 + (passS q s 0).length := rfl
      rw [← hp, hts] at h1
      omega
    cases s with
    | nil => simp at hlt
    | cons c' r =>
      have hcc : c' = c := Option.some.inj hc
      subst hcc
      unfold isR
      dsimp only
      rw [if_neg hl, ho]
      simp [hto, htk]
  · cases h
end Go.Proofs.YtpdeaekmgljeaaaGreatDoor
namespace Go.Proofs.YtpdeaekmgljeaaaGreatDoor
open Go.Shelf
end Go.Proofs.YtpdeaekmgljeaaaGreatDoor
namespace Go.Proofs.YtpdeaekmgljeaaaGreatDoor
open Go Go.Abs Go.RowKit
theorem grown_inv {σ : Sg} {m : Gh} {w : World} (h : Go.Abs.Inv σ m w) (k : Nat) (os : Array Obj) : Go.Abs.Inv σ m (Go.Sort.grow (w.drewN k) os) ∧ Ext m w m (Go.Sort.grow (w.drewN k) os) := by
  have hb : ∀ c, c < w.heap.size → (Go.Sort.grow (w.drewN k) os).heap[c]? = w.heap[c]? := fun c hc => Array.getElem?_append_left hc
  have e : Ext m w m (Go.Sort.grow (w.drewN k) os) :=
    ⟨rfl, rfl, rfl, by show w.heap.size ≤ (w.heap ++ os).size; simp, fun _ _ h => .inl h, fun _ tk h => ⟨tk, h, rfl, Nat.le_refl _, fun _ => rfl⟩, fun c off f => ⟨cell?_of_heap (hb c f.1), f.2⟩, fun c hc hn => ⟨hb c hc, hn⟩⟩
  refine ⟨⟨h.lobj, h.ltok, h.nodup, fun o ob c ho hc => (h.ob o ob c ho hc).mono e (hb c (h.lt_obj (Gh.mem_objb.2 (List.mem_of_getElem? hc)))), h.gone, fun tk htk => ?_, h.glob.mono e⟩, e⟩
  obtain ⟨h1, h2, h3, h4⟩ := h.tk tk htk
  refine ⟨h1, h2, h3, fun c hc => ?_⟩
  obtain ⟨us, ty, h5, h6⟩ := h4 c hc
  exact ⟨us, ty, (hb c (Array.getElem?_eq_some_iff.1 h5).1).trans h5, h6⟩
theorem tab_is {σ : Sg} {m : Gh} {w : World} (h : Inv σ m w) : Lib.TabIs Tryz.prog w "internal/strconv.uint64pow10" .u64 Lib.pow10Tab := by
  obtain ⟨⟨cs, ty, fr, hh, rfl⟩, _⟩ := h.glob _ (List.mem_cons_of_mem _ List.mem_cons_self)
  unfold Lib.TabIs World.var?
  rw [show Tryz.prog.globalNamed "internal/strconv.uint64pow10" = some 1 by kernel_rfl]
  simp only [Option.bind_some]
  rw [hh]
  rfl
end Go.Proofs.YtpdeaekmgljeaaaGreatDoor
namespace Go.Proofs.YtpdeaekmgljeaaaGreatDoor
open Go Go.Abs
def a4 : AFun := ⟨86,[.tmp 2],(.seq (.reg [1,2] [⟨some 1,none,.box (.t 0)⟩,⟨some 2,none,.mv (.c (.bool false))⟩]) (.seq (.reg [3] [⟨some 14,none,.call (.c (.fn 13)) []⟩,⟨some 3,none,.mv (.t 14)⟩]) (.seq (.reg [4] [⟨some 15,none,.load (some 8) (.t 1)⟩,⟨some 16,none,.call (.c (.fn 9)) [.t 15]⟩,⟨some 4,none,.mv (.t 16)⟩]) (.seq (.seq (.reg [18] [⟨some 17,none,.mv (.t 4)⟩,⟨some 18,none,.un .not (.t 17)⟩]) (.cond (.t 18) (.seq (.reg [2] [⟨some 19,none,.mv (.t 3)⟩,⟨some 2,none,.mv (.t 19)⟩]) .ret) .skip)) (.seq (.reg [5,6] [⟨some 21,none,.load (some 8) (.t 1)⟩,⟨some 22,none,.call (.c (.fn 14)) [.t 21]⟩,⟨some 20,none,.mv (.t 22)⟩,⟨some 23,none,.extract (.t 20) 0⟩,⟨some 24,none,.extract (.t 20) 1⟩,⟨some 5,none,.mv (.t 23)⟩,⟨some 6,none,.mv (.t 24)⟩]) (.seq (.reg [7,8] [⟨some 26,none,.load (some 8) (.t 1)⟩,⟨some 27,none,.call (.c (.fn 16)) [.t 26]⟩,⟨some 28,none,.call (.c (.fn 15)) [.t 27]⟩,⟨some 25,none,.mv (.t 28)⟩,⟨some 29,none,.extract (.t 25) 0⟩,⟨some 30,none,.extract (.t 25) 1⟩,⟨some 7,none,.mv (.t 29)⟩,⟨some 8,none,.mv (.t 30)⟩]) (.seq (.seq (.reg [38] [⟨some 31,none,.mv (.t 7)⟩,⟨some 32,none,.mv (.t 5)⟩,⟨some 33,none,.bin .neq .other false (.t 31) (.t 32)⟩,⟨some 34,none,.mv (.t 33)⟩,⟨some 35,some (34,false),.mv (.t 8)⟩,⟨some 36,some (34,false),.mv (.t 6)⟩,⟨some 37,some (34,false),.bin .neq .other false (.t 35) (.t 36)⟩,⟨some 38,none,.pick (.t 34) (.c (.bool true)) (.t 37)⟩]) (.cond (.t 38) (.seq (.reg [2] [⟨some 2,none,.mv (.c (.bool false))⟩]) .ret) .skip)) (.seq (.reg [9,10,11] [⟨some 40,none,.load (some 8) (.t 1)⟩,⟨some 41,none,.call (.c (.fn 17)) [.t 40]⟩,⟨some 39,none,.mv (.t 41)⟩,⟨some 42,none,.extract (.t 39) 0⟩,⟨some 43,none,.extract (.t 39) 1⟩,⟨some 44,none,.extract (.t 39) 2⟩,⟨some 9,none,.alloc [.int .i64 0,.int .i64 0,.int .i64 0,.str [],.str [],.snil,.snil,.snil]⟩,⟨none,none,.store 8 (.t 9) (.t 42)⟩,⟨some 10,none,.mv (.t 43)⟩,⟨some 11,none,.mv (.t 44)⟩]) (.seq (.seq (.reg [46] [⟨some 45,none,.mv (.t 5)⟩,⟨some 46,none,.bin .eql .other true (.t 45) (.c (.int .i64 1))⟩]) (.cond (.t 46) (.seq (.reg [2] [⟨some 47,none,.mv (.t 3)⟩,⟨some 48,none,.mv (.t 47)⟩,⟨some 49,some (48,true),.mv (.t 11)⟩,⟨some 50,some (48,true),.mkif 32 (.c (.int .i64 1))⟩,⟨some 51,some (48,true),.bin .eql .ifc false (.t 49) (.t 50)⟩,⟨some 52,none,.pick (.t 48) (.t 51) (.c (.bool false))⟩,⟨some 53,none,.mv (.t 52)⟩,⟨some 54,some (53,true),.mv (.t 10)⟩,⟨some 55,some (53,true),.len .sl (.t 54)⟩,⟨some 56,some (53,true),.bin .eql .other true (.t 55) (.c (.int .i64 0))⟩,⟨some 57,none,.pick (.t 53) (.t 56) (.c (.bool false))⟩,⟨some 2,none,.mv (.t 57)⟩]) .ret) .skip)) (.seq (.reg [12] [⟨some 58,none,.build [.snil,.int .i64 0,.bool false] []⟩,⟨some 59,none,.box (.t 58)⟩,⟨some 12,none,.mv (.t 59)⟩]) (.seq (.reg [13] [⟨some 60,none,.mv (.t 12)⟩,⟨some 61,none,.load (some 8) (.t 1)⟩,⟨some 62,none,.call (.c (.fn 18)) [.t 60,.t 61,.c .snil]⟩,⟨some 13,none,.alloc [.int .i64 0,.int .i64 0,.int .i64 0,.str [],.str [],.snil,.snil,.snil]⟩,⟨none,none,.store 8 (.t 13) (.t 62)⟩]) (.seq (.reg [2] [⟨some 63,none,.mv (.t 3)⟩,⟨some 64,none,.mv (.t 63)⟩,⟨some 65,some (64,true),.mv (.t 11)⟩,⟨some 66,some (64,true),.bin .eql .ifc true (.t 65) (.c .inil)⟩,⟨some 67,none,.pick (.t 64) (.t 66) (.c (.bool false))⟩,⟨some 68,none,.mv (.t 67)⟩,⟨some 69,some (68,true),.load (some 8) (.t 9)⟩,⟨some 70,some (68,true),.load (some 8) (.t 13)⟩,⟨some 71,some (68,true),.call (.c (.fn 19)) [.t 69,.t 70]⟩,⟨some 72,none,.pick (.t 68) (.t 71) (.c (.bool false))⟩,⟨some 73,none,.mv (.t 72)⟩,⟨some 74,some (73,true),.load (some 8) (.t 9)⟩,⟨some 75,some (73,true),.load (some 8) (.t 13)⟩,⟨some 76,some (73,true),.call (.c (.fn 20)) [.t 74,.t 75]⟩,⟨some 77,none,.pick (.t 73) (.t 76) (.c (.bool false))⟩,⟨some 78,none,.mv (.t 77)⟩,⟨some 79,some (78,true),.mv (.t 10)⟩,⟨some 80,some (78,true),.mv (.t 12)⟩,⟨some 81,some (78,true),.nilck (.t 80)⟩,⟨some 82,some (78,true),.faddr 0 (.t 81)⟩,⟨some 83,some (78,true),.load none (.t 82)⟩,⟨some 84,some (78,true),.call (.c (.fn 21)) [.t 79,.t 83]⟩,⟨some 85,none,.pick (.t 78) (.t 84) (.c (.bool false))⟩,⟨some 2,none,.mv (.t 85)⟩]) .ret))))))))))))⟩
theorem c4 : compF Tryz.prog [0, 1, 2, 3, 4, 5, 6, 7, 8, 9, 10, 11, 12, 13, 18, 38, 46] Tryz.f4 = some a4 := by kernel_rfl
def a6 : AFun := ⟨101,[.tmp 2],(.seq (.reg [1,2] [⟨some 1,none,.box (.t 0)⟩,⟨some 2,none,.mv (.c (.bool false))⟩]) (.seq (.reg [3] [⟨some 15,none,.call (.c (.fn 13)) []⟩,⟨some 3,none,.mv (.t 15)⟩]) (.seq (.reg [4] [⟨some 16,none,.load (some 8) (.t 1)⟩,⟨some 17,none,.call (.c (.fn 9)) [.t 16]⟩,⟨some 4,none,.mv (.t 17)⟩]) (.seq (.seq (.reg [19] [⟨some 18,none,.mv (.t 4)⟩,⟨some 19,none,.un .not (.t 18)⟩]) (.cond (.t 19) (.seq (.reg [2] [⟨some 20,none,.mv (.t 3)⟩,⟨some 2,none,.mv (.t 20)⟩]) .ret) .skip)) (.seq (.reg [5,6,7] [⟨some 22,none,.load (some 8) (.t 1)⟩,⟨some 23,none,.call (.c (.fn 17)) [.t 22]⟩,⟨some 21,none,.mv (.t 23)⟩,⟨some 24,none,.extract (.t 21) 0⟩,⟨some 25,none,.extract (.t 21) 1⟩,⟨some 26,none,.extract (.t 21) 2⟩,⟨some 5,none,.alloc [.int .i64 0,.int .i64 0,.int .i64 0,.str [],.str [],.snil,.snil,.snil]⟩,⟨none,none,.store 8 (.t 5) (.t 24)⟩,⟨some 6,none,.mv (.t 25)⟩,⟨some 7,none,.mv (.t 26)⟩]) (.seq (.seq (.reg [28] [⟨some 27,none,.mv (.t 7)⟩,⟨some 28,none,.bin .neq .ifc true (.t 27) (.c .inil)⟩]) (.cond (.t 28) (.seq (.reg [2] [⟨some 29,none,.mv (.t 3)⟩,⟨some 2,none,.mv (.t 29)⟩]) .ret) .skip)) (.seq (.reg [8] [⟨some 30,none,.load (some 8) (.t 5)⟩,⟨some 31,none,.call (.c (.fn 27)) [.t 30]⟩,⟨some 8,none,.mv (.t 31)⟩]) (.seq (.seq (.reg [36] [⟨some 32,none,.mv (.t 8)⟩,⟨some 33,none,.len .sl (.t 32)⟩,⟨some 34,none,.mv (.t 6)⟩,⟨some 35,none,.len .sl (.t 34)⟩,⟨some 36,none,.bin .neq .other false (.t 33) (.t 35)⟩]) (.cond (.t 36) (.seq (.reg [2] [⟨some 2,none,.mv (.c (.bool false))⟩]) .ret) .skip)) (.seq (.seq (.reg [9] [⟨some 9,none,.mv (.c (.int .i64 0))⟩]) (.block 0 (.loop (.seq (.seq (.reg [40] [⟨some 37,none,.mv (.t 9)⟩,⟨some 38,none,.mv (.t 8)⟩,⟨some 39,none,.len .sl (.t 38)⟩,⟨some 40,none,.bin .lss .other false (.t 37) (.t 39)⟩]) (.cond (.t 40) .skip (.exit 0))) (.seq (.block 1 (.seq (.reg [10] [⟨some 10,none,.mv (.c (.int .i64 0))⟩]) (.block 2 (.loop (.seq (.seq (.reg [45] [⟨some 43,none,.mv (.t 10)⟩,⟨some 44,none,.mv (.t 9)⟩,⟨some 45,none,.bin .lss .other false (.t 43) (.t 44)⟩]) (.cond (.t 45) .skip (.exit 2))) (.seq (.block 3 (.seq (.any [56] [(⟨some 48,none,.mv (.t 8)⟩,true),(⟨some 49,none,.mv (.t 9)⟩,false),(⟨some 50,none,.iaddr none (.t 48) (.t 49)⟩,true),(⟨some 51,none,.load none (.t 50)⟩,true),(⟨some 52,none,.mv (.t 8)⟩,false),(⟨some 53,none,.mv (.t 10)⟩,false),(⟨some 54,none,.iaddr none (.t 52) (.t 53)⟩,false),(⟨some 55,none,.load none (.t 54)⟩,false),(⟨some 56,none,.bin .eql .other false (.t 51) (.t 55)⟩,true)]) (.cond (.t 56) (.seq (.reg [2] [⟨some 2,none,.mv (.c (.bool false))⟩]) .ret) .skip))) (.reg [10] [⟨some 46,none,.mv (.t 10)⟩,⟨some 47,none,.bin .add .other true (.t 46) (.c (.int .i64 1))⟩,⟨some 10,none,.mv (.t 47)⟩]))))))) (.reg [9] [⟨some 41,none,.mv (.t 9)⟩,⟨some 42,none,.bin .add .other true (.t 41) (.c (.int .i64 1))⟩,⟨some 9,none,.mv (.t 42)⟩])))))) (.seq (.reg [11] [⟨some 57,none,.load (some 8) (.t 1)⟩,⟨some 58,none,.call (.c (.fn 16)) [.t 57]⟩,⟨some 59,none,.bin .eql .ifc true (.t 58) (.c .inil)⟩,⟨some 11,none,.mv (.t 59)⟩]) (.seq (.reg [12,14] [⟨some 61,none,.load (some 8) (.t 5)⟩,⟨some 62,none,.call (.c (.fn 17)) [.t 61]⟩,⟨some 60,none,.mv (.t 62)⟩,⟨some 63,none,.extract (.t 60) 0⟩,⟨some 64,none,.extract (.t 60) 1⟩,⟨some 65,none,.extract (.t 60) 2⟩,⟨some 12,none,.alloc [.int .i64 0,.int .i64 0,.int .i64 0,.str [],.str [],.snil,.snil,.snil]⟩,⟨none,none,.store 8 (.t 12) (.t 63)⟩,⟨some 13,none,.mv (.t 64)⟩,⟨some 14,none,.mv (.t 65)⟩]) (.seq (.seq (.reg [76] [⟨some 66,none,.mv (.t 11)⟩,⟨some 67,none,.mv (.t 66)⟩,⟨some 68,some (67,true),.mv (.t 14)⟩,⟨some 69,some (67,true),.bin .neq .ifc true (.t 68) (.c .inil)⟩,⟨some 70,some (67,true),.mv (.t 69)⟩,⟨some 71,some (70,false),.load (some 8) (.t 5)⟩,⟨some 72,some (70,false),.load (some 8) (.t 12)⟩,⟨some 73,some (70,false),.call (.c (.fn 19)) [.t 71,.t 72]⟩,⟨some 74,some (70,false),.un .not (.t 73)⟩,⟨some 75,some (67,true),.pick (.t 70) (.c (.bool true)) (.t 74)⟩,⟨some 76,none,.pick (.t 67) (.t 75) (.c (.bool false))⟩]) (.cond (.t 76) (.seq (.reg [2] [⟨some 2,none,.mv (.c (.bool false))⟩]) .ret) .skip)) (.seq (.reg [2] [⟨some 77,none,.mv (.t 3)⟩,⟨some 78,none,.mv (.t 77)⟩,⟨some 79,some (78,true),.mv (.t 11)⟩,⟨some 80,some (78,true),.load (some 8) (.t 1)⟩,⟨some 81,some (78,true),.call (.c (.fn 24)) [.t 80]⟩,⟨some 82,some (78,true),.len .sl (.t 81)⟩,⟨some 83,some (78,true),.bin .eql .other true (.t 82) (.c (.int .i64 0))⟩,⟨some 84,some (78,true),.bin .eql .bool false (.t 79) (.t 83)⟩,⟨some 85,none,.pick (.t 78) (.t 84) (.c (.bool false))⟩,⟨some 86,none,.mv (.t 85)⟩,⟨some 87,some (86,true),.mv (.t 11)⟩,⟨some 88,some (86,true),.un .not (.t 87)⟩,⟨some 89,some (86,true),.mv (.t 88)⟩,⟨some 90,some (89,false),.load (some 8) (.t 5)⟩,⟨some 91,some (89,false),.call (.c (.fn 16)) [.t 90]⟩,⟨some 92,some (89,false),.bin .eql .ifc true (.t 91) (.c .inil)⟩,⟨some 93,some (89,false),.mv (.t 92)⟩,⟨some 94,some (93,true),.load (some 8) (.t 5)⟩,⟨some 95,some (93,true),.call (.c (.fn 24)) [.t 94]⟩,⟨some 96,some (93,true),.len .sl (.t 95)⟩,⟨some 97,some (93,true),.bin .eql .other true (.t 96) (.c (.int .i64 0))⟩,⟨some 98,some (89,false),.pick (.t 93) (.t 97) (.c (.bool false))⟩,⟨some 99,some (86,true),.pick (.t 89) (.c (.bool true)) (.t 98)⟩,⟨some 100,none,.pick (.t 86) (.t 99) (.c (.bool false))⟩,⟨some 2,none,.mv (.t 100)⟩]) .ret)))))))))))))⟩
theorem c6 : compF Tryz.prog [0, 1, 2, 3, 4, 5, 6, 7, 8, 9, 10, 11, 12, 14, 19, 28, 36, 40, 45, 56, 76] Tryz.f6 = some a6 := by kernel_rfl
def a13 : AFun := ⟨66,[.tmp 0],(.seq (.reg [0] [⟨some 0,none,.mv (.c (.bool false))⟩]) (.seq (.reg [1,2,3] [⟨some 8,none,.build [.int .i64 0,.int .i64 0,.int .i64 0,.str [],.str [],.snil,.snil,.snil] [(0,1,.c (.int .i64 3)),(3,1,.c (.str [97]))]⟩,⟨some 9,none,.mksl (some 8) [.t 8]⟩,⟨some 10,none,.build [.int .i64 0,.int .i64 0,.int .i64 0,.str [],.str [],.snil,.snil,.snil] [(0,1,.c (.int .i64 4)),(3,1,.c (.str [97])),(7,1,.t 9)]⟩,⟨some 11,none,.mksl (some 8) [.t 10]⟩,⟨some 12,none,.build [.int .i64 0,.int .i64 0,.int .i64 0,.str [],.str [],.snil,.snil,.snil] [(0,1,.c (.int .i64 4)),(3,1,.c (.str [97])),(7,1,.t 11)]⟩,⟨some 13,none,.call (.c (.fn 17)) [.t 12]⟩,⟨some 7,none,.mv (.t 13)⟩,⟨some 14,none,.extract (.t 7) 0⟩,⟨some 15,none,.extract (.t 7) 1⟩,⟨some 16,none,.extract (.t 7) 2⟩,⟨some 1,none,.alloc [.int .i64 0,.int .i64 0,.int .i64 0,.str [],.str [],.snil,.snil,.snil]⟩,⟨none,none,.store 8 (.t 1) (.t 14)⟩,⟨some 2,none,.mv (.t 15)⟩,⟨some 3,none,.mv (.t 16)⟩]) (.seq (.reg [4] [⟨some 17,none,.build [.int .i64 0,.int .i64 0,.int .i64 0,.str [],.str [],.snil,.snil,.snil] [(0,1,.c (.int .i64 3)),(3,1,.c (.str [97])),(1,1,.c (.int .i64 3))]⟩,⟨some 18,none,.call (.c (.fn 16)) [.t 17]⟩,⟨some 4,none,.mv (.t 18)⟩]) (.seq (.reg [5,6] [⟨some 20,none,.mv (.t 4)⟩,⟨some 21,none,.call (.c (.fn 15)) [.t 20]⟩,⟨some 19,none,.mv (.t 21)⟩,⟨some 22,none,.extract (.t 19) 0⟩,⟨some 23,none,.extract (.t 19) 1⟩,⟨some 5,none,.mv (.t 22)⟩,⟨some 6,none,.mv (.t 23)⟩]) (.seq (.seq (.reg [36] [⟨some 24,none,.mv (.t 3)⟩,⟨some 25,none,.bin .neq .ifc true (.t 24) (.c .inil)⟩,⟨some 26,none,.mv (.t 25)⟩,⟨some 27,some (26,false),.mv (.t 2)⟩,⟨some 28,some (26,false),.len .sl (.t 27)⟩,⟨some 29,some (26,false),.bin .neq .other true (.t 28) (.c (.int .i64 2))⟩,⟨some 30,none,.pick (.t 26) (.c (.bool true)) (.t 29)⟩,⟨some 31,none,.mv (.t 30)⟩,⟨some 32,some (31,false),.faddr 7 (.t 1)⟩,⟨some 33,some (31,false),.load none (.t 32)⟩,⟨some 34,some (31,false),.len .sl (.t 33)⟩,⟨some 35,some (31,false),.bin .neq .other true (.t 34) (.c (.int .i64 1))⟩,⟨some 36,none,.pick (.t 31) (.c (.bool true)) (.t 35)⟩]) (.cond (.t 36) (.seq (.reg [0] [⟨some 0,none,.mv (.c (.bool false))⟩]) .ret) .skip)) (.seq (.seq (.reg [43] [⟨some 37,none,.faddr 7 (.t 1)⟩,⟨some 38,none,.load none (.t 37)⟩,⟨some 39,none,.iaddr (some 8) (.t 38) (.c (.int .i64 0))⟩,⟨some 40,none,.faddr 7 (.t 39)⟩,⟨some 41,none,.load none (.t 40)⟩,⟨some 42,none,.len .sl (.t 41)⟩,⟨some 43,none,.bin .neq .other true (.t 42) (.c (.int .i64 1))⟩]) (.cond (.t 43) (.seq (.reg [0] [⟨some 0,none,.mv (.c (.bool false))⟩]) .ret) .skip)) (.seq (.reg [0] [⟨some 44,none,.faddr 3 (.t 1)⟩,⟨some 45,none,.load none (.t 44)⟩,⟨some 46,none,.bin .eql .other true (.t 45) (.c (.str [118,48]))⟩,⟨some 47,none,.mv (.t 46)⟩,⟨some 48,some (47,true),.faddr 7 (.t 1)⟩,⟨some 49,some (47,true),.load none (.t 48)⟩,⟨some 50,some (47,true),.iaddr (some 8) (.t 49) (.c (.int .i64 0))⟩,⟨some 51,some (47,true),.faddr 7 (.t 50)⟩,⟨some 52,some (47,true),.load none (.t 51)⟩,⟨some 53,some (47,true),.iaddr (some 8) (.t 52) (.c (.int .i64 0))⟩,⟨some 54,some (47,true),.faddr 3 (.t 53)⟩,⟨some 55,some (47,true),.load none (.t 54)⟩,⟨some 56,some (47,true),.bin .eql .other true (.t 55) (.c (.str [118,49]))⟩,⟨some 57,none,.pick (.t 47) (.t 56) (.c (.bool false))⟩,⟨some 58,none,.mv (.t 57)⟩,⟨some 59,some (58,true),.mv (.t 5)⟩,⟨some 60,some (58,true),.bin .eql .other true (.t 59) (.c (.int .i64 4))⟩,⟨some 61,none,.pick (.t 58) (.t 60) (.c (.bool false))⟩,⟨some 62,none,.mv (.t 61)⟩,⟨some 63,some (62,true),.mv (.t 6)⟩,⟨some 64,some (62,true),.bin .eql .other true (.t 63) (.c (.int .i64 3))⟩,⟨some 65,none,.pick (.t 62) (.t 64) (.c (.bool false))⟩,⟨some 0,none,.mv (.t 65)⟩]) .ret)))))))⟩
theorem c13 : compF Tryz.prog [0, 1, 2, 3, 4, 5, 6, 36, 43] Tryz.f13 = some a13 := by kernel_rfl
def a14 : AFun := ⟨23,[.tmp 2,.tmp 3],(.seq (.reg [1,2,3] [⟨some 1,none,.box (.t 0)⟩,⟨some 2,none,.mv (.c (.int .i64 0))⟩,⟨some 3,none,.mv (.c (.int .i64 0))⟩]) (.seq (.reg [4] [⟨some 6,none,.load (some 8) (.t 1)⟩,⟨some 7,none,.call (.c (.fn 11)) [.t 6]⟩,⟨some 4,none,.mv (.t 7)⟩]) (.seq (.seq (.reg [9] [⟨some 8,none,.mv (.t 4)⟩,⟨some 9,none,.un .not (.t 8)⟩]) (.cond (.t 9) (.seq (.reg [2,3] [⟨some 2,none,.mv (.c (.int .i64 1))⟩,⟨some 3,none,.mv (.c (.int .i64 (-1)))⟩]) .ret) .skip)) (.seq (.reg [5] [⟨some 10,none,.build [.snil,.int .i64 0,.bool false] []⟩,⟨some 11,none,.box (.t 10)⟩,⟨some 5,none,.mv (.t 11)⟩]) (.seq (.reg [] [⟨some 12,none,.mv (.t 5)⟩,⟨some 13,none,.load (some 8) (.t 1)⟩,⟨some 14,none,.call (.c (.fn 18)) [.t 12,.t 13,.c .snil]⟩]) (.seq (.seq (.reg [18] [⟨some 15,none,.mv (.t 5)⟩,⟨some 16,none,.nilck (.t 15)⟩,⟨some 17,none,.faddr 2 (.t 16)⟩,⟨some 18,none,.load none (.t 17)⟩]) (.cond (.t 18) (.seq (.any [2,3] [(⟨some 19,none,.mv (.t 5)⟩,true),(⟨some 20,none,.nilck (.t 19)⟩,true),(⟨some 21,none,.faddr 1 (.t 20)⟩,true),(⟨some 22,none,.load none (.t 21)⟩,true),(⟨some 2,none,.mv (.c (.int .i64 4))⟩,false),(⟨some 3,none,.mv (.t 22)⟩,true)]) .ret) .skip)) (.seq (.reg [2,3] [⟨some 2,none,.mv (.c (.int .i64 0))⟩,⟨some 3,none,.mv (.c (.int .i64 (-1)))⟩]) .ret)))))))⟩
theorem c14 : compF Tryz.prog [0, 1, 2, 3, 4, 5, 9, 18] Tryz.f14 = some a14 := by kernel_rfl
def a16 : AFun := ⟨26,[.tmp 2],(.seq (.reg [1,2] [⟨some 1,none,.box (.t 0)⟩,⟨some 2,none,.mv (.c .inil)⟩]) (.seq (.seq (.reg [6] [⟨some 4,none,.load (some 8) (.t 1)⟩,⟨some 5,none,.call (.c (.fn 23)) [.t 4]⟩,⟨some 6,none,.un .not (.t 5)⟩]) (.cond (.t 6) (.seq (.reg [2] [⟨some 7,none,.mkif 32 (.c (.int .i64 1))⟩,⟨some 2,none,.mv (.t 7)⟩]) .ret) .skip)) (.seq (.reg [3] [⟨some 8,none,.build [.snil,.snil] []⟩,⟨some 9,none,.box (.t 8)⟩,⟨some 3,none,.mv (.t 9)⟩]) (.seq (.reg [] [⟨some 10,none,.mv (.t 3)⟩,⟨some 11,none,.load (some 8) (.t 1)⟩,⟨some 12,none,.call (.c (.fn 42)) [.t 10,.t 11,.c .snil]⟩]) (.seq (.seq (.reg [18] [⟨some 13,none,.mv (.t 3)⟩,⟨some 14,none,.nilck (.t 13)⟩,⟨some 15,none,.faddr 1 (.t 14)⟩,⟨some 16,none,.load none (.t 15)⟩,⟨some 17,none,.len .sl (.t 16)⟩,⟨some 18,none,.bin .gtr .other true (.t 17) (.c (.int .i64 0))⟩]) (.cond (.t 18) (.seq (.reg [2] [⟨some 19,none,.mv (.t 3)⟩,⟨some 20,none,.nilck (.t 19)⟩,⟨some 21,none,.faddr 1 (.t 20)⟩,⟨some 22,none,.load none (.t 21)⟩,⟨some 23,none,.iaddr none (.t 22) (.c (.int .i64 0))⟩,⟨some 24,none,.load none (.t 23)⟩,⟨some 25,none,.call (.c (.fn 43)) [.t 24,.c (.int .i64 4)]⟩,⟨some 2,none,.mv (.t 25)⟩]) .ret) .skip)) (.seq (.reg [2] [⟨some 2,none,.mv (.c .inil)⟩]) .ret))))))⟩
theorem c16 : compF Tryz.prog [0, 1, 2, 3, 6, 18] Tryz.f16 = some a16 := by kernel_rfl
def a17 : AFun := ⟨22,[.cell 2 (some 8),.tmp 3,.tmp 4],(.seq (.reg [1,2,3,4] [⟨some 1,none,.box (.t 0)⟩,⟨some 2,none,.alloc [.int .i64 0,.int .i64 0,.int .i64 0,.str [],.str [],.snil,.snil,.snil]⟩,⟨some 3,none,.mv (.c .snil)⟩,⟨some 4,none,.mv (.c .inil)⟩]) (.seq (.seq (.reg [9] [⟨some 7,none,.load (some 8) (.t 1)⟩,⟨some 8,none,.call (.c (.fn 23)) [.t 7]⟩,⟨some 9,none,.un .not (.t 8)⟩]) (.cond (.t 9) (.seq (.reg [3,4] [⟨some 10,none,.build [.int .i64 0,.int .i64 0,.int .i64 0,.str [],.str [],.snil,.snil,.snil] []⟩,⟨some 11,none,.mkif 32 (.c (.int .i64 1))⟩,⟨none,none,.store 8 (.t 2) (.t 10)⟩,⟨some 3,none,.mv (.c .snil)⟩,⟨some 4,none,.mv (.t 11)⟩]) .ret) .skip)) (.seq (.reg [5] [⟨some 12,none,.build [.snil,.snil] []⟩,⟨some 13,none,.box (.t 12)⟩,⟨some 5,none,.mv (.t 13)⟩]) (.seq (.reg [6] [⟨some 14,none,.mv (.t 5)⟩,⟨some 15,none,.load (some 8) (.t 1)⟩,⟨some 16,none,.call (.c (.fn 42)) [.t 14,.t 15,.c .snil]⟩,⟨some 6,none,.alloc [.int .i64 0,.int .i64 0,.int .i64 0,.str [],.str [],.snil,.snil,.snil]⟩,⟨none,none,.store 8 (.t 6) (.t 16)⟩]) (.seq (.any [3,4] [(⟨some 17,none,.load (some 8) (.t 6)⟩,true),(⟨some 18,none,.mv (.t 5)⟩,false),(⟨some 19,none,.nilck (.t 18)⟩,false),(⟨some 20,none,.faddr 0 (.t 19)⟩,false),(⟨some 21,none,.load none (.t 20)⟩,false),(⟨none,none,.store 8 (.t 2) (.t 17)⟩,false),(⟨some 3,none,.mv (.t 21)⟩,true),(⟨some 4,none,.mv (.c .inil)⟩,true)]) .ret)))))⟩
theorem c17 : compF Tryz.prog [0, 1, 2, 3, 4, 5, 6, 9] Tryz.f17 = some a17 := by kernel_rfl
def a27 : AFun := ⟨54,[.tmp 2],(.seq (.reg [1,2] [⟨some 1,none,.box (.t 0)⟩,⟨some 2,none,.mv (.c .snil)⟩]) (.seq (.reg [3] [⟨some 3,none,.mv (.c .snil)⟩]) (.seq (.seq (.reg [6] [⟨some 5,none,.faddr 0 (.t 1)⟩,⟨some 6,none,.load none (.t 5)⟩]) (.block 0 (.seq (.seq (.reg [7] [⟨some 8,none,.bin .eql .other true (.t 6) (.c (.int .i64 4))⟩,⟨some 7,none,.mv (.t 8)⟩]) (.cond (.t 7) .skip (.reg [7] [⟨some 9,none,.bin .eql .other true (.t 6) (.c (.int .i64 6))⟩,⟨some 7,none,.mv (.t 9)⟩]))) (.cond (.t 7) (.reg [3] [⟨some 10,none,.mv (.t 3)⟩,⟨some 11,none,.faddr 3 (.t 1)⟩,⟨some 12,none,.load none (.t 11)⟩,⟨some 13,none,.mksl none [.t 12]⟩,⟨some 14,none,.append none 16 (.t 10) (.t 13)⟩,⟨some 3,none,.mv (.t 14)⟩]) (.seq (.reg [15] [⟨some 16,none,.bin .eql .other true (.t 6) (.c (.int .i64 7))⟩,⟨some 15,none,.mv (.t 16)⟩]) (.cond (.t 15) (.reg [3] [⟨some 17,none,.mv (.t 3)⟩,⟨some 18,none,.faddr 3 (.t 1)⟩,⟨some 19,none,.load none (.t 18)⟩,⟨some 20,none,.faddr 4 (.t 1)⟩,⟨some 21,none,.load none (.t 20)⟩,⟨some 22,none,.mksl none [.t 19,.t 21]⟩,⟨some 23,none,.append none 16 (.t 17) (.t 22)⟩,⟨some 3,none,.mv (.t 23)⟩]) (.seq (.reg [24] [⟨some 25,none,.bin .eql .other true (.t 6) (.c (.int .i64 14))⟩,⟨some 24,none,.mv (.t 25)⟩]) (.cond (.t 24) (.seq (.reg [3] [⟨some 26,none,.mv (.t 3)⟩,⟨some 27,none,.faddr 6 (.t 1)⟩,⟨some 28,none,.load none (.t 27)⟩,⟨some 29,none,.append none 16 (.t 26) (.t 28)⟩,⟨some 3,none,.mv (.t 29)⟩]) (.seq (.reg [32] [⟨some 30,none,.faddr 4 (.t 1)⟩,⟨some 31,none,.load none (.t 30)⟩,⟨some 32,none,.bin .neq .other true (.t 31) (.c (.str []))⟩]) (.cond (.t 32) (.reg [3] [⟨some 33,none,.mv (.t 3)⟩,⟨some 34,none,.faddr 4 (.t 1)⟩,⟨some 35,none,.load none (.t 34)⟩,⟨some 36,none,.mksl none [.t 35]⟩,⟨some 37,none,.append none 16 (.t 33) (.t 36)⟩,⟨some 3,none,.mv (.t 37)⟩]) .skip))) .skip)))))))) (.seq (.seq (.reg [4] [⟨some 4,none,.mv (.c (.int .i64 0))⟩]) (.block 1 (.loop (.seq (.seq (.reg [42] [⟨some 38,none,.mv (.t 4)⟩,⟨some 39,none,.faddr 7 (.t 1)⟩,⟨some 40,none,.load none (.t 39)⟩,⟨some 41,none,.len .sl (.t 40)⟩,⟨some 42,none,.bin .lss .other false (.t 38) (.t 41)⟩]) (.cond (.t 42) .skip (.exit 1))) (.seq (.block 2 (.reg [3] [⟨some 45,none,.mv (.t 3)⟩,⟨some 46,none,.faddr 7 (.t 1)⟩,⟨some 47,none,.load none (.t 46)⟩,⟨some 48,none,.mv (.t 4)⟩,⟨some 49,none,.iaddr (some 8) (.t 47) (.t 48)⟩,⟨some 50,none,.load (some 8) (.t 49)⟩,⟨some 51,none,.call (.c (.fn 27)) [.t 50]⟩,⟨some 52,none,.append none 16 (.t 45) (.t 51)⟩,⟨some 3,none,.mv (.t 52)⟩])) (.reg [4] [⟨some 43,none,.mv (.t 4)⟩,⟨some 44,none,.bin .add .other true (.t 43) (.c (.int .i64 1))⟩,⟨some 4,none,.mv (.t 44)⟩])))))) (.seq (.reg [2] [⟨some 53,none,.mv (.t 3)⟩,⟨some 2,none,.mv (.t 53)⟩]) .ret)))))⟩
theorem c27 : compF Tryz.prog [0, 1, 2, 3, 4, 6, 7, 15, 24, 32, 42] Tryz.f27 = some a27 := by kernel_rfl
def a42 : AFun := ⟨203,[.cell 6 (some 8)],(.seq (.reg [3,4,6] [⟨some 3,none,.box (.t 0)⟩,⟨some 4,none,.box (.t 1)⟩,⟨some 6,none,.alloc [.int .i64 0,.int .i64 0,.int .i64 0,.str [],.str [],.snil,.snil,.snil]⟩]) (.seq (.reg [7] [⟨some 20,none,.load (some 8) (.t 4)⟩,⟨some 7,none,.alloc [.int .i64 0,.int .i64 0,.int .i64 0,.str [],.str [],.snil,.snil,.snil]⟩,⟨none,none,.store 8 (.t 7) (.t 20)⟩]) (.seq (.reg [] [⟨some 21,none,.faddr 5 (.t 4)⟩,⟨some 22,none,.load none (.t 21)⟩,⟨some 23,none,.call (.c (.fn 66)) [.t 22]⟩,⟨some 24,none,.faddr 5 (.t 7)⟩,⟨none,none,.store 1 (.t 24) (.t 23)⟩,⟨some 25,none,.faddr 6 (.t 7)⟩,⟨none,none,.store 1 (.t 25) (.c .snil)⟩,⟨some 26,none,.faddr 7 (.t 7)⟩,⟨none,none,.store 1 (.t 26) (.c .snil)⟩]) (.seq (.reg [8] [⟨some 27,none,.mkfn 67 [.t 3]⟩,⟨some 8,none,.mv (.t 27)⟩]) (.seq (.reg [9,10] [⟨some 9,none,.alloc [.str [],.str []]⟩,⟨some 10,none,.alloc [.str [],.str []]⟩]) (.seq (.reg [11] [⟨some 11,none,.mv (.c .snil)⟩]) (.seq (.seq (.reg [29] [⟨some 28,none,.faddr 0 (.t 4)⟩,⟨some 29,none,.load none (.t 28)⟩]) (.block 0 (.seq (.reg [30] [⟨some 31,none,.bin .eql .other true (.t 29) (.c (.int .i64 3))⟩,⟨some 30,none,.mv (.t 31)⟩]) (.cond (.t 30) (.seq (.reg [12,13] [⟨some 33,none,.mv (.t 2)⟩,⟨some 34,none,.faddr 3 (.t 4)⟩,⟨some 35,none,.load none (.t 34)⟩,⟨some 36,none,.call (.c (.fn 69)) [.t 33,.t 35]⟩,⟨some 32,none,.mv (.t 36)⟩,⟨some 37,none,.extract (.t 32) 0⟩,⟨some 38,none,.extract (.t 32) 1⟩,⟨some 12,none,.mv (.t 37)⟩,⟨some 13,none,.mv (.t 38)⟩]) (.seq (.seq (.reg [40] [⟨some 39,none,.mv (.t 13)⟩,⟨some 40,none,.un .not (.t 39)⟩]) (.cond (.t 40) (.any [] [(⟨some 41,none,.load none (.t 3)⟩,true),(⟨some 42,none,.load none (.t 3)⟩,false),(⟨some 43,none,.nilck (.t 42)⟩,false),(⟨some 44,none,.faddr 1 (.t 43)⟩,false),(⟨some 45,none,.load none (.t 44)⟩,false),(⟨some 46,none,.faddr 1 (.t 4)⟩,false),(⟨some 47,none,.load none (.t 46)⟩,false),(⟨some 48,none,.mksl none [.t 47]⟩,false),(⟨some 49,none,.append none 8 (.t 45) (.t 48)⟩,false),(⟨some 50,none,.nilck (.t 41)⟩,true),(⟨some 51,none,.faddr 1 (.t 50)⟩,true),(⟨none,none,.store 1 (.t 51) (.t 49)⟩,true)]) .skip)) (.reg [] [⟨some 52,none,.mv (.t 12)⟩,⟨some 53,none,.faddr 3 (.t 7)⟩,⟨none,none,.store 1 (.t 53) (.t 52)⟩]))) (.seq (.seq (.reg [54] [⟨some 55,none,.bin .eql .other true (.t 29) (.c (.int .i64 4))⟩,⟨some 54,none,.mv (.t 55)⟩]) (.cond (.t 54) .skip (.reg [54] [⟨some 56,none,.bin .eql .other true (.t 29) (.c (.int .i64 6))⟩,⟨some 54,none,.mv (.t 56)⟩]))) (.cond (.t 54) (.seq (.reg [] [⟨some 57,none,.mv (.t 8)⟩,⟨some 58,none,.faddr 3 (.t 4)⟩,⟨some 59,none,.load none (.t 58)⟩,⟨some 60,none,.call (.t 57) [.t 59]⟩,⟨none,none,.store 2 (.t 9) (.t 60)⟩]) (.reg [] [⟨some 61,none,.faddr 1 (.t 9)⟩,⟨some 62,none,.load none (.t 61)⟩,⟨some 63,none,.faddr 3 (.t 7)⟩,⟨none,none,.store 1 (.t 63) (.t 62)⟩])) (.seq (.reg [64] [⟨some 65,none,.bin .eql .other true (.t 29) (.c (.int .i64 7))⟩,⟨some 64,none,.mv (.t 65)⟩]) (.cond (.t 64) (.seq (.reg [] [⟨some 66,none,.mv (.t 8)⟩,⟨some 67,none,.faddr 3 (.t 4)⟩,⟨some 68,none,.load none (.t 67)⟩,⟨some 69,none,.call (.t 66) [.t 68]⟩,⟨none,none,.store 2 (.t 9) (.t 69)⟩]) (.seq (.reg [] [⟨some 70,none,.mv (.t 8)⟩,⟨some 71,none,.faddr 4 (.t 4)⟩,⟨some 72,none,.load none (.t 71)⟩,⟨some 73,none,.call (.t 70) [.t 72]⟩,⟨none,none,.store 2 (.t 10) (.t 73)⟩]) (.any [] [(⟨some 74,none,.faddr 1 (.t 9)⟩,true),(⟨some 75,none,.load none (.t 74)⟩,true),(⟨some 76,none,.faddr 1 (.t 10)⟩,false),(⟨some 77,none,.load none (.t 76)⟩,false),(⟨some 78,none,.faddr 3 (.t 7)⟩,false),(⟨none,none,.store 1 (.t 78) (.t 75)⟩,false),(⟨some 79,none,.faddr 4 (.t 7)⟩,true),(⟨none,none,.store 1 (.t 79) (.t 77)⟩,true)]))) (.seq (.reg [80] [⟨some 81,none,.bin .eql .other true (.t 29) (.c (.int .i64 14))⟩,⟨some 80,none,.mv (.t 81)⟩]) (.cond (.t 80) (.seq (.seq (.reg [83,84,85] [⟨some 82,none,.faddr 6 (.t 4)⟩,⟨some 83,none,.load none (.t 82)⟩,⟨some 84,none,.len .sl (.t 83)⟩,⟨some 85,none,.mv (.c (.int .i64 0))⟩]) (.block 1 (.loop (.seq (.reg [86] [⟨some 86,none,.bin .lss .other false (.t 85) (.t 84)⟩]) (.seq (.cond (.t 86) .skip (.exit 1)) (.seq (.block 2 (.seq (.reg [15] [⟨some 87,none,.iaddr none (.t 83) (.t 85)⟩,⟨some 88,none,.load none (.t 87)⟩,⟨some 15,none,.mv (.t 88)⟩]) (.seq (.reg [16] [⟨some 89,none,.mv (.t 8)⟩,⟨some 90,none,.mv (.t 15)⟩,⟨some 91,none,.call (.t 89) [.t 90]⟩,⟨some 16,none,.alloc [.str [],.str []]⟩,⟨none,none,.store 2 (.t 16) (.t 91)⟩]) (.any [11] [(⟨some 92,none,.mv (.t 11)⟩,true),(⟨some 93,none,.load (some 2) (.t 16)⟩,false),(⟨some 94,none,.mksl (some 2) [.t 93]⟩,false),(⟨some 96,none,.faddr 6 (.t 7)⟩,false),(⟨some 97,none,.load none (.t 96)⟩,false),(⟨some 98,none,.faddr 1 (.t 16)⟩,false),(⟨some 99,none,.load none (.t 98)⟩,false),(⟨some 100,none,.mksl none [.t 99]⟩,false),(⟨some 95,none,.append (some 2) 32 (.t 92) (.t 94)⟩,false),(⟨some 101,none,.append none 16 (.t 97) (.t 100)⟩,true),(⟨some 11,none,.mv (.t 95)⟩,true),(⟨some 102,none,.faddr 6 (.t 7)⟩,true),(⟨none,none,.store 1 (.t 102) (.t 101)⟩,true)])))) (.reg [85] [⟨some 103,none,.bin .add .other true (.t 85) (.c (.int .i64 1))⟩,⟨some 85,none,.mv (.t 103)⟩]))))))) (.seq (.reg [106] [⟨some 104,none,.faddr 4 (.t 4)⟩,⟨some 105,none,.load none (.t 104)⟩,⟨some 106,none,.bin .neq .other true (.t 105) (.c (.str []))⟩]) (.cond (.t 106) (.seq (.reg [] [⟨some 107,none,.mv (.t 8)⟩,⟨some 108,none,.faddr 4 (.t 4)⟩,⟨some 109,none,.load none (.t 108)⟩,⟨some 110,none,.call (.t 107) [.t 109]⟩,⟨none,none,.store 2 (.t 10) (.t 110)⟩]) (.reg [] [⟨some 111,none,.faddr 1 (.t 10)⟩,⟨some 112,none,.load none (.t 111)⟩,⟨some 113,none,.faddr 4 (.t 7)⟩,⟨none,none,.store 1 (.t 113) (.t 112)⟩])) .skip))) .skip)))))))))) (.seq (.seq (.reg [115,116,117] [⟨some 114,none,.faddr 7 (.t 4)⟩,⟨some 115,none,.load none (.t 114)⟩,⟨some 116,none,.len .sl (.t 115)⟩,⟨some 117,none,.mv (.c (.int .i64 0))⟩]) (.block 3 (.loop (.seq (.reg [118] [⟨some 118,none,.bin .lss .other false (.t 117) (.t 116)⟩]) (.seq (.cond (.t 118) .skip (.exit 3)) (.seq (.block 4 (.seq (.reg [18,17] [⟨some 119,none,.mv (.t 117)⟩,⟨some 120,none,.iaddr (some 8) (.t 115) (.t 117)⟩,⟨some 121,none,.load (some 8) (.t 120)⟩,⟨some 18,none,.alloc [.int .i64 0,.int .i64 0,.int .i64 0,.str [],.str [],.snil,.snil,.snil]⟩,⟨some 17,none,.mv (.t 119)⟩,⟨none,none,.store 8 (.t 18) (.t 121)⟩]) (.seq (.reg [19] [⟨some 122,none,.mv (.t 2)⟩,⟨some 19,none,.mv (.t 122)⟩]) (.seq (.block 5 (.seq (.reg [123] [⟨some 124,none,.faddr 0 (.t 4)⟩,⟨some 125,none,.load none (.t 124)⟩,⟨some 126,none,.bin .eql .other true (.t 125) (.c (.int .i64 4))⟩,⟨some 127,none,.mv (.t 126)⟩,⟨some 128,some (127,false),.faddr 0 (.t 4)⟩,⟨some 129,some (127,false),.load none (.t 128)⟩,⟨some 130,some (127,false),.bin .eql .other true (.t 129) (.c (.int .i64 6))⟩,⟨some 131,some (127,false),.mv (.t 130)⟩,⟨some 132,some (131,true),.mv (.t 17)⟩,⟨some 133,some (131,true),.bin .eql .other true (.t 132) (.c (.int .i64 1))⟩,⟨some 134,some (127,false),.pick (.t 131) (.t 133) (.c (.bool false))⟩,⟨some 135,none,.pick (.t 127) (.c (.bool true)) (.t 134)⟩,⟨some 136,none,.mv (.t 135)⟩,⟨some 137,some (136,false),.faddr 0 (.t 4)⟩,⟨some 138,some (136,false),.load none (.t 137)⟩,⟨some 139,some (136,false),.bin .eql .other true (.t 138) (.c (.int .i64 7))⟩,⟨some 140,some (136,false),.mv (.t 139)⟩,⟨some 141,some (140,true),.mv (.t 17)⟩,⟨some 142,some (140,true),.bin .eql .other true (.t 141) (.c (.int .i64 1))⟩,⟨some 143,some (136,false),.pick (.t 140) (.t 142) (.c (.bool false))⟩,⟨some 144,none,.pick (.t 136) (.c (.bool true)) (.t 143)⟩,⟨some 123,none,.mv (.t 144)⟩]) (.cond (.t 123) (.reg [19] [⟨some 145,none,.mv (.t 2)⟩,⟨some 146,none,.load (some 2) (.t 9)⟩,⟨some 147,none,.mksl (some 2) [.t 146]⟩,⟨some 148,none,.call (.c (.fn 70)) [.t 145,.t 147]⟩,⟨some 19,none,.mv (.t 148)⟩]) (.seq (.reg [149] [⟨some 150,none,.faddr 0 (.t 4)⟩,⟨some 151,none,.load none (.t 150)⟩,⟨some 152,none,.bin .eql .other true (.t 151) (.c (.int .i64 7))⟩,⟨some 149,none,.mv (.t 152)⟩]) (.cond (.t 149) (.reg [19] [⟨some 153,none,.mv (.t 2)⟩,⟨some 154,none,.load (some 2) (.t 9)⟩,⟨some 155,none,.load (some 2) (.t 10)⟩,⟨some 156,none,.mksl (some 2) [.t 154,.t 155]⟩,⟨some 157,none,.call (.c (.fn 70)) [.t 153,.t 156]⟩,⟨some 19,none,.mv (.t 157)⟩]) (.seq (.reg [158] [⟨some 159,none,.faddr 0 (.t 4)⟩,⟨some 160,none,.load none (.t 159)⟩,⟨some 161,none,.bin .eql .other true (.t 160) (.c (.int .i64 14))⟩,⟨some 162,none,.mv (.t 161)⟩,⟨some 163,some (162,true),.mv (.t 17)⟩,⟨some 164,some (162,true),.bin .gtr .other true (.t 163) (.c (.int .i64 0))⟩,⟨some 165,none,.pick (.t 162) (.t 164) (.c (.bool false))⟩,⟨some 166,none,.mv (.t 165)⟩,⟨some 167,some (166,true),.mv (.t 17)⟩,⟨some 168,some (166,true),.mv (.t 11)⟩,⟨some 169,some (166,true),.len .sl (.t 168)⟩,⟨some 170,some (166,true),.bin .leq .other false (.t 167) (.t 169)⟩,⟨some 171,none,.pick (.t 166) (.t 170) (.c (.bool false))⟩,⟨some 158,none,.mv (.t 171)⟩]) (.cond (.t 158) (.reg [19] [⟨some 172,none,.mv (.t 2)⟩,⟨some 173,none,.mv (.t 11)⟩,⟨some 174,none,.mv (.t 17)⟩,⟨some 175,none,.bin .sub .other true (.t 174) (.c (.int .i64 1))⟩,⟨some 176,none,.iaddr (some 2) (.t 173) (.t 175)⟩,⟨some 177,none,.load (some 2) (.t 176)⟩,⟨some 178,none,.mksl (some 2) [.t 177]⟩,⟨some 179,none,.call (.c (.fn 70)) [.t 172,.t 178]⟩,⟨some 19,none,.mv (.t 179)⟩]) (.seq (.reg [180] [⟨some 181,none,.faddr 0 (.t 4)⟩,⟨some 182,none,.load none (.t 181)⟩,⟨some 183,none,.bin .eql .other true (.t 182) (.c (.int .i64 14))⟩,⟨some 184,none,.mv (.t 183)⟩,⟨some 185,some (184,true),.mv (.t 17)⟩,⟨some 186,some (184,true),.bin .gtr .other true (.t 185) (.c (.int .i64 0))⟩,⟨some 187,none,.pick (.t 184) (.t 186) (.c (.bool false))⟩,⟨some 180,none,.mv (.t 187)⟩]) (.cond (.t 180) (.reg [19] [⟨some 188,none,.mv (.t 2)⟩,⟨some 189,none,.load (some 2) (.t 10)⟩,⟨some 190,none,.mksl (some 2) [.t 189]⟩,⟨some 191,none,.call (.c (.fn 70)) [.t 188,.t 190]⟩,⟨some 19,none,.mv (.t 191)⟩]) .skip))))))))) (.any [] [(⟨some 192,none,.faddr 7 (.t 7)⟩,true),(⟨some 193,none,.load none (.t 192)⟩,true),(⟨some 194,none,.load none (.t 3)⟩,false),(⟨some 195,none,.load (some 8) (.t 18)⟩,false),(⟨some 196,none,.mv (.t 19)⟩,false),(⟨some 197,none,.call (.c (.fn 42)) [.t 194,.t 195,.t 196]⟩,false),(⟨some 198,none,.mksl (some 8) [.t 197]⟩,false),(⟨some 199,none,.append (some 8) 128 (.t 193) (.t 198)⟩,true),(⟨some 200,none,.faddr 7 (.t 7)⟩,true),(⟨none,none,.store 1 (.t 200) (.t 199)⟩,true)]))))) (.reg [117] [⟨some 201,none,.bin .add .other true (.t 117) (.c (.int .i64 1))⟩,⟨some 117,none,.mv (.t 201)⟩]))))))) (.seq (.reg [] [⟨some 202,none,.load (some 8) (.t 7)⟩,⟨none,none,.store 8 (.t 6) (.t 202)⟩]) .ret)))))))))⟩
theorem c42 : compF Tryz.prog [0, 1, 2, 3, 4, 6, 7, 8, 9, 10, 11, 12, 13, 15, 16, 17, 18, 19, 29, 30, 40, 54, 64, 80, 83, 84, 85, 86, 106, 115, 116, 117, 118, 123, 149, 158, 180] Tryz.f42 = some a42 := by kernel_rfl
def a44 : AFun := ⟨25,[.cell 4 (some 2)],(.seq (.reg [4] [⟨some 4,none,.alloc [.str [],.str []]⟩]) (.seq (.reg [] [⟨some 5,none,.mv (.t 0)⟩,⟨some 6,none,.mv (.t 0)⟩,⟨some 7,none,.nilck (.t 6)⟩,⟨some 8,none,.faddr 0 (.t 7)⟩,⟨some 9,none,.load none (.t 8)⟩,⟨some 10,none,.mv (.t 1)⟩,⟨some 11,none,.mksl none [.t 10]⟩,⟨some 12,none,.append none 16 (.t 9) (.t 11)⟩,⟨some 13,none,.nilck (.t 5)⟩,⟨some 14,none,.faddr 0 (.t 13)⟩,⟨none,none,.store 1 (.t 14) (.t 12)⟩]) (.seq (.reg [] [⟨some 15,none,.mv (.t 1)⟩,⟨some 16,none,.mv (.t 0)⟩,⟨some 17,none,.nilck (.t 16)⟩,⟨some 18,none,.faddr 0 (.t 17)⟩,⟨some 19,none,.load none (.t 18)⟩,⟨some 20,none,.len .sl (.t 19)⟩,⟨some 21,none,.bin .sub .other true (.t 20) (.c (.int .i64 1))⟩,⟨some 22,none,.call (.c (.fn 71)) [.t 21]⟩,⟨some 23,none,.bin .add .other true (.c (.str [118])) (.t 22)⟩,⟨some 24,none,.build [.str [],.str []] [(0,1,.t 15),(1,1,.t 23)]⟩,⟨none,none,.store 2 (.t 4) (.t 24)⟩]) .ret)))⟩
def a66 : AFun := ⟨8,[.tmp 2],(.seq (.reg [2] [⟨some 2,none,.mv (.c .snil)⟩]) (.seq (.seq (.reg [4] [⟨some 3,none,.mv (.t 0)⟩,⟨some 4,none,.bin .eql .sl true (.t 3) (.c .snil)⟩]) (.cond (.t 4) (.seq (.reg [2] [⟨some 2,none,.mv (.c .snil)⟩]) .ret) .skip)) (.seq (.reg [2] [⟨some 5,none,.mksl none []⟩,⟨some 6,none,.mv (.t 0)⟩,⟨some 7,none,.append none 16 (.t 5) (.t 6)⟩,⟨some 2,none,.mv (.t 7)⟩]) .ret)))⟩
theorem c66 : compF Tryz.prog [0, 2, 4] Tryz.f66 = some a66 := by kernel_rfl
def a67 : AFun := ⟨9,[.cell 3 (some 2)],(.seq (.reg [3] [⟨some 3,none,.alloc [.str [],.str []]⟩]) (.seq (.reg [] [⟨some 4,none,.mv (.t 0)⟩,⟨some 5,none,.load none (.t 1)⟩,⟨some 6,none,.mv (.t 0)⟩,⟨some 7,none,.call (.c (.fn 68)) [.t 5,.t 6]⟩,⟨some 8,none,.build [.str [],.str []] [(0,1,.t 4),(1,1,.t 7)]⟩,⟨none,none,.store 2 (.t 3) (.t 8)⟩]) .ret))⟩
theorem c67 : compF Tryz.prog [0, 1, 3] Tryz.f67 = some a67 := by kernel_rfl
def a68 : AFun := ⟨23,[.tmp 4],(.seq (.reg [4] [⟨some 4,none,.mv (.c (.str []))⟩]) (.seq (.reg [] [⟨some 5,none,.mv (.t 0)⟩,⟨some 6,none,.mv (.t 0)⟩,⟨some 7,none,.nilck (.t 6)⟩,⟨some 8,none,.faddr 0 (.t 7)⟩,⟨some 9,none,.load none (.t 8)⟩,⟨some 10,none,.mv (.t 1)⟩,⟨some 11,none,.mksl none [.t 10]⟩,⟨some 12,none,.append none 16 (.t 9) (.t 11)⟩,⟨some 13,none,.nilck (.t 5)⟩,⟨some 14,none,.faddr 0 (.t 13)⟩,⟨none,none,.store 1 (.t 14) (.t 12)⟩]) (.seq (.reg [4] [⟨some 15,none,.mv (.t 0)⟩,⟨some 16,none,.nilck (.t 15)⟩,⟨some 17,none,.faddr 0 (.t 16)⟩,⟨some 18,none,.load none (.t 17)⟩,⟨some 19,none,.len .sl (.t 18)⟩,⟨some 20,none,.bin .sub .other true (.t 19) (.c (.int .i64 1))⟩,⟨some 21,none,.call (.c (.fn 71)) [.t 20]⟩,⟨some 22,none,.bin .add .other true (.c (.str [118])) (.t 21)⟩,⟨some 4,none,.mv (.t 22)⟩]) .ret)))⟩
theorem c68 : compF Tryz.prog [0, 1, 4] Tryz.f68 = some a68 := by kernel_rfl
def a70 : AFun := ⟨13,[.tmp 4],(.seq (.reg [4] [⟨some 4,none,.mv (.c .snil)⟩]) (.seq (.reg [4] [⟨some 5,none,.mv (.t 0)⟩,⟨some 6,none,.mv (.t 0)⟩,⟨some 7,none,.len .sl (.t 6)⟩,⟨some 8,none,.mv (.t 0)⟩,⟨some 9,none,.len .sl (.t 8)⟩,⟨some 10,none,.slice (.sl (some 2)) (.t 5) none (some (.t 7)) (some (.t 9))⟩,⟨some 11,none,.mv (.t 1)⟩,⟨some 12,none,.append (some 2) 32 (.t 10) (.t 11)⟩,⟨some 4,none,.mv (.t 12)⟩]) .ret))⟩
theorem c70 : compF Tryz.prog [0, 1, 4] Tryz.f70 = some a70 := by kernel_rfl
end Go.Proofs.YtpdeaekmgljeaaaGreatDoor
namespace Go.Proofs.YtpdeaekmgljeaaaGreatDoor
open Go Go.RowKit Go.Shelf
attribute [local go_sem] Oper.semAt_some
abbrev Frm := List UInt8 × List UInt8
abbrev strV (s : List UInt8) : Value := .string ⟨s.toArray⟩
abbrev frV (x : Frm) : Value := .agg #[strV x.1, strV x.2]
def backF (zs : List Frm) (j : Nat) : Nat × Frm := (zs.length - 1 - j, zs[zs.length - 1 - j]?.getD ([], []))
def uptoF (zs : List Frm) (k : Nat) : List (Nat × Frm) := (List.range k).map (backF zs)
theorem uptoF_succ (zs : List Frm) (k : Nat) : uptoF zs (k + 1) = uptoF zs k ++ [backF zs k] := by simp [uptoF, List.range_succ]
theorem uptoF_length (zs : List Frm) (k : Nat) : (uptoF zs k).length = k := by simp [uptoF]
set_option maxRecDepth 100000 in
set_option maxHeartbeats 4000000 in
theorem back1_in (F : Fence) (n : Nat) (h7 : F.fn 141) (hro : F.round = none) (hn : 1 ≤ n) (l Bs n₀ b off cap : Nat) (zs : List Frm) (hreach : zs.length * 32 ≤ 140737488351232) (hb : b < n₀) (J Jx : List (Nat × Frm) → World → Prop)
    (hY : ∀ pre x W, J pre W → pre.length < zs.length → YieldAt F (n - 1) Tryz.prog l #[.int .i64 (x.1 : Int), frV x.2] W fun e W' =>
      (e = .returned (.bool true) ∧ J (pre ++ [x]) W' ∧ Below n₀ W W') ∨ (e = .returned (.bool false) ∧ Jx (pre ++ [x]) W'))
    (W : World) (hBs : W.cell? ⟨Bs, 0, none⟩ = some (.slice (some ⟨b, off, none⟩) zs.length cap)) (hBb : Bs < n₀) (hc : ∀ j x, zs[j]? = some x → W.cell? ⟨b, off + j * 2, none⟩ = some (strV x.1) ∧ W.cell? ⟨b, off + j * 2 + 1, none⟩ = some (strV x.2)) (h0 : J [] W) :
    CallsIn F n Tryz.prog 141 #[.func (.yield l) #[] #[], .pointer (some ⟨Bs, 0, none⟩)] W fun e W' => (∃ v, e = .returned v) ∧
      ((∃ ys, ys = uptoF zs zs.length ∧ J ys W') ∨ (∃ pre, (∃ k, k ≤ zs.length ∧ pre = uptoF zs k) ∧ Jx pre W')) := by
  refine callsIn_of_wp Tryz.func141 rfl h7 ?_ hro
  simp only [Tryz.ntmps141, List.size_toArray, List.length_cons, List.length_nil, Nat.reduceAdd, Nat.reduceSub, Array.replicate_succ, Array.replicate_zero, List.push_toArray, List.append_toArray, List.nil_append, List.cons_append]
  gi_wp2
  gi_loopw [3] (fun i wr => ∃ k : Nat, k ≤ zs.length ∧ i = .int .i64 ((zs.length : Int) - 1 - k) ∧ J (uptoF zs k) wr ∧ Below n₀ W wr)
    (fun i _ => (intOf i + 1).toNat)
  case atStart => exact ⟨0, Nat.zero_le _, by simp, h0, Below.refl _ _⟩
  case round =>
    obtain ⟨k, hk, rfl, hJs, hnx⟩ := hrel
    have hBk := (hnx.cell (p := ⟨Bs, 0, none⟩) hBb).trans hBs
    by_cases hlt : k < zs.length
    · obtain ⟨x, hx⟩ : ∃ x, zs[zs.length - 1 - k]? = some x := ⟨_, List.getElem?_eq_getElem (by omega)⟩
      obtain ⟨c1, c2⟩ := hc _ x hx
      have c1 := (hnx.cell (p := ⟨b, off + (zs.length - 1 - k) * 2, none⟩) hb).trans c1
      have c2 := (hnx.cell (p := ⟨b, off + (zs.length - 1 - k) * 2 + 1, none⟩) hb).trans c2
      obtain ⟨fn, tmps, assign, body, hy, hR⟩ := hY _ (backF zs k) wr hJs (by rw [uptoF_length]; exact hlt)
      have hbk : backF zs k = (zs.length - 1 - k, x) := by unfold backF; rw [hx]; rfl
      rw [hbk] at hy hR
      dsimp only [frV] at hy
      have hsub : (zs.length : Int) - 1 - k = ((zs.length - 1 - k : Nat) : Int) := by omega
      rw [hsub]
      gi_wp2
      refine hR.mono ?_
      rintro e W3 (⟨rfl, hJ3, hk3⟩ | ⟨rfl, hJx3⟩)
      · gi_wp2
        go_roundw
        case rel => exact ⟨k + 1, by omega, by simp <;> omega, by rw [uptoF_succ, hbk]; exact hJ3, hnx.trans hk3⟩
        case measure => simp [intOf]
      · gi_wp2
        refine bodyPost_ret (results_none rfl _ _ _) rfl ?_
        exact ⟨⟨_, rfl⟩, .inr ⟨_, ⟨k + 1, by omega, by rw [uptoF_succ, hbk]⟩, hJx3⟩⟩
    · obtain rfl : k = zs.length := by omega
      gi_wp2
      go_end0
      exact ⟨⟨_, rfl⟩, .inl ⟨_, rfl, hJs⟩⟩
set_option maxRecDepth 100000 in
set_option maxHeartbeats 1000000 in
theorem back1_nil_in (F : Fence) (n : Nat) (h7 : F.fn 141) (hro : F.round = none) (l Bs : Nat) (J : List (Nat × Frm) → World → Prop) (W : World) (a : Option Addr) (cap : Nat) (hBs : W.cell? ⟨Bs, 0, none⟩ = some (.slice a 0 cap)) (h0 : J [] W) :
    CallsIn F n Tryz.prog 141 #[.func (.yield l) #[] #[], .pointer (some ⟨Bs, 0, none⟩)] W fun e W' => (∃ v, e = .returned v) ∧ J [] W' := by
  refine callsIn_of_wp Tryz.func141 rfl h7 ?_ hro
  simp only [Tryz.ntmps141, List.size_toArray, List.length_cons, List.length_nil, Nat.reduceAdd, Nat.reduceSub, Array.replicate_succ, Array.replicate_zero, List.push_toArray, List.append_toArray, List.nil_append, List.cons_append]
  gi_wp2
  gi_loopw [3] (fun i wr => i = .int .i64 (-1) ∧ J [] wr) (fun _ _ => 0)
  case atStart => exact ⟨rfl, h0⟩
  case round =>
    obtain ⟨rfl, hJs⟩ := hrel
    gi_wp2
    go_end0
    exact ⟨⟨_, rfl⟩, hJs⟩
set_option maxHeartbeats 1000000 in
theorem back_in (F : Fence) (n : Nat) (h5 : F.fn 104) (hro : F.round = none) (a : Option Addr) (len cap : Nat) (w : World) :
    CallsIn F n Tryz.prog 104 #[.slice a len cap] w fun e w' => e = .returned (.func (.func 141) #[] #[.pointer (some ⟨w.heap.size, 0, none⟩)]) ∧ w' = w.alloc (.cells #[.slice a len cap] 102) := by
  refine callsIn_of_wp Tryz.func104 rfl h5 ?_ hro
  simp only [Tryz.ntmps104, List.size_toArray, List.length_cons, List.length_nil, Nat.reduceAdd, Nat.reduceSub, Array.replicate_succ, Array.replicate_zero, List.push_toArray, List.append_toArray, List.nil_append, List.cons_append]
  gi_wp2
  go_ret
  exact ⟨rfl, rfl⟩
def FrmsAt (n₀ : Nat) (W : World) (sv : Value) (zs : List Frm) : Prop :=
  (zs = [] ∧ ∃ a cap, sv = .slice a 0 cap) ∨ ∃ b off cap, sv = .slice (some ⟨b, off, none⟩) zs.length cap ∧ b < n₀ ∧ ∀ j x, zs[j]? = some x → W.cell? ⟨b, off + j * 2, none⟩ = some (strV x.1) ∧ W.cell? ⟨b, off + j * 2 + 1, none⟩ = some (strV x.2)
theorem FrmsAt.below {n₀ : Nat} {A B : World} (h : Below n₀ A B) {sv : Value} {zs : List Frm} : FrmsAt n₀ A sv zs → FrmsAt n₀ B sv zs
  | .inl e => .inl e
  | .inr ⟨b, off, cap, e, hb, hc⟩ => .inr ⟨b, off, cap, e, hb, fun j x hx => ⟨(h.cell (p := ⟨b, off + j * 2, none⟩) hb).trans (hc j x hx).1, (h.cell (p := ⟨b, off + j * 2 + 1, none⟩) hb).trans (hc j x hx).2⟩⟩
theorem back_stops (F : Fence) (n : Nat) (h7 : F.fn 141) (hro : F.round = none) (hn : 1 ≤ n) (Bs n₀ : Nat) (sv : Value) (zs : List Frm) (hreach : zs.length * 32 ≤ 140737488351232) (w : World) (hBs : Bs < n₀) (hn₀ : n₀ ≤ w.heap.size)
    (hc : w.cell? ⟨Bs, 0, none⟩ = some sv) (hI : FrmsAt n₀ w sv zs) :
    SeqStopsK F n Tryz.prog 141 #[.pointer (some ⟨Bs, 0, none⟩)] (fun x : Nat × Frm => #[Value.int .i64 (x.1 : Int), frV x.2]) (Below n₀) (fun ys => ys = uptoF zs zs.length) (fun pre => ∃ k, k ≤ zs.length ∧ pre = uptoF zs k) zs.length w := fun l J Jx W hW _ _ hY h0 => by
  have hc' := (hW.cell (p := ⟨Bs, 0, none⟩) (Nat.lt_of_lt_of_le hBs hn₀)).trans hc
  rcases hI.below (hW.mono hn₀) with ⟨rfl, a, cap, rfl⟩ | ⟨b, off, cap, rfl, hb, hcs⟩
  · exact (back1_nil_in F n h7 hro l Bs J W a cap hc' h0).mono fun e W' ⟨he, hj⟩ => ⟨he, .inl ⟨_, rfl, hj⟩⟩
  · exact back1_in F n h7 hro hn l Bs n₀ b off cap zs hreach hb J Jx hY W hc' hBs hcs h0
def findF (zs : List Frm) (s : List UInt8) : List UInt8 × Bool := match zs.reverse.find? fun x => decide (x.1 = s) with
  | some x => (x.2, true)
  | none => (s, false)
theorem uptoF_rev (zs : List Frm) (k : Nat) (hk : k ≤ zs.length) : (uptoF zs k).map (·.2) = zs.reverse.take k := by
  apply List.ext_getElem
  · simp only [uptoF, List.length_map, List.length_range, List.length_take, List.length_reverse]; omega
  · intro i h1 h2
    have hi : i < k := by simp [uptoF] at h1; exact h1
    simp [uptoF, backF]
    rw [List.getElem?_eq_getElem (by omega)]
    simp
theorem find_done {zs : List Frm} {s : List UInt8} (h : ∀ p ∈ uptoF zs zs.length, p.2.1 ≠ s) : findF zs s = (s, false) := by
  have hr := uptoF_rev zs zs.length (Nat.le_refl _)
  rw [List.take_of_length_le (by simp)] at hr
  unfold findF
  rw [← hr]
  have : ((uptoF zs zs.length).map (·.2)).find? (fun x => decide (x.1 = s)) = none := by
    rw [List.find?_eq_none]
    intro x hx
    obtain ⟨p, hp, rfl⟩ := List.mem_map.1 hx
    simpa using h p hp
  rw [this]
theorem find_stop {zs : List Frm} {s : List UInt8} {k : Nat} (hk : k ≤ zs.length) {ini : List (Nat × Frm)} {last : Nat × Frm} (he : uptoF zs k = ini ++ [last]) (h : ∀ p ∈ ini, p.2.1 ≠ s) (hl : last.2.1 = s) : findF zs s = (last.2.2, true) := by
  have hr := uptoF_rev zs k hk
  rw [he, List.map_append, List.map_singleton] at hr
  unfold findF
  rw [← List.take_append_drop k zs.reverse, ← hr, List.append_assoc, List.find?_append]
  have h1 : (ini.map (·.2)).find? (fun x => decide (x.1 = s)) = none := by
    rw [List.find?_eq_none]
    intro x hx
    obtain ⟨p, hp, rfl⟩ := List.mem_map.1 hx
    simpa using h p hp
  rw [h1]
  simp [hl]
theorem FrmsAt.mono {n₀ n₁ : Nat} (h : n₀ ≤ n₁) {W : World} {sv : Value} {zs : List Frm} : FrmsAt n₀ W sv zs → FrmsAt n₁ W sv zs
  | .inl e => .inl e
  | .inr ⟨b, off, cap, e, hb, hc⟩ => .inr ⟨b, off, cap, e, Nat.lt_of_lt_of_le hb h, hc⟩
theorem boxed_kept {A B : World} {b : Nat} {t : TypeId} {v : Value} {row : Option Nat} (h : Boxed A b t v) (hg : A.grownBy B row) (hr : ∀ r, row = some r → ∃ o : Obj, A.heap[r]? = some o ∧ o.isCells = false) : Boxed B b t v := boxed_own (β := Unit) b t (fun _ => v) () A B row h hg hr
set_option maxRecDepth 100000 in
set_option maxHeartbeats 4000000 in
theorem find_in (F : Fence) (n : Nat) (h4 : F.fn 69) (h6 : F.fn 104) (h8 : F.fn 141) (hro : F.round = none) (hn : 3 ≤ n) (a : Option Addr) (len cap : Nat) (zs : List Frm) (s : List UInt8) (hreach : zs.length * 32 ≤ 140737488351232) (w : World) (hI : FrmsAt w.heap.size w (.slice a len cap) zs) :
    CallsIn F n Tryz.prog 69 #[.slice a len cap, strV s] w fun e W' => e = .returned (.tuple #[strV (findF zs s).1, .bool (findF zs s).2]) ∧ Below w.heap.size w W' := by
  have h1 : 1 ≤ n := by omega
  refine callsIn_of_wp_marks Tryz.func69 rfl h4 ?_ hro
  simp only [Tryz.ntmps69, List.size_toArray, List.length_cons, List.length_nil, Nat.reduceAdd, Nat.reduceSub, Array.replicate_succ, Array.replicate_zero, List.push_toArray, List.append_toArray, List.nil_append, List.cons_append]
  gi_wp2_with (gi_at_call 104; refine (back_in F (n - 1) h6 hro _ _ _ _).mono ?_; rintro e w' ⟨rfl, rfl⟩)
  have hB0 : Below w.heap.size w ((((w.alloc (.cells #[strV s] 9)).alloc (.cells #[.string ⟨#[]⟩] 9)).alloc (.cells #[.bool false] 4)).alloc (.cells #[.slice a len cap] 102)) :=
    ((((Below.refl _ w).alloc (Nat.le_refl _) _).alloc (by simp) _).alloc (by simp; omega) _).alloc (by simp; omega) _
  have b0 := (((Boxed.new w 9 (strV s)).alloc (.cells #[.string ⟨#[]⟩] 9)).alloc (.cells #[.bool false] 4)).alloc (.cells #[.slice a len cap] 102)
  have b1 := ((Boxed.new (w.alloc (.cells #[strV s] 9)) 9 (.string ⟨#[]⟩)).alloc (.cells #[.bool false] 4)).alloc (.cells #[.slice a len cap] 102)
  have b2 := (Boxed.new ((w.alloc (.cells #[strV s] 9)).alloc (.cells #[.string ⟨#[]⟩] 9)) 4 (.bool false)).alloc (.cells #[.slice a len cap] 102)
  have b3 := Boxed.new (((w.alloc (.cells #[strV s] 9)).alloc (.cells #[.string ⟨#[]⟩] 9)).alloc (.cells #[.bool false] 4)) 102 (.slice a len cap)
  have hs0 : ((((w.alloc (.cells #[strV s] 9)).alloc (.cells #[.string ⟨#[]⟩] 9)).alloc (.cells #[.bool false] 4)).alloc (.cells #[.slice a len cap] 102)).heap.size = w.heap.size + 4 := by simp
  generalize ((((w.alloc (.cells #[strV s] 9)).alloc (.cells #[.string ⟨#[]⟩] 9)).alloc (.cells #[.bool false] 4)).alloc (.cells #[.slice a len cap] 102)) = W0 at hB0 b0 b1 b2 b3 hs0 ⊢
  simp only [World.size_alloc] at b1 b2 b3
  refine wpIn_rangeFunc_ownH hro h1 (gf := 141) (lb := #[.pointer (some ⟨w.heap.size + 1 + 1 + 1, 0, none⟩)]) rfl h8 (enters_of Tryz.func141 (by kernel_rfl) rfl)
    (back_stops F (n - 1) h8 hro (by omega) (w.heap.size + 1 + 1 + 1) W0.heap.size _ zs hreach W0 (by omega) (Nat.le_refl _) b3.cell ((hI.below hB0).mono (by omega))) belowK_t (belowK_b (Nat.le_refl _)) (Below.refl _ _) (fun _ => rfl)
    (fun pre W => ((∀ p ∈ pre, p.2.1 ≠ s) ∧ Boxed W w.heap.size 9 (strV s) ∧ Boxed W (w.heap.size + 1) 9 (.string ⟨#[]⟩) ∧ Boxed W (w.heap.size + 1 + 1) 4 (.bool false) ∧ W0.heap.size ≤ W.heap.size) ∧ Below w.heap.size w W)
    (fun c pre W => (c = .ret ∧ ∃ ini last, pre = ini ++ [last] ∧ (∀ p ∈ ini, p.2.1 ≠ s) ∧ last.2.1 = s ∧ Boxed W (w.heap.size + 1) 9 (strV last.2.2) ∧ Boxed W (w.heap.size + 1 + 1) 4 (.bool true)) ∧ Below w.heap.size w W)
    (OwnFrom.and (Own.from (fun st A B row hs hg hr => ⟨hs.1, boxed_kept hs.2.1 hg hr, boxed_kept hs.2.2.1 hg hr, boxed_kept hs.2.2.2.1 hg hr, Nat.le_trans hs.2.2.2.2 hg.size⟩) _) (ownFrom_below (Nat.le_refl _) (by omega)))
    (fun c => OwnFrom.and (Own.from (fun st A B row hs hg hr => by obtain ⟨hc, ini, last, e1, e2, e3, e4, e5⟩ := hs; exact ⟨hc, ini, last, e1, e2, e3, boxed_kept e4 hg hr, boxed_kept e5 hg hr⟩) _) (ownFrom_below (Nat.le_refl _) (by omega)))
    ⟨⟨by simp, b0, b1, b2, Nat.le_refl _⟩, hB0⟩
    (fun x a' W => ∃ c, a' = { tmps := #[.slice a len cap, strV s, undef, .pointer (some ⟨w.heap.size, 0, none⟩), .pointer (some ⟨w.heap.size + 1, 0, none⟩), .pointer (some ⟨w.heap.size + 1 + 1, 0, none⟩), undef, .pointer (some ⟨c, 0, none⟩), .slice a len cap, .func (.func 141) #[] #[.pointer (some ⟨w.heap.size + 1 + 1 + 1, 0, none⟩)], .int .i64 (x.1 : Int), frV x.2, undef, undef, undef, undef, undef, undef, undef], defers := [] } ∧ W.cell? ⟨c, 0, none⟩ = some (strV x.2.1) ∧ W.cell? ⟨c, 1, none⟩ = some (strV x.2.2))
    (fun x a' => Own.from (fun st A B row hs hg hr => by obtain ⟨c, h1, h2, h3⟩ := hs; exact ⟨c, h1, cell_kept h2 hg hr, cell_kept h3 hg hr⟩) _) ?assign ?body ?done ?stop
  case assign =>
    rintro l pre ⟨xi, xn, xa⟩ W K ⟨⟨hp, c0, c1, c2, hsz⟩, hB⟩ hK
    gi_wp2
    have hnew := World.alloc_heap_new W (.cells #[strV xn, strV xa] 105)
    exact hK _ _ (KeepsFrom.of_grownBy (World.grownBy_alloc W _ none) (by simp)) ((Below.refl _ W).alloc hsz _) ⟨⟨hp, c0.alloc _, c1.alloc _, c2.alloc _, by rw [World.size_alloc]; omega⟩, hB.alloc hB.size _⟩
      ⟨W.heap.size, rfl, by rw [World.cell?, hnew]; rfl, by rw [World.cell?, hnew]; rfl⟩
  case body =>
    rintro l pre x a' W hl hrec ⟨⟨hp, c0, c1, c2, hsz⟩, hB⟩ ⟨c, rfl, d1, d2⟩ _
    have g0 := c0.cell
    have g1 := c1.cell
    have g2 := c2.cell
    have f1 := c1.frozen
    have f2 := c2.frozen
    obtain ⟨xi, xn, xa⟩ := x
    dsimp only at d1 d2
    gi_wp2
    · rename_i hx
      have hx : xn = s := by simpa using hx
      exact ⟨((KeepsOthers.setCell _ _ _).from _).trans ((KeepsOthers.setCell _ _ _).from _), ⟨rfl, pre, (xi, xn, xa), rfl, hp, hx, (c1.set _).other (by omega) _, (c2.other (by omega) _).set _⟩, (hB.setCell (p := ⟨w.heap.size + 1, 0, none⟩) (Nat.le_succ _) _).setCell (p := ⟨w.heap.size + 1 + 1, 0, none⟩) (by show _ ≤ w.heap.size + 1 + 1; omega) _⟩
    · rename_i hx
      have hx : xn ≠ s := by simpa using hx
      exact ⟨KeepsFrom.refl _ _, Below.refl _ _, ⟨fun p hp' => (List.mem_append.1 hp').elim (hp p) (fun e => by simp at e; subst e; exact hx), c0, c1, c2, hsz⟩, hB⟩
  case done =>
    rintro D ys W hD rfl ⟨⟨hne, c0, c1, c2, hsz⟩, hB⟩ hK
    have g0 := c0.cell
    have g1 := c1.cell
    have g2 := c2.cell
    have f1 := c1.frozen
    have f2 := c2.frozen
    gi_wp2
    have k1 := (c1.set (strV s)).other (B' := w.heap.size + 1 + 1) (by omega) (.bool false)
    have k2 := (c2.other (B' := w.heap.size + 1) (by omega) (strV s)).set (.bool false)
    have hK2 := (KeepsOthers.setCell (W.setCell ⟨w.heap.size + 1, 0, none⟩ (strV s)) ⟨w.heap.size + 1 + 1, 0, none⟩ (.bool false)).same D _ ((KeepsOthers.setCell W ⟨w.heap.size + 1, 0, none⟩ (strV s)).same D _ hK rfl) rfl
    refine ⟨by simp, .inl ⟨_, _, rfl, run_takeDeferred hK2, ?_⟩⟩
    have m1 := (boxed_kept k1 (grownBy_putObj' _ D (.deferred none)) (fun r e => by cases e; exact ⟨_, hK2, rfl⟩)).cell
    have m2 := (boxed_kept k2 (grownBy_putObj' _ D (.deferred none)) (fun r e => by cases e; exact ⟨_, hK2, rfl⟩)).cell
    refine ⟨.tuple #[strV s, .bool false], ?_, by rw [find_done hne], ((hB.setCell (p := ⟨w.heap.size + 1, 0, none⟩) (Nat.le_succ _) _).setCell (p := ⟨w.heap.size + 1 + 1, 0, none⟩) (by show _ ≤ w.heap.size + 1 + 1; omega) _).trans (belowK_b (w := w) (Nat.le_refl _) _ D _ _ (by omega) hK2 rfl rfl)⟩
    simp [results, Tryz.f69, go_sem, m1, m2]
  case stop =>
    rintro D c pre W hD ⟨k, hk, rfl⟩ ⟨⟨rfl, ini, last, e1, e2, e3, e4, e5⟩, hB⟩ hK
    gi_wp2
    refine ⟨by simp, .inl ⟨_, _, rfl, run_takeDeferred hK, ?_⟩⟩
    have m1 := (boxed_kept e4 (grownBy_putObj' _ D (.deferred none)) (fun r e => by cases e; exact ⟨_, hK, rfl⟩)).cell
    have m2 := (boxed_kept e5 (grownBy_putObj' _ D (.deferred none)) (fun r e => by cases e; exact ⟨_, hK, rfl⟩)).cell
    refine ⟨.tuple #[strV last.2.2, .bool true], ?_, by rw [find_stop hk e1 e2 e3], hB.trans (belowK_b (w := w) (Nat.le_refl _) W D _ _ (by omega) hK rfl rfl)⟩
    simp [results, Tryz.f69, go_sem, m1, m2]
end Go.Proofs.YtpdeaekmgljeaaaGreatDoor
namespace Go.Proofs.YtpdeaekmgljeaaaGreatDoor
open Go Go.Abs Go.RowKit
def encFr (x : Frm) : V := .agg [.str x.1, .str x.2]
def vF (l : List Frm) : V := .sl (some 2) false (l.map encFr)
theorem flat_frm : ∀ (l : List Frm) (j : Nat) (x : Frm), l[j]? = some x → (V.flat (l.map encFr))[j * 2]? = some (.str x.1) ∧ (V.flat (l.map encFr))[j * 2 + 1]? = some (.str x.2)
  | [], j, x, h => by simp at h
  | y :: l, 0, x, h => by
    cases h
    exact ⟨rfl, rfl⟩
  | y :: l, j + 1, x, h => by
    have ih := flat_frm l j x (by simpa using h)
    have e : (j + 1) * 2 = j * 2 + 1 + 1 := by omega
    rw [e]
    exact ih
theorem findF_from (zs : List Frm) (s : Str) : (findF zs s).1 = s ∨ ∃ x ∈ zs, (findF zs s).1 = x.2 := by
  unfold findF
  cases h : zs.reverse.find? (fun x => decide (x.1 = s)) with
  | none => exact .inl rfl
  | some x => exact .inr ⟨x, List.mem_reverse.1 (List.mem_of_find?_eq_some h), rfl⟩
theorem k_Find {zs : List Frm} {s : Str} {f : Bool} {σ : Sg} (hL : zs.length ≤ 4000000) : ACalls Tryz.prog 69 [.v (.sl (some 2) f (zs.map encFr)), .v (.str s)] σ fun r σ' => r = .tup [.v (.str (findF zs s).1), .v (.bool (findF zs s).2)] ∧ σ' = σ := by
  refine ⟨⟨_, Tryz.func69, by kernel_rfl, by kernel_rfl⟩, fun m w us hI hl hr => ?_⟩
  match us, hl with
  | [u1, u2], _ =>
  have g1 := (hr 0 _ _ rfl rfl).v_inv
  have g2 := (hr 1 _ _ rfl rfl).v_inv
  clear hr
  cases g2 with
  | str _ hs =>
  obtain ⟨a, cap, rfl, hc1, hc2, _, _, _, hor⟩ := g1.sl_inv
  clear g1
  rw [List.length_map] at hc1 hor ⊢
  have hF : FrmsAt w.heap.size w (.slice a zs.length cap) zs ∧ ∀ x ∈ zs, x.2.length ≤ maxLen := by
    rcases hor with ⟨h, _⟩ | ⟨b, off, us, rfl, hcell, hrep⟩
    · have hz : zs = [] := List.map_eq_nil_iff.1 h
      subst hz
      exact ⟨.inl ⟨rfl, _, _, rfl⟩, by simp⟩
    · cases zs with
      | nil => exact ⟨.inl ⟨rfl, _, _, rfl⟩, by simp⟩
      | cons z zs =>
      have hall0 : True := trivial
      suffices hall : ∀ j x, (z :: zs)[j]? = some x → (w.cell? ⟨b, off + j * 2, none⟩ = some (strV x.1) ∧ w.cell? ⟨b, off + j * 2 + 1, none⟩ = some (strV x.2)) ∧ x.2.length ≤ maxLen from
        ⟨.inr ⟨b, off, cap, rfl, (hcell 0 (by simp [shn])).2.1, fun j x hx => (hall j x hx).1⟩, fun x hx => by obtain ⟨j, hj⟩ := List.mem_iff_getElem?.1 hx; exact (hall j x hj).2⟩
      intro j x hx
      have hj := (List.getElem?_eq_some_iff.1 hx).1
      obtain ⟨f1, f2⟩ := flat_frm _ _ _ hx
      have h1 := hrep _ _ f1
      have h2 := hrep _ _ f2
      have e1 := (hcell (j * 2) (by simp only [shn]; omega)).1
      have e2 := (hcell (j * 2 + 1) (by simp only [shn]; omega)).1
      rw [Nat.add_assoc]
      rw [e1, e2]
      generalize us (j * 2) = v1 at h1
      generalize us (j * 2 + 1) = v2 at h2
      cases h1
      cases h2 with
      | str _ hl2 => exact ⟨⟨rfl, rfl⟩, hl2⟩
  refine (callsIn_wide.1 (find_in Fence.wide 3 trivial trivial trivial rfl (by omega) a zs.length cap zs s (by omega) w hF.1)).mono fun e w' ⟨he, hw⟩ => ?_
  obtain ⟨hI', hX⟩ := Inv.below hI hw
  exact ⟨_, _, σ, m, he, ⟨rfl, rfl⟩, hI', hX, by
    refine .tup _ _ rfl fun i d u hd hu => ?_
    match i with
    | 0 =>
      cases hd
      cases hu
      refine .v _ _ (.str _ ?_)
      rcases findF_from zs s with h | ⟨x, hx, h⟩
      · rw [h]; exact hs
      · rw [h]; exact hF.2 x hx
    | 1 =>
      cases hd
      cases hu
      exact .v _ _ (.bool _)
    | i + 2 => simp at hd⟩
theorem k_Itoa {n : Int} {σ : Sg} : ACalls Tryz.prog 71 [.v (.int .i64 n)] σ fun r σ' => (r = .v (.str (Lib.itoa n)) ∧ (Lib.itoa n).length ≤ 21) ∧ σ' = σ := by
  refine ⟨⟨_, Tryz.func71, by kernel_rfl, by kernel_rfl⟩, fun m w us hI hl hr => ?_⟩
  match us, hl with
  | [u], _ =>
    have h0 := hr 0 _ _ rfl rfl
    cases h0 with
    | v _ _ hv =>
      cases hv with
      | int _ _ hn =>
        have hn1 : -9223372036854775808 ≤ n := hn.1
        have hn2 : n ≤ 9223372036854775807 := hn.2
        refine (Go.Proofs.Any.strconv_Itoa itoaLays n hn1 hn2 w (tab_is hI)).mono fun e w' ⟨he, k, os, hw⟩ => ?_
        subst hw
        obtain ⟨hI', hX⟩ := grown_inv hI k os
        have hlen := Lib.itoa_length_le n hn1 hn2
        exact ⟨_, _, σ, m, he, ⟨⟨rfl, hlen⟩, rfl⟩, hI', hX, .v _ _ (.str _ (by unfold maxLen; omega))⟩
theorem k_CloneS {l : List Str} {σ : Sg} (hl : l.length ≤ 1048576) : ACalls Tryz.prog 66 [.v (vS l)] σ fun r σ' => r = .v (vS l) ∧ σ' = σ := by
  refine acalls_fit Tryz.func66 (by kernel_rfl) c66 rfl (by simp [a66]) fun hf => ?_
  clear hf
  simp -implicitDefEqProofs (maxSteps := 2000000) (disch := omega) [-getElem?_pos, a66]
  refine ⟨⟨by omega, .fin _ ⟨rfl, rfl⟩ .tsl⟩, fun h => .fin _ ⟨rfl, rfl⟩ ?_⟩
  rw [h]
  exact VLe.snil.d
theorem k_With {f g : Bool} {l x : List Frm} {σ : Sg} (hl : l.length + x.length ≤ 4000000) : ACalls Tryz.prog 70 [.v (.sl (some 2) f (l.map encFr)), .v (.sl (some 2) g (x.map encFr))] σ fun r σ' => r = .v (vF (l ++ x)) ∧ σ' = σ := by
  refine acalls_fit Tryz.func70 (by kernel_rfl) c70 rfl (by simp [a70]) fun hf => ?_
  clear hf
  simp -implicitDefEqProofs (maxSteps := 2000000) (disch := omega) [-getElem?_pos, a70]
  exact ⟨by omega, .fin _ ⟨rfl, rfl⟩ (by unfold vF; rw [List.map_append]; exact .tsl)⟩
end Go.Proofs.YtpdeaekmgljeaaaGreatDoor
namespace Go.Proofs.YtpdeaekmgljeaaaGreatDoor
open Go Go.Abs
structure Rn where
  old : List Str
  free : List Int
def asR (r : Rn) : Str := [118] ++ Lib.itoa (r.old.length : Int)
def bindR (s : Str) (r : Rn) : Rn := ⟨r.old ++ [s], r.free⟩
def zF : Frm := ([], [])
def namesR : List Str → Rn → List Frm × Rn
  | [], r => ([], r)
  | x :: l, r => ((x, asR r) :: (namesR l (bindR x r)).1, (namesR l (bindR x r)).2)
structure Hd where
  s : Str
  t : Str
  ns : List Str
  fs : Frm
  ft : Frm
  fn : List Frm
  r : Rn
def headN (k p : Int) (s t : Str) (ns : List Str) (env : List Frm) (r : Rn) : Hd :=
  if k = 3 then ⟨(findF env s).1, t, [], zF, zF, [], if (findF env s).2 = true then r else ⟨r.old, r.free ++ [p]⟩⟩
  else if k = 4 ∨ k = 6 then ⟨asR r, t, [], (s, asR r), zF, [], bindR s r⟩
  else if k = 7 then ⟨asR r, asR (bindR s r), [], (s, asR r), (t, asR (bindR s r)), [], bindR t (bindR s r)⟩
  else if k = 14 then (if t = [] then ⟨s, t, (namesR ns r).1.map (·.2), zF, zF, (namesR ns r).1, (namesR ns r).2⟩
    else ⟨s, asR (namesR ns r).2, (namesR ns r).1.map (·.2), zF, (t, asR (namesR ns r).2), (namesR ns r).1, bindR t (namesR ns r).2⟩)
  else ⟨s, t, [], zF, zF, [], r⟩
def innerN (k : Int) (h : Hd) (env : List Frm) (i : Nat) : List Frm :=
  if k = 4 ∨ (k = 6 ∧ i = 1) ∨ (k = 7 ∧ i = 1) then env ++ [h.fs]
  else if k = 7 then env ++ [h.fs, h.ft]
  else if k = 14 ∧ 0 < i ∧ i ≤ h.fn.length then env ++ [(h.fn[i - 1]?).getD zF]
  else if k = 14 ∧ 0 < i then env ++ [h.ft]
  else env
structure ER where
  e : Ex
  r : Rn
structure LR where
  l : List Ex
  r : Rn
mutual
def goN : Ex → List Frm → Rn → ER
  | .mk k p n s t ls ns l, env, r => ⟨.mk k p n (headN k p s t ns env r).s (headN k p s t ns env r).t ls (headN k p s t ns env r).ns (goL k (headN k p s t ns env r) env 0 l (headN k p s t ns env r).r).l, (goL k (headN k p s t ns env r) env 0 l (headN k p s t ns env r).r).r⟩
def goL (k : Int) (h : Hd) (env : List Frm) : Nat → List Ex → Rn → LR
  | _, [], r => ⟨[], r⟩
  | i, x :: l, r => ⟨(goN x (innerN k h env i) r).e :: (goL k h env (i + 1) l (goN x (innerN k h env i) r).r).l, (goL k h env (i + 1) l (goN x (innerN k h env i) r).r).r⟩
end
theorem goL_app (k : Int) (h : Hd) (env : List Frm) : ∀ (i : Nat) (a b : List Ex) (r : Rn), goL k h env i (a ++ b) r = ⟨(goL k h env i a r).l ++ (goL k h env (i + a.length) b (goL k h env i a r).r).l, (goL k h env (i + a.length) b (goL k h env i a r).r).r⟩
  | i, [], b, r => by simp [goL]
  | i, x :: a, b, r => by
    simp only [List.cons_append, goL, goL_app k h env (i + 1) a b, List.length_cons, LR.mk.injEq, true_and]
    rw [show i + 1 + a.length = i + (a.length + 1) from by omega]
    exact ⟨rfl, rfl⟩
theorem goL_snoc (k : Int) (h : Hd) (env : List Frm) {a : List Ex} {x : Ex} {r : Rn} : goL k h env 0 (a ++ [x]) r = ⟨(goL k h env 0 a r).l ++ [(goN x (innerN k h env a.length) (goL k h env 0 a r).r).e], (goN x (innerN k h env a.length) (goL k h env 0 a r).r).r⟩ := by
  rw [goL_app]
  simp [goL]
theorem namesR_len : ∀ (l : List Str) (r : Rn), (namesR l r).1.length = l.length ∧ (namesR l r).2.old.length = r.old.length + l.length ∧ (namesR l r).2.free = r.free
  | [], r => ⟨rfl, rfl, rfl⟩
  | x :: l, r => by
    obtain ⟨i1, i2, i3⟩ := namesR_len l (bindR x r)
    refine ⟨by simp [namesR, i1], ?_, i3⟩
    simp only [namesR]
    rw [i2]
    simp only [bindR, List.length_append, List.length_cons, List.length_nil]
    omega
theorem namesR_snoc : ∀ (l : List Str) (x : Str) (r : Rn), namesR (l ++ [x]) r = ((namesR l r).1 ++ [(x, asR (namesR l r).2)], bindR x (namesR l r).2)
  | [], x, r => rfl
  | y :: l, x, r => by simp only [List.cons_append, namesR, namesR_snoc l x]
theorem headN_len (k p : Int) (s t : Str) (ns : List Str) (env : List Frm) (r : Rn) : (headN k p s t ns env r).r.old.length ≤ r.old.length + 2 + ns.length ∧ (headN k p s t ns env r).r.free.length ≤ r.free.length + 1 := by
  have h1 := namesR_len ns r
  unfold headN
  split
  · split <;> simp <;> omega
  · split
    · simp [bindR] <;> omega
    · split
      · simp [bindR] <;> omega
      · split
        · split
          · dsimp only; rw [h1.2.1, h1.2.2]; omega
          · simp only [bindR, List.length_append, List.length_singleton]; rw [h1.2.1, h1.2.2]; omega
        · dsimp only; omega
theorem innerN_len (k : Int) (h : Hd) (env : List Frm) (i : Nat) : (innerN k h env i).length ≤ env.length + 2 := by
  unfold innerN
  split
  · simp
  · split
    · simp
    · split
      · simp
      · split
        · simp
        · omega
theorem nsz_ge : ∀ l : List Str, l.length ≤ nsz l
  | [] => by simp
  | x :: l => by have := nsz_ge l; simp only [nsz, List.length_cons]; omega
theorem goN_len (e : Ex) : ∀ (env : List Frm) (r : Rn), (goN e env r).r.old.length ≤ r.old.length + csz e ∧ (goN e env r).r.free.length ≤ r.free.length + csz e := by
  refine Ex.ind (P := fun e => ∀ (env : List Frm) (r : Rn), (goN e env r).r.old.length ≤ r.old.length + csz e ∧ (goN e env r).r.free.length ≤ r.free.length + csz e) (fun k p n s t ls ns l ih => ?_) e
  intro env r
  have hh := headN_len k p s t ns env r
  have hn := nsz_ge ns
  rw [goN]
  dsimp only
  generalize headN k p s t ns env r = h at *
  have hL : ∀ (l : List Ex) (i : Nat) (r : Rn), (∀ x ∈ l, ∀ (env : List Frm) (r : Rn), (goN x env r).r.old.length ≤ r.old.length + csz x ∧ (goN x env r).r.free.length ≤ r.free.length + csz x) → (goL k h env i l r).r.old.length ≤ r.old.length + cszL l ∧ (goL k h env i l r).r.free.length ≤ r.free.length + cszL l := by
    intro l
    induction l with
    | nil => intro i r _; simp [goL]
    | cons x l ihl =>
      intro i r hx
      have h1 := hx x (by simp) (innerN k h env i) r
      have h2 := ihl (i + 1) (goN x (innerN k h env i) r).r fun y hy => hx y (by simp [hy])
      simp only [goL, cszL]
      omega
  have h3 := hL l 0 h.r ih
  rw [csz]
  omega
end Go.Proofs.YtpdeaekmgljeaaaGreatDoor
namespace Go.Proofs.YtpdeaekmgljeaaaGreatDoor
open Go.Shelf
def keysLays_ren : Go.Shelf.Ren := ⟨fun | 7 => 49 | 10 => 77 | n => n, fun | 23 => 77 | 26 => 9 | 3 => 4 | 28 => 75 | 0 => 0 | 27 => 74 | 33 => 113 | 4 => 4 | n => n, fun | n => n⟩
theorem keysLays : Go.Proofs.SlLaysZ.n7 Tryz.prog keysLays_ren := {
  mixed := by kernel_rfl
  f7 := ⟨Tryz.f49.name, by decide, Tryz.func49.trans (congrArg some (by kernel_rfl))⟩
  f10 := ⟨Tryz.f77.name, by decide, Tryz.func77.trans (congrArg some (by kernel_rfl))⟩
  t0 := Tryz.underlying0
  a0 := Tryz.isAgg0
  z0 := Tryz.sizeOf0
  v0 := Tryz.zeroValue0
  t4 := Tryz.underlying4
  a4 := Tryz.isAgg4
  z4 := Tryz.sizeOf4
  v4 := Tryz.zeroValue4
  t23 := Tryz.underlying77
  a23 := Tryz.isAgg77
  z23 := Tryz.sizeOf77
  v23 := Tryz.zeroValue77
  t26 := Tryz.underlying9
  a26 := Tryz.isAgg9
  z26 := Tryz.sizeOf9
  v26 := Tryz.zeroValue9
  t27 := Tryz.underlying74
  a27 := Tryz.isAgg74
  z27 := Tryz.sizeOf74
  v27 := Tryz.zeroValue74
  t28 := Tryz.underlying75
  a28 := Tryz.isAgg75
  z28 := Tryz.sizeOf75
  v28 := Tryz.zeroValue75
  t33 := Tryz.underlying113
  a33 := Tryz.isAgg113
  z33 := Tryz.sizeOf113
  v33 := Tryz.zeroValue113 }
def sortedLays_ren : Go.Shelf.Ren := ⟨fun | 6 => 48 | 8 => 75 | 9 => 76 | 11 => 112 | 13 => 114 | 12 => 113 | 23 => 154 | 24 => 137 | 14 => 145 | 15 => 146 | 16 => 147 | 17 => 148 | 18 => 149 | 19 => 150 | 20 => 151 | 21 => 152 | 22 => 153 | 25 => 178 | 26 => 179 | 27 => 180 | 28 => 181 | 29 => 182 | 30 => 183 | 31 => 194 | n => n, fun | 26 => 9 | 28 => 75 | 24 => 22 | 0 => 0 | 3 => 3 | 37 => 164 | 48 => 187 | 50 => 137 | 4 => 4 | 40 => 199 | 39 => 198 | 45 => 204 | 5 => 5 | 9 => 9 | 51 => 221 | 55 => 225 | 57 => 237 | 58 => 34 | 33 => 113 | n => n, fun | n => n⟩
theorem sortedLays : Go.Proofs.SlLaysZ.n6 Tryz.prog sortedLays_ren := {
  mixed := by kernel_rfl
  f6 := ⟨Tryz.f48.name, by decide, Tryz.func48.trans (congrArg some (by kernel_rfl))⟩
  f8 := ⟨Tryz.f75.name, by decide, Tryz.func75.trans (congrArg some (by kernel_rfl))⟩
  f11 := ⟨Tryz.f112.name, by decide, Tryz.func112.trans (congrArg some (by kernel_rfl))⟩
  t0 := Tryz.underlying0
  a0 := Tryz.isAgg0
  z0 := Tryz.sizeOf0
  v0 := Tryz.zeroValue0
  t24 := Tryz.underlying22
  a24 := Tryz.isAgg22
  z24 := Tryz.sizeOf22
  v24 := Tryz.zeroValue22
  t26 := Tryz.underlying9
  a26 := Tryz.isAgg9
  z26 := Tryz.sizeOf9
  v26 := Tryz.zeroValue9
  t28 := Tryz.underlying75
  a28 := Tryz.isAgg75
  z28 := Tryz.sizeOf75
  v28 := Tryz.zeroValue75
  i26 := by kernel_rfl }
def sortMLays_ren : Go.Shelf.Ren := ⟨fun | 6 => 76 | 8 => 114 | 9 => 113 | 19 => 154 | 20 => 137 | 21 => 145 | 22 => 146 | 23 => 147 | 24 => 148 | 25 => 149 | 26 => 150 | 27 => 151 | 28 => 152 | 29 => 153 | 36 => 178 | 31 => 179 | 32 => 180 | 37 => 181 | 38 => 182 | 39 => 183 | 41 => 194 | n => n, fun | 27 => 22 | 29 => 9 | 3 => 3 | 32 => 164 | 26 => 22 | 0 => 0 | 44 => 187 | 46 => 137 | 4 => 4 | 36 => 199 | 35 => 198 | 41 => 204 | 5 => 5 | 9 => 9 | 53 => 221 | 57 => 225 | 63 => 237 | 64 => 34 | n => n, fun | n => n⟩
theorem sortMLays : Go.Proofs.SlLaysM.n6 Tryz.prog sortMLays_ren := {
  mixed := by kernel_rfl
  f6 := ⟨Tryz.f76.name, by decide, Tryz.func76.trans (congrArg some (by kernel_rfl))⟩
  f8 := Tryz.func114.trans (congrArg some (by kernel_rfl))
  f9 := ⟨Tryz.f113.name, by decide, Tryz.func113.trans (congrArg some (by kernel_rfl))⟩
  f19 := Tryz.func154.trans (congrArg some (by kernel_rfl))
  f20 := Tryz.func137.trans (congrArg some (by kernel_rfl))
  f21 := ⟨Tryz.f145.name, by decide, Tryz.func145.trans (congrArg some (by kernel_rfl))⟩
  f22 := ⟨Tryz.f146.name, by decide, Tryz.func146.trans (congrArg some (by kernel_rfl))⟩
  f23 := ⟨Tryz.f147.name, by decide, Tryz.func147.trans (congrArg some (by kernel_rfl))⟩
  f24 := ⟨Tryz.f148.name, by decide, Tryz.func148.trans (congrArg some (by kernel_rfl))⟩
  f25 := ⟨Tryz.f149.name, by decide, Tryz.func149.trans (congrArg some (by kernel_rfl))⟩
  f26 := ⟨Tryz.f150.name, by decide, Tryz.func150.trans (congrArg some (by kernel_rfl))⟩
  f27 := ⟨Tryz.f151.name, by decide, Tryz.func151.trans (congrArg some (by kernel_rfl))⟩
  f28 := ⟨Tryz.f152.name, by decide, Tryz.func152.trans (congrArg some (by kernel_rfl))⟩
  f29 := ⟨Tryz.f153.name, by decide, Tryz.func153.trans (congrArg some (by kernel_rfl))⟩
  f31 := Tryz.func179.trans (congrArg some (by kernel_rfl))
  f32 := Tryz.func180.trans (congrArg some (by kernel_rfl))
  f36 := ⟨Tryz.f178.name, by decide, Tryz.func178.trans (congrArg some (by kernel_rfl))⟩
  f37 := ⟨Tryz.f181.name, by decide, Tryz.func181.trans (congrArg some (by kernel_rfl))⟩
  f38 := ⟨Tryz.f182.name, by decide, Tryz.func182.trans (congrArg some (by kernel_rfl))⟩
  f39 := ⟨Tryz.f183.name, by decide, Tryz.func183.trans (congrArg some (by kernel_rfl))⟩
  f41 := ⟨Tryz.f194.name, by decide, Tryz.func194.trans (congrArg some (by kernel_rfl))⟩
  t0 := Tryz.underlying0
  a0 := Tryz.isAgg0
  z0 := Tryz.sizeOf0
  v0 := Tryz.zeroValue0
  t3 := Tryz.underlying3
  a3 := Tryz.isAgg3
  z3 := Tryz.sizeOf3
  v3 := Tryz.zeroValue3
  t4 := Tryz.underlying4
  a4 := Tryz.isAgg4
  z4 := Tryz.sizeOf4
  v4 := Tryz.zeroValue4
  t5 := Tryz.underlying5
  a5 := Tryz.isAgg5
  z5 := Tryz.sizeOf5
  v5 := Tryz.zeroValue5
  t9 := Tryz.underlying9
  a9 := Tryz.isAgg9
  z9 := Tryz.sizeOf9
  v9 := Tryz.zeroValue9
  t26 := Tryz.underlying22
  a26 := Tryz.isAgg22
  z26 := Tryz.sizeOf22
  v26 := Tryz.zeroValue22
  t27 := Tryz.underlying22
  a27 := Tryz.isAgg22
  z27 := Tryz.sizeOf22
  v27 := Tryz.zeroValue22
  t29 := Tryz.underlying9
  a29 := Tryz.isAgg9
  z29 := Tryz.sizeOf9
  v29 := Tryz.zeroValue9
  t32 := Tryz.underlying164
  a32 := Tryz.isAgg164
  z32 := Tryz.sizeOf164
  v32 := Tryz.zeroValue164
  t35 := Tryz.underlying198
  a35 := Tryz.isAgg198
  z35 := Tryz.sizeOf198
  v35 := Tryz.zeroValue198
  t36 := Tryz.underlying199
  a36 := Tryz.isAgg199
  z36 := Tryz.sizeOf199
  v36 := Tryz.zeroValue199
  t41 := Tryz.underlying204
  a41 := Tryz.isAgg204
  z41 := Tryz.sizeOf204
  v41 := Tryz.zeroValue204
  t44 := Tryz.underlying187
  a44 := Tryz.isAgg187
  z44 := Tryz.sizeOf187
  v44 := Tryz.zeroValue187
  t46 := Tryz.underlying137
  a46 := Tryz.isAgg137
  z46 := Tryz.sizeOf137
  v46 := Tryz.zeroValue137
  t53 := Tryz.underlying221
  a53 := Tryz.isAgg221
  z53 := Tryz.sizeOf221
  v53 := Tryz.zeroValue221
  t57 := Tryz.underlying225
  a57 := Tryz.isAgg225
  z57 := Tryz.sizeOf225
  v57 := Tryz.zeroValue225
  t63 := Tryz.underlying237
  a63 := Tryz.isAgg237
  z63 := Tryz.sizeOf237
  v63 := Tryz.zeroValue237
  t64 := Tryz.underlying34
  a64 := Tryz.isAgg34
  z64 := Tryz.sizeOf34
  v64 := Tryz.zeroValue34 }
def copyLays_ren : Go.Shelf.Ren := ⟨fun | 5 => 79 | n => n, fun | 23 => 77 | 24 => 77 | 26 => 9 | 27 => 4 | 0 => 0 | 4 => 4 | n => n, fun | n => n⟩
theorem copyLays : Go.Proofs.SlLaysX.n5 Tryz.prog copyLays_ren := {
  mixed := by kernel_rfl
  f5 := ⟨Tryz.f79.name, by decide, Tryz.func79.trans (congrArg some (by kernel_rfl))⟩
  t0 := Tryz.underlying0
  a0 := Tryz.isAgg0
  z0 := Tryz.sizeOf0
  v0 := Tryz.zeroValue0
  t4 := Tryz.underlying4
  a4 := Tryz.isAgg4
  z4 := Tryz.sizeOf4
  v4 := Tryz.zeroValue4
  t23 := Tryz.underlying77
  a23 := Tryz.isAgg77
  z23 := Tryz.sizeOf77
  v23 := Tryz.zeroValue77
  t24 := Tryz.underlying77
  a24 := Tryz.isAgg77
  z24 := Tryz.sizeOf77
  v24 := Tryz.zeroValue77
  a26 := Tryz.isAgg9
  z26 := Tryz.sizeOf9
  a27 := Tryz.isAgg4
  z27 := Tryz.sizeOf4 }
end Go.Proofs.YtpdeaekmgljeaaaGreatDoor
namespace Go.Proofs.YtpdeaekmgljeaaaGreatDoor
open Go Go.Abs Go.Maps Go.Sort Go.RowKit Go.Shelf Go.WideElems
def sortS (l : List Str) : List Str := l.mergeSort fun x y => decide (x ≤ y)
theorem sortS_len (l : List Str) : (sortS l).length = l.length := by simp [sortS]
def mS (l : List Str) : Ob := .map (l.map fun s => (V.str s, D.v (.bool true)))
theorem fresh_fz {σ : Sg} {m : Gh} {w w' : World} (h : Inv σ m w) {g off : Nat} (hg : w.heap.size ≤ g) (hg' : g < w'.heap.size) : Fz m w' g off := by
  refine ⟨hg', fun hm => ?_⟩
  rcases hm with hm | ⟨tk, htk, hb, _⟩
  · have := h.lt_obj hm; omega
  · obtain ⟨us, ty, h5, _⟩ := (h.tk tk htk).2.2.2 g hb
    have := (Array.getElem?_eq_some_iff.1 h5).1
    omega
def RT : Value → Option (DataW Unit × List MemPlace)
  | .bool true => some (.lit (.bool true), [])
  | _ => none
theorem RT_some {v : Value} {z : DataW Unit × List MemPlace} (h : RT v = some z) : v = .bool true ∧ z = (.lit (.bool true), []) := by
  unfold RT at h
  split at h
  · cases h; exact ⟨rfl, rfl⟩
  · cases h
theorem keyOf_s {s : Str} (h : s.length ≤ maxLen) : keyOf Tryz.prog 9 (encStr s) = some (.string s) := by
  have hk : Tryz.prog.underlying 9 = some .string := by kernel_rfl
  unfold maxLen at h
  simp [keyOf, hk, mapKey, encStr, ByteArray.size, maxLen, h]
theorem own_of {w : World} {m : Gh} {l : List Str} {b : Nat} (hl : l.length ≤ maxLen) (r : ObRep m w (mS l) b) :
    ∃ D0 : DataW Unit, w.ownsMap Tryz.prog 9 RT b l.length D0 ∧ (strKeys D0).Perm l ∧ Maps.size D0 = l.length ∧ IsMap D0 ∧ ∀ x, has D0 (.string x) = true ↔ x ∈ l := by
  obtain ⟨ms, clock, hh, hsz, hrep, hst⟩ := r
  rw [List.length_map] at hsz
  have hent : ∀ (i : Nat) e, ms[i]? = some e → ∃ s, l[i]? = some s ∧ e.key = encStr s ∧ e.val = .bool true ∧ s.length ≤ maxLen := by
    intro i e he
    have hlt : i < l.length := by rw [← hsz]; exact (Array.getElem?_eq_some_iff.1 he).1
    obtain ⟨h1, h2⟩ := hrep i (V.str l[i], D.v (.bool true)) e (by simp [hlt]) he
    refine ⟨l[i], List.getElem?_eq_getElem hlt, ?_, ?_, ?_⟩
    · dsimp only at h1
      generalize e.key = u at h1
      cases h1
      rfl
    · dsimp only at h2
      generalize e.val = u at h2
      have h3 := h2.v_inv
      cases h3
      rfl
    · dsimp only at h1
      generalize e.key = u at h1
      cases h1
      assumption
  have hrd : ∀ (i : Nat) e, ms[i]? = some e → ∃ s, l[i]? = some s ∧ WideElems.rd Tryz.prog 9 RT e = some (.string s, .lit (.bool true)) := by
    intro i e he
    obtain ⟨s, h1, h2, h3, h4⟩ := hent i e he
    refine ⟨s, h1, ?_⟩
    unfold WideElems.rd
    rw [h2, h3, keyOf_s h4]
    rfl
  have hmap : ms.toList.map (rg Tryz.prog 9 RT) = l.map fun s => ((Lit.string s, DataW.lit (.bool true)) : Lit × DataW Unit) := by
    apply List.ext_getElem?
    intro i
    rw [List.getElem?_map, List.getElem?_map]
    by_cases hi : i < l.length
    · have hms : ms[i]? = some ms[i] := Array.getElem?_eq_getElem (by omega)
      obtain ⟨s, h1, h2⟩ := hrd i _ hms
      rw [h1, show ms.toList[i]? = some ms[i] by simp [hi, hsz]]
      simp only [Option.map_some, rg_of h2]
    · rw [List.getElem?_eq_none (by simp; omega), List.getElem?_eq_none (by omega)]
      rfl
  have hp : ((ms.toList.map (rg Tryz.prog 9 RT)).foldr DataW.insert []).Perm (l.map fun s => ((Lit.string s, DataW.lit (.bool true)) : Lit × DataW Unit)) := by
    have := WideShapes.sorted_perm (ms.toList.map (rg Tryz.prog 9 RT))
    rwa [hmap] at this ⊢
  refine ⟨.map ((ms.toList.map (rg Tryz.prog 9 RT)).foldr DataW.insert []), ⟨ms, clock, hh, ⟨by omega, hst.1, fun x hx => ?_⟩, by omega, rfl⟩, ?_, ?_, ⟨_, rfl⟩, fun x => ?_⟩
  · obtain ⟨i, hi⟩ := List.mem_iff_getElem?.1 hx
    obtain ⟨s, _, h⟩ := hrd i x (by simpa using hi)
    exact ⟨_, h⟩
  · have := hp.map fun p => strOf p.1
    simpa [strKeys, Function.comp_def, strOf] using this
  · have := hp.length_eq
    simpa [Maps.size] using this
  · rw [has_eq, List.any_eq_true]
    constructor
    · rintro ⟨p, hp1, hp2⟩
      have h3 := hp.mem_iff.1 hp1
      obtain ⟨s, hs, rfl⟩ := List.mem_map.1 h3
      have := WideAt.sameKey_eq hp2
      cases this
      exact hs
    · intro hx
      exact ⟨(Lit.string x, DataW.lit (.bool true)), hp.mem_iff.2 (List.mem_map.2 ⟨x, hx, rfl⟩), WideAt.sameKey_self (by trivial)⟩
theorem k_Keys {o : Nat} {σ : Sg} : ACalls Tryz.prog 49 [.map o] σ fun r σ' => r = .fn 77 [.ptr σ.objs.length 0] ∧ σ' = ⟨σ.objs ++ [.cells [.map o]], σ.toks⟩ := by
  refine acalls_fit Tryz.func49 (by kernel_rfl) c49 rfl (by simp [a49]) fun hf => ?_
  clear hf
  simp -implicitDefEqProofs (maxSteps := 2000000) (disch := omega) [-getElem?_pos, a49]
  exact ⟨_, _, WeakR.refl _ _ _, rfl, rfl⟩
theorem flat_str : ∀ l : List Str, V.flat (l.map V.str) = l.map V.str
  | [] => rfl
  | a :: l => by
    have := flat_str l
    simp only [V.flat, List.map_cons, List.flatMap_cons] at *
    rw [this]
    rfl
theorem sorts (m : Nat) : Go.Proofs.AnyZ.SortsIn Tryz.prog sortedLays_ren Fence.wide m :=
  ⟨fun blk off cap ss W hH hblk hsz => callsIn_wide.2 (Go.Proofs.AnyM.slices_Sort_string sortMLays blk off cap ss W hH hblk hsz),
   fun p cap W => callsIn_wide.2 (Go.Proofs.AnyM.slices_Sort_string_none sortMLays p cap W)⟩
set_option maxHeartbeats 1000000 in
theorem k_Sorted {l : List Str} {o p : Nat} {σ : Sg} (hp : σ.objs[p]? = some (.cells [.map o])) (ho : σ.objs[o]? = some (mS l)) (hl : l.length ≤ 1000000) :
    ACalls Tryz.prog 48 [.fn 77 [.ptr p 0]] σ fun r σ' => r = .v (vS (sortS l)) ∧ σ' = σ := by
  refine ⟨⟨_, Tryz.func48, by kernel_rfl, by kernel_rfl⟩, fun m w us hI hlen hr => ?_⟩
  obtain ⟨u, rfl⟩ : ∃ u, us = [u] := by
    match us, hlen with
    | [u], _ => exact ⟨u, rfl⟩
  have h0 := hr 0 _ u rfl rfl
  cases h0 with
  | fn _ _ cus hcl hcr =>
  obtain ⟨u1, rfl⟩ : ∃ u1, cus = [u1] := by
    match cus, hcl with
    | [u], _ => exact ⟨u, rfl⟩
  have h1 := hcr 0 _ u1 rfl rfl
  cases h1 with
  | ptr _ _ bp hbp =>
  have hbp := hI.live hp (by simp) hbp
  obtain ⟨pus, pty, hph, hpsz, hpr, _⟩ := hI.ob p _ bp hp hbp
  obtain ⟨u2, hu2⟩ : ∃ u2, pus[0]? = some u2 := ⟨_, Array.getElem?_eq_getElem (Nat.lt_of_lt_of_le (by simp) hpsz)⟩
  have h2 := (hpr 0 _ u2 rfl hu2).1
  cases h2 with
  | map _ b hb =>
  have hb := hI.live ho (by simp [mS]) hb
  have hmx : l.length ≤ maxLen := by simp only [maxLen]; omega
  obtain ⟨D0, hown, hperm, hsize, _, _⟩ := own_of hmx (hI.ob o _ b ho hb)
  have hcell : w.cell? ⟨bp, 0, none⟩ = some (.map (some b)) := by rw [cell_of_row w bp 0 pus pty (0, 0) hph]; exact hu2
  have hlt : bp < w.heap.size := (Array.getElem?_eq_some_iff.1 hph).1
  have hseq : SeqGives Fence.wide 2 Tryz.prog 77 #[.pointer (some ⟨bp, 0, none⟩)] encStr (fun ss => ss.Perm (strKeys D0)) (Maps.size D0) w :=
    Go.Proofs.AnyZ.keys_gives (ρ := keysLays_ren) { keysLays with } Fence.wide 2 trivial rfl (by omega) bp b l.length D0 w hlt hcell hown
  have hC := Go.Proofs.AnyZ.sorted_in sortedLays Fence.wide 5 trivial trivial trivial trivial rfl (by omega) (sorts _) (enters_of Tryz.func76 (by kernel_rfl) rfl) 77 #[.pointer (some ⟨bp, 0, none⟩)] trivial (enters_of Tryz.func77 (by kernel_rfl) rfl) _ _ (by rw [hsize]; exact hmx) (by rw [hsize]; omega) _ hseq
  refine (callsIn_wide.1 hC).mono fun e w' ⟨v, ss, he, hS, hrow, hnil, hbl⟩ => ?_
  obtain ⟨hI', hX⟩ := Inv.below hI hbl
  have hss : ss.Perm l := hS.trans hperm
  have hsort : ss.mergeSort (fun x y => decide (x ≤ y)) = sortS l := mergeSort_of_perm hss
  rw [hsort] at hrow
  refine ⟨v, _, σ, m, he, ⟨rfl, rfl⟩, hI', hX, .v _ _ ?_⟩
  obtain ⟨hn, hrow⟩ := hrow
  have hlen2 := hss.length_eq
  rcases hrow with ⟨rfl, h0⟩ | ⟨g, cap, cur, rfl, hg, hgh, hnc, hcm, hcs, htk⟩
  · have : sortS l = [] := List.eq_nil_of_length_eq_zero (by rw [sortS_len]; omega)
    rw [this]
    exact .slNil none false none
  · have hxl : ((sortS l).map V.str).length = ss.length := by simp [sortS_len, hlen2]
    have hmem : ∀ s ∈ sortS l, s.length ≤ maxLen := fun s hs => by
      have hs' : s ∈ l := (List.mergeSort_perm l _).mem_iff.1 hs
      exact strKeys_le hown (by kernel_rfl) s (hperm.mem_iff.2 hs')
    have hfl : V.flat ((sortS l).map V.str) = (sortS l).map V.str := flat_str _
    have := RepV.at_head (w := w') (F := Fz m w') none (xs := (sortS l).map V.str) (cs := (sortS l).map encStr) (cap := cap) (full := false) hgh (by simp [shn]) (fun i u hi => by
        rw [← htk, List.getElem?_take] at hi
        split at hi
        · simpa using hi
        · cases hi) (fun i hi => fresh_fz hI hg (Array.getElem?_eq_some_iff.1 hgh).1) (by simp [V.shape]) (by rw [hfl]; simp [V.one]) (by rw [hxl]; exact hnc) hcm (by simp) (fun i c u hc hu => by
        rw [hfl, List.getElem?_map] at hc
        rw [List.getElem?_map] at hu
        cases hs : (sortS l)[i]? with
        | none => rw [hs] at hc; cases hc
        | some s =>
          rw [hs] at hc hu
          cases hc
          cases hu
          exact .str s (hmem s (List.mem_of_getElem? hs)))
    rw [hxl] at this
    exact this
theorem k_Copy {ld ls : List Str} {d s : Nat} {σ : Sg} (hds : d ≠ s) (hd : σ.objs[d]? = some (mS ld)) (hs : σ.objs[s]? = some (mS ls)) (hld : ld.length ≤ 1000000) (hls : ls.length ≤ 1000000) :
    ACalls Tryz.prog 79 [.map d, .map s] σ fun r σ' => r = .tup [] ∧ ∃ l', l'.Nodup ∧ (∀ x, x ∈ l' ↔ x ∈ ld ∨ x ∈ ls) ∧ l'.length ≤ ld.length + ls.length ∧ σ' = σ.put d (mS l') := by
  refine ⟨⟨_, Tryz.func79, by kernel_rfl, by kernel_rfl⟩, fun m w us hI hlen hr => ?_⟩
  obtain ⟨u1, u2, rfl⟩ : ∃ u1 u2, us = [u1, u2] := by
    match us, hlen with
    | [u, v], _ => exact ⟨u, v, rfl⟩
  have h1 := hr 0 _ u1 rfl rfl
  have h2 := hr 1 _ u2 rfl rfl
  cases h1 with
  | map _ bd hbd =>
  cases h2 with
  | map _ bs hbs =>
  have hbd := hI.live hd (by simp [mS]) hbd
  have hbs := hI.live hs (by simp [mS]) hbs
  have nd : m.objb.Nodup := (List.nodup_append.1 hI.nodup).1
  have hne : bd ≠ bs := by
    rintro rfl
    exact hds (objb_inj nd hbd hbs)
  have hm1 : ld.length ≤ maxLen := by simp only [maxLen]; omega
  have hm2 : ls.length ≤ maxLen := by simp only [maxLen]; omega
  obtain ⟨Dd, hownd, _, _, hMd, hmd⟩ := own_of hm1 (hI.ob d _ bd hd hbd)
  obtain ⟨Ds, howns, hps, hsz, ⟨es, rfl⟩, hms⟩ := own_of hm2 (hI.ob s _ bs hs hbs)
  have hC := Go.Proofs.AnyX.maps_Copy copyLays (string_keyed (by kernel_rfl)) RT bd bs ld.length ls.length Dd (.map es) w hownd howns hne (by rw [hsz]; simp only [maxLen]; omega)
  rw [show copyLays_ren.t 26 = 9 from rfl] at hC
  refine hC.mono fun e w' ⟨he, hown', _, hgr⟩ => ?_
  obtain ⟨ms', clock', hh', hF, hsz', hD'⟩ := hown'
  have hmem : bd ∈ m.objb := Gh.mem_objb.2 (List.mem_of_getElem? hbd)
  have old : ∀ k, k < w.heap.size → k ≠ bd → w'.heap[k]? = w.heap[k]? := fun k hk hne => hgr.block k hk (by simpa using hne)
  have hX : Ext m w m w' := .turned hmem hgr.os hgr.tape hgr.output hgr.size old
  have hent : ∀ x ∈ ms'.toList, ∃ t : Str, x.key = encStr t ∧ x.val = .bool true ∧ t.length ≤ maxLen ∧ rg Tryz.prog 9 RT x = (.string t, .lit (.bool true)) := by
    intro x hx
    obtain ⟨y, hy⟩ := hF.reads x hx
    obtain ⟨t, h3, h4, h5⟩ := Maps.keyOf_str (by kernel_rfl) (rd_key hy)
    obtain ⟨z, h6, h7⟩ := rd_val hy
    obtain ⟨h8, h9⟩ := RT_some h6
    refine ⟨t, h3, h8, h5, ?_⟩
    rw [rg_of hy]
    rw [h9] at h7
    exact Prod.ext h4 h7
  obtain ⟨l', hl'⟩ : ∃ l' : List Str, ms'.toList.map (·.key) = l'.map encStr := by
    refine ⟨ms'.toList.map fun x => (match x.key with | .string b => b.data.toList | _ => []), ?_⟩
    rw [List.map_map]
    apply List.map_congr_left
    intro x hx
    obtain ⟨t, h3, _⟩ := hent x hx
    simp [h3]
  have hlen' : l'.length = ms'.size := by
    have := congrArg List.length hl'
    simpa using this.symm
  have hat : ∀ (i : Nat) x, ms'[i]? = some x → ∃ t, l'[i]? = some t ∧ x.key = encStr t ∧ x.val = .bool true ∧ t.length ≤ maxLen := by
    intro i x hx
    obtain ⟨t, h3, h4, h5, _⟩ := hent x (by simpa using Array.mem_of_getElem? hx)
    have h6 := congrArg (·[i]?) hl'
    simp only [List.getElem?_map] at h6
    rw [show ms'.toList[i]? = some x by simpa using hx] at h6
    cases h7 : l'[i]? with
    | none => rw [h7] at h6; cases h6
    | some t' =>
      rw [h7] at h6
      simp only [Option.map_some, Option.some.injEq] at h6
      rw [h3] at h6
      exact ⟨t, by rw [encStr_inj h6], h3, h4, h5⟩
  have hnd : l'.Nodup := by
    have h3 := hF.stamped.2.2
    rw [hl'] at h3
    exact (List.pairwise_map.1 h3).imp fun {a b} hab e => hab (by rw [e])
  have hrgs : ms'.toList.map (rg Tryz.prog 9 RT) = l'.map fun t => ((Lit.string t, DataW.lit (.bool true)) : Lit × DataW Unit) := by
    apply List.ext_getElem?
    intro i
    rw [List.getElem?_map, List.getElem?_map]
    cases hx : ms'[i]? with
    | none =>
      have : ms'.size ≤ i := by simpa using hx
      rw [List.getElem?_eq_none (by simpa using this), List.getElem?_eq_none (by omega)]
      rfl
    | some x =>
      obtain ⟨t, h3, h4, _⟩ := hat i x hx
      obtain ⟨t', h5, _, _, h6⟩ := hent x (by simpa using Array.mem_of_getElem? hx)
      rw [h3, show ms'.toList[i]? = some x by simpa using hx, Option.map_some, Option.map_some, h6]
      rw [h4] at h5
      rw [encStr_inj h5]
  have hhas : ∀ x, has (Lib.mergeD Dd (.map es)) (.string x) = true ↔ x ∈ l' := by
    intro x
    rw [hD', has_eq, List.any_eq_true]
    constructor
    · rintro ⟨p, hp1, hp2⟩
      have h3 := (WideShapes.sorted_perm _).mem_iff.1 hp1
      rw [hrgs] at h3
      obtain ⟨t, ht, rfl⟩ := List.mem_map.1 h3
      have := WideAt.sameKey_eq hp2
      cases this
      exact ht
    · intro hx
      refine ⟨(Lit.string x, DataW.lit (.bool true)), (WideShapes.sorted_perm _).mem_iff.2 ?_, WideAt.sameKey_self (by trivial)⟩
      rw [hrgs]
      exact List.mem_map.2 ⟨x, hx, rfl⟩
  have hmerge : ∀ (es : List (Lit × DataW Unit)) (D : DataW Unit), IsMap D → (∀ p ∈ es, WideAt.IsKeyLit p.1) → ∀ k, has (es.foldl (fun D p => D.put p.1 p.2) D) k = true ↔ has D k = true ∨ ∃ p ∈ es, p.1 = k := by
    intro es
    induction es with
    | nil => intro D _ _ k; simp
    | cons p es ih =>
      intro D hD hk k
      rw [List.foldl_cons, ih _ (hD.put _ _) (fun q hq => hk q (by simp [hq])) k]
      by_cases e : k = p.1
      · subst e
        rw [has_put_same hD (hk p (by simp))]
        simp
      · rw [has_put_other e]
        constructor
        · rintro (h | ⟨q, hq, rfl⟩)
          · exact .inl h
          · exact .inr ⟨q, by simp [hq], rfl⟩
        · rintro (h | ⟨q, hq, rfl⟩)
          · exact .inl h
          · rcases List.mem_cons.1 hq with rfl | hq
            · exact absurd rfl e
            · exact .inr ⟨q, hq, rfl⟩
  have hI' := hI.turned hbd hX old (mS l') ⟨ms', clock', hh', by simp [hlen'], fun i x e hx he => ?_, hF.stamped, fun h => nomatch h⟩
  · refine ⟨_, _, _, m, he, ⟨rfl, l', hnd, fun x => ?_, by rw [hlen']; rw [hsz] at hsz'; exact hsz', rfl⟩, hI', hX, .tup [] [] rfl (by simp)⟩
    rw [← hhas, ← hmd, ← hms]
    have hkl : ∀ p ∈ es, WideAt.IsKeyLit p.1 := fun p hp => by
      obtain ⟨es0, he0, hk0⟩ := howns.keysOf
      cases he0
      obtain ⟨v, hv⟩ := hk0 p hp
      obtain ⟨t, _, h4, _⟩ := Maps.keyOf_str (by kernel_rfl) hv
      rw [h4]
      trivial
    show has (es.foldl (fun D p => D.put p.1 p.2) Dd) (.string x) = true ↔ _
    rw [hmerge es Dd hMd hkl]
    refine or_congr Iff.rfl ?_
    rw [has_eq, List.any_eq_true]
    constructor
    · rintro ⟨p, hp, e⟩
      exact ⟨p, hp, by rw [e]; exact WideAt.sameKey_self (by trivial)⟩
    · rintro ⟨p, hp, e⟩
      exact ⟨p, hp, WideAt.sameKey_eq e⟩
  · rw [List.getElem?_map] at hx
    obtain ⟨t, h3, h4, h5, h6⟩ := hat i e he
    rw [h3] at hx
    cases hx
    exact ⟨by rw [h4]; exact .str t h6, by rw [h5]; exact .v _ _ (.bool true)⟩
end Go.Proofs.YtpdeaekmgljeaaaGreatDoor
namespace Go.Proofs.YtpdeaekmgljeaaaGreatDoor
open Go Go.Abs
def bnd (k : Int) (s t : Str) (ls ns : List Str) (i : Nat) : List Str :=
  if k = 4 then (if i = 0 then [s] else [])
  else if k = 6 then (if i = 1 then [s] else [])
  else if k = 7 then (if i = 1 then [s] else if i = 0 then [s, t] else [])
  else if k = 14 then (if i = 0 then [] else if i ≤ ns.length ∧ i ≤ ls.length then (ns[i - 1]?).toList else [t])
  else []
theorem one_slice {α : Type} {l : List α} {j : Nat} (h : j < l.length) : (l.take (j + 1)).drop j = (l[j]?).toList := by
  rw [List.take_add_one, List.drop_left' (by simp; omega)]
theorem k_binds {k p n : Int} {s t : Str} {ls ns : List Str} {l : List Ex} {i : Nat} {σ : Sg} (hi : i ≤ 1048576) (hn : ns.length ≤ 1048576) :
    ACalls Tryz.prog 78 [.v (encE (.mk k p n s t ls ns l)), .v (.int .i64 i)] σ fun r σ' => r = .v (vS (bnd k s t ls ns i)) ∧ σ' = σ := by
  rw [encE_mk]
  refine acalls_fit Tryz.func78 (by kernel_rfl) c78 rfl (by simp [a78]) fun hf => ?_
  clear hf
  by_cases h4 : k = 4
  · subst h4
    by_cases h0 : i = 0
    · subst h0
      simp -implicitDefEqProofs (maxSteps := 2000000) (disch := omega) [-getElem?_pos, a78]
      exact .fin _ ⟨by simp [bnd], rfl⟩ .lax
    · simp -implicitDefEqProofs (maxSteps := 2000000) (disch := omega) [-getElem?_pos, a78, h0]
      exact .fin (.v (vS [])) ⟨by simp [bnd, h0], rfl⟩ .snil
  by_cases h6 : k = 6
  · subst h6
    by_cases h0 : i = 1
    · subst h0
      simp -implicitDefEqProofs (maxSteps := 2000000) (disch := omega) [-getElem?_pos, a78]
      exact .fin _ ⟨by simp [bnd], rfl⟩ .lax
    · have h0i : ¬ (i : Int) = 1 := by omega
      simp -implicitDefEqProofs (maxSteps := 2000000) (disch := omega) [-getElem?_pos, a78, h0i]
      exact .fin (.v (vS [])) ⟨by simp [bnd, h0], rfl⟩ .snil
  by_cases h7 : k = 7
  · subst h7
    by_cases h0 : i = 0
    · subst h0
      simp -implicitDefEqProofs (maxSteps := 2000000) (disch := omega) [-getElem?_pos, a78]
      exact .fin _ ⟨by simp [bnd], rfl⟩ .lax
    by_cases h1 : i = 1
    · subst h1
      simp -implicitDefEqProofs (maxSteps := 2000000) (disch := omega) [-getElem?_pos, a78]
      exact .fin _ ⟨by simp [bnd], rfl⟩ .lax
    · have h1i : ¬ (i : Int) = 1 := by omega
      simp -implicitDefEqProofs (maxSteps := 2000000) (disch := omega) [-getElem?_pos, a78, h0, h1i]
      exact .fin (.v (vS [])) ⟨by simp [bnd, h0, h1], rfl⟩ .snil
  by_cases h14 : k = 14
  · subst h14
    by_cases h0 : i = 0
    · subst h0
      simp -implicitDefEqProofs (maxSteps := 2000000) (disch := omega) [-getElem?_pos, a78]
      exact .fin (.v (vS [])) ⟨by simp [bnd], rfl⟩ .snil
    · have h0i : ¬ (i : Int) = 0 := by omega
      have hm1 : ((i : Int) - 1).toNat = i - 1 := by omega
      by_cases hc : i ≤ ns.length
      · by_cases hd : i ≤ ls.length
        · simp -implicitDefEqProofs (maxSteps := 2000000) (disch := omega) [-getElem?_pos, a78, h0, h0i, hc, hd]
          have e : List.drop (i - 1) (List.take i (ns.map V.str)) = (bnd 14 s t ls ns i).map V.str := by
            have h1 : bnd 14 s t ls ns i = (ns[i - 1]?).toList := by simp [bnd, h0, hc, hd]
            obtain ⟨j, rfl⟩ : ∃ j, i = j + 1 := ⟨i - 1, by omega⟩
            rw [h1, ← List.map_take, ← List.map_drop, Nat.add_sub_cancel, one_slice (by omega)]
          rw [e]
          exact ⟨by omega, by omega, .fin _ ⟨rfl, rfl⟩ (.refl _)⟩
        · simp -implicitDefEqProofs (maxSteps := 2000000) (disch := omega) [-getElem?_pos, a78, h0, h0i, hc, hd]
          exact .fin _ ⟨by simp [bnd, h0, hc, hd], rfl⟩ .lax
      · simp -implicitDefEqProofs (maxSteps := 2000000) (disch := omega) [-getElem?_pos, a78, h0, h0i, hc]
        exact .fin _ ⟨by simp [bnd, h0, hc], rfl⟩ .lax
  simp -implicitDefEqProofs (maxSteps := 2000000) (disch := omega) [-getElem?_pos, a78, h4, h6, h7, h14]
  exact .fin (.v (vS [])) ⟨by simp [bnd, h4, h6, h7, h14], rfl⟩ .snil
mutual
def fvs : Ex → List Str
  | .mk k _ _ s t ls ns l => (if k = 3 then [s] else []) ++ fvL k s t ls ns 0 l
def fvL (k : Int) (s t : Str) (ls ns : List Str) : Nat → List Ex → List Str
  | _, [] => []
  | i, x :: l => (fvs x).filter (fun y => !decide (y ∈ bnd k s t ls ns i)) ++ fvL k s t ls ns (i + 1) l
end
theorem fvL_get {k : Int} {s t : Str} {ls ns : List Str} {x : Ex} : ∀ {l : List Ex} {i j : Nat}, l[i]? = some x → fvL k s t ls ns j (l.take (i + 1)) = fvL k s t ls ns j (l.take i) ++ (fvs x).filter fun y => !decide (y ∈ bnd k s t ls ns (j + i))
  | [], i, j, h => by simp at h
  | y :: l, 0, j, h => by simp at h; subst h; simp [fvL]
  | y :: l, i + 1, j, h => by
    have := fvL_get (k := k) (s := s) (t := t) (ls := ls) (ns := ns) (l := l) (i := i) (j := j + 1) (by simpa using h)
    simp only [List.take_succ_cons, fvL]
    rw [this, List.append_assoc, show j + 1 + i = j + (i + 1) by omega]
theorem fvs_len (e : Ex) : 6 * (fvs e).length ≤ csz e := by
  refine Ex.ind (P := fun e => 6 * (fvs e).length ≤ csz e) (fun k p n s t ls ns l ih => ?_) e
  have hl : ∀ (l : List Ex) (i : Nat), (∀ x ∈ l, 6 * (fvs x).length ≤ csz x) → 6 * (fvL k s t ls ns i l).length ≤ cszL l := by
    intro l
    induction l with
    | nil => intro i _; simp [fvL]
    | cons x l ih2 =>
      intro i h
      have h1 := h x (by simp)
      have h2 := ih2 (i + 1) fun y hy => h y (by simp [hy])
      have h3 := List.length_filter_le (fun y => !decide (y ∈ bnd k s t ls ns i)) (fvs x)
      simp only [fvL, List.length_append, cszL]
      omega
  have := hl l 0 ih
  simp only [fvs, csz, List.length_append]
  split <;> simp <;> omega
theorem fvL_take {k : Int} {s t : Str} {ls ns : List Str} : ∀ (l : List Ex) (i j : Nat), (fvL k s t ls ns j (l.take i)).length ≤ (fvL k s t ls ns j l).length
  | [], i, j => by simp
  | y :: l, 0, j => by simp [fvL]
  | y :: l, i + 1, j => by
    have := fvL_take (k := k) (s := s) (t := t) (ls := ls) (ns := ns) l i (j + 1)
    simp only [List.take_succ_cons, fvL, List.length_append]
    omega
theorem accs (k : Int) (s t : Str) (ls ns : List Str) (l : List Ex) (B : List Str) (hB : 6 * (B ++ fvL k s t ls ns 0 l).length ≤ 1048576) : ∃ A : Nat → List Str, A 0 = B ∧ (∀ i x, l[i]? = some x → A (i + 1) = A i ++ (fvs x).filter fun y => !decide (y ∈ bnd k s t ls ns i)) ∧
    (∀ i, l.length ≤ i → A i = B ++ fvL k s t ls ns 0 l) ∧ ∀ i, (A i).length ≤ 174763 := by
  refine ⟨fun i => B ++ fvL k s t ls ns 0 (l.take i), by simp [fvL], fun i x h => ?_, fun i h => by dsimp only; rw [List.take_of_length_le h], fun i => ?_⟩
  · dsimp only
    rw [fvL_get h, Nat.zero_add, List.append_assoc]
  · have := fvL_take (k := k) (s := s) (t := t) (ls := ls) (ns := ns) l i 0
    simp only [List.length_append] at *
    omega
theorem WMap_mS {l : List Str} {K : List (V × D) → Prop} : WMap (some (mS l)) K = K (l.map fun s => (V.str s, D.v (.bool true))) := rfl
def FV (es : List Str) (e : Ex) : Prop := es.Nodup ∧ ∀ y, y ∈ es ↔ y ∈ fvs e
theorem nodup_len : ∀ {a b : List Str}, a.Nodup → (∀ x, x ∈ a → x ∈ b) → a.length ≤ b.length
  | [], b, _, _ => by simp
  | x :: a, b, h, k => by
    obtain ⟨h1, h2⟩ := List.nodup_cons.1 h
    have hx := k x (by simp)
    have := nodup_len (a := a) (b := b.erase x) h2 fun y hy => (List.mem_erase_of_ne (by rintro rfl; exact h1 hy)).2 (k y (by simp [hy]))
    rw [List.length_erase_of_mem hx] at this
    have := List.length_pos_of_mem hx
    simp only [List.length_cons]
    omega
theorem merase_str (y : Str) : ∀ l : List Str, merase (.str y) (l.map fun s => (V.str s, D.v (.bool true))) = (l.erase y).map fun s => (V.str s, D.v (.bool true))
  | [] => rfl
  | x :: l => by
    rw [List.map_cons, merase, merase_str y l, List.erase_cons]
    by_cases h : x = y
    · subst h; simp [keq]
    · have h' : ¬ y = x := fun e => h e.symm
      simp [keq, h, h']
theorem keysOk_str : ∀ l : List Str, keysOk .str (l.map fun s => (V.str s, D.v (.bool true))) = true
  | [] => rfl
  | x :: l => by simp [keyOk, keysOk_str l]
theorem low2 {e : Ex} {l : List Str} {a b : Nat} : ∀ ob ∈ [obE e, mS l], ob.low a b := by
  intro ob hob
  cases e
  simp only [List.mem_cons, List.not_mem_nil, or_false] at hob
  rcases hob with rfl | rfl
  · simp [obE_mk]
  · intro p hp
    obtain ⟨s, _, rfl⟩ := List.mem_map.1 hp
    trivial
structure FSt where
  i : Nat
  es : List Str
theorem k_Ffree (e : Ex) : ∀ {σ : Sg}, csz e ≤ 1048576 → ACalls Tryz.prog 50 [.v (encE e)] σ fun r σ' => ∃ es, FV es e ∧ r = .map (σ.objs.length + 1) ∧ σ' = ⟨σ.objs ++ [obE e, mS es], σ.toks⟩ := by
  refine Ex.ind (P := fun e => ∀ {σ : Sg}, csz e ≤ 1048576 → ACalls Tryz.prog 50 [.v (encE e)] σ fun r σ' => ∃ es, FV es e ∧ r = .map (σ.objs.length + 1) ∧ σ' = ⟨σ.objs ++ [obE e, mS es], σ.toks⟩) (fun k p n s t ls ns l ih => ?_) e
  intro σ he
  have hb := fun (i : Nat) (σ : Sg) hi hn => k_binds (k := k) (p := p) (n := n) (s := s) (t := t) (ls := ls) (ns := ns) (l := l) (i := i) (σ := σ) hi hn
  have hfl := fvs_len (.mk k p n s t ls ns l)
  simp only [csz, fvs, FV] at he hfl ⊢
  have hnl := nsz_len ns
  have hnl2 := nsz_len ls
  have hll := cszL_len l
  rw [encE_mk] at hb ⊢
  refine acalls_fit Tryz.func50 (by kernel_rfl) c50 rfl (by simp [a50]) fun hf => ?_
  clear hf
  by_cases h3 : k = 3
  · subst h3
    simp only [if_true] at hfl ⊢
    obtain ⟨A, a0, a1, a2, a3⟩ := accs 3 s t ls ns l [s] (by omega)
    rw [← a2 l.length (Nat.le_refl _)]
    simp -implicitDefEqProofs (maxSteps := 2000000) (disch := omega) [-getElem?_pos, a50]
    refine W_loop (α := FSt) ⟨0, [s]⟩ (fun x => l.length - x.i) (fun x => ⟨[(1, .ptr σ.objs.length 0), (3, .map (σ.objs.length + 1)), (17, .v (.sl (some 8) false (l.map encE))), (18, .v (.int .i64 l.length)), (19, .v (.int .i64 x.i))], ⟨σ.objs ++ [obE (.mk 3 p n s t ls ns l), mS x.es], σ.toks⟩⟩)
      (fun x => x.i ≤ l.length ∧ x.es.Nodup ∧ ∀ y, y ∈ x.es ↔ y ∈ A x.i) (.eq2 (by simp [obE, mS]) (by simp)) ⟨by simp, by simp, by simp [a0]⟩ fun ⟨i, es⟩ ⟨hi, hnd, hmem⟩ => ?_
    dsimp only at hi hnd hmem ⊢
    have hli := a3 i
    have hesl := nodup_len hnd fun y hy => (hmem y).1 hy
    simp -implicitDefEqProofs (maxSteps := 2000000) (disch := omega) [-getElem?_pos]
    refine .mk (fun h => ?_) fun h => ?_
    · simp -implicitDefEqProofs (maxSteps := 2000000) (disch := omega) [-getElem?_pos]
      refine ⟨by omega, ?_⟩
      intro x hx
      have hx1 := cszL_mem (List.mem_of_getElem? hx)
      have hxl := fvs_len x
      have hs := a1 i x hx
      have hli2 := a3 (i + 1)
      have hcall := fun σ => ih x (List.mem_of_getElem? hx) (σ := σ) (by omega)
      cases x with
      | mk k2 p2 n2 s2 t2 ls2 ns2 l2 =>
      rw [encE_mk] at hcall ⊢
      simp -implicitDefEqProofs (maxSteps := 2000000) (disch := omega) [-getElem?_pos]
      refine (hcall _).mono fun r σ' hr => ?_
      obtain ⟨lx, ⟨hx2, hx3⟩, rfl, rfl⟩ := hr
      generalize Ex.mk k2 p2 n2 s2 t2 ls2 ns2 l2 = x at *
      have hlxl := nodup_len hx2 fun y hy => (hx3 y).1 hy
      simp -implicitDefEqProofs (maxSteps := 2000000) (disch := omega) [-getElem?_pos, obE_mk]
      refine (hb i _ (by omega) (by omega)).then fun r hr => ?_
      subst hr
      obtain ⟨bs, hbs⟩ : ∃ bs, bs = bnd 3 s t ls ns i := ⟨_, rfl⟩
      rw [← hbs] at hs ⊢
      have hbl : bs.length ≤ 2 := by rw [hbs]; unfold bnd; repeat' split
                                     all_goals first | simp | (cases ns[i - 1]? <;> simp)
      simp -implicitDefEqProofs (maxSteps := 2000000) (disch := omega) [-getElem?_pos]
      generalize Ob.cells [.v (.int .i64 k2), .v (.int .i64 p2), .v (.int .i64 n2), .v (.str s2), .v (.str t2), .v (.sl none false (ls2.map .str)), .v (.sl none false (ns2.map .str)), .v (.sl (some 8) false (l2.map encE))] = X
      refine W_loop (α := FSt) ⟨0, lx⟩ (fun z => bs.length - z.i) (fun z => ⟨[(1, .ptr σ.objs.length 0), (3, .map (σ.objs.length + 1)), (17, .v (.sl (some 8) false (l.map encE))), (18, .v (.int .i64 l.length)), (19, .v (.int .i64 i)), (6, .map (σ.objs.length + 4)), (28, .v (vS bs)), (29, .v (.int .i64 bs.length)), (30, .v (.int .i64 z.i))],
          ⟨σ.objs ++ [obE (.mk 3 p n s t ls ns l), mS es, X, obE x, mS z.es], σ.toks⟩⟩)
        (fun z => z.i ≤ bs.length ∧ z.es.Nodup ∧ ∀ y, y ∈ z.es ↔ y ∈ fvs x ∧ ¬ y ∈ bs.take z.i) (.eq2 (by simp [obE_mk]) (by simp [Nat.add_assoc])) ⟨by simp, hx2, fun y => by simp [hx3]⟩ fun ⟨j, ej⟩ ⟨hj, hjn, hjm⟩ => ?_
      dsimp only at hj hjn hjm ⊢
      simp -implicitDefEqProofs (maxSteps := 2000000) (disch := omega) [-getElem?_pos]
      refine .mk (fun hq => ?_) fun hq => ?_
      · simp -implicitDefEqProofs (maxSteps := 2000000) (disch := omega) [-getElem?_pos]
        refine ⟨by omega, ?_⟩
        intro y hy
        simp -implicitDefEqProofs (maxSteps := 2000000) (disch := omega) [-getElem?_pos, WMap_mS, keysOk_str, merase_str]
        refine ⟨⟨j + 1, ej.erase y⟩, ⟨by dsimp only; omega, hjn.erase _, fun z => ?_⟩, by dsimp only; omega, .eq2 (by simp [mS]) (by simp)⟩
        rw [hjn.mem_erase_iff, hjm, List.take_add_one, hy, List.mem_append]
        simp
        constructor
        · rintro ⟨h1, h2, h3⟩
          exact ⟨h2, h3, h1⟩
        · rintro ⟨h1, h2, h3⟩
          exact ⟨h3, h1, h2⟩
      · simp -implicitDefEqProofs (maxSteps := 2000000) (disch := omega) [-getElem?_pos]
        have hel := nodup_len hjn fun y hy => ((hjm y).1 hy).1
        refine (k_Copy (ld := es) (ls := ej) (by omega) (by simp) (by simp) (by omega) (by omega)).mono fun r σ' hr => ?_
        obtain ⟨rfl, l', hl1, hl2, hl3, rfl⟩ := hr
        simp -implicitDefEqProofs (maxSteps := 2000000) (disch := omega) [-getElem?_pos]
        refine ⟨⟨i + 1, l'⟩, ⟨by dsimp only; omega, hl1, fun y => ?_⟩, by dsimp only; omega, .dropX (ys := [obE (.mk 3 p n s t ls ns l), mS l']) (xs := [X, obE x, mS ej]) (by simp) rfl (by simp) low2 (by simp) (by simp)⟩
        rw [hs, hl2, hmem, hjm, List.mem_append, List.mem_filter, List.take_of_length_le (by omega)]
        simp
    · simp -implicitDefEqProofs (maxSteps := 2000000) (disch := omega) [-getElem?_pos]
      have hie : A i = A l.length := by rw [a2 i (by omega), a2 _ (Nat.le_refl _)]
      rw [hie] at hmem
      exact ⟨_, _, WeakR.refl _ _ _, es, ⟨hnd, hmem⟩, rfl, rfl⟩
  · simp only [h3, if_false] at hfl ⊢
    obtain ⟨A, a0, a1, a2, a3⟩ := accs k s t ls ns l [] (by omega)
    rw [← a2 l.length (Nat.le_refl _)]
    simp -implicitDefEqProofs (maxSteps := 2000000) (disch := omega) [-getElem?_pos, a50, h3]
    refine W_loop (α := FSt) ⟨0, []⟩ (fun x => l.length - x.i) (fun x => ⟨[(1, .ptr σ.objs.length 0), (3, .map (σ.objs.length + 1)), (17, .v (.sl (some 8) false (l.map encE))), (18, .v (.int .i64 l.length)), (19, .v (.int .i64 x.i))], ⟨σ.objs ++ [obE (.mk k p n s t ls ns l), mS x.es], σ.toks⟩⟩)
      (fun x => x.i ≤ l.length ∧ x.es.Nodup ∧ ∀ y, y ∈ x.es ↔ y ∈ A x.i) (.eq2 (by simp [obE, mS]) (by simp)) ⟨by simp, by simp, by simp [a0]⟩ fun ⟨i, es⟩ ⟨hi, hnd, hmem⟩ => ?_
    dsimp only at hi hnd hmem ⊢
    have hli := a3 i
    have hesl := nodup_len hnd fun y hy => (hmem y).1 hy
    simp -implicitDefEqProofs (maxSteps := 2000000) (disch := omega) [-getElem?_pos]
    refine .mk (fun h => ?_) fun h => ?_
    · simp -implicitDefEqProofs (maxSteps := 2000000) (disch := omega) [-getElem?_pos]
      refine ⟨by omega, ?_⟩
      intro x hx
      have hx1 := cszL_mem (List.mem_of_getElem? hx)
      have hxl := fvs_len x
      have hs := a1 i x hx
      have hli2 := a3 (i + 1)
      have hcall := fun σ => ih x (List.mem_of_getElem? hx) (σ := σ) (by omega)
      cases x with
      | mk k2 p2 n2 s2 t2 ls2 ns2 l2 =>
      rw [encE_mk] at hcall ⊢
      simp -implicitDefEqProofs (maxSteps := 2000000) (disch := omega) [-getElem?_pos]
      refine (hcall _).mono fun r σ' hr => ?_
      obtain ⟨lx, ⟨hx2, hx3⟩, rfl, rfl⟩ := hr
      generalize Ex.mk k2 p2 n2 s2 t2 ls2 ns2 l2 = x at *
      have hlxl := nodup_len hx2 fun y hy => (hx3 y).1 hy
      simp -implicitDefEqProofs (maxSteps := 2000000) (disch := omega) [-getElem?_pos, obE_mk]
      refine (hb i _ (by omega) (by omega)).then fun r hr => ?_
      subst hr
      obtain ⟨bs, hbs⟩ : ∃ bs, bs = bnd k s t ls ns i := ⟨_, rfl⟩
      rw [← hbs] at hs ⊢
      have hbl : bs.length ≤ 2 := by rw [hbs]; unfold bnd; repeat' split
                                     all_goals first | simp | (cases ns[i - 1]? <;> simp)
      simp -implicitDefEqProofs (maxSteps := 2000000) (disch := omega) [-getElem?_pos]
      generalize Ob.cells [.v (.int .i64 k2), .v (.int .i64 p2), .v (.int .i64 n2), .v (.str s2), .v (.str t2), .v (.sl none false (ls2.map .str)), .v (.sl none false (ns2.map .str)), .v (.sl (some 8) false (l2.map encE))] = X
      refine W_loop (α := FSt) ⟨0, lx⟩ (fun z => bs.length - z.i) (fun z => ⟨[(1, .ptr σ.objs.length 0), (3, .map (σ.objs.length + 1)), (17, .v (.sl (some 8) false (l.map encE))), (18, .v (.int .i64 l.length)), (19, .v (.int .i64 i)), (6, .map (σ.objs.length + 4)), (28, .v (vS bs)), (29, .v (.int .i64 bs.length)), (30, .v (.int .i64 z.i))],
          ⟨σ.objs ++ [obE (.mk k p n s t ls ns l), mS es, X, obE x, mS z.es], σ.toks⟩⟩)
        (fun z => z.i ≤ bs.length ∧ z.es.Nodup ∧ ∀ y, y ∈ z.es ↔ y ∈ fvs x ∧ ¬ y ∈ bs.take z.i) (.eq2 (by simp [obE_mk]) (by simp [Nat.add_assoc])) ⟨by simp, hx2, fun y => by simp [hx3]⟩ fun ⟨j, ej⟩ ⟨hj, hjn, hjm⟩ => ?_
      dsimp only at hj hjn hjm ⊢
      simp -implicitDefEqProofs (maxSteps := 2000000) (disch := omega) [-getElem?_pos]
      refine .mk (fun hq => ?_) fun hq => ?_
      · simp -implicitDefEqProofs (maxSteps := 2000000) (disch := omega) [-getElem?_pos]
        refine ⟨by omega, ?_⟩
        intro y hy
        simp -implicitDefEqProofs (maxSteps := 2000000) (disch := omega) [-getElem?_pos, WMap_mS, keysOk_str, merase_str]
        refine ⟨⟨j + 1, ej.erase y⟩, ⟨by dsimp only; omega, hjn.erase _, fun z => ?_⟩, by dsimp only; omega, .eq2 (by simp [mS]) (by simp)⟩
        rw [hjn.mem_erase_iff, hjm, List.take_add_one, hy, List.mem_append]
        simp
        constructor
        · rintro ⟨h1, h2, h3⟩
          exact ⟨h2, h3, h1⟩
        · rintro ⟨h1, h2, h3⟩
          exact ⟨h3, h1, h2⟩
      · simp -implicitDefEqProofs (maxSteps := 2000000) (disch := omega) [-getElem?_pos]
        have hel := nodup_len hjn fun y hy => ((hjm y).1 hy).1
        refine (k_Copy (ld := es) (ls := ej) (by omega) (by simp) (by simp) (by omega) (by omega)).mono fun r σ' hr => ?_
        obtain ⟨rfl, l', hl1, hl2, hl3, rfl⟩ := hr
        simp -implicitDefEqProofs (maxSteps := 2000000) (disch := omega) [-getElem?_pos]
        refine ⟨⟨i + 1, l'⟩, ⟨by dsimp only; omega, hl1, fun y => ?_⟩, by dsimp only; omega, .dropX (ys := [obE (.mk k p n s t ls ns l), mS l']) (xs := [X, obE x, mS ej]) (by simp) rfl (by simp) low2 (by simp) (by simp)⟩
        rw [hs, hl2, hmem, hjm, List.mem_append, List.mem_filter, List.take_of_length_le (by omega)]
        simp
    · simp -implicitDefEqProofs (maxSteps := 2000000) (disch := omega) [-getElem?_pos]
      have hie : A i = A l.length := by rw [a2 i (by omega), a2 _ (Nat.le_refl _)]
      rw [hie] at hmem
      exact ⟨_, _, WeakR.refl _ _ _, es, ⟨hnd, hmem⟩, rfl, rfl⟩
theorem k_Free (e : Ex) {σ : Sg} (he : csz e ≤ 1048576) : ACalls Tryz.prog 24 [.v (encE e)] σ fun r σ' => (∃ l, r = .v (vS l) ∧ l.Nodup ∧ ∀ y, y ∈ l ↔ y ∈ fvs e) ∧ σ' = σ := by
  have hl := fvs_len e
  have hc := fun σ => k_Ffree e (σ := σ) he
  cases e with
  | mk k p n s t ls ns l =>
  rw [encE_mk] at hc ⊢
  refine acalls_fit Tryz.func24 (by kernel_rfl) c24 rfl (by simp [a24]) fun hf => ?_
  clear hf
  simp -implicitDefEqProofs (maxSteps := 2000000) (disch := omega) [-getElem?_pos, a24]
  refine (hc _).mono fun r σ' hr => ?_
  obtain ⟨es, hfv, rfl, rfl⟩ := hr
  have hel := nodup_len hfv.1 fun y hy => (hfv.2 y).1 hy
  generalize Ex.mk k p n s t ls ns l = e at *
  simp -implicitDefEqProofs (maxSteps := 2000000) (disch := omega) [-getElem?_pos]
  refine k_Keys.mono fun r σ' hr => ?_
  obtain ⟨rfl, rfl⟩ := hr
  simp -implicitDefEqProofs (maxSteps := 2000000) (disch := omega) [-getElem?_pos]
  refine (k_Sorted (l := es) (by simp; rfl) (by simp [Nat.add_assoc]) (by omega)).then fun r hr => ?_
  subst hr
  simp -implicitDefEqProofs (maxSteps := 2000000) (disch := omega) [-getElem?_pos]
  exact .fin (.v (vS (sortS es))) ⟨⟨_, rfl, (List.mergeSort_perm es _).nodup_iff.2 hfv.1, fun y => (List.mergeSort_perm es _).mem_iff.trans (hfv.2 y)⟩, rfl⟩ (.refl _)
def items : List Str → List Str → List Str
  | s :: ls, x :: xs => (s ++ [32, 61, 32] ++ x) :: items ls xs
  | _, _ => []
def soleK (k : Int) : Bool := k == 1 || (k == 2 || (k == 3 || (k == 8 || (k == 10 || (k == 12 || k == 22)))))
def smallT (q : Int × Str) : Str := if soleK q.1 = true then q.2 else [40] ++ q.2 ++ [41]
def armL : List Str → List Str → List Str → List Str
  | a :: ls, n :: ns, x :: xs => ([32, 124, 32] ++ a ++ [32] ++ n ++ [32, 45, 62, 32] ++ x) :: armL ls ns xs
  | _, _, _ => []
def txQ (q : List (Int × Str)) (i : Nat) : Str := (q.map (·.2)).getD i []
def smQ (q : List (Int × Str)) (i : Nat) : Str := match q[i]? with
  | some x => smallT x
  | none => []
def elseT (t : Str) (x : Str) : Str := if t = [] then [] else [32, 124, 32] ++ t ++ [32, 45, 62, 32] ++ x
def headK (k : Int) (s : Str) : Str := if k = 17 then [114, 101, 102, 32] else if k = 20 then [112, 114, 105, 110, 116, 32] else if k = 21 then [115, 104, 111, 119, 32] else if k = 18 then [33] else s ++ [32]
def showK (k n : Int) (s t : Str) (ls ns : List Str) (q : List (Int × Str)) : Str :=
  if k = 1 then Lib.itoa n
  else if k = 2 then (quoteE s).getD []
  else if k = 3 then s
  else if k = 4 then [102, 110, 32] ++ s ++ [32, 45, 62, 32] ++ txQ q 0
  else if k = 5 then smQ q 0 ++ [32] ++ smQ q 1
  else if k = 6 then [108, 101, 116, 32] ++ s ++ [32, 61, 32] ++ txQ q 0 ++ [32, 105, 110, 32] ++ txQ q 1
  else if k = 7 then [108, 101, 116, 32, 114, 101, 99, 32] ++ s ++ [32] ++ t ++ [32, 61, 32] ++ txQ q 0 ++ [32, 105, 110, 32] ++ txQ q 1
  else if k = 8 then [123] ++ Lib.join (items ls (q.map (·.2))) [44, 32] ++ [125]
  else if k = 9 then smQ q 0 ++ [46] ++ s
  else if k = 10 then [123] ++ s ++ [32, 61, 32] ++ txQ q 0 ++ [32, 124, 32] ++ txQ q 1 ++ [125]
  else if k = 11 then smQ q 0 ++ [92] ++ s
  else if k = 12 then [123] ++ smQ q 1 ++ [32, 119, 105, 116, 104, 32] ++ s ++ [32, 61, 32] ++ txQ q 0 ++ [125]
  else if k = 14 then [109, 97, 116, 99, 104, 32] ++ txQ q 0 ++ [32, 119, 105, 116, 104] ++ (armL ls ns ((q.map (·.2)).drop 1)).flatten ++ elseT t (txQ q (ls.length + 1)) ++ [32, 101, 110, 100]
  else if k = 15 then [105, 102, 32] ++ txQ q 0 ++ [32, 116, 104, 101, 110, 32] ++ txQ q 1 ++ [32, 101, 108, 115, 101, 32] ++ txQ q 2
  else if k = 16 then smQ q 0 ++ [32] ++ s ++ [32] ++ smQ q 1
  else if k = 19 then smQ q 0 ++ [32, 58, 61, 32] ++ smQ q 1
  else if k = 22 then [114, 101, 97, 100]
  else headK k s ++ smQ q 0
def kdE : Ex → Int
  | .mk k _ _ _ _ _ _ _ => k
mutual
def showL : Ex → Str
  | .mk k _ n s t ls ns l => showK k n s t ls ns (showQ l)
def showQ : List Ex → List (Int × Str)
  | [] => []
  | x :: l => (kdE x, showL x) :: showQ l
end
mutual
def intsE : Ex → Prop
  | .mk _ _ n _ _ _ _ l => (-9223372036854775808 ≤ n ∧ n ≤ 9223372036854775807) ∧ intsL l
def intsL : List Ex → Prop
  | [] => True
  | x :: l => intsE x ∧ intsL l
end
structure CT where
  k : Int
  n : Nat
  s : Str
def core (t : Tk) : CT := ⟨t.k, t.n, t.s⟩
@[reducible] def wdT (s : Str) : CT := ⟨2, 0, s⟩
@[reducible] def sgT (s : Str) : CT := ⟨6, 0, s⟩
theorem name_of {s : Str} (h : isL s 1 = true) : ∃ c r, s = c :: r ∧ lowB c = true ∧ (∀ x ∈ s, ldB x = true) ∧ s ∉ wordsL ∧ s.length ≤ 20 := by
  have h := isL_imp (.inl rfl) h
  cases s with
  | nil => cases h
  | cons c r =>
    unfold isR at h
    dsimp only at h
    by_cases hl : 20 < (c :: r).length
    · rw [if_pos hl] at h
      cases h
    rw [if_neg hl] at h
    refine ⟨c, r, rfl, ?_⟩
    cases ho : oneL (c :: r) 0 c with
    | bad q => rw [ho] at h; cases h
    | tok t to =>
      rw [ho] at h
      simp only [Bool.and_eq_true, decide_eq_true_eq] at h
      obtain ⟨hto, htk⟩ := h
      have ho2 := ho
      unfold oneL at ho
      split at ho
      · rename_i hlo
        unfold nameN at ho
        split at ho
        · cases ho
        · cases ho
          have hfull : passS ldB (c :: r) 0 = c :: r := passS_full (by unfold spanE at hto; unfold passS; omega)
          have hall := passS_all (q := ldB) (b := c :: r) (i := 0)
          rw [hfull] at hall htk
          refine ⟨hlo, hall, ?_, by omega⟩
          intro hw
          dsimp only at htk
          rw [if_pos hw] at htk
          cases htk
      · rename_i hlo
        split at ho
        · unfold nameN at ho
          split at ho
          · cases ho
          · cases ho
            cases htk
        · rename_i hup
          obtain ⟨hlet, _⟩ := tok_name ho2 (.inl htk)
          rcases hlet with h | h
          · exact absurd h hlo
          · exact absurd h hup
theorem numV_snoc : ∀ (s : Str) (c : UInt8) (n : Nat), numV (s ++ [c]) n = numV s n * 10 + (c.toNat - 48)
  | [], c, n => rfl
  | x :: s, c, n => by rw [List.cons_append, numV_cons, numV_snoc s c, numV_cons]
theorem digit_ok {u : Nat} (h : u < 10) : (UInt8.ofNat (48 + u)).toNat = 48 + u := by
  rw [UInt8.toNat_ofNat']
  omega
theorem dec_ok (u : Nat) : (∃ c r, Lib.decDigits u = c :: r ∧ ¬ (1 < (Lib.decDigits u).length ∧ c.toNat = 48) ∧ (1 ≤ u → c.toNat ≠ 48)) ∧ (∀ x ∈ Lib.decDigits u, digB x = true) ∧ numV (Lib.decDigits u) 0 = u := by
  induction u using Nat.strongRecOn with
  | _ u ih =>
    by_cases h : u < 10
    · rw [Lib.decDigits, dif_pos h]
      have hd := digit_ok h
      refine ⟨⟨_, _, rfl, by simp, fun h1 => by omega⟩, ?_, ?_⟩
      · intro x hx
        simp only [List.mem_singleton] at hx
        subst hx
        unfold digB
        rw [hd]
        simp only [Bool.and_eq_true, decide_eq_true_eq]
        omega
      · rw [numV_cons, numV_nil, hd]
        omega
    · rw [Lib.decDigits, dif_neg h]
      have hd := digit_ok (u := u % 10) (by omega)
      obtain ⟨⟨c, r, h1, h2, h3⟩, h4, h5⟩ := ih (u / 10) (by omega)
      refine ⟨⟨c, r ++ [UInt8.ofNat (48 + u % 10)], by rw [h1]; rfl, fun hh => h3 (by omega) hh.2, fun _ => h3 (by omega)⟩, ?_, ?_⟩
      · intro x hx
        rcases List.mem_append.1 hx with hx | hx
        · exact h4 x hx
        · simp only [List.mem_singleton] at hx
          subst hx
          unfold digB
          rw [hd]
          simp only [Bool.and_eq_true, decide_eq_true_eq]
          omega
      · rw [numV_snoc, h5, hd]
        omega
end Go.Proofs.YtpdeaekmgljeaaaGreatDoor
