/-
  Expressions: which may be: the code's own words for it, but for whole expressions. (Own work.)
-/
import Derived.Test.YtpdeaekmgljeaaaGreatDoorY2
import Derived.Test.YtpdeaekmgljeaaaGreatDoorQ
import Derived.Sort.Walk0
import Derived.Sort.OwnSorted
set_option linter.unusedVariables false
set_option linter.unusedSimpArgs false
namespace Go.Proofs.YtpdeaekmgljeaaaGreatDoor
open Go Go.Abs

/-- What a kind of expressions has: how many parts; whether its text is a name, a label, a tag, an operator. -/
structure FT where
  p : Int
  nm : Bool
  lb : Bool
  tg : Bool
  op : Bool
def encF (f : FT) : D := .v (.agg [.int .i64 f.p, .bool f.nm, .bool f.lb, .bool f.tg, .bool f.op])
def formsT : List (Int × FT) := [(1, ⟨0, false, false, false, false⟩), (2, ⟨0, false, false, false, false⟩), (3, ⟨0, true, false, false, false⟩), (22, ⟨0, false, false, false, false⟩), (4, ⟨1, true, false, false, false⟩), (5, ⟨2, false, false, false, false⟩), (6, ⟨2, true, false, false, false⟩), (7, ⟨2, true, false, false, false⟩), (9, ⟨1, false, true, false, false⟩), (10, ⟨2, false, true, false, false⟩), (11, ⟨1, false, true, false, false⟩), (12, ⟨2, false, true, false, false⟩), (13, ⟨1, false, false, true, false⟩), (15, ⟨3, false, false, false, false⟩), (16, ⟨2, false, false, false, true⟩), (17, ⟨1, false, false, false, false⟩), (18, ⟨1, false, false, false, false⟩), (19, ⟨2, false, false, false, false⟩), (20, ⟨1, false, false, false, false⟩), (21, ⟨1, false, false, false, false⟩)]
def formsE : List (V × D) := formsT.map fun q => (.int .i64 q.1, encF q.2)
def formT (k : Int) : Option FT := formsT.lookup k
theorem find_form (k : Int) : mfind (.int .i64 k) formsE = (formT k).map encF := by
  unfold formsE formT
  generalize formsT = l
  induction l with
  | nil => rfl
  | cons q l ih =>
    obtain ⟨a, f⟩ := q
    rw [List.map_cons, mfind, List.lookup_cons, ih]
    by_cases h : k = a
    · subst h; simp [keq]
    · have hb : (k == a) = false := by simp [h]
      simp [keq, h, hb]
theorem forms_ok : keysOk (.int .i64) formsE = true := by rfl
theorem k_Forms {σ : Sg} : ACalls Tryz.prog 142 [] σ fun r σ' => r = .map σ.objs.length ∧ σ' = ⟨σ.objs ++ [.map formsE], σ.toks⟩ := by
  refine acalls_fit Tryz.func142 (by kernel_rfl) c142 rfl (by simp [a142]) fun hf => ?_
  clear hf
  simp -implicitDefEqProofs (maxSteps := 2000000) (disch := omega) [-getElem?_pos, a142]
  exact ⟨_, _, WeakR.refl _ _ _, rfl, rfl⟩
def partsN (k labels : Int) (other : Bool) : Int := if k = 8 then labels else if k = 14 then labels + (if other = true then 1 else 0) + 1 else match formT k with
  | none => -1
  | some f => f.p
theorem k_Parts {k labels : Int} {o : Bool} {σ : Sg} (hl : 0 ≤ labels) (hl2 : labels ≤ 2000000) : ACalls Tryz.prog 106 [.v (.int .i64 k), .v (.int .i64 labels), .v (.bool o)] σ fun r σ' => r = .v (.int .i64 (partsN k labels o)) ∧ σ' = σ := by
  have kf := fun σ => k_Forms (σ := σ)
  refine acalls_fit Tryz.func106 (by kernel_rfl) c106 rfl (by simp [a106]) fun hf => ?_
  clear hf
  by_cases h8 : k = 8
  · subst h8
    simp -implicitDefEqProofs (maxSteps := 2000000) (disch := omega) [-getElem?_pos, a106]
    exact .fin _ ⟨rfl, rfl⟩ (.refl _)
  by_cases h14 : k = 14
  · subst h14
    cases o with
    | true =>
      simp -implicitDefEqProofs (maxSteps := 2000000) (disch := omega) [-getElem?_pos, a106]
      exact .fin _ ⟨rfl, rfl⟩ (.refl _)
    | false =>
      simp -implicitDefEqProofs (maxSteps := 2000000) (disch := omega) [-getElem?_pos, a106]
      exact .fin _ ⟨by simp [partsN], rfl⟩ (.refl _)
  simp -implicitDefEqProofs (maxSteps := 2000000) (disch := omega) [-getElem?_pos, a106, h8, h14]
  refine (kf _).mono fun r σ' hr => ?_
  obtain ⟨rfl, rfl⟩ := hr
  cases hk : formT k with
  | none =>
    simp -implicitDefEqProofs (maxSteps := 2000000) (disch := omega) [-getElem?_pos, find_form, forms_ok, hk]
    exact .fin _ ⟨by simp [partsN, h8, h14, hk], rfl⟩ (.refl _)
  | some f =>
    simp -implicitDefEqProofs (maxSteps := 2000000) (disch := omega) [-getElem?_pos, find_form, forms_ok, hk, encF]
    exact .fin _ ⟨by simp [partsN, h8, h14, hk], rfl⟩ (.refl _)
theorem beq_sd {a b : Str} : (a == b) = decide (a = b) := by cases h : decide (a = b) <;> simp at h <;> simp [h]
/-- Is a text one token of a kind? -/
def isL (s : Str) (k : Int) : Bool := if 20 < s.length then false else match cutL s with
  | .ok [t] => decide (t.k = k) && decide (t.s = s)
  | _ => false
theorem k_Is {s : Str} {k : Int} {σ : Sg} (hs : s.length ≤ 1048576) : ACalls Tryz.prog 110 [.v (.str s), .v (.int .i64 k)] σ fun r σ' => r = .v (.bool (isL s k)) ∧ σ' = σ := by
  have kc := k_Cut (b := s) (σ := σ) hs
  refine acalls_fit Tryz.func110 (by kernel_rfl) c110 rfl (by simp [a110]) fun hf => ?_
  clear hf
  simp -implicitDefEqProofs (maxSteps := 2000000) (disch := omega) [-getElem?_pos, a110]
  refine .mk (fun h => ?_) fun h => ?_
  · simp -implicitDefEqProofs (maxSteps := 2000000) (disch := omega) [-getElem?_pos]
    exact .fin _ ⟨by rw [isL, if_pos (by omega)], rfl⟩ (.refl _)
  have hI : isL s k = match cutL s with
    | .ok [t] => decide (t.k = k) && decide (t.s = s)
    | _ => false := by rw [isL, if_neg (by omega)]
  simp -implicitDefEqProofs (maxSteps := 2000000) (disch := omega) [-getElem?_pos]
  refine ⟨by omega, ?_⟩
  cases hx : cutL s with
  | ok l =>
    rw [hx] at kc hI
    refine (show ACalls Tryz.prog 51 [.v (vBs s)] σ fun r σ' => r = .tup [.v (.sl (some 4) false (l.map encK)), .v .inil] ∧ σ' = σ from kc).then fun r hr => ?_
    subst hr
    match l with
    | [] =>
      simp -implicitDefEqProofs (maxSteps := 2000000) (disch := omega) [-getElem?_pos]
      exact .fin _ ⟨by rw [hI], rfl⟩ (.refl _)
    | [t] =>
      simp -implicitDefEqProofs (maxSteps := 2000000) (disch := omega) [-getElem?_pos, encK]
      refine .mk (fun hq => ?_) fun hq => ?_
      · simp -implicitDefEqProofs (maxSteps := 2000000) (disch := omega) [-getElem?_pos]
        exact .fin _ ⟨by rw [hI]; simp [hq, beq_sd], rfl⟩ (.refl _)
      · simp -implicitDefEqProofs (maxSteps := 2000000) (disch := omega) [-getElem?_pos]
        exact .fin _ ⟨by rw [hI]; simp [hq], rfl⟩ (.refl _)
    | t :: t2 :: l =>
      simp -implicitDefEqProofs (maxSteps := 2000000) (disch := omega) [-getElem?_pos]
      refine .mk (fun hq => absurd hq (by omega)) fun hq => ?_
      simp -implicitDefEqProofs (maxSteps := 2000000) (disch := omega) [-getElem?_pos]
      exact .fin _ ⟨by rw [hI], rfl⟩ (.refl _)
  | bad q =>
    rw [hx] at kc hI
    refine kc.mono fun r σ' hr => ?_
    obtain ⟨o, xs, ts, rfl, rfl, hxs⟩ := hr
    simp -implicitDefEqProofs (maxSteps := 2000000) (disch := omega) [-getElem?_pos]
    exact .fin _ ⟨by rw [hI], rfl⟩ (.refl _)
  | great =>
    rw [hx] at kc hI
    refine (show ACalls Tryz.prog 51 [.v (vBs s)] σ fun r σ' => r = .tup [.v .snil, .v (.iface 32 (.int .i64 6))] ∧ σ' = σ from kc).then fun r hr => ?_
    subst hr
    simp -implicitDefEqProofs (maxSteps := 2000000) (disch := omega) [-getElem?_pos]
    exact .fin _ ⟨by rw [hI], rfl⟩ (.refl _)
theorem k_All1 {s : Str} {k : Int} {o : Nat} {σ : Sg} (hs : s.length ≤ 1048576) (ho : σ.objs[o]? = some (.cells [.v (.int .i64 k)])) : ACalls Tryz.prog 144 [.v (.str s), .ptr o 0] σ fun r σ' => r = .v (.bool (!isL s k)) ∧ σ' = σ := by
  refine acalls_fit Tryz.func144 (by kernel_rfl) c144 rfl (by simp [a144]) fun hf => ?_
  clear hf
  simp -implicitDefEqProofs (maxSteps := 2000000) (disch := omega) [-getElem?_pos, a144, ho]
  refine (k_Is hs).then fun r hr => ?_
  subst hr
  simp -implicitDefEqProofs (maxSteps := 2000000) (disch := omega) [-getElem?_pos]
  exact .fin _ ⟨by simp, rfl⟩ (.refl _)
theorem k_IndexFuncStr {xs : List V} {f : Bool} {fd : D} {p : V → Bool} {σ : Sg} (hp : ∀ x ∈ xs, WCall Tryz.prog fd [.v x] σ fun r σ' => r = .v (.bool (p x)) ∧ σ' = σ) :
    ACalls Tryz.prog 177 [.v (.sl none f xs), fd] σ fun r σ' => r = .v (.int .i64 ((xs.findIdx? p).elim (-1) fun i => (i : Int))) ∧ σ' = σ := by
  refine acalls_fit Tryz.func177 (by kernel_rfl) c177 rfl (by simp [a177]) fun hf => ?_
  simp at hf
  simp -implicitDefEqProofs (maxSteps := 2000000) (disch := omega) [-getElem?_pos, a177]
  refine W_loop (α := Nat) 0 (fun i => xs.length - i) (fun i => ⟨[(0, .v (.sl none f xs)), (1, fd), (7, .v (.int .i64 xs.length)), (8, .v (.int .i64 i))], σ⟩) (fun i => i ≤ xs.length ∧ xs.findIdx? p = ((xs.drop i).findIdx? p).map fun k => k + i)
    (.eq (by simp)) ⟨by omega, by simp⟩ fun i ⟨hi, he⟩ => ?_
  simp -implicitDefEqProofs (maxSteps := 2000000) (disch := omega) [-getElem?_pos]
  refine .mk (fun h => ?_) fun h => ?_
  · simp -implicitDefEqProofs (maxSteps := 2000000) (disch := omega) [-getElem?_pos]
    refine ⟨by omega, fun x hx => ?_⟩
    refine (hp x (List.mem_of_getElem? hx)).then fun r hr => ?_
    subst hr
    have hdc := drop_cons hx
    rw [hdc, List.findIdx?_cons] at he
    simp -implicitDefEqProofs (maxSteps := 2000000) (disch := omega) [-getElem?_pos]
    refine .mk (fun hq => ?_) fun hq => ?_
    · rw [if_pos hq] at he
      simp -implicitDefEqProofs (maxSteps := 2000000) (disch := omega) [-getElem?_pos]
      refine .fin _ ⟨?_, rfl⟩ (.refl _)
      rw [he]
      simp
    · rw [if_neg hq] at he
      simp -implicitDefEqProofs (maxSteps := 2000000) (disch := omega) [-getElem?_pos]
      refine ⟨i + 1, ⟨by omega, ?_⟩, by dsimp only; omega, .eq (by simp)⟩
      rw [he]
      simp only [Option.map_map]
      congr 1
      funext k
      simp only [Function.comp]
      omega
  · simp -implicitDefEqProofs (maxSteps := 2000000) (disch := omega) [-getElem?_pos]
    refine .fin _ ⟨?_, rfl⟩ (.refl _)
    rw [he, List.drop_eq_nil_of_le (by omega)]
    rfl
theorem k_ContainsFuncStr {xs : List V} {f : Bool} {fd : D} {p : V → Bool} {σ : Sg} (hp : ∀ x ∈ xs, WCall Tryz.prog fd [.v x] σ fun r σ' => r = .v (.bool (p x)) ∧ σ' = σ) :
    ACalls Tryz.prog 143 [.v (.sl none f xs), fd] σ fun r σ' => r = .v (.bool (xs.any p)) ∧ σ' = σ := by
  refine acalls_fit Tryz.func143 (by kernel_rfl) c143 rfl (by simp [a143]) fun hf => ?_
  simp -implicitDefEqProofs (maxSteps := 2000000) (disch := omega) [-getElem?_pos, a143]
  refine (k_IndexFuncStr hp).then fun r hr => ?_
  subst hr
  simp -implicitDefEqProofs (maxSteps := 2000000) (disch := omega) [-getElem?_pos]
  refine .fin _ ⟨?_, rfl⟩ (.refl _)
  congr 2
  cases h : xs.findIdx? p with
  | none =>
    have h2 := List.findIdx?_eq_none_iff.1 h
    simp
    exact fun x hx => by simpa using h2 x hx
  | some i =>
    have h2 := List.findIdx?_eq_some_iff_getElem.1 h
    obtain ⟨hlt, hq, _⟩ := h2
    simp
    exact ⟨_, List.getElem_mem hlt, hq⟩

def notIs (k : Int) : V → Bool
  | .str s => !isL s k
  | _ => false
theorem any_is (k : Int) : ∀ l : List Str, (l.map V.str).any (notIs k) = !(l.all fun s => isL s k)
  | [] => rfl
  | s :: l => by rw [List.map_cons, List.any_cons, List.all_cons, any_is k l, Bool.not_and]; rfl
theorem k_All {l : List Str} {k : Int} {σ : Sg} (hs : nsz l ≤ 1048576) : ACalls Tryz.prog 108 [.v (vS l), .v (.int .i64 k)] σ fun r σ' => r = .v (.bool (l.all fun s => isL s k)) ∧ σ' = σ := by
  have hsz : ∀ s ∈ l, s.length ≤ 1048576 := fun s h => by
    have : s.length + 1 ≤ nsz l := by
      clear hs
      induction l with
      | nil => cases h
      | cons x l ih =>
        simp only [nsz]
        rcases List.mem_cons.1 h with rfl | h
        · omega
        · have := ih h; omega
    omega
  refine acalls_fit Tryz.func108 (by kernel_rfl) c108 rfl (by simp [a108]) fun hf => ?_
  clear hf
  simp -implicitDefEqProofs (maxSteps := 2000000) (disch := omega) [-getElem?_pos, a108]
  refine (k_ContainsFuncStr (p := notIs k) (fun x hx => ?_)).then fun r hr => ?_
  · obtain ⟨s, hm, rfl⟩ := List.mem_map.1 hx
    rw [WCall_caps]
    exact k_All1 (hsz s hm) (by simp)
  · rw [any_is] at hr
    subst hr
    simp -implicitDefEqProofs (maxSteps := 2000000) (disch := omega) [-getElem?_pos]
    exact .fin _ ⟨by simp, rfl⟩ (.refl _)
/-- Do texts rise? -/
def riseL : List Str → Bool
  | [] => true
  | [_] => true
  | a :: b :: r => decide (a < b) && riseL (b :: r)
theorem riseL_iff : ∀ l : List Str, riseL l = true ↔ ∀ i a b, l[i]? = some a → l[i + 1]? = some b → a < b
  | [] => by simp [riseL]
  | [x] => by simp [riseL]
  | x :: y :: r => by
    rw [riseL, Bool.and_eq_true, decide_eq_true_iff, riseL_iff (y :: r)]
    constructor
    · rintro ⟨h1, h2⟩ i a b ha hb
      cases i with
      | zero => simp at ha hb; subst ha hb; exact h1
      | succ i => exact h2 i a b (by simpa using ha) (by simpa using hb)
    · intro h
      exact ⟨h 0 x y rfl rfl, fun i a b ha hb => h (i + 1) a b (by simpa using ha) (by simpa using hb)⟩
theorem less_eq (x y : Str) : Op.bytesLess x y = decide (x < y) := bytesLess_eq x y
theorem k_Rises {l : List Str} {σ : Sg} : ACalls Tryz.prog 109 [.v (vS l)] σ fun r σ' => r = .v (.bool (riseL l && decide (l.length ≤ 30))) ∧ σ' = σ := by
  refine acalls_fit Tryz.func109 (by kernel_rfl) c109 rfl (by simp [a109]) fun hf => ?_
  simp at hf
  simp -implicitDefEqProofs (maxSteps := 2000000) (disch := omega) [-getElem?_pos, a109]
  refine W_loop (α := Nat) 0 (fun i => l.length - i) (fun i => ⟨[(0, .v (vS l)), (5, .v (.int .i64 l.length)), (6, .v (.int .i64 i))], σ⟩) (fun i => i ≤ l.length ∧ ∀ j a b, j + 1 < i → l[j]? = some a → l[j + 1]? = some b → a < b)
    (.eq (by simp)) ⟨Nat.zero_le _, fun j a b h => by omega⟩ fun i ⟨hi, hr⟩ => ?_
  simp -implicitDefEqProofs (maxSteps := 2000000) (disch := omega) [-getElem?_pos]
  refine .mk (fun h => ?_) fun h => ?_
  · obtain ⟨x, hx⟩ : ∃ x, l[i]? = some x := ⟨l[i], List.getElem?_eq_getElem h⟩
    simp -implicitDefEqProofs (maxSteps := 2000000) (disch := omega) [-getElem?_pos, hx]
    refine .mk (fun h0 => ?_) fun h0 => ?_
    · obtain ⟨y, hy⟩ : ∃ y, l[i - 1]? = some y := ⟨l[i - 1], List.getElem?_eq_getElem (by omega)⟩
      have ei : ((i : Int) - 1).toNat = i - 1 := by omega
      simp -implicitDefEqProofs (maxSteps := 2000000) (disch := omega) [-getElem?_pos, hx, ei, hy]
      refine ⟨by omega, by omega, by omega, ?_⟩
      simp -implicitDefEqProofs (maxSteps := 2000000) (disch := omega) [-getElem?_pos, hx, less_eq]
      refine .mk (fun hq => ?_) fun hq => ?_
      · simp -implicitDefEqProofs (maxSteps := 2000000) (disch := omega) [-getElem?_pos]
        refine ⟨i + 1, ⟨by omega, fun j a b hj ha hb => ?_⟩, by dsimp only; omega, .eq (by simp)⟩
        by_cases hji : j + 1 < i
        · exact hr j a b hji ha hb
        · have : j = i - 1 := by omega
          subst this
          rw [hy] at ha
          rw [show i - 1 + 1 = i by omega, hx] at hb
          cases ha
          cases hb
          exact hq
      · simp -implicitDefEqProofs (maxSteps := 2000000) (disch := omega) [-getElem?_pos]
        have hR : riseL l = false := by
          cases hb : riseL l with
          | false => rfl
          | true => exact absurd ((riseL_iff l).1 hb (i - 1) y x hy (by rw [show i - 1 + 1 = i by omega]; exact hx)) hq
        exact .fin _ ⟨by rw [hR]; rfl, rfl⟩ (.refl _)
    · simp -implicitDefEqProofs (maxSteps := 2000000) (disch := omega) [-getElem?_pos, hx]
      refine ⟨i + 1, ⟨by omega, fun j a b hj => ?_⟩, by dsimp only; omega, .eq (by simp)⟩
      omega
  · simp -implicitDefEqProofs (maxSteps := 2000000) (disch := omega) [-getElem?_pos]
    have hR : riseL l = true := (riseL_iff l).2 fun j a b ha hb => hr j a b (by have := (List.getElem?_eq_some_iff.1 hb).1; omega) ha hb
    refine .fin _ ⟨?_, rfl⟩ (.refl _)
    rw [hR, Bool.true_and]
    congr 2
    simp
    omega
def opsL : List Str := [[43], [45], [42], [47], [60], [61, 61], [94], [35]]
/-- Is an expression's text as its kind asks for? -/
def textB (k : Int) (s : Str) : Bool := if k = 2 then (quoteE s).isSome else match formT k with
  | some f => if f.nm || f.lb then isL s 1 else if f.tg then isL s 3 else if f.op then decide (s ∈ opsL) else decide (s = [])
  | none => decide (s = [])
theorem k_SText {k p n : Int} {s t : Str} {ls ns : List Str} {l : List Ex} {σ : Sg} (hs : s.length ≤ 1048576) : ACalls Tryz.prog 107 [.v (encE (.mk k p n s t ls ns l))] σ fun r σ' => r = .v (.bool (textB k s)) ∧ σ' = σ := by
  have kf := fun σ => k_Forms (σ := σ)
  have kq := fun σ => k_Quote (b := s) (σ := σ) hs
  have ki := fun (k : Int) σ => k_Is (s := s) (k := k) (σ := σ) hs
  have ko : ∀ σ, ACalls Tryz.prog 118 [.v (.sl none true [.str [43], .str [45], .str [42], .str [47], .str [60], .str [61, 61], .str [94], .str [35]]), .v (.str s)] σ fun r σ' => r = .v (.bool (decide (s ∈ opsL))) ∧ σ' = σ := fun σ => (k_ContainsStr (l := opsL) (s := s) (σ := σ)).argA VLe.lax.d
  rw [encE_mk]
  refine acalls_fit Tryz.func107 (by kernel_rfl) c107 rfl (by simp [a107]) fun hf => ?_
  clear hf
  obtain ⟨X, hX⟩ : ∃ X, X = Ob.cells [.v (.int .i64 k), .v (.int .i64 p), .v (.int .i64 n), .v (.str s), .v (.str t), .v (.sl none false (ls.map .str)), .v (.sl none false (ns.map .str)), .v (.sl (some 8) false (l.map encE))] := ⟨_, rfl⟩
  simp -implicitDefEqProofs (maxSteps := 2000000) (disch := omega) [-getElem?_pos, a107]
  rw [← hX]
  have hk2 : textB k s = if k = 2 then (quoteE s).isSome else match formT k with
    | some f => if f.nm || f.lb then isL s 1 else if f.tg then isL s 3 else if f.op then decide (s ∈ opsL) else decide (s = [])
    | none => decide (s = []) := rfl
  generalize textB k s = B at hk2 ⊢
  refine ⟨(kf _).mono fun r σ' hr => ?_, (kf _).mono fun r σ' hr => ?_⟩
  all_goals
    obtain ⟨rfl, rfl⟩ := hr
    by_cases h2 : k = 2
    · subst h2
      rw [if_pos rfl] at hk2
      simp -implicitDefEqProofs (maxSteps := 2000000) (disch := omega) [-getElem?_pos, find_form, forms_ok, show formT 2 = some ⟨0, false, false, false, false⟩ from rfl, encF, hX]
      refine (kq _).then fun r hr => ?_
      cases hqe : quoteE s with
      | none =>
        rw [hqe] at hr hk2
        unfold QPost at hr
        dsimp only at hr
        subst hr
        simp -implicitDefEqProofs (maxSteps := 2000000) (disch := omega) [-getElem?_pos]
        exact .fin (.v (.bool false)) ⟨by rw [hk2]; rfl, rfl⟩ (.refl _)
      | some z =>
        rw [hqe] at hr hk2
        unfold QPost at hr
        dsimp only at hr
        subst hr
        simp -implicitDefEqProofs (maxSteps := 2000000) (disch := omega) [-getElem?_pos]
        exact .fin (.v (.bool true)) ⟨by rw [hk2]; rfl, rfl⟩ (.refl _)
    rw [if_neg h2] at hk2
    have hse : List.isEmpty s = decide (s = []) := by cases s <;> simp
    cases hk : formT k with
    | none =>
      rw [hk] at hk2
      simp -implicitDefEqProofs (maxSteps := 2000000) (disch := omega) [-getElem?_pos, find_form, forms_ok, hk, hX, h2]
      exact .fin (.v (.bool (List.isEmpty s))) ⟨by rw [hk2, hse], rfl⟩ (.refl _)
    | some f =>
      obtain ⟨q, nm, lb, tg, op⟩ := f
      rw [hk] at hk2
      cases nm with
      | true =>
        cases lb <;> cases tg <;> cases op
        all_goals
          simp only [Bool.or_false, Bool.or_true, Bool.or_self, Bool.true_or, Bool.false_or, Bool.false_eq_true, if_true, if_false] at hk2
          simp -implicitDefEqProofs (maxSteps := 2000000) (disch := omega) [-getElem?_pos, find_form, forms_ok, hk, encF, hX, h2]
          refine (ki 1 _).then fun r hr => ?_
          subst hr
          simp -implicitDefEqProofs (maxSteps := 2000000) (disch := omega) [-getElem?_pos]
          exact .fin (.v (.bool (isL s 1))) ⟨by rw [hk2], rfl⟩ (.refl _)
      | false =>
      cases lb with
      | true =>
        cases tg <;> cases op
        all_goals
          simp only [Bool.or_false, Bool.or_true, Bool.or_self, Bool.true_or, Bool.false_or, Bool.false_eq_true, if_true, if_false] at hk2
          simp -implicitDefEqProofs (maxSteps := 2000000) (disch := omega) [-getElem?_pos, find_form, forms_ok, hk, encF, hX, h2]
          refine (ki 1 _).then fun r hr => ?_
          subst hr
          simp -implicitDefEqProofs (maxSteps := 2000000) (disch := omega) [-getElem?_pos]
          exact .fin (.v (.bool (isL s 1))) ⟨by rw [hk2], rfl⟩ (.refl _)
      | false =>
      cases tg with
      | true =>
        cases op
        all_goals
          simp only [Bool.or_false, Bool.or_true, Bool.or_self, Bool.true_or, Bool.false_or, Bool.false_eq_true, if_true, if_false] at hk2
          simp -implicitDefEqProofs (maxSteps := 2000000) (disch := omega) [-getElem?_pos, find_form, forms_ok, hk, encF, hX, h2]
          refine (ki 3 _).then fun r hr => ?_
          subst hr
          simp -implicitDefEqProofs (maxSteps := 2000000) (disch := omega) [-getElem?_pos]
          exact .fin (.v (.bool (isL s 3))) ⟨by rw [hk2], rfl⟩ (.refl _)
      | false =>
      cases op with
      | true =>
        simp only [Bool.or_false, Bool.or_true, Bool.or_self, Bool.true_or, Bool.false_or, Bool.false_eq_true, if_true, if_false] at hk2
        simp -implicitDefEqProofs (maxSteps := 2000000) (disch := omega) [-getElem?_pos, find_form, forms_ok, hk, encF, hX, h2]
        refine (ko _).then fun r hr => ?_
        subst hr
        simp -implicitDefEqProofs (maxSteps := 2000000) (disch := omega) [-getElem?_pos]
        exact .fin (.v (.bool (decide (s ∈ opsL)))) ⟨by rw [hk2], rfl⟩ (.refl _)
      | false =>
        simp only [Bool.or_false, Bool.or_true, Bool.or_self, Bool.true_or, Bool.false_or, Bool.false_eq_true, if_true, if_false] at hk2
        simp -implicitDefEqProofs (maxSteps := 2000000) (disch := omega) [-getElem?_pos, find_form, forms_ok, hk, encF, hX, h2]
        exact .fin (.v (.bool (List.isEmpty s))) ⟨by rw [hk2, hse], rfl⟩ (.refl _)
end Go.Proofs.YtpdeaekmgljeaaaGreatDoor
