/-
  Lexer: the reference's tokens. (Own work.)
-/
import Derived.Test.YtpdeaekmgljeaaaGreatDoorQ05
import Derived.Sort.Walk0
import Derived.Sort.OwnSorted
import Derived.Lib.Join
import Derived.Shelf.Strings.OnBuilder
import Derived.Shelf.Strconv.Itoa4
import Derived.Test.YtpdeaekmgljeaaaGreatDoorChecked
import Derived.Lib.ItoaLen
set_option linter.unusedVariables false
set_option linter.unusedSimpArgs false
namespace Go.Proofs.YtpdeaekmgljeaaaGreatDoor
open Go Go.Abs
def qn (u : Bool) (d : UInt8) : Bool := lowB d || (digB d || (u && uppB d))
theorem qn_ld : qn false = ldB := by funext d; simp [qn, ldB]
theorem qn_lud : qn true = ludB := by funext d; simp only [qn, ludB, Bool.true_and]; rw [Bool.or_comm (digB d)]
theorem low_upp {c : UInt8} (h : lowB c = true) : uppB c = false := by
  simp only [lowB, uppB, Bool.and_eq_true, decide_eq_true_eq, Bool.and_eq_false_iff, decide_eq_false_iff_not] at h ⊢
  omega
theorem oneL_name {b : Str} {i : Nat} {c : UInt8} (h : (lowB c || uppB c) = true) : oneL b i c = nameN b i (if uppB c = true then 3 else if passS (qn (uppB c)) b i ∈ wordsL then 2 else 1) (qn (uppB c)) := by
  unfold oneL
  cases hl : lowB c with
  | true => simp [low_upp hl, qn_ld]
  | false =>
    cases hu : uppB c with
    | true => simp [qn_lud]
    | false => simp [hl, hu] at h
structure NSt where
  k : Nat
  n : Nat
  g : Bool
structure NIn (b : Str) (i : Nat) (x : NSt) : Prop where
  hik : i ≤ x.k
  hk : x.k ≤ b.length
  he : spanE digB b i = spanE digB b x.k
  h0 : x.g = false → x.n ≤ 9223372036854775807 ∧ numV (passS digB b i) 0 = numV (passS digB b x.k) x.n
  h1 : x.g = true → x.n = 0 ∧ 9223372036854775807 < numV (passS digB b i) 0
theorem passS_hit {q : UInt8 → Bool} {b : Str} {i : Nat} {c : UInt8} (h : b[i]? = some c) (hq : q c = true) : passS q b i = c :: passS q b (i + 1) := by
  unfold passS
  rw [drop_cons h, List.takeWhile_cons_of_pos hq]
theorem passS_miss {q : UInt8 → Bool} {b : Str} {i : Nat} {c : UInt8} (h : b[i]? = some c) (hq : q c = false) : passS q b i = [] := by
  unfold passS
  rw [drop_cons h, List.takeWhile_cons_of_neg (by simp [hq])]
theorem passS_end {q : UInt8 → Bool} {b : Str} {i : Nat} (h : b.length ≤ i) : passS q b i = [] := by
  unfold passS
  rw [List.drop_eq_nil_of_le h]
  rfl
theorem wrap_digit {n : Nat} {d : UInt8} (hd : 48 ≤ d.toNat ∧ d.toNat ≤ 57) (hn : n * 10 + (d.toNat - 48) ≤ 9223372036854775807) : IntKind.wrap .u64 (10 * (n : Int) + IntKind.wrap .u64 (IntKind.wrap .u8 ((d.toNat : Int) - 48))) = ((n * 10 + (d.toNat - 48) : Nat) : Int) := by
  have e1 : IntKind.wrap .u8 ((d.toNat : Int) - 48) = (d.toNat : Int) - 48 := wrap_u8 (by omega) (by omega)
  have e2 : IntKind.wrap .u64 ((d.toNat : Int) - 48) = (d.toNat : Int) - 48 := wrap_u64 (by omega) (by omega)
  rw [e1, e2, wrap_u64 (by omega) (by omega)]
  omega
def sgn (x : Str) : Str := (signsL.find? fun s => decide (x.take s.length = s)).getD []
theorem sgn_ones {c : UInt8} {r : Str} : ∀ l : List Str, (∀ s ∈ l, s.length = 1) → (l.find? fun s => decide ((c :: r).take s.length = s)).getD [] = if [c] ∈ l then [c] else []
  | [], _ => rfl
  | s :: l, h => by
    have h1 := h s (.head _)
    rw [List.find?_cons, h1]
    by_cases e : [c] = s
    · rw [show decide ((c :: r).take 1 = s) = true from decide_eq_true (by simpa using e), if_pos (by rw [e]; exact .head _)]
      exact e.symm
    · rw [show decide ((c :: r).take 1 = s) = false from decide_eq_false (by simpa using e)]
      rw [sgn_ones l fun s hs => h s (.tail _ hs)]
      simp [e]
theorem sgn_one {c : UInt8} : sgn [c] = if [c] ∈ onesL then [c] else [] := by
  have h := sgn_ones (c := c) (r := []) onesL (by decide)
  rw [← h]
  unfold sgn
  have k : ∀ x y : UInt8, decide (List.take 2 [c] = [x, y]) = false := fun x y => decide_eq_false (by simp)
  rw [show signsL = [45, 62] :: [61, 61] :: [58, 61] :: onesL from rfl]
  simp only [List.find?_cons, List.length_cons, List.length_nil, Nat.zero_add, Nat.reduceAdd, k]
theorem sgn_two {c e : UInt8} : sgn [c, e] = if [c, e] ∈ [[45, 62], [61, 61], [58, 61]] then [c, e] else if [c] ∈ onesL then [c] else [] := by
  have h := sgn_ones (c := c) (r := [e]) onesL (by decide)
  rw [← h]
  unfold sgn
  rw [show signsL = [45, 62] :: [61, 61] :: [58, 61] :: onesL from rfl]
  simp only [List.find?_cons, List.length_cons, List.length_nil, List.take, List.mem_cons, List.not_mem_nil, or_false]
  by_cases h1 : [c, e] = [45, 62]
  · simp [h1]
  by_cases h2 : [c, e] = [61, 61]
  · simp [h2]
  by_cases h3 : [c, e] = [58, 61]
  · simp [h3]
  simp only [h1, h2, h3, decide_false, or_self, if_false]
def OnePost (σ : Sg) (x : NR) (r : D) (σ' : Sg) : Prop := (match x with
  | .tok t to => r = .tup [.v (encK t), .v (.int .i64 to), .v (.int .i64 (-1))]
  | .bad q => ∃ (t : Tk) (e : Int), r = .tup [.v (encK t), .v (.int .i64 e), .v (.int .i64 q)]) ∧ σ' = σ
set_option maxHeartbeats 1000000 in
theorem k_ROne {b : Str} {i : Nat} {c : UInt8} {σ : Sg} (hc : b[i]? = some c) (hb : b.length ≤ 1048576) : ACalls Tryz.prog 135 [.v (vBs b), .v (.int .i64 i)] σ (OnePost σ (oneL b i c)) := by
  have hi : i < b.length := (List.getElem?_eq_some_iff.1 hc).1
  have cl := fun c σ => k_RLow (c := c) (σ := σ)
  have cu := fun c σ => k_RHigh (c := c) (σ := σ)
  have cd := fun c σ => k_RDigit (c := c) (σ := σ)
  unfold vB at cl cu cd
  obtain ⟨X, hX⟩ : ∃ X, X = oneL b i c := ⟨_, rfl⟩
  rw [← hX]
  refine acalls_fit Tryz.func135 (by kernel_rfl) c135 rfl (by simp [a135]) fun hf => ?_
  clear hf
  simp -implicitDefEqProofs (maxSteps := 2000000) (disch := omega) [-getElem?_pos, a135]
  refine ⟨by omega, fun c' hc' => ?_⟩
  rw [hc] at hc'
  cases hc'
  refine (cl _ _).then fun r hr => ?_
  subst hr
  simp -implicitDefEqProofs (maxSteps := 2000000) (disch := omega) [-getElem?_pos]
  refine (cu _ _).then fun r hr => ?_
  subst hr
  simp -implicitDefEqProofs (maxSteps := 2000000) (disch := omega) [-getElem?_pos]
  refine (cd _ _).then fun r hr => ?_
  subst hr
  cases hlo : lowB c with
  | true =>
    have hup := low_upp hlo
    have hq0 : qn false c = true := by simp [qn, hlo, hup]
    rw [oneL_name (by simp [hlo, hup]), hup] at hX
    simp -implicitDefEqProofs (maxSteps := 2000000) (disch := omega) [-getElem?_pos]
    refine W_loop (α := Nat) i (fun k => b.length - k) (fun k => ⟨[(0, .v (vBs b)), (1, .v (.int .i64 i)), (4, .ptr σ.objs.length 0), (8, .v (.int .i64 k)), (10, .v (.bool false))], ⟨σ.objs ++ [.cells [.v (.int .i64 0), .v (.int .i64 0), .v (.int .i64 0), .v (.str [])]], σ.toks⟩⟩)
      (fun k => i ≤ k ∧ k ≤ b.length ∧ spanE (qn false) b i = spanE (qn false) b k) (.eq2 (by simp [hup]) (by simp [hup])) ⟨Nat.le_refl _, by omega, rfl⟩ fun k ⟨hik, hk, he⟩ => ?_
    simp -implicitDefEqProofs (maxSteps := 2000000) (disch := omega) [-getElem?_pos]
    have upp : ∀ h : k < b.length, ∀ d, b[k]? = some d → qn false d = true → i ≤ k + 1 ∧ k + 1 ≤ b.length ∧ spanE (qn false) b i = spanE (qn false) b (k + 1) := fun h d hd hq => ⟨by omega, by omega, by rw [he, spanE_hit hd hq]⟩
    refine .mk (fun h => ?_) fun h => ?_
    · simp -implicitDefEqProofs (maxSteps := 2000000) (disch := omega) [-getElem?_pos]
      refine ⟨by omega, fun d hd => ?_⟩
      refine (cl _ _).then fun r hr => ?_
      subst hr
      cases hld : lowB d with
      | true =>
        simp -implicitDefEqProofs (maxSteps := 2000000) (disch := omega) [-getElem?_pos]
        exact ⟨k + 1, upp h d hd (by simp [qn, hld]), by show b.length - (k + 1) < b.length - k; omega, .eq (by simp)⟩
      | false =>
        simp -implicitDefEqProofs (maxSteps := 2000000) (disch := omega) [-getElem?_pos]
        refine ⟨by omega, fun d' hd' => ?_⟩
        rw [hd] at hd'
        cases hd'
        refine (cd _ _).then fun r hr => ?_
        subst hr
        cases hdd : digB d with
        | true =>
          simp -implicitDefEqProofs (maxSteps := 2000000) (disch := omega) [-getElem?_pos]
          exact ⟨k + 1, upp h d hd (by simp [qn, hld, hdd]), by show b.length - (k + 1) < b.length - k; omega, .eq (by simp)⟩
        | false =>
          simp -implicitDefEqProofs (maxSteps := 2000000) (disch := omega) [-getElem?_pos]
          have hE : spanE (qn false) b i = k := by rw [he]; exact spanE_miss hd (by simp [qn, hld, hdd])
          have hP : List.drop i (List.take k b) = passS (qn false) b i := by rw [← hE, passS_eq]
          have hL : (passS (qn false) b i).length = k - i := by rw [← hP]; simp; omega
          rw [hP]
          refine ⟨by omega, by omega, k_IsWord.then fun r hr => ?_⟩
          subst hr
          by_cases hw : passS (qn false) b i ∈ wordsL
          · simp -implicitDefEqProofs (maxSteps := 2000000) (disch := omega) [-getElem?_pos, hw]
            refine .mk (fun h20 => ?_) fun h20 => ?_
            · rw [show X = NR.bad i from by rw [hX, nameN, if_pos (by omega)]]
              simp -implicitDefEqProofs (maxSteps := 2000000) (disch := omega) [-getElem?_pos, hw]
              exact .fin _ ⟨⟨⟨0, 0, 0, []⟩, _, rfl⟩, rfl⟩ (.refl _)
            · rw [show X = NR.tok ⟨2, i, 0, passS (qn false) b i⟩ k from by rw [hX, nameN, if_neg (by omega), hE]; simp [hw]]
              simp -implicitDefEqProofs (maxSteps := 2000000) (disch := omega) [-getElem?_pos, hw]
              exact .fin _ ⟨rfl, rfl⟩ (.refl _)
          · simp -implicitDefEqProofs (maxSteps := 2000000) (disch := omega) [-getElem?_pos, hw]
            refine .mk (fun h20 => ?_) fun h20 => ?_
            · rw [show X = NR.bad i from by rw [hX, nameN, if_pos (by omega)]]
              simp -implicitDefEqProofs (maxSteps := 2000000) (disch := omega) [-getElem?_pos, hw]
              exact .fin _ ⟨⟨⟨0, 0, 0, []⟩, _, rfl⟩, rfl⟩ (.refl _)
            · rw [show X = NR.tok ⟨1, i, 0, passS (qn false) b i⟩ k from by rw [hX, nameN, if_neg (by omega), hE]; simp [hw]]
              simp -implicitDefEqProofs (maxSteps := 2000000) (disch := omega) [-getElem?_pos, hw]
              exact .fin _ ⟨rfl, rfl⟩ (.refl _)
    · simp -implicitDefEqProofs (maxSteps := 2000000) (disch := omega) [-getElem?_pos]
      have hE : spanE (qn false) b i = k := by rw [he, spanE_end (by omega)]; 
      have hP : List.drop i (List.take k b) = passS (qn false) b i := by rw [← hE, passS_eq]
      have hL : (passS (qn false) b i).length = k - i := by rw [← hP]; simp; omega
      rw [hP]
      refine ⟨by omega, by omega, k_IsWord.then fun r hr => ?_⟩
      subst hr
      by_cases hw : passS (qn false) b i ∈ wordsL
      · simp -implicitDefEqProofs (maxSteps := 2000000) (disch := omega) [-getElem?_pos, hw]
        refine .mk (fun h20 => ?_) fun h20 => ?_
        · rw [show X = NR.bad i from by rw [hX, nameN, if_pos (by omega)]]
          simp -implicitDefEqProofs (maxSteps := 2000000) (disch := omega) [-getElem?_pos, hw]
          exact .fin _ ⟨⟨⟨0, 0, 0, []⟩, _, rfl⟩, rfl⟩ (.refl _)
        · rw [show X = NR.tok ⟨2, i, 0, passS (qn false) b i⟩ k from by rw [hX, nameN, if_neg (by omega), hE]; simp [hw]]
          simp -implicitDefEqProofs (maxSteps := 2000000) (disch := omega) [-getElem?_pos, hw]
          exact .fin _ ⟨rfl, rfl⟩ (.refl _)
      · simp -implicitDefEqProofs (maxSteps := 2000000) (disch := omega) [-getElem?_pos, hw]
        refine .mk (fun h20 => ?_) fun h20 => ?_
        · rw [show X = NR.bad i from by rw [hX, nameN, if_pos (by omega)]]
          simp -implicitDefEqProofs (maxSteps := 2000000) (disch := omega) [-getElem?_pos, hw]
          exact .fin _ ⟨⟨⟨0, 0, 0, []⟩, _, rfl⟩, rfl⟩ (.refl _)
        · rw [show X = NR.tok ⟨1, i, 0, passS (qn false) b i⟩ k from by rw [hX, nameN, if_neg (by omega), hE]; simp [hw]]
          simp -implicitDefEqProofs (maxSteps := 2000000) (disch := omega) [-getElem?_pos, hw]
          exact .fin _ ⟨rfl, rfl⟩ (.refl _)
  | false =>
  cases hup : uppB c with
  | true =>
    have hq0 : qn true c = true := by simp [qn, hlo, hup]
    rw [oneL_name (by simp [hlo, hup]), hup] at hX
    simp -implicitDefEqProofs (maxSteps := 2000000) (disch := omega) [-getElem?_pos]
    refine W_loop (α := Nat) i (fun k => b.length - k) (fun k => ⟨[(0, .v (vBs b)), (1, .v (.int .i64 i)), (4, .ptr σ.objs.length 0), (8, .v (.int .i64 k)), (10, .v (.bool true))], ⟨σ.objs ++ [.cells [.v (.int .i64 0), .v (.int .i64 0), .v (.int .i64 0), .v (.str [])]], σ.toks⟩⟩)
      (fun k => i ≤ k ∧ k ≤ b.length ∧ spanE (qn true) b i = spanE (qn true) b k) (.eq2 (by simp [hup]) (by simp [hup])) ⟨Nat.le_refl _, by omega, rfl⟩ fun k ⟨hik, hk, he⟩ => ?_
    simp -implicitDefEqProofs (maxSteps := 2000000) (disch := omega) [-getElem?_pos]
    have upp : ∀ h : k < b.length, ∀ d, b[k]? = some d → qn true d = true → i ≤ k + 1 ∧ k + 1 ≤ b.length ∧ spanE (qn true) b i = spanE (qn true) b (k + 1) := fun h d hd hq => ⟨by omega, by omega, by rw [he, spanE_hit hd hq]⟩
    refine .mk (fun h => ?_) fun h => ?_
    · simp -implicitDefEqProofs (maxSteps := 2000000) (disch := omega) [-getElem?_pos]
      refine ⟨by omega, fun d hd => ?_⟩
      refine (cl _ _).then fun r hr => ?_
      subst hr
      cases hld : lowB d with
      | true =>
        simp -implicitDefEqProofs (maxSteps := 2000000) (disch := omega) [-getElem?_pos]
        exact ⟨k + 1, upp h d hd (by simp [qn, hld]), by show b.length - (k + 1) < b.length - k; omega, .eq (by simp)⟩
      | false =>
        simp -implicitDefEqProofs (maxSteps := 2000000) (disch := omega) [-getElem?_pos]
        refine ⟨by omega, fun d' hd' => ?_⟩
        rw [hd] at hd'
        cases hd'
        refine (cd _ _).then fun r hr => ?_
        subst hr
        cases hdd : digB d with
        | true =>
          simp -implicitDefEqProofs (maxSteps := 2000000) (disch := omega) [-getElem?_pos]
          exact ⟨k + 1, upp h d hd (by simp [qn, hld, hdd]), by show b.length - (k + 1) < b.length - k; omega, .eq (by simp)⟩
        | false =>
          simp -implicitDefEqProofs (maxSteps := 2000000) (disch := omega) [-getElem?_pos]
          refine ⟨by omega, fun d' hd' => ?_⟩
          rw [hd] at hd'
          cases hd'
          refine (cu _ _).then fun r hr => ?_
          subst hr
          cases hud : uppB d with
          | true =>
            simp -implicitDefEqProofs (maxSteps := 2000000) (disch := omega) [-getElem?_pos]
            exact ⟨k + 1, upp h d hd (by simp [qn, hld, hdd, hud]), by show b.length - (k + 1) < b.length - k; omega, .eq (by simp)⟩
          | false =>
            simp -implicitDefEqProofs (maxSteps := 2000000) (disch := omega) [-getElem?_pos]
            have hE : spanE (qn true) b i = k := by rw [he]; exact spanE_miss hd (by simp [qn, hld, hdd, hud])
            have hP : List.drop i (List.take k b) = passS (qn true) b i := by rw [← hE, passS_eq]
            have hL : (passS (qn true) b i).length = k - i := by rw [← hP]; simp; omega
            rw [hP]
            refine ⟨by omega, by omega, k_IsWord.then fun r hr => ?_⟩
            subst hr
            by_cases hw : passS (qn true) b i ∈ wordsL
            · simp -implicitDefEqProofs (maxSteps := 2000000) (disch := omega) [-getElem?_pos, hw]
              refine .mk (fun h20 => ?_) fun h20 => ?_
              · rw [show X = NR.bad i from by rw [hX, nameN, if_pos (by omega)]]
                simp -implicitDefEqProofs (maxSteps := 2000000) (disch := omega) [-getElem?_pos, hw]
                exact .fin _ ⟨⟨⟨0, 0, 0, []⟩, _, rfl⟩, rfl⟩ (.refl _)
              · rw [show X = NR.tok ⟨3, i, 0, passS (qn true) b i⟩ k from by rw [hX, nameN, if_neg (by omega), hE]; simp [hw]]
                simp -implicitDefEqProofs (maxSteps := 2000000) (disch := omega) [-getElem?_pos, hw]
                exact .fin _ ⟨rfl, rfl⟩ (.refl _)
            · simp -implicitDefEqProofs (maxSteps := 2000000) (disch := omega) [-getElem?_pos, hw]
              refine .mk (fun h20 => ?_) fun h20 => ?_
              · rw [show X = NR.bad i from by rw [hX, nameN, if_pos (by omega)]]
                simp -implicitDefEqProofs (maxSteps := 2000000) (disch := omega) [-getElem?_pos, hw]
                exact .fin _ ⟨⟨⟨0, 0, 0, []⟩, _, rfl⟩, rfl⟩ (.refl _)
              · rw [show X = NR.tok ⟨3, i, 0, passS (qn true) b i⟩ k from by rw [hX, nameN, if_neg (by omega), hE]; simp [hw]]
                simp -implicitDefEqProofs (maxSteps := 2000000) (disch := omega) [-getElem?_pos, hw]
                exact .fin _ ⟨rfl, rfl⟩ (.refl _)
    · simp -implicitDefEqProofs (maxSteps := 2000000) (disch := omega) [-getElem?_pos]
      have hE : spanE (qn true) b i = k := by rw [he, spanE_end (by omega)]; 
      have hP : List.drop i (List.take k b) = passS (qn true) b i := by rw [← hE, passS_eq]
      have hL : (passS (qn true) b i).length = k - i := by rw [← hP]; simp; omega
      rw [hP]
      refine ⟨by omega, by omega, k_IsWord.then fun r hr => ?_⟩
      subst hr
      by_cases hw : passS (qn true) b i ∈ wordsL
      · simp -implicitDefEqProofs (maxSteps := 2000000) (disch := omega) [-getElem?_pos, hw]
        refine .mk (fun h20 => ?_) fun h20 => ?_
        · rw [show X = NR.bad i from by rw [hX, nameN, if_pos (by omega)]]
          simp -implicitDefEqProofs (maxSteps := 2000000) (disch := omega) [-getElem?_pos, hw]
          exact .fin _ ⟨⟨⟨0, 0, 0, []⟩, _, rfl⟩, rfl⟩ (.refl _)
        · rw [show X = NR.tok ⟨3, i, 0, passS (qn true) b i⟩ k from by rw [hX, nameN, if_neg (by omega), hE]; simp [hw]]
          simp -implicitDefEqProofs (maxSteps := 2000000) (disch := omega) [-getElem?_pos, hw]
          exact .fin _ ⟨rfl, rfl⟩ (.refl _)
      · simp -implicitDefEqProofs (maxSteps := 2000000) (disch := omega) [-getElem?_pos, hw]
        refine .mk (fun h20 => ?_) fun h20 => ?_
        · rw [show X = NR.bad i from by rw [hX, nameN, if_pos (by omega)]]
          simp -implicitDefEqProofs (maxSteps := 2000000) (disch := omega) [-getElem?_pos, hw]
          exact .fin _ ⟨⟨⟨0, 0, 0, []⟩, _, rfl⟩, rfl⟩ (.refl _)
        · rw [show X = NR.tok ⟨3, i, 0, passS (qn true) b i⟩ k from by rw [hX, nameN, if_neg (by omega), hE]; simp [hw]]
          simp -implicitDefEqProofs (maxSteps := 2000000) (disch := omega) [-getElem?_pos, hw]
          exact .fin _ ⟨rfl, rfl⟩ (.refl _)
  | false =>
  cases hdi : digB c with
  | true =>
    rw [oneL, if_neg (by simp [hlo]), if_neg (by simp [hup]), if_pos hdi] at hX
    simp -implicitDefEqProofs (maxSteps := 2000000) (disch := omega) [-getElem?_pos]
    refine W_loop (α := NSt) ⟨i, 0, false⟩ (fun x => b.length - x.k) (fun x => ⟨[(0, .v (vBs b)), (1, .v (.int .i64 i)), (4, .ptr σ.objs.length 0), (7, .v (.int .u8 c.toNat)), (8, .v (.int .i64 x.k)), (14, .v (.int .u64 x.n)), (15, .v (.bool x.g))], ⟨σ.objs ++ [.cells [.v (.int .i64 0), .v (.int .i64 0), .v (.int .i64 0), .v (.str [])]], σ.toks⟩⟩)
      (fun x => NIn b i x) (.eq2 (by simp [hdi]) (by simp)) ⟨Nat.le_refl _, by dsimp only; omega, rfl, fun _ => ⟨by simp, rfl⟩, fun h => by cases h⟩ fun ⟨k, n, g⟩ ⟨hik, hk, he, h0, h1⟩ => ?_
    dsimp only at hik hk he h0 h1
    simp -implicitDefEqProofs (maxSteps := 2000000) (disch := omega) [-getElem?_pos]
    refine .mk (fun h => ?_) fun h => ?_
    · simp -implicitDefEqProofs (maxSteps := 2000000) (disch := omega) [-getElem?_pos]
      refine ⟨by omega, fun d hd => ?_⟩
      refine (cd _ _).then fun r hr => ?_
      subst hr
      cases hdd : digB d with
      | true =>
        have hdg : 48 ≤ d.toNat ∧ d.toNat ≤ 57 := by simpa [digB] using hdd
        have hrk : b.length - (k + 1) < b.length - k := by omega
        have hek : spanE digB b i = spanE digB b (k + 1) := by rw [he, spanE_hit hd hdd]
        cases g with
        | true =>
          simp -implicitDefEqProofs (maxSteps := 2000000) (disch := omega) [-getElem?_pos]
          exact ⟨by omega, fun d' hd' => ⟨⟨k + 1, 0, true⟩, ⟨by dsimp only; omega, h, hek, fun h => Bool.noConfusion h, fun _ => ⟨rfl, (h1 rfl).2⟩⟩, hrk, .eq (by simp)⟩⟩
        | false =>
          obtain ⟨hn, hv⟩ := h0 rfl
          rw [passS_hit hd hdd, numV_cons] at hv
          have hge := numV_ge (passS digB b (k + 1)) (n * 10 + (d.toNat - 48))
          simp -implicitDefEqProofs (maxSteps := 2000000) (disch := omega) [-getElem?_pos]
          refine .mk (fun h2 => ?_) fun h2 => ?_
          · simp -implicitDefEqProofs (maxSteps := 2000000) (disch := omega) [-getElem?_pos]
            refine .mk (fun h3 => ?_) fun h3 => ?_
            · simp -implicitDefEqProofs (maxSteps := 2000000) (disch := omega) [-getElem?_pos]
              refine ⟨by omega, fun d' hd' => ⟨by omega, fun d'' hd'' => ?_⟩⟩
              rw [hd] at hd' hd''
              cases hd'
              cases hd''
              refine .mk (fun h4 => ?_) fun h4 => ?_
              · simp -implicitDefEqProofs (maxSteps := 2000000) (disch := omega) [-getElem?_pos]
                exact ⟨⟨k + 1, 0, true⟩, ⟨by dsimp only; omega, h, hek, fun h => Bool.noConfusion h, fun _ => ⟨rfl, by omega⟩⟩, hrk, .eq (by simp; exact h4)⟩
              · have hw := wrap_digit (n := n) hdg (by omega)
                have h4' : decide (55 < (d.toNat : Int)) = false := decide_eq_false h4
                simp -implicitDefEqProofs (maxSteps := 2000000) (disch := omega) [-getElem?_pos, h4']
                exact ⟨⟨k + 1, n * 10 + (d.toNat - 48), false⟩, ⟨by dsimp only; omega, h, hek, fun _ => ⟨by dsimp only; omega, hv⟩, fun h => Bool.noConfusion h⟩, hrk, .eq (by simp [h4']; omega)⟩
            · simp -implicitDefEqProofs (maxSteps := 2000000) (disch := omega) [-getElem?_pos]
              refine ⟨by omega, fun d' hd' => ?_⟩
              rw [hd] at hd'
              cases hd'
              have hw := wrap_digit (n := n) hdg (by omega)
              exact ⟨⟨k + 1, n * 10 + (d.toNat - 48), false⟩, ⟨by dsimp only; omega, h, hek, fun _ => ⟨by dsimp only; omega, hv⟩, fun h => Bool.noConfusion h⟩, hrk, .eq (by simp [hw])⟩
          · simp -implicitDefEqProofs (maxSteps := 2000000) (disch := omega) [-getElem?_pos]
            refine ⟨by omega, fun d' hd' => ?_⟩
            exact ⟨⟨k + 1, 0, true⟩, ⟨by dsimp only; omega, h, hek, fun h => Bool.noConfusion h, fun _ => ⟨rfl, by omega⟩⟩, hrk, .eq (by simp)⟩
      | false =>
        have hE : spanE digB b i = k := by rw [he]; exact spanE_miss hd hdd
        have hP := passS_miss hd hdd
        cases g with
        | true =>
          rw [show X = NR.bad i from by rw [hX, numN, if_pos (.inl (h1 rfl).2)]]
          simp -implicitDefEqProofs (maxSteps := 2000000) (disch := omega) [-getElem?_pos]
          exact .fin _ ⟨⟨⟨0, 0, 0, []⟩, _, rfl⟩, rfl⟩ (.refl _)
        | false =>
          obtain ⟨hn, hv⟩ := h0 rfl
          rw [hP, numV_nil] at hv
          have hL : (passS digB b i).length = k - i := by rw [← passS_eq, hE]; simp; omega
          have hwn : IntKind.wrap .i64 (n : Int) = n := wrap_i64 (by omega) (by omega)
          simp -implicitDefEqProofs (maxSteps := 2000000) (disch := omega) [-getElem?_pos, hwn]
          refine .mk (fun h1 => ?_) fun h1 => ?_
          · simp -implicitDefEqProofs (maxSteps := 2000000) (disch := omega) [-getElem?_pos, hwn]
            refine .mk (fun h48 => ?_) fun h48 => ?_
            · rw [show X = NR.bad i from by rw [hX, numN, if_pos (.inr ⟨by omega, by omega⟩)]]
              simp -implicitDefEqProofs (maxSteps := 2000000) (disch := omega) [-getElem?_pos, hwn]
              exact .fin _ ⟨⟨⟨0, 0, 0, []⟩, _, rfl⟩, rfl⟩ (.refl _)
            · rw [show X = NR.tok ⟨4, i, n, []⟩ k from by rw [hX, numN, if_neg (by omega), hE, hv]]
              simp -implicitDefEqProofs (maxSteps := 2000000) (disch := omega) [-getElem?_pos, hwn]
              exact .fin _ ⟨rfl, rfl⟩ (.refl _)
          · rw [show X = NR.tok ⟨4, i, n, []⟩ k from by rw [hX, numN, if_neg (by omega), hE, hv]]
            simp -implicitDefEqProofs (maxSteps := 2000000) (disch := omega) [-getElem?_pos, hwn]
            exact .fin _ ⟨rfl, rfl⟩ (.refl _)
    · have hE : spanE digB b i = k := by rw [he]; exact spanE_end (by omega)
      have hP : passS digB b k = [] := passS_end (by omega)
      cases g with
      | true =>
        rw [show X = NR.bad i from by rw [hX, numN, if_pos (.inl (h1 rfl).2)]]
        simp -implicitDefEqProofs (maxSteps := 2000000) (disch := omega) [-getElem?_pos]
        exact .fin _ ⟨⟨⟨0, 0, 0, []⟩, _, rfl⟩, rfl⟩ (.refl _)
      | false =>
        obtain ⟨hn, hv⟩ := h0 rfl
        rw [hP, numV_nil] at hv
        have hL : (passS digB b i).length = k - i := by rw [← passS_eq, hE]; simp; omega
        have hwn : IntKind.wrap .i64 (n : Int) = n := wrap_i64 (by omega) (by omega)
        simp -implicitDefEqProofs (maxSteps := 2000000) (disch := omega) [-getElem?_pos, hwn]
        refine .mk (fun h1 => ?_) fun h1 => ?_
        · simp -implicitDefEqProofs (maxSteps := 2000000) (disch := omega) [-getElem?_pos, hwn]
          refine .mk (fun h48 => ?_) fun h48 => ?_
          · rw [show X = NR.bad i from by rw [hX, numN, if_pos (.inr ⟨by omega, by omega⟩)]]
            simp -implicitDefEqProofs (maxSteps := 2000000) (disch := omega) [-getElem?_pos, hwn]
            exact .fin _ ⟨⟨⟨0, 0, 0, []⟩, _, rfl⟩, rfl⟩ (.refl _)
          · rw [show X = NR.tok ⟨4, i, n, []⟩ k from by rw [hX, numN, if_neg (by omega), hE, hv]]
            simp -implicitDefEqProofs (maxSteps := 2000000) (disch := omega) [-getElem?_pos, hwn]
            exact .fin _ ⟨rfl, rfl⟩ (.refl _)
        · rw [show X = NR.tok ⟨4, i, n, []⟩ k from by rw [hX, numN, if_neg (by omega), hE, hv]]
          simp -implicitDefEqProofs (maxSteps := 2000000) (disch := omega) [-getElem?_pos, hwn]
          exact .fin _ ⟨rfl, rfl⟩ (.refl _)
  | false =>
    rw [oneL, if_neg (by simp [hlo]), if_neg (by simp [hup]), if_neg (by simp [hdi])] at hX
    simp -implicitDefEqProofs (maxSteps := 2000000) (disch := omega) [-getElem?_pos]
    refine .mk (fun h34 => ?_) fun h34 => ?_
    · rw [if_pos (by omega)] at hX
      simp -implicitDefEqProofs (maxSteps := 2000000) (disch := omega) [-getElem?_pos]
      refine (k_RText (b := b) (i := i + 1) (by omega) hb).then fun r hr => ?_
      cases ht : textL (b.drop (i + 1)) (i + 1) [] with
      | ok st to =>
        rw [ht] at hX
        simp only [ht] at hr
        subst hr
        have hlt := textL_to _ _ _ _ _ _ (Nat.le_refl _) ht
        simp -implicitDefEqProofs (maxSteps := 2000000) (disch := omega) [-getElem?_pos]
        refine .mk (fun h2 => ?_) fun h2 => ?_
        · rw [show X = NR.bad i from by rw [hX, textN, if_pos (by omega)]]
          simp -implicitDefEqProofs (maxSteps := 2000000) (disch := omega) [-getElem?_pos]
          exact .fin _ ⟨⟨⟨5, i, 0, st⟩, _, rfl⟩, rfl⟩ (.refl _)
        · rw [show X = NR.tok ⟨5, i, 0, st⟩ to from by rw [hX, textN, if_neg (by omega)]]
          simp -implicitDefEqProofs (maxSteps := 2000000) (disch := omega) [-getElem?_pos]
          exact .fin _ ⟨rfl, rfl⟩ (.refl _)
      | bad q =>
        rw [ht] at hX
        simp only [ht] at hr
        subst hr
        rw [show X = NR.bad q from hX]
        simp -implicitDefEqProofs (maxSteps := 2000000) (disch := omega) [-getElem?_pos]
        refine .mk (fun h2 => by omega) fun h2 => ?_
        simp -implicitDefEqProofs (maxSteps := 2000000) (disch := omega) [-getElem?_pos]
        exact .fin _ ⟨⟨⟨5, i, 0, []⟩, _, rfl⟩, rfl⟩ (.refl _)
    · rw [if_neg (by omega)] at hX
      have hone : List.drop i (List.take (i + 1) b) = [c] := by rw [List.drop_take, drop_cons hc]; simp
      simp -implicitDefEqProofs (maxSteps := 2000000) (disch := omega) [-getElem?_pos]
      refine .mk (fun h => ?_) fun h => ?_
      · obtain ⟨e, hce⟩ : ∃ e, b[i + 1]? = some e := ⟨b[i + 1]'(by omega), List.getElem?_eq_getElem _⟩
        have htwo : List.drop i (List.take (i + 2) b) = [c, e] := by rw [List.drop_take, drop_cons hc, drop_cons hce]; simp
        have hS : signF b i signsL = sgn [c, e] := by rw [signF, drop_cons hc, drop_cons hce]; rfl
        rw [sgn_two] at hS
        have ht2 : ((i : Int) + 2).toNat = i + 2 := by omega
        have h1i : ((i : Int) + 1).toNat = i + 1 := by omega
        by_cases hA : c = 45 ∧ e = 62
        · skip
          have hS2 : signF b i signsL = [c, e] := by rw [hS, if_pos (by simp [hA])]
          rw [show X = NR.tok ⟨6, i, 0, [c, e]⟩ (i + 2) from by rw [hX, signN, hS2, if_neg (by simp)]; rfl]
          obtain ⟨rfl, rfl⟩ := hA
          simp -implicitDefEqProofs (maxSteps := 2000000) (disch := omega) [-getElem?_pos, h1i, hone, ht2, htwo]
          refine ⟨by omega, by omega, ?_⟩
          exact .fin _ ⟨rfl, rfl⟩ (.refl _)
        by_cases hB : c = 61 ∧ e = 61
        · skip
          have hS2 : signF b i signsL = [c, e] := by rw [hS, if_pos (by simp [hB])]
          rw [show X = NR.tok ⟨6, i, 0, [c, e]⟩ (i + 2) from by rw [hX, signN, hS2, if_neg (by simp)]; rfl]
          obtain ⟨rfl, rfl⟩ := hB
          simp -implicitDefEqProofs (maxSteps := 2000000) (disch := omega) [-getElem?_pos, h1i, hone, ht2, htwo]
          refine ⟨by omega, by omega, ?_⟩
          exact .fin _ ⟨rfl, rfl⟩ (.refl _)
        by_cases hC : c = 58 ∧ e = 61
        · skip
          have hS2 : signF b i signsL = [c, e] := by rw [hS, if_pos (by simp [hC])]
          rw [show X = NR.tok ⟨6, i, 0, [c, e]⟩ (i + 2) from by rw [hX, signN, hS2, if_neg (by simp)]; rfl]
          obtain ⟨rfl, rfl⟩ := hC
          simp -implicitDefEqProofs (maxSteps := 2000000) (disch := omega) [-getElem?_pos, h1i, hone, ht2, htwo]
          refine ⟨by omega, by omega, ?_⟩
          exact .fin _ ⟨rfl, rfl⟩ (.refl _)
        rw [if_neg (by simp only [List.mem_cons, List.not_mem_nil, or_false, List.cons.injEq, and_true, not_or]; exact ⟨hA, hB, hC⟩)] at hS
        simp -implicitDefEqProofs (maxSteps := 2000000) (disch := omega) [-getElem?_pos, hone, ht2, htwo]
        refine ⟨by omega, by omega, ?_⟩
        refine .mk (fun h => absurd h hA) fun _ => ?_
        have hB' := not_and.1 hB
        have hC' := not_and.1 hC
        have hBb : (c == 61 && e == 61) = false := by simpa using hB'
        have hCb : (c == 58 && e == 61) = false := by simpa using hC'
        simp -implicitDefEqProofs (maxSteps := 2000000) (disch := omega) [-getElem?_pos, hone, ht2, htwo, hBb, hCb, h1i]
        refine ⟨by omega, by omega, ?_⟩
        refine ((k_RIn (l := onesL) (s := [c])).argA VLe.lax.d).then fun r hr => ?_
        subst hr
        by_cases ho : [c] ∈ onesL
        · rw [if_pos ho] at hS
          rw [show X = NR.tok ⟨6, i, 0, [c]⟩ (i + 1) from by rw [hX, signN, hS, if_neg (by simp)]; rfl]
          simp -implicitDefEqProofs (maxSteps := 2000000) (disch := omega) [-getElem?_pos, ho]
          exact .fin _ ⟨rfl, rfl⟩ (.refl _)
        · rw [if_neg ho] at hS
          rw [show X = NR.bad i from by rw [hX, signN, hS, if_pos rfl]]
          simp -implicitDefEqProofs (maxSteps := 2000000) (disch := omega) [-getElem?_pos, ho]
          exact .fin _ ⟨⟨⟨0, 0, 0, []⟩, _, rfl⟩, rfl⟩ (.refl _)
      · have hS : signF b i signsL = sgn [c] := by rw [signF, drop_cons hc, List.drop_eq_nil_of_le (by omega)]; rfl
        have h1i : ((i : Int) + 1).toNat = i + 1 := by omega
        rw [sgn_one] at hS
        simp -implicitDefEqProofs (maxSteps := 2000000) (disch := omega) [-getElem?_pos, hone, h1i]
        refine ⟨by omega, by omega, ?_⟩
        refine ((k_RIn (l := onesL) (s := [c])).argA VLe.lax.d).then fun r hr => ?_
        subst hr
        by_cases ho : [c] ∈ onesL
        · rw [if_pos ho] at hS
          rw [show X = NR.tok ⟨6, i, 0, [c]⟩ (i + 1) from by rw [hX, signN, hS, if_neg (by simp)]; rfl]
          simp -implicitDefEqProofs (maxSteps := 2000000) (disch := omega) [-getElem?_pos, ho]
          exact .fin _ ⟨rfl, rfl⟩ (.refl _)
        · rw [if_neg ho] at hS
          rw [show X = NR.bad i from by rw [hX, signN, hS, if_pos rfl]]
          simp -implicitDefEqProofs (maxSteps := 2000000) (disch := omega) [-getElem?_pos, ho]
          exact .fin _ ⟨⟨⟨0, 0, 0, []⟩, _, rfl⟩, rfl⟩ (.refl _)
def qB (c : UInt8) : Option Str := if c.toNat = 10 then some [92, 110] else if plaB c = false then none else if c.toNat = 34 ∨ c.toNat = 92 then some [92, c] else some [c]
def qL : Str → Str → Option Str
  | [], out => some (out ++ [34])
  | c :: r, out => match qB c with
    | none => none
    | some s => qL r (out ++ s)
structure QSt where
  k : Nat
  out : Str
structure QIn (b : Str) (x : QSt) : Prop where
  hk : x.k ≤ b.length
  ho : x.out.length ≤ 1 + 2 * x.k
  he : qL b [34] = qL (b.drop x.k) x.out
def quoteE (t : Str) : Option Str := if 2000 < t.length then none else qL t [34]
def QPost (x : Option Str) (r : D) : Prop := match x with
  | some s => r = .tup [.v (.str s), .v .inil]
  | none => r = .tup [.v (.str []), .v (.iface 32 (.int .i64 1))]
theorem qL_step {b : Str} {k : Nat} {c : UInt8} {out : Str} (h : b[k]? = some c) : qL (b.drop k) out = match qB c with | none => none | some s => qL (b.drop (k + 1)) (out ++ s) := by
  rw [drop_cons h]
  rfl
@[simp] theorem qb1_0 {Q : XE → St → Prop} {st : St} : QBlk 1 Q (.exit 0) st = Q (.exit 0) st := QBlk_exit (by decide)
@[simp] theorem qb1_2 {Q : XE → St → Prop} {st : St} : QBlk 1 Q (.exit 2) st = Q (.exit 2) st := QBlk_exit (by decide)
@[simp] theorem qb1_3 {Q : XE → St → Prop} {st : St} : QBlk 1 Q (.exit 3) st = Q (.exit 3) st := QBlk_exit (by decide)
@[simp] theorem qb1_4 {Q : XE → St → Prop} {st : St} : QBlk 1 Q (.exit 4) st = Q (.exit 4) st := QBlk_exit (by decide)
@[simp] theorem qb1_5 {Q : XE → St → Prop} {st : St} : QBlk 1 Q (.exit 5) st = Q (.exit 5) st := QBlk_exit (by decide)
@[simp] theorem qb1_6 {Q : XE → St → Prop} {st : St} : QBlk 1 Q (.exit 6) st = Q (.exit 6) st := QBlk_exit (by decide)
@[simp] theorem qb2_0 {Q : XE → St → Prop} {st : St} : QBlk 2 Q (.exit 0) st = Q (.exit 0) st := QBlk_exit (by decide)
@[simp] theorem qb2_1 {Q : XE → St → Prop} {st : St} : QBlk 2 Q (.exit 1) st = Q (.exit 1) st := QBlk_exit (by decide)
@[simp] theorem qb2_3 {Q : XE → St → Prop} {st : St} : QBlk 2 Q (.exit 3) st = Q (.exit 3) st := QBlk_exit (by decide)
@[simp] theorem qb2_4 {Q : XE → St → Prop} {st : St} : QBlk 2 Q (.exit 4) st = Q (.exit 4) st := QBlk_exit (by decide)
@[simp] theorem qb2_5 {Q : XE → St → Prop} {st : St} : QBlk 2 Q (.exit 5) st = Q (.exit 5) st := QBlk_exit (by decide)
@[simp] theorem qb2_6 {Q : XE → St → Prop} {st : St} : QBlk 2 Q (.exit 6) st = Q (.exit 6) st := QBlk_exit (by decide)
@[simp] theorem qb3_0 {Q : XE → St → Prop} {st : St} : QBlk 3 Q (.exit 0) st = Q (.exit 0) st := QBlk_exit (by decide)
@[simp] theorem qb3_1 {Q : XE → St → Prop} {st : St} : QBlk 3 Q (.exit 1) st = Q (.exit 1) st := QBlk_exit (by decide)
@[simp] theorem qb3_2 {Q : XE → St → Prop} {st : St} : QBlk 3 Q (.exit 2) st = Q (.exit 2) st := QBlk_exit (by decide)
@[simp] theorem qb3_4 {Q : XE → St → Prop} {st : St} : QBlk 3 Q (.exit 4) st = Q (.exit 4) st := QBlk_exit (by decide)
@[simp] theorem qb3_5 {Q : XE → St → Prop} {st : St} : QBlk 3 Q (.exit 5) st = Q (.exit 5) st := QBlk_exit (by decide)
@[simp] theorem qb3_6 {Q : XE → St → Prop} {st : St} : QBlk 3 Q (.exit 6) st = Q (.exit 6) st := QBlk_exit (by decide)
@[simp] theorem qb4_0 {Q : XE → St → Prop} {st : St} : QBlk 4 Q (.exit 0) st = Q (.exit 0) st := QBlk_exit (by decide)
@[simp] theorem qb4_1 {Q : XE → St → Prop} {st : St} : QBlk 4 Q (.exit 1) st = Q (.exit 1) st := QBlk_exit (by decide)
@[simp] theorem qb4_2 {Q : XE → St → Prop} {st : St} : QBlk 4 Q (.exit 2) st = Q (.exit 2) st := QBlk_exit (by decide)
@[simp] theorem qb4_3 {Q : XE → St → Prop} {st : St} : QBlk 4 Q (.exit 3) st = Q (.exit 3) st := QBlk_exit (by decide)
@[simp] theorem qb4_5 {Q : XE → St → Prop} {st : St} : QBlk 4 Q (.exit 5) st = Q (.exit 5) st := QBlk_exit (by decide)
@[simp] theorem qb4_6 {Q : XE → St → Prop} {st : St} : QBlk 4 Q (.exit 6) st = Q (.exit 6) st := QBlk_exit (by decide)
@[simp] theorem qb5_0 {Q : XE → St → Prop} {st : St} : QBlk 5 Q (.exit 0) st = Q (.exit 0) st := QBlk_exit (by decide)
@[simp] theorem qb5_1 {Q : XE → St → Prop} {st : St} : QBlk 5 Q (.exit 1) st = Q (.exit 1) st := QBlk_exit (by decide)
@[simp] theorem qb5_2 {Q : XE → St → Prop} {st : St} : QBlk 5 Q (.exit 2) st = Q (.exit 2) st := QBlk_exit (by decide)
@[simp] theorem qb5_3 {Q : XE → St → Prop} {st : St} : QBlk 5 Q (.exit 3) st = Q (.exit 3) st := QBlk_exit (by decide)
@[simp] theorem qb5_4 {Q : XE → St → Prop} {st : St} : QBlk 5 Q (.exit 4) st = Q (.exit 4) st := QBlk_exit (by decide)
@[simp] theorem qb5_6 {Q : XE → St → Prop} {st : St} : QBlk 5 Q (.exit 6) st = Q (.exit 6) st := QBlk_exit (by decide)
@[simp] theorem qb6_0 {Q : XE → St → Prop} {st : St} : QBlk 6 Q (.exit 0) st = Q (.exit 0) st := QBlk_exit (by decide)
@[simp] theorem qb6_1 {Q : XE → St → Prop} {st : St} : QBlk 6 Q (.exit 1) st = Q (.exit 1) st := QBlk_exit (by decide)
@[simp] theorem qb6_2 {Q : XE → St → Prop} {st : St} : QBlk 6 Q (.exit 2) st = Q (.exit 2) st := QBlk_exit (by decide)
@[simp] theorem qb6_3 {Q : XE → St → Prop} {st : St} : QBlk 6 Q (.exit 3) st = Q (.exit 3) st := QBlk_exit (by decide)
@[simp] theorem qb6_4 {Q : XE → St → Prop} {st : St} : QBlk 6 Q (.exit 4) st = Q (.exit 4) st := QBlk_exit (by decide)
@[simp] theorem qb6_5 {Q : XE → St → Prop} {st : St} : QBlk 6 Q (.exit 5) st = Q (.exit 5) st := QBlk_exit (by decide)
theorem k_Quote {b : Str} {σ : Sg} (hb : b.length ≤ 1048576) : ACalls Tryz.prog 55 [.v (.str b)] σ fun r σ' => QPost (quoteE b) r ∧ σ' = σ := by
  unfold quoteE
  refine acalls_fit Tryz.func55 (by kernel_rfl) c55 rfl (by simp [a55]) fun hf => ?_
  clear hf
  simp -implicitDefEqProofs (maxSteps := 2000000) (disch := omega) [-getElem?_pos, a55]
  refine .mk (fun h => ?_) fun h => ?_
  · rw [if_pos (by omega)]
    simp -implicitDefEqProofs (maxSteps := 2000000) (disch := omega) [-getElem?_pos]
    exact .fin _ ⟨rfl, rfl⟩ (.refl _)
  rw [if_neg (by omega)]
  simp -implicitDefEqProofs (maxSteps := 2000000) (disch := omega) [-getElem?_pos]
  refine ⟨by omega, ?_⟩
  refine W_loop (α := QSt) ⟨0, [34]⟩ (fun x => b.length - x.k) (fun x => ⟨[(4, .tsl σ.toks.length none (bytesV x.out)), (13, .v (vBs b)), (14, .v (.int .i64 b.length)), (15, .v (.int .i64 x.k))], ⟨σ.objs, σ.toks ++ [x.out.length]⟩⟩)
    (fun x => QIn b x) (.tokF (i := 4) (sh := none) (xs := bytesV [34]) (by simp) (by rfl) (by decide)) ⟨Nat.zero_le _, by simp, rfl⟩ fun ⟨k, out⟩ ⟨hk, ho, he⟩ => ?_
  dsimp only at hk ho he ⊢
  have lo : (bytesV out).length = out.length := by simp [bytesV]
  have bA : bytesV out ++ [V.int .u8 92, V.int .u8 110] = bytesV (out ++ [92, 110]) := by simp [bytesV]
  have bB : ∀ c : UInt8, bytesV out ++ [V.int .u8 92, V.int .u8 c.toNat] = bytesV (out ++ [92, c]) := fun c => by simp [bytesV]
  have bC : bytesV out ++ [V.int .u8 34] = bytesV (out ++ [34]) := by simp [bytesV]
  have cp := fun c σ => k_Plain (c := c) (σ := σ)
  unfold vB at cp
  simp -implicitDefEqProofs (maxSteps := 2000000) (disch := omega) [-getElem?_pos]
  refine .mk (fun h => ?_) fun h => ?_
  · obtain ⟨c, hc⟩ : ∃ c, b[k]? = some c := ⟨b[k]'(by omega), List.getElem?_eq_getElem _⟩
    rw [qL_step hc] at he
    simp -implicitDefEqProofs (maxSteps := 2000000) (disch := omega) [-getElem?_pos]
    refine ⟨by omega, fun c' hc' => ?_⟩
    rw [hc] at hc'
    cases hc'
    refine .mk (fun h10 => ?_) fun h10 => ?_
    · rw [qB, if_pos (by omega)] at he
      simp -implicitDefEqProofs (maxSteps := 2000000) (disch := omega) [-getElem?_pos]
      exact ⟨by omega, ⟨k + 1, out ++ [92, 110]⟩, ⟨by show k + 1 ≤ b.length; omega, by simp; omega, he⟩, by show b.length - (k + 1) < b.length - k; omega, .eq2 (by simp) (by simp [bA])⟩
    · simp -implicitDefEqProofs (maxSteps := 2000000) (disch := omega) [-getElem?_pos]
      refine (cp _ _).then fun r hr => ?_
      subst hr
      cases hpc : plaB c with
      | false =>
        rw [qB, if_neg (by omega), if_pos hpc] at he
        rw [he]
        simp -implicitDefEqProofs (maxSteps := 2000000) (disch := omega) [-getElem?_pos]
        exact .fin _ ⟨rfl, rfl⟩ (.refl _)
      | true =>
        simp -implicitDefEqProofs (maxSteps := 2000000) (disch := omega) [-getElem?_pos]
        refine .mk (fun h34 => ?_) fun h34 => ?_
        · skip
          rw [qB, if_neg (by omega), if_neg (by simp [hpc]), if_pos (by omega)] at he
          simp -implicitDefEqProofs (maxSteps := 2000000) (disch := omega) [-getElem?_pos]
          exact ⟨by omega, by omega, ⟨k + 1, out ++ [92, c]⟩, ⟨by show k + 1 ≤ b.length; omega, by simp; omega, he⟩, by show b.length - (k + 1) < b.length - k; omega, .eq2 (by simp) (by simp [bB])⟩
        · simp -implicitDefEqProofs (maxSteps := 2000000) (disch := omega) [-getElem?_pos]
          refine .mk (fun h92 => ?_) fun h92 => ?_
          · skip
            rw [qB, if_neg (by omega), if_neg (by simp [hpc]), if_pos (by omega)] at he
            simp -implicitDefEqProofs (maxSteps := 2000000) (disch := omega) [-getElem?_pos]
            exact ⟨by omega, by omega, ⟨k + 1, out ++ [92, c]⟩, ⟨by show k + 1 ≤ b.length; omega, by simp; omega, he⟩, by show b.length - (k + 1) < b.length - k; omega, .eq2 (by simp) (by simp [bB])⟩
          · rw [qB, if_neg (by omega), if_neg (by simp [hpc]), if_neg (by omega)] at he
            simp -implicitDefEqProofs (maxSteps := 2000000) (disch := omega) [-getElem?_pos]
            exact ⟨by omega, ⟨k + 1, out ++ [c]⟩, ⟨by show k + 1 ≤ b.length; omega, by simp; omega, he⟩, by show b.length - (k + 1) < b.length - k; omega, .eq2 (by simp) (by simp [bytesV])⟩
  · rw [List.drop_eq_nil_of_le (by omega)] at he
    have he2 : qL b [34] = some (out ++ [34]) := he
    rw [he2]
    simp -implicitDefEqProofs (maxSteps := 2000000) (disch := omega) [-getElem?_pos, bC]
    exact ⟨by omega, .fin _ ⟨rfl, rfl⟩ (.refl _)⟩
theorem k_RQuote {b : Str} {σ : Sg} (hb : b.length ≤ 1048576) : ACalls Tryz.prog 36 [.v (.str b)] σ fun r σ' => r = (match qL b [34] with | some s => .tup [.v (.str s), .v (.bool (decide (b.length ≤ 2000)))] | none => .tup [.v (.str []), .v (.bool false)]) ∧ σ' = σ := by
  refine acalls_fit Tryz.func36 (by kernel_rfl) c36 rfl (by simp [a36]) fun hf => ?_
  clear hf
  simp -implicitDefEqProofs (maxSteps := 2000000) (disch := omega) [-getElem?_pos, a36]
  refine W_loop (α := QSt) ⟨0, [34]⟩ (fun x => b.length - x.k) (fun x => ⟨[(0, .v (.str b)), (4, .v (.str x.out)), (5, .v (.int .i64 x.k))], σ⟩)
    (fun x => QIn b x) (.eq (by simp)) ⟨Nat.zero_le _, by simp, rfl⟩ fun ⟨k, out⟩ ⟨hk, ho, he⟩ => ?_
  dsimp only at hk ho he ⊢
  simp -implicitDefEqProofs (maxSteps := 2000000) (disch := omega) [-getElem?_pos]
  refine .mk (fun h => ?_) fun h => ?_
  · obtain ⟨c, hc⟩ : ∃ c, b[k]? = some c := ⟨b[k]'(by omega), List.getElem?_eq_getElem _⟩
    rw [qL_step hc] at he
    have hone : List.drop k (List.take (k + 1) b) = [c] := by rw [List.drop_take, drop_cons hc]; simp
    have h1i : ((k : Int) + 1).toNat = k + 1 := by omega
    simp -implicitDefEqProofs (maxSteps := 2000000) (disch := omega) [-getElem?_pos]
    refine ⟨by omega, fun c' hc' => ?_⟩
    rw [hc] at hc'
    cases hc'
    refine .mk (fun h10 => ?_) fun h10 => ?_
    · rw [qB, if_pos (by omega)] at he
      simp -implicitDefEqProofs (maxSteps := 2000000) (disch := omega) [-getElem?_pos, hone, h1i]
      exact ⟨by omega, ⟨k + 1, out ++ [92, 110]⟩, ⟨by show k + 1 ≤ b.length; omega, by simp; omega, he⟩, by show b.length - (k + 1) < b.length - k; omega, .eq (by simp)⟩
    · simp -implicitDefEqProofs (maxSteps := 2000000) (disch := omega) [-getElem?_pos, hone, h1i]
      refine .mk (fun h32 => ?_) fun h32 => ?_
      rotate_left
      · rw [qB, if_neg (by omega), if_pos (by simp [plaB]; omega)] at he
        rw [he]
        simp -implicitDefEqProofs (maxSteps := 2000000) (disch := omega) [-getElem?_pos]
        exact .fin _ ⟨rfl, rfl⟩ (.refl _)
      simp -implicitDefEqProofs (maxSteps := 2000000) (disch := omega) [-getElem?_pos, hone, h1i]
      refine .mk (fun h126 => ?_) fun h126 => ?_
      · rw [qB, if_neg (by omega), if_pos (by simp [plaB]; omega)] at he
        rw [he]
        simp -implicitDefEqProofs (maxSteps := 2000000) (disch := omega) [-getElem?_pos]
        exact .fin _ ⟨rfl, rfl⟩ (.refl _)
      simp -implicitDefEqProofs (maxSteps := 2000000) (disch := omega) [-getElem?_pos, hone, h1i]
      refine .mk (fun h34 => ?_) fun h34 => ?_
      · skip
        rw [qB, if_neg (by omega), if_neg (by simp [plaB]; omega), if_pos (by omega)] at he
        simp -implicitDefEqProofs (maxSteps := 2000000) (disch := omega) [-getElem?_pos, hone, h1i]
        exact ⟨by omega, by omega, by omega, by omega, ⟨k + 1, out ++ [92, c]⟩, ⟨by show k + 1 ≤ b.length; omega, by simp; omega, he⟩, by show b.length - (k + 1) < b.length - k; omega, .eq (by simp)⟩
      · simp -implicitDefEqProofs (maxSteps := 2000000) (disch := omega) [-getElem?_pos, hone, h1i]
        refine .mk (fun h92 => ?_) fun h92 => ?_
        · skip
          rw [qB, if_neg (by omega), if_neg (by simp [plaB]; omega), if_pos (by omega)] at he
          simp -implicitDefEqProofs (maxSteps := 2000000) (disch := omega) [-getElem?_pos, hone, h1i]
          exact ⟨by omega, by omega, by omega, by omega, ⟨k + 1, out ++ [92, c]⟩, ⟨by show k + 1 ≤ b.length; omega, by simp; omega, he⟩, by show b.length - (k + 1) < b.length - k; omega, .eq (by simp)⟩
        · rw [qB, if_neg (by omega), if_neg (by simp [plaB]; omega), if_neg (by omega)] at he
          simp -implicitDefEqProofs (maxSteps := 2000000) (disch := omega) [-getElem?_pos, hone, h1i]
          exact ⟨by omega, by omega, by omega, ⟨k + 1, out ++ [c]⟩, ⟨by show k + 1 ≤ b.length; omega, by simp; omega, he⟩, by show b.length - (k + 1) < b.length - k; omega, .eq (by simp)⟩
  · rw [List.drop_eq_nil_of_le (by omega)] at he
    have he2 : qL b [34] = some (out ++ [34]) := he
    rw [he2]
    simp -implicitDefEqProofs (maxSteps := 2000000) (disch := omega) [-getElem?_pos]
    exact ⟨by omega, .fin _ ⟨by simp; omega, rfl⟩ (.refl _)⟩
set_option maxHeartbeats 1000000
structure FT where
  p : Int
  nm : Bool
  lb : Bool
  tg : Bool
  op : Bool
def encF (f : FT) : D := .v (.agg [.int .i64 f.p, .bool f.nm, .bool f.lb, .bool f.tg, .bool f.op])
def formsT : List (Int × FT) := [(1, ⟨0, false, false, false, false⟩), (2, ⟨0, false, false, false, false⟩), (3, ⟨0, true, false, false, false⟩), (22, ⟨0, false, false, false, false⟩), (4, ⟨1, true, false, false, false⟩), (5, ⟨2, false, false, false, false⟩), (6, ⟨2, true, false, false, false⟩), (7, ⟨2, true, false, false, false⟩), (9, ⟨1, false, true, false, false⟩), (10, ⟨2, false, true, false, false⟩), (11, ⟨1, false, true, false, false⟩), (12, ⟨2, false, true, false, false⟩), (13, ⟨1, false, false, true, false⟩), (15, ⟨3, false, false, false, false⟩), (16, ⟨2, false, false, false, true⟩), (17, ⟨1, false, false, false, false⟩), (18, ⟨1, false, false, false, false⟩), (19, ⟨2, false, false, false, false⟩), (20, ⟨1, false, false, false, false⟩), (21, ⟨1, false, false, false, false⟩)]
def formsE : List (V × D) := formsT.map fun q => (.int .i64 q.1, encF q.2)
def formT (k : Int) : Option FT := formsT.lookup k
theorem find_form (k : Int) : mfind (.int .i64 k) formsE = (formT k).map encF := by
  unfold formsE formT
  generalize formsT = l
  induction l with
  | nil => rfl
  | cons q l ih =>
    obtain ⟨a, f⟩ := q
    rw [List.map_cons, mfind, List.lookup_cons, ih]
    by_cases h : k = a
    · subst h; simp [keq]
    · have hb : (k == a) = false := by simp [h]
      simp [keq, h, hb]
theorem forms_ok : keysOk (.int .i64) formsE = true := by rfl
theorem k_Forms {σ : Sg} : ACalls Tryz.prog 142 [] σ fun r σ' => r = .map σ.objs.length ∧ σ' = ⟨σ.objs ++ [.map formsE], σ.toks⟩ := by
  refine acalls_fit Tryz.func142 (by kernel_rfl) c142 rfl (by simp [a142]) fun hf => ?_
  clear hf
  simp -implicitDefEqProofs (maxSteps := 2000000) (disch := omega) [-getElem?_pos, a142]
  exact ⟨_, _, WeakR.refl _ _ _, rfl, rfl⟩
def partsN (k labels : Int) (other : Bool) : Int := if k = 8 then labels else if k = 14 then labels + (if other = true then 1 else 0) + 1 else match formT k with
  | none => -1
  | some f => f.p
theorem k_Parts {k labels : Int} {o : Bool} {σ : Sg} (hl : 0 ≤ labels) (hl2 : labels ≤ 2000000) : ACalls Tryz.prog 106 [.v (.int .i64 k), .v (.int .i64 labels), .v (.bool o)] σ fun r σ' => r = .v (.int .i64 (partsN k labels o)) ∧ σ' = σ := by
  have kf := fun σ => k_Forms (σ := σ)
  refine acalls_fit Tryz.func106 (by kernel_rfl) c106 rfl (by simp [a106]) fun hf => ?_
  clear hf
  by_cases h8 : k = 8
  · subst h8
    simp -implicitDefEqProofs (maxSteps := 2000000) (disch := omega) [-getElem?_pos, a106]
    exact .fin _ ⟨rfl, rfl⟩ (.refl _)
  by_cases h14 : k = 14
  · subst h14
    cases o with
    | true =>
      simp -implicitDefEqProofs (maxSteps := 2000000) (disch := omega) [-getElem?_pos, a106]
      exact .fin _ ⟨rfl, rfl⟩ (.refl _)
    | false =>
      simp -implicitDefEqProofs (maxSteps := 2000000) (disch := omega) [-getElem?_pos, a106]
      exact .fin _ ⟨by simp [partsN], rfl⟩ (.refl _)
  simp -implicitDefEqProofs (maxSteps := 2000000) (disch := omega) [-getElem?_pos, a106, h8, h14]
  refine (kf _).mono fun r σ' hr => ?_
  obtain ⟨rfl, rfl⟩ := hr
  cases hk : formT k with
  | none =>
    simp -implicitDefEqProofs (maxSteps := 2000000) (disch := omega) [-getElem?_pos, find_form, forms_ok, hk]
    exact .fin _ ⟨by simp [partsN, h8, h14, hk], rfl⟩ (.refl _)
  | some f =>
    simp -implicitDefEqProofs (maxSteps := 2000000) (disch := omega) [-getElem?_pos, find_form, forms_ok, hk, encF]
    exact .fin _ ⟨by simp [partsN, h8, h14, hk], rfl⟩ (.refl _)
theorem beq_sd {a b : Str} : (a == b) = decide (a = b) := by cases h : decide (a = b) <;> simp at h <;> simp [h]
def isL (s : Str) (k : Int) : Bool := if 20 < s.length then false else match cutL s with
  | .ok [t] => decide (t.k = k) && decide (t.s = s)
  | _ => false
theorem k_Is {s : Str} {k : Int} {σ : Sg} (hs : s.length ≤ 1048576) : ACalls Tryz.prog 110 [.v (.str s), .v (.int .i64 k)] σ fun r σ' => r = .v (.bool (isL s k)) ∧ σ' = σ := by
  have kc := k_Cut (b := s) (σ := σ) hs
  refine acalls_fit Tryz.func110 (by kernel_rfl) c110 rfl (by simp [a110]) fun hf => ?_
  clear hf
  simp -implicitDefEqProofs (maxSteps := 2000000) (disch := omega) [-getElem?_pos, a110]
  refine .mk (fun h => ?_) fun h => ?_
  · simp -implicitDefEqProofs (maxSteps := 2000000) (disch := omega) [-getElem?_pos]
    exact .fin _ ⟨by rw [isL, if_pos (by omega)], rfl⟩ (.refl _)
  have hI : isL s k = match cutL s with
    | .ok [t] => decide (t.k = k) && decide (t.s = s)
    | _ => false := by rw [isL, if_neg (by omega)]
  simp -implicitDefEqProofs (maxSteps := 2000000) (disch := omega) [-getElem?_pos]
  refine ⟨by omega, ?_⟩
  cases hx : cutL s with
  | ok l =>
    rw [hx] at kc hI
    refine (show ACalls Tryz.prog 51 [.v (vBs s)] σ fun r σ' => r = .tup [.v (.sl (some 4) false (l.map encK)), .v .inil] ∧ σ' = σ from kc).then fun r hr => ?_
    subst hr
    match l with
    | [] =>
      simp -implicitDefEqProofs (maxSteps := 2000000) (disch := omega) [-getElem?_pos]
      exact .fin _ ⟨by rw [hI], rfl⟩ (.refl _)
    | [t] =>
      simp -implicitDefEqProofs (maxSteps := 2000000) (disch := omega) [-getElem?_pos, encK]
      refine .mk (fun hq => ?_) fun hq => ?_
      · simp -implicitDefEqProofs (maxSteps := 2000000) (disch := omega) [-getElem?_pos]
        exact .fin _ ⟨by rw [hI]; simp [hq, beq_sd], rfl⟩ (.refl _)
      · simp -implicitDefEqProofs (maxSteps := 2000000) (disch := omega) [-getElem?_pos]
        exact .fin _ ⟨by rw [hI]; simp [hq], rfl⟩ (.refl _)
    | t :: t2 :: l =>
      simp -implicitDefEqProofs (maxSteps := 2000000) (disch := omega) [-getElem?_pos]
      refine .mk (fun hq => absurd hq (by omega)) fun hq => ?_
      simp -implicitDefEqProofs (maxSteps := 2000000) (disch := omega) [-getElem?_pos]
      exact .fin _ ⟨by rw [hI], rfl⟩ (.refl _)
  | bad q =>
    rw [hx] at kc hI
    refine kc.mono fun r σ' hr => ?_
    obtain ⟨o, xs, ts, rfl, rfl, hxs⟩ := hr
    simp -implicitDefEqProofs (maxSteps := 2000000) (disch := omega) [-getElem?_pos]
    exact .fin _ ⟨by rw [hI], rfl⟩ (.refl _)
  | great =>
    rw [hx] at kc hI
    refine (show ACalls Tryz.prog 51 [.v (vBs s)] σ fun r σ' => r = .tup [.v .snil, .v (.iface 32 (.int .i64 6))] ∧ σ' = σ from kc).then fun r hr => ?_
    subst hr
    simp -implicitDefEqProofs (maxSteps := 2000000) (disch := omega) [-getElem?_pos]
    exact .fin _ ⟨by rw [hI], rfl⟩ (.refl _)
theorem k_All1 {s : Str} {k : Int} {o : Nat} {σ : Sg} (hs : s.length ≤ 1048576) (ho : σ.objs[o]? = some (.cells [.v (.int .i64 k)])) : ACalls Tryz.prog 144 [.v (.str s), .ptr o 0] σ fun r σ' => r = .v (.bool (!isL s k)) ∧ σ' = σ := by
  refine acalls_fit Tryz.func144 (by kernel_rfl) c144 rfl (by simp [a144]) fun hf => ?_
  clear hf
  simp -implicitDefEqProofs (maxSteps := 2000000) (disch := omega) [-getElem?_pos, a144, ho]
  refine (k_Is hs).then fun r hr => ?_
  subst hr
  simp -implicitDefEqProofs (maxSteps := 2000000) (disch := omega) [-getElem?_pos]
  exact .fin _ ⟨by simp, rfl⟩ (.refl _)
theorem k_IndexFuncStr {xs : List V} {f : Bool} {fd : D} {p : V → Bool} {σ : Sg} (hp : ∀ x ∈ xs, WCall Tryz.prog fd [.v x] σ fun r σ' => r = .v (.bool (p x)) ∧ σ' = σ) :
    ACalls Tryz.prog 177 [.v (.sl none f xs), fd] σ fun r σ' => r = .v (.int .i64 ((xs.findIdx? p).elim (-1) fun i => (i : Int))) ∧ σ' = σ := by
  refine acalls_fit Tryz.func177 (by kernel_rfl) c177 rfl (by simp [a177]) fun hf => ?_
  simp at hf
  simp -implicitDefEqProofs (maxSteps := 2000000) (disch := omega) [-getElem?_pos, a177]
  refine W_loop (α := Nat) 0 (fun i => xs.length - i) (fun i => ⟨[(0, .v (.sl none f xs)), (1, fd), (7, .v (.int .i64 xs.length)), (8, .v (.int .i64 i))], σ⟩) (fun i => i ≤ xs.length ∧ xs.findIdx? p = ((xs.drop i).findIdx? p).map fun k => k + i)
    (.eq (by simp)) ⟨by omega, by simp⟩ fun i ⟨hi, he⟩ => ?_
  simp -implicitDefEqProofs (maxSteps := 2000000) (disch := omega) [-getElem?_pos]
  refine .mk (fun h => ?_) fun h => ?_
  · simp -implicitDefEqProofs (maxSteps := 2000000) (disch := omega) [-getElem?_pos]
    refine ⟨by omega, fun x hx => ?_⟩
    refine (hp x (List.mem_of_getElem? hx)).then fun r hr => ?_
    subst hr
    have hdc := drop_cons hx
    rw [hdc, List.findIdx?_cons] at he
    simp -implicitDefEqProofs (maxSteps := 2000000) (disch := omega) [-getElem?_pos]
    refine .mk (fun hq => ?_) fun hq => ?_
    · rw [if_pos hq] at he
      simp -implicitDefEqProofs (maxSteps := 2000000) (disch := omega) [-getElem?_pos]
      refine .fin _ ⟨?_, rfl⟩ (.refl _)
      rw [he]
      simp
    · rw [if_neg hq] at he
      simp -implicitDefEqProofs (maxSteps := 2000000) (disch := omega) [-getElem?_pos]
      refine ⟨i + 1, ⟨by omega, ?_⟩, by dsimp only; omega, .eq (by simp)⟩
      rw [he]
      simp only [Option.map_map]
      congr 1
      funext k
      simp only [Function.comp]
      omega
  · simp -implicitDefEqProofs (maxSteps := 2000000) (disch := omega) [-getElem?_pos]
    refine .fin _ ⟨?_, rfl⟩ (.refl _)
    rw [he, List.drop_eq_nil_of_le (by omega)]
    rfl
theorem k_ContainsFuncStr {xs : List V} {f : Bool} {fd : D} {p : V → Bool} {σ : Sg} (hp : ∀ x ∈ xs, WCall Tryz.prog fd [.v x] σ fun r σ' => r = .v (.bool (p x)) ∧ σ' = σ) :
    ACalls Tryz.prog 143 [.v (.sl none f xs), fd] σ fun r σ' => r = .v (.bool (xs.any p)) ∧ σ' = σ := by
  refine acalls_fit Tryz.func143 (by kernel_rfl) c143 rfl (by simp [a143]) fun hf => ?_
  simp -implicitDefEqProofs (maxSteps := 2000000) (disch := omega) [-getElem?_pos, a143]
  refine (k_IndexFuncStr hp).then fun r hr => ?_
  subst hr
  simp -implicitDefEqProofs (maxSteps := 2000000) (disch := omega) [-getElem?_pos]
  refine .fin _ ⟨?_, rfl⟩ (.refl _)
  congr 2
  cases h : xs.findIdx? p with
  | none =>
    have h2 := List.findIdx?_eq_none_iff.1 h
    simp
    exact fun x hx => by simpa using h2 x hx
  | some i =>
    have h2 := List.findIdx?_eq_some_iff_getElem.1 h
    obtain ⟨hlt, hq, _⟩ := h2
    simp
    exact ⟨_, List.getElem_mem hlt, hq⟩
def notIs (k : Int) : V → Bool
  | .str s => !isL s k
  | _ => false
theorem any_is (k : Int) : ∀ l : List Str, (l.map V.str).any (notIs k) = !(l.all fun s => isL s k)
  | [] => rfl
  | s :: l => by rw [List.map_cons, List.any_cons, List.all_cons, any_is k l, Bool.not_and]; rfl
theorem k_All {l : List Str} {k : Int} {σ : Sg} (hs : nsz l ≤ 1048576) : ACalls Tryz.prog 108 [.v (vS l), .v (.int .i64 k)] σ fun r σ' => r = .v (.bool (l.all fun s => isL s k)) ∧ σ' = σ := by
  have hsz : ∀ s ∈ l, s.length ≤ 1048576 := fun s h => by
    have : s.length + 1 ≤ nsz l := by
      clear hs
      induction l with
      | nil => cases h
      | cons x l ih =>
        simp only [nsz]
        rcases List.mem_cons.1 h with rfl | h
        · omega
        · have := ih h; omega
    omega
  refine acalls_fit Tryz.func108 (by kernel_rfl) c108 rfl (by simp [a108]) fun hf => ?_
  clear hf
  simp -implicitDefEqProofs (maxSteps := 2000000) (disch := omega) [-getElem?_pos, a108]
  refine (k_ContainsFuncStr (p := notIs k) (fun x hx => ?_)).then fun r hr => ?_
  · obtain ⟨s, hm, rfl⟩ := List.mem_map.1 hx
    rw [WCall_caps]
    exact k_All1 (hsz s hm) (by simp)
  · rw [any_is] at hr
    subst hr
    simp -implicitDefEqProofs (maxSteps := 2000000) (disch := omega) [-getElem?_pos]
    exact .fin _ ⟨by simp, rfl⟩ (.refl _)
def riseL : List Str → Bool
  | [] => true
  | [_] => true
  | a :: b :: r => decide (a < b) && riseL (b :: r)
theorem riseL_iff : ∀ l : List Str, riseL l = true ↔ ∀ i a b, l[i]? = some a → l[i + 1]? = some b → a < b
  | [] => by simp [riseL]
  | [x] => by simp [riseL]
  | x :: y :: r => by
    rw [riseL, Bool.and_eq_true, decide_eq_true_iff, riseL_iff (y :: r)]
    constructor
    · rintro ⟨h1, h2⟩ i a b ha hb
      cases i with
      | zero => simp at ha hb; subst ha hb; exact h1
      | succ i => exact h2 i a b (by simpa using ha) (by simpa using hb)
    · intro h
      exact ⟨h 0 x y rfl rfl, fun i a b ha hb => h (i + 1) a b (by simpa using ha) (by simpa using hb)⟩
theorem less_eq (x y : Str) : Op.bytesLess x y = decide (x < y) := bytesLess_eq x y
theorem k_Rises {l : List Str} {σ : Sg} : ACalls Tryz.prog 109 [.v (vS l)] σ fun r σ' => r = .v (.bool (riseL l && decide (l.length ≤ 30))) ∧ σ' = σ := by
  refine acalls_fit Tryz.func109 (by kernel_rfl) c109 rfl (by simp [a109]) fun hf => ?_
  simp at hf
  simp -implicitDefEqProofs (maxSteps := 2000000) (disch := omega) [-getElem?_pos, a109]
  refine W_loop (α := Nat) 0 (fun i => l.length - i) (fun i => ⟨[(0, .v (vS l)), (5, .v (.int .i64 l.length)), (6, .v (.int .i64 i))], σ⟩) (fun i => i ≤ l.length ∧ ∀ j a b, j + 1 < i → l[j]? = some a → l[j + 1]? = some b → a < b)
    (.eq (by simp)) ⟨Nat.zero_le _, fun j a b h => by omega⟩ fun i ⟨hi, hr⟩ => ?_
  simp -implicitDefEqProofs (maxSteps := 2000000) (disch := omega) [-getElem?_pos]
  refine .mk (fun h => ?_) fun h => ?_
  · obtain ⟨x, hx⟩ : ∃ x, l[i]? = some x := ⟨l[i], List.getElem?_eq_getElem h⟩
    simp -implicitDefEqProofs (maxSteps := 2000000) (disch := omega) [-getElem?_pos, hx]
    refine .mk (fun h0 => ?_) fun h0 => ?_
    · obtain ⟨y, hy⟩ : ∃ y, l[i - 1]? = some y := ⟨l[i - 1], List.getElem?_eq_getElem (by omega)⟩
      have ei : ((i : Int) - 1).toNat = i - 1 := by omega
      simp -implicitDefEqProofs (maxSteps := 2000000) (disch := omega) [-getElem?_pos, hx, ei, hy]
      refine ⟨by omega, by omega, by omega, ?_⟩
      simp -implicitDefEqProofs (maxSteps := 2000000) (disch := omega) [-getElem?_pos, hx, less_eq]
      refine .mk (fun hq => ?_) fun hq => ?_
      · simp -implicitDefEqProofs (maxSteps := 2000000) (disch := omega) [-getElem?_pos]
        refine ⟨i + 1, ⟨by omega, fun j a b hj ha hb => ?_⟩, by dsimp only; omega, .eq (by simp)⟩
        by_cases hji : j + 1 < i
        · exact hr j a b hji ha hb
        · have : j = i - 1 := by omega
          subst this
          rw [hy] at ha
          rw [show i - 1 + 1 = i by omega, hx] at hb
          cases ha
          cases hb
          exact hq
      · simp -implicitDefEqProofs (maxSteps := 2000000) (disch := omega) [-getElem?_pos]
        have hR : riseL l = false := by
          cases hb : riseL l with
          | false => rfl
          | true => exact absurd ((riseL_iff l).1 hb (i - 1) y x hy (by rw [show i - 1 + 1 = i by omega]; exact hx)) hq
        exact .fin _ ⟨by rw [hR]; rfl, rfl⟩ (.refl _)
    · simp -implicitDefEqProofs (maxSteps := 2000000) (disch := omega) [-getElem?_pos, hx]
      refine ⟨i + 1, ⟨by omega, fun j a b hj => ?_⟩, by dsimp only; omega, .eq (by simp)⟩
      omega
  · simp -implicitDefEqProofs (maxSteps := 2000000) (disch := omega) [-getElem?_pos]
    have hR : riseL l = true := (riseL_iff l).2 fun j a b ha hb => hr j a b (by have := (List.getElem?_eq_some_iff.1 hb).1; omega) ha hb
    refine .fin _ ⟨?_, rfl⟩ (.refl _)
    rw [hR, Bool.true_and]
    congr 2
    simp
    omega
def opsL : List Str := [[43], [45], [42], [47], [60], [61, 61], [94], [35]]
def textB (k : Int) (s : Str) : Bool := if k = 2 then (quoteE s).isSome else match formT k with
  | some f => if f.nm || f.lb then isL s 1 else if f.tg then isL s 3 else if f.op then decide (s ∈ opsL) else decide (s = [])
  | none => decide (s = [])
theorem k_SText {k p n : Int} {s t : Str} {ls ns : List Str} {l : List Ex} {σ : Sg} (hs : s.length ≤ 1048576) : ACalls Tryz.prog 107 [.v (encE (.mk k p n s t ls ns l))] σ fun r σ' => r = .v (.bool (textB k s)) ∧ σ' = σ := by
  have kf := fun σ => k_Forms (σ := σ)
  have kq := fun σ => k_Quote (b := s) (σ := σ) hs
  have ki := fun (k : Int) σ => k_Is (s := s) (k := k) (σ := σ) hs
  have ko : ∀ σ, ACalls Tryz.prog 118 [.v (.sl none true [.str [43], .str [45], .str [42], .str [47], .str [60], .str [61, 61], .str [94], .str [35]]), .v (.str s)] σ fun r σ' => r = .v (.bool (decide (s ∈ opsL))) ∧ σ' = σ := fun σ => (k_ContainsStr (l := opsL) (s := s) (σ := σ)).argA VLe.lax.d
  rw [encE_mk]
  refine acalls_fit Tryz.func107 (by kernel_rfl) c107 rfl (by simp [a107]) fun hf => ?_
  clear hf
  obtain ⟨X, hX⟩ : ∃ X, X = Ob.cells [.v (.int .i64 k), .v (.int .i64 p), .v (.int .i64 n), .v (.str s), .v (.str t), .v (.sl none false (ls.map .str)), .v (.sl none false (ns.map .str)), .v (.sl (some 8) false (l.map encE))] := ⟨_, rfl⟩
  simp -implicitDefEqProofs (maxSteps := 2000000) (disch := omega) [-getElem?_pos, a107]
  rw [← hX]
  have hk2 : textB k s = if k = 2 then (quoteE s).isSome else match formT k with
    | some f => if f.nm || f.lb then isL s 1 else if f.tg then isL s 3 else if f.op then decide (s ∈ opsL) else decide (s = [])
    | none => decide (s = []) := rfl
  generalize textB k s = B at hk2 ⊢
  refine ⟨(kf _).mono fun r σ' hr => ?_, (kf _).mono fun r σ' hr => ?_⟩
  all_goals
    obtain ⟨rfl, rfl⟩ := hr
    by_cases h2 : k = 2
    · subst h2
      rw [if_pos rfl] at hk2
      simp -implicitDefEqProofs (maxSteps := 2000000) (disch := omega) [-getElem?_pos, find_form, forms_ok, show formT 2 = some ⟨0, false, false, false, false⟩ from rfl, encF, hX]
      refine (kq _).then fun r hr => ?_
      cases hqe : quoteE s with
      | none =>
        rw [hqe] at hr hk2
        unfold QPost at hr
        dsimp only at hr
        subst hr
        simp -implicitDefEqProofs (maxSteps := 2000000) (disch := omega) [-getElem?_pos]
        exact .fin (.v (.bool false)) ⟨by rw [hk2]; rfl, rfl⟩ (.refl _)
      | some z =>
        rw [hqe] at hr hk2
        unfold QPost at hr
        dsimp only at hr
        subst hr
        simp -implicitDefEqProofs (maxSteps := 2000000) (disch := omega) [-getElem?_pos]
        exact .fin (.v (.bool true)) ⟨by rw [hk2]; rfl, rfl⟩ (.refl _)
    rw [if_neg h2] at hk2
    have hse : List.isEmpty s = decide (s = []) := by cases s <;> simp
    cases hk : formT k with
    | none =>
      rw [hk] at hk2
      simp -implicitDefEqProofs (maxSteps := 2000000) (disch := omega) [-getElem?_pos, find_form, forms_ok, hk, hX, h2]
      exact .fin (.v (.bool (List.isEmpty s))) ⟨by rw [hk2, hse], rfl⟩ (.refl _)
    | some f =>
      obtain ⟨q, nm, lb, tg, op⟩ := f
      rw [hk] at hk2
      cases nm with
      | true =>
        cases lb <;> cases tg <;> cases op
        all_goals
          simp only [Bool.or_false, Bool.or_true, Bool.or_self, Bool.true_or, Bool.false_or, Bool.false_eq_true, if_true, if_false] at hk2
          simp -implicitDefEqProofs (maxSteps := 2000000) (disch := omega) [-getElem?_pos, find_form, forms_ok, hk, encF, hX, h2]
          refine (ki 1 _).then fun r hr => ?_
          subst hr
          simp -implicitDefEqProofs (maxSteps := 2000000) (disch := omega) [-getElem?_pos]
          exact .fin (.v (.bool (isL s 1))) ⟨by rw [hk2], rfl⟩ (.refl _)
      | false =>
      cases lb with
      | true =>
        cases tg <;> cases op
        all_goals
          simp only [Bool.or_false, Bool.or_true, Bool.or_self, Bool.true_or, Bool.false_or, Bool.false_eq_true, if_true, if_false] at hk2
          simp -implicitDefEqProofs (maxSteps := 2000000) (disch := omega) [-getElem?_pos, find_form, forms_ok, hk, encF, hX, h2]
          refine (ki 1 _).then fun r hr => ?_
          subst hr
          simp -implicitDefEqProofs (maxSteps := 2000000) (disch := omega) [-getElem?_pos]
          exact .fin (.v (.bool (isL s 1))) ⟨by rw [hk2], rfl⟩ (.refl _)
      | false =>
      cases tg with
      | true =>
        cases op
        all_goals
          simp only [Bool.or_false, Bool.or_true, Bool.or_self, Bool.true_or, Bool.false_or, Bool.false_eq_true, if_true, if_false] at hk2
          simp -implicitDefEqProofs (maxSteps := 2000000) (disch := omega) [-getElem?_pos, find_form, forms_ok, hk, encF, hX, h2]
          refine (ki 3 _).then fun r hr => ?_
          subst hr
          simp -implicitDefEqProofs (maxSteps := 2000000) (disch := omega) [-getElem?_pos]
          exact .fin (.v (.bool (isL s 3))) ⟨by rw [hk2], rfl⟩ (.refl _)
      | false =>
      cases op with
      | true =>
        simp only [Bool.or_false, Bool.or_true, Bool.or_self, Bool.true_or, Bool.false_or, Bool.false_eq_true, if_true, if_false] at hk2
        simp -implicitDefEqProofs (maxSteps := 2000000) (disch := omega) [-getElem?_pos, find_form, forms_ok, hk, encF, hX, h2]
        refine (ko _).then fun r hr => ?_
        subst hr
        simp -implicitDefEqProofs (maxSteps := 2000000) (disch := omega) [-getElem?_pos]
        exact .fin (.v (.bool (decide (s ∈ opsL)))) ⟨by rw [hk2], rfl⟩ (.refl _)
      | false =>
        simp only [Bool.or_false, Bool.or_true, Bool.or_self, Bool.true_or, Bool.false_or, Bool.false_eq_true, if_true, if_false] at hk2
        simp -implicitDefEqProofs (maxSteps := 2000000) (disch := omega) [-getElem?_pos, find_form, forms_ok, hk, encF, hX, h2]
        exact .fin (.v (.bool (List.isEmpty s))) ⟨by rw [hk2, hse], rfl⟩ (.refl _)
def ownB : Ex → Bool
  | .mk k p n s t ls ns l =>
    if (l.length : Int) ≠ partsN k ls.length (decide (t ≠ [])) ∨ n < 0 ∨ (0 < n ∧ k ≠ 1) ∨ textB k s = false then false
    else if k = 8 then (ls.all fun s => isL s 1) && (riseL ls && decide (ls.length ≤ 30)) && decide (ns.length = 0) && decide (t = [])
    else if k = 14 then (ls.all fun s => isL s 3) && (riseL ls && decide (ls.length ≤ 30)) && decide (ns.length = ls.length) && (ns.all fun s => isL s 1) && (decide (t = []) || isL t 1) && decide (1 < l.length)
    else if k = 7 then isL t 1 && decide (ls.length + ns.length = 0)
    else decide (t = []) && decide (ls.length + ns.length = 0)
theorem k_Own {e : Ex} {σ : Sg} (he : csz e ≤ 1048576) : ACalls Tryz.prog 72 [.v (encE e)] σ fun r σ' => r = .v (.bool (ownB e)) ∧ σ' = σ := by
  cases e with
  | mk k p n s t ls ns l =>
  have hB : ownB (.mk k p n s t ls ns l) = if (l.length : Int) ≠ partsN k ls.length (decide (t ≠ [])) ∨ n < 0 ∨ (0 < n ∧ k ≠ 1) ∨ textB k s = false then false
    else if k = 8 then (ls.all fun s => isL s 1) && (riseL ls && decide (ls.length ≤ 30)) && decide (ns.length = 0) && decide (t = [])
    else if k = 14 then (ls.all fun s => isL s 3) && (riseL ls && decide (ls.length ≤ 30)) && decide (ns.length = ls.length) && (ns.all fun s => isL s 1) && (decide (t = []) || isL t 1) && decide (1 < l.length)
    else if k = 7 then isL t 1 && decide (ls.length + ns.length = 0)
    else decide (t = []) && decide (ls.length + ns.length = 0) := rfl
  simp only [csz] at he
  have hn1 := nsz_len ls
  have hn2 := nsz_len ns
  have hll := cszL_len l
  generalize ownB (.mk k p n s t ls ns l) = B at hB ⊢
  have kp := fun o σ => k_Parts (k := k) (labels := ls.length) (o := o) (σ := σ) (by omega) (by omega)
  have kt := fun σ => k_SText (k := k) (p := p) (n := n) (s := s) (t := t) (ls := ls) (ns := ns) (l := l) (σ := σ) (by omega)
  have ka := fun k σ => k_All (l := ls) (k := k) (σ := σ) (by omega)
  have kn := fun k σ => k_All (l := ns) (k := k) (σ := σ) (by omega)
  have kr := fun σ => k_Rises (l := ls) (σ := σ)
  have ki := fun k σ => k_Is (s := t) (k := k) (σ := σ) (by omega)
  rw [encE_mk] at kt ⊢
  have hte : (!List.isEmpty t) = decide (t ≠ []) := by cases t <;> simp
  have hte2 : List.isEmpty t = decide (t = []) := by cases t <;> simp
  have hz : ((ls.length : Int) + ns.length == 0) = decide (ls.length + ns.length = 0) := by rw [Bool.eq_iff_iff, beq_iff_eq, decide_eq_true_iff]; omega
  refine acalls_fit Tryz.func72 (by kernel_rfl) c72 rfl (by simp [a72]) fun hf => ?_
  clear hf
  rw [← hte] at hB
  simp -implicitDefEqProofs (maxSteps := 2000000) (disch := omega) [-getElem?_pos, a72]
  refine (kp _ _).then fun r hr => ?_
  subst hr
  obtain ⟨P, hP⟩ : ∃ P, P = partsN k ls.length (!List.isEmpty t) := ⟨_, rfl⟩
  rw [← hP] at hB ⊢
  by_cases h1 : (l.length : Int) = P
  rotate_left
  · rw [if_pos (.inl h1)] at hB
    simp -implicitDefEqProofs (maxSteps := 2000000) (disch := omega) [-getElem?_pos, h1]
    exact .fin (.v (.bool false)) ⟨by rw [hB], rfl⟩ (.refl _)
  by_cases h2 : n < 0
  · rw [if_pos (.inr (.inl h2))] at hB
    simp -implicitDefEqProofs (maxSteps := 2000000) (disch := omega) [-getElem?_pos, h1, h2]
    exact .fin (.v (.bool false)) ⟨by rw [hB], rfl⟩ (.refl _)
  by_cases h3 : 0 < n
  · by_cases h4 : k = 1
    rotate_left
    · rw [if_pos (.inr (.inr (.inl ⟨h3, h4⟩)))] at hB
      simp -implicitDefEqProofs (maxSteps := 2000000) (disch := omega) [-getElem?_pos, h1, h2, h3, h4]
      exact .fin (.v (.bool false)) ⟨by rw [hB], rfl⟩ (.refl _)
    subst h4
    simp -implicitDefEqProofs (maxSteps := 2000000) (disch := omega) [-getElem?_pos, h1, h2, h3]
    refine (kt _).then fun r hr => ?_
    subst hr
    cases hT : textB 1 s with
    | false =>
      rw [if_pos (.inr (.inr (.inr hT)))] at hB
      simp -implicitDefEqProofs (maxSteps := 2000000) (disch := omega) [-getElem?_pos]
      exact .fin (.v (.bool false)) ⟨by rw [hB], rfl⟩ (.refl _)
    | true =>
      rw [if_neg (by simp [h1, h2, hT]), if_neg (by decide), if_neg (by decide), if_neg (by decide)] at hB
      simp -implicitDefEqProofs (maxSteps := 2000000) (disch := omega) [-getElem?_pos]
      refine .mk (fun ht => ?_) fun ht => ?_
      · simp -implicitDefEqProofs (maxSteps := 2000000) (disch := omega) [-getElem?_pos, ht]
        exact .fin (.v (.bool ((ls.length : Int) + ns.length == 0))) ⟨by rw [hB, hz]; simp [ht], rfl⟩ (.refl _)
      · simp -implicitDefEqProofs (maxSteps := 2000000) (disch := omega) [-getElem?_pos, ht]
        exact .fin (.v (.bool false)) ⟨by rw [hB]; simp [ht], rfl⟩ (.refl _)
  · simp -implicitDefEqProofs (maxSteps := 2000000) (disch := omega) [-getElem?_pos, h1, h2, h3]
    refine (kt _).then fun r hr => ?_
    subst hr
    cases hT : textB k s with
    | false =>
      rw [if_pos (.inr (.inr (.inr hT)))] at hB
      simp -implicitDefEqProofs (maxSteps := 2000000) (disch := omega) [-getElem?_pos]
      exact .fin (.v (.bool false)) ⟨by rw [hB], rfl⟩ (.refl _)
    | true =>
      rw [if_neg (by simp [h1, h2, h3, hT])] at hB
      by_cases h8 : k = 8
      · rw [if_pos h8] at hB
        subst h8
        simp -implicitDefEqProofs (maxSteps := 2000000) (disch := omega) [-getElem?_pos]
        refine (ka 1 _).then fun r hr => ?_
        subst hr
        cases hc0 : ls.all fun s => isL s 1 with
        | false =>
          rw [hc0] at hB
          simp -implicitDefEqProofs (maxSteps := 2000000) (disch := omega) [-getElem?_pos]
          exact .fin (.v (.bool false)) ⟨by rw [hB]; simp, rfl⟩ (.refl _)
        | true =>
          rw [hc0] at hB
          simp -implicitDefEqProofs (maxSteps := 2000000) (disch := omega) [-getElem?_pos]
          refine (kr _).then fun r hr => ?_
          subst hr
          cases hc2 : riseL ls && decide (ls.length ≤ 30) with
          | false =>
            rw [hc2] at hB
            simp -implicitDefEqProofs (maxSteps := 2000000) (disch := omega) [-getElem?_pos]
            exact .fin (.v (.bool false)) ⟨by rw [hB]; simp, rfl⟩ (.refl _)
          | true =>
            rw [hc2] at hB
            simp -implicitDefEqProofs (maxSteps := 2000000) (disch := omega) [-getElem?_pos]
            refine .mk (fun hz1 => ?_) fun hz1 => ?_
            · simp -implicitDefEqProofs (maxSteps := 2000000) (disch := omega) [-getElem?_pos, hz1]
              exact .fin (.v (.bool (List.isEmpty t))) ⟨by rw [hB, hte2]; simp [hz1], rfl⟩ (.refl _)
            · simp -implicitDefEqProofs (maxSteps := 2000000) (disch := omega) [-getElem?_pos, hz1]
              exact .fin (.v (.bool false)) ⟨by rw [hB]; simp [hz1], rfl⟩ (.refl _)
      rw [if_neg h8] at hB
      by_cases h14 : k = 14
      · rw [if_pos h14] at hB
        subst h14
        simp -implicitDefEqProofs (maxSteps := 2000000) (disch := omega) [-getElem?_pos]
        refine (ka 3 _).then fun r hr => ?_
        subst hr
        cases hc0 : ls.all fun s => isL s 3 with
        | false =>
          rw [hc0] at hB
          simp -implicitDefEqProofs (maxSteps := 2000000) (disch := omega) [-getElem?_pos]
          exact .fin (.v (.bool false)) ⟨by rw [hB]; simp, rfl⟩ (.refl _)
        | true =>
          rw [hc0] at hB
          simp -implicitDefEqProofs (maxSteps := 2000000) (disch := omega) [-getElem?_pos]
          refine (kr _).then fun r hr => ?_
          subst hr
          cases hc2 : riseL ls && decide (ls.length ≤ 30) with
          | false =>
            rw [hc2] at hB
            simp -implicitDefEqProofs (maxSteps := 2000000) (disch := omega) [-getElem?_pos]
            exact .fin (.v (.bool false)) ⟨by rw [hB]; simp, rfl⟩ (.refl _)
          | true =>
            rw [hc2] at hB
            simp -implicitDefEqProofs (maxSteps := 2000000) (disch := omega) [-getElem?_pos]
            refine .mk (fun he1 => ?_) fun he1 => ?_
            rotate_left
            · simp -implicitDefEqProofs (maxSteps := 2000000) (disch := omega) [-getElem?_pos, he1]
              exact .fin (.v (.bool false)) ⟨by rw [hB]; have : ¬ ns.length = ls.length := fun h => he1 (by rw [h]); simp [this], rfl⟩ (.refl _)
            have he2 : ns.length = ls.length := by omega
            simp -implicitDefEqProofs (maxSteps := 2000000) (disch := omega) [-getElem?_pos, he1]
            refine (kn 1 _).then fun r hr => ?_
            subst hr
            cases hcn : ns.all fun s => isL s 1 with
            | false =>
              rw [hcn] at hB
              simp -implicitDefEqProofs (maxSteps := 2000000) (disch := omega) [-getElem?_pos]
              exact .fin (.v (.bool false)) ⟨by rw [hB]; simp, rfl⟩ (.refl _)
            | true =>
              rw [hcn] at hB
              simp -implicitDefEqProofs (maxSteps := 2000000) (disch := omega) [-getElem?_pos]
              refine .mk (fun ht => ?_) fun ht => ?_
              · simp -implicitDefEqProofs (maxSteps := 2000000) (disch := omega) [-getElem?_pos, ht]
                exact .fin (.v (.bool (decide (1 < (l.length : Int))))) ⟨by rw [hB]; simp [ht, he2]; omega, rfl⟩ (.refl _)
              · simp -implicitDefEqProofs (maxSteps := 2000000) (disch := omega) [-getElem?_pos, ht]
                refine (ki 1 _).then fun r hr => ?_
                subst hr
                cases hct : isL t 1 with
                | false =>
                  rw [hct] at hB
                  simp -implicitDefEqProofs (maxSteps := 2000000) (disch := omega) [-getElem?_pos]
                  exact .fin (.v (.bool false)) ⟨by rw [hB]; simp [ht], rfl⟩ (.refl _)
                | true =>
                  rw [hct] at hB
                  simp -implicitDefEqProofs (maxSteps := 2000000) (disch := omega) [-getElem?_pos]
                  exact .fin (.v (.bool (decide (1 < (l.length : Int))))) ⟨by rw [hB]; simp [he2]; omega, rfl⟩ (.refl _)
      rw [if_neg h14] at hB
      by_cases h7 : k = 7
      · rw [if_pos h7] at hB
        subst h7
        simp -implicitDefEqProofs (maxSteps := 2000000) (disch := omega) [-getElem?_pos]
        refine (ki 1 _).then fun r hr => ?_
        subst hr
        cases hc0 : isL t 1 with
        | false =>
          rw [hc0] at hB
          simp -implicitDefEqProofs (maxSteps := 2000000) (disch := omega) [-getElem?_pos]
          exact .fin (.v (.bool false)) ⟨by rw [hB]; simp, rfl⟩ (.refl _)
        | true =>
          rw [hc0] at hB
          simp -implicitDefEqProofs (maxSteps := 2000000) (disch := omega) [-getElem?_pos]
          exact .fin (.v (.bool ((ls.length : Int) + ns.length == 0))) ⟨by rw [hB, hz]; simp, rfl⟩ (.refl _)
      rw [if_neg h7] at hB
      simp -implicitDefEqProofs (maxSteps := 2000000) (disch := omega) [-getElem?_pos, h8, h14, h7]
      refine .mk (fun ht => ?_) fun ht => ?_
      · simp -implicitDefEqProofs (maxSteps := 2000000) (disch := omega) [-getElem?_pos, ht]
        exact .fin (.v (.bool ((ls.length : Int) + ns.length == 0))) ⟨by rw [hB, hz]; simp [ht], rfl⟩ (.refl _)
      · simp -implicitDefEqProofs (maxSteps := 2000000) (disch := omega) [-getElem?_pos, ht]
        exact .fin (.v (.bool false)) ⟨by rw [hB]; simp [ht], rfl⟩ (.refl _)
theorem k_IndexFuncEx {xs : List Ex} {f : Bool} {fd : D} {p : Ex → Bool} {σ : Sg} (hp : ∀ x ∈ xs, WCall Tryz.prog fd [.v (encE x)] σ fun r σ' => r = .v (.bool (p x)) ∧ σ' = σ) :
    ACalls Tryz.prog 111 [.v (.sl (some 8) f (xs.map encE)), fd] σ fun r σ' => r = .v (.int .i64 ((xs.findIdx? p).elim (-1) fun i => (i : Int))) ∧ σ' = σ := by
  refine acalls_fit Tryz.func111 (by kernel_rfl) c111 rfl (by simp [a111]) fun hf => ?_
  simp at hf
  simp -implicitDefEqProofs (maxSteps := 2000000) (disch := omega) [-getElem?_pos, a111]
  refine W_loop (α := Nat) 0 (fun i => xs.length - i) (fun i => ⟨[(0, .v (.sl (some 8) f (xs.map encE))), (1, fd), (7, .v (.int .i64 xs.length)), (8, .v (.int .i64 i))], σ⟩) (fun i => i ≤ xs.length ∧ xs.findIdx? p = ((xs.drop i).findIdx? p).map fun k => k + i)
    (.eq (by simp)) ⟨by omega, by simp⟩ fun i ⟨hi, he⟩ => ?_
  simp -implicitDefEqProofs (maxSteps := 2000000) (disch := omega) [-getElem?_pos]
  refine .mk (fun h => ?_) fun h => ?_
  · simp -implicitDefEqProofs (maxSteps := 2000000) (disch := omega) [-getElem?_pos]
    refine ⟨by omega, fun x hx => ?_⟩
    refine (hp x (List.mem_of_getElem? hx)).then fun r hr => ?_
    subst hr
    have hdc := drop_cons hx
    rw [hdc, List.findIdx?_cons] at he
    simp -implicitDefEqProofs (maxSteps := 2000000) (disch := omega) [-getElem?_pos]
    refine .mk (fun hq => ?_) fun hq => ?_
    · rw [if_pos hq] at he
      simp -implicitDefEqProofs (maxSteps := 2000000) (disch := omega) [-getElem?_pos]
      refine .fin _ ⟨?_, rfl⟩ (.refl _)
      rw [he]
      simp
    · rw [if_neg hq] at he
      simp -implicitDefEqProofs (maxSteps := 2000000) (disch := omega) [-getElem?_pos]
      refine ⟨i + 1, ⟨by omega, ?_⟩, by dsimp only; omega, .eq (by simp)⟩
      rw [he]
      simp only [Option.map_map]
      congr 1
      funext k
      simp only [Function.comp]
      omega
  · simp -implicitDefEqProofs (maxSteps := 2000000) (disch := omega) [-getElem?_pos]
    refine .fin _ ⟨?_, rfl⟩ (.refl _)
    rw [he, List.drop_eq_nil_of_le (by omega)]
    rfl
theorem k_ContainsFuncEx {xs : List Ex} {f : Bool} {fd : D} {p : Ex → Bool} {σ : Sg} (hp : ∀ x ∈ xs, WCall Tryz.prog fd [.v (encE x)] σ fun r σ' => r = .v (.bool (p x)) ∧ σ' = σ) :
    ACalls Tryz.prog 73 [.v (.sl (some 8) f (xs.map encE)), fd] σ fun r σ' => r = .v (.bool (xs.any p)) ∧ σ' = σ := by
  refine acalls_fit Tryz.func73 (by kernel_rfl) c73 rfl (by simp [a73]) fun hf => ?_
  simp -implicitDefEqProofs (maxSteps := 2000000) (disch := omega) [-getElem?_pos, a73]
  refine (k_IndexFuncEx hp).then fun r hr => ?_
  subst hr
  simp -implicitDefEqProofs (maxSteps := 2000000) (disch := omega) [-getElem?_pos]
  refine .fin _ ⟨?_, rfl⟩ (.refl _)
  congr 2
  cases h : xs.findIdx? p with
  | none =>
    have h2 := List.findIdx?_eq_none_iff.1 h
    simp
    exact fun x hx => by simpa using h2 x hx
  | some i =>
    have h2 := List.findIdx?_eq_some_iff_getElem.1 h
    obtain ⟨hlt, hq, _⟩ := h2
    simp
    exact ⟨_, List.getElem_mem hlt, hq⟩
mutual
def fineB : Ex → Bool
  | .mk k p n s t ls ns l => ownB (.mk k p n s t ls ns l) && fineLB l
def fineLB : List Ex → Bool
  | [] => true
  | x :: l => fineB x && fineLB l
end
theorem any_fine : ∀ l : List Ex, l.any (fun x => !fineB x) = !fineLB l
  | [] => rfl
  | x :: l => by rw [List.any_cons, any_fine l, fineLB, Bool.not_and]
theorem k_Fine1 {e : Ex} {σ : Sg} (hF : ∀ σ, ACalls Tryz.prog 47 [.v (encE e)] σ fun r σ' => r = .v (.bool (fineB e)) ∧ σ' = σ) : ACalls Tryz.prog 74 [.v (encE e)] σ fun r σ' => r = .v (.bool (!fineB e)) ∧ σ' = σ := by
  obtain ⟨b, hb⟩ : ∃ b, b = fineB e := ⟨_, rfl⟩
  rw [← hb] at hF ⊢
  cases e with
  | mk k p n s t ls ns l =>
  rw [encE_mk] at hF ⊢
  refine acalls_fit Tryz.func74 (by kernel_rfl) c74 rfl (by simp [a74]) fun hf => ?_
  clear hf
  simp -implicitDefEqProofs (maxSteps := 2000000) (disch := omega) [-getElem?_pos, a74]
  refine (hF _).then fun r hr => ?_
  subst hr
  simp -implicitDefEqProofs (maxSteps := 2000000) (disch := omega) [-getElem?_pos]
  exact .fin _ ⟨rfl, rfl⟩ (.refl _)
theorem k_Fine (e : Ex) : ∀ {σ : Sg}, csz e ≤ 1048576 → ACalls Tryz.prog 47 [.v (encE e)] σ fun r σ' => r = .v (.bool (fineB e)) ∧ σ' = σ := by
  refine Ex.ind (P := fun e => ∀ {σ : Sg}, csz e ≤ 1048576 → ACalls Tryz.prog 47 [.v (encE e)] σ fun r σ' => r = .v (.bool (fineB e)) ∧ σ' = σ) (fun k p n s t ls ns l ih => ?_) e
  intro σ he
  have ko := fun σ => k_Own (e := .mk k p n s t ls ns l) (σ := σ) he
  have hB : fineB (.mk k p n s t ls ns l) = (ownB (.mk k p n s t ls ns l) && fineLB l) := by rw [fineB]
  generalize fineB (.mk k p n s t ls ns l) = B at hB ⊢
  generalize ownB (.mk k p n s t ls ns l) = O at hB ko
  have hsz : ∀ x ∈ l, csz x ≤ 1048576 := fun x hx => by
    have := cszL_mem hx
    simp only [csz] at he
    omega
  have kc := fun σ => k_ContainsFuncEx (xs := l) (f := false) (fd := .v (.fn 74)) (p := fun x => !fineB x) (σ := σ) fun x hx => by
    rw [WCall_fn]
    exact k_Fine1 fun σ => ih x hx (hsz x hx)
  rw [encE_mk] at ko ⊢
  refine acalls_fit Tryz.func47 (by kernel_rfl) c47 rfl (by simp [a47]) fun hf => ?_
  clear hf
  simp -implicitDefEqProofs (maxSteps := 2000000) (disch := omega) [-getElem?_pos, a47]
  refine (ko _).then fun r hr => ?_
  subst hr
  cases O with
  | false =>
    simp -implicitDefEqProofs (maxSteps := 2000000) (disch := omega) [-getElem?_pos]
    exact .fin (.v (.bool false)) ⟨by rw [hB]; simp, rfl⟩ (.refl _)
  | true =>
    simp -implicitDefEqProofs (maxSteps := 2000000) (disch := omega) [-getElem?_pos]
    refine (kc _).then fun r hr => ?_
    rw [any_fine] at hr
    subst hr
    simp -implicitDefEqProofs (maxSteps := 2000000) (disch := omega) [-getElem?_pos]
    exact .fin (.v (.bool (fineLB l))) ⟨by rw [hB]; simp, rfl⟩ (by simp)
def mayB (e : Ex) : Bool := decide (dep e ≤ 60) && (decide (nds e ≤ 1500) && fineB e)
theorem k_May {e : Ex} {σ : Sg} (he : csz e ≤ 1048576) : ACalls Tryz.prog 23 [.v (encE e)] σ fun r σ' => r = .v (.bool (mayB e)) ∧ σ' = σ := by
  have kd := fun σ => k_Depth e (σ := σ) he
  have kn := fun σ => k_Nodes e (σ := σ) he
  have kf := fun σ => k_Fine e (σ := σ) he
  have hB : mayB e = (decide (dep e ≤ 60) && (decide (nds e ≤ 1500) && fineB e)) := rfl
  generalize mayB e = B at hB ⊢
  generalize fineB e = F at hB kf
  generalize dep e = d at hB kd
  generalize nds e = m at hB kn
  cases e with
  | mk k p n s t ls ns l =>
  rw [encE_mk] at kd kn kf ⊢
  refine acalls_fit Tryz.func23 (by kernel_rfl) c23 rfl (by simp [a23]) fun hf => ?_
  clear hf
  simp -implicitDefEqProofs (maxSteps := 2000000) (disch := omega) [-getElem?_pos, a23]
  refine (kd _).then fun r hr => ?_
  subst hr
  simp -implicitDefEqProofs (maxSteps := 2000000) (disch := omega) [-getElem?_pos]
  refine .mk (fun h1 => ?_) fun h1 => ?_
  rotate_left
  · simp -implicitDefEqProofs (maxSteps := 2000000) (disch := omega) [-getElem?_pos]
    exact .fin (.v (.bool false)) ⟨by rw [hB]; simp; intros; omega, rfl⟩ (.refl _)
  simp -implicitDefEqProofs (maxSteps := 2000000) (disch := omega) [-getElem?_pos]
  refine (kn _).then fun r hr => ?_
  subst hr
  simp -implicitDefEqProofs (maxSteps := 2000000) (disch := omega) [-getElem?_pos]
  refine .mk (fun h2 => ?_) fun h2 => ?_
  rotate_left
  · simp -implicitDefEqProofs (maxSteps := 2000000) (disch := omega) [-getElem?_pos]
    exact .fin (.v (.bool false)) ⟨by rw [hB]; simp; intros; omega, rfl⟩ (.refl _)
  simp -implicitDefEqProofs (maxSteps := 2000000) (disch := omega) [-getElem?_pos]
  refine (kf _).then fun r hr => ?_
  subst hr
  simp -implicitDefEqProofs (maxSteps := 2000000) (disch := omega) [-getElem?_pos]
  exact .fin (.v (.bool F)) ⟨by rw [hB, decide_eq_true (by omega : d ≤ 60), decide_eq_true (by omega : m ≤ 1500)]; simp, rfl⟩ (.refl _)
theorem tok_name {b : Str} {i : Nat} {c : UInt8} {t : Tk} {to : Nat} (h : oneL b i c = .tok t to) (hk : t.k = 1 ∨ t.k = 3) : (lowB c = true ∨ uppB c = true) ∧ ∃ q, t.s = passS q b i ∧ to = spanE q b i := by
  unfold oneL at h
  split at h
  · rename_i hl
    unfold nameN at h
    split at h
    · cases h
    · cases h
      exact ⟨.inl hl, _, rfl, rfl⟩
  · split at h
    · rename_i hu
      unfold nameN at h
      split at h
      · cases h
      · cases h
        exact ⟨.inr hu, _, rfl, rfl⟩
    · split at h
      · unfold numN at h
        split at h
        · cases h
        · cases h
          rcases hk with hk | hk <;> (dsimp only at hk; omega)
      · split at h
        · cases ht : textL (b.drop (i + 1)) (i + 1) [] with
          | bad q => rw [ht] at h; cases h
          | ok s e =>
            rw [ht] at h
            unfold textN at h
            dsimp only at h
            split at h
            · cases h
            · cases h
              rcases hk with hk | hk <;> (dsimp only at hk; omega)
        · unfold signN at h
          split at h
          · cases h
          · cases h
            rcases hk with hk | hk <;> (dsimp only at hk; omega)
theorem letter_bla {c : UInt8} (h : lowB c = true ∨ uppB c = true) : blaB c = false := by
  unfold lowB uppB at h
  unfold blaB
  simp only [Bool.and_eq_true, decide_eq_true_eq, Bool.or_eq_false_iff, decide_eq_false_iff_not] at h ⊢
  omega
def Runs : Str → Nat → List Tk → Prop
  | b, i, [] => b[spanE blaB b i]? = none
  | b, i, t :: r => ∃ c to, b[spanE blaB b i]? = some c ∧ oneL b (spanE blaB b i) c = .tok t to ∧ Runs b to r
theorem cutF_runs {b : Str} : ∀ (f i : Nat) (acc l : List Tk), cutF f b i acc = .ok l → ∃ r, l = acc ++ r ∧ Runs b i r
  | 0, i, acc, l, h => by cases h
  | f + 1, i, acc, l, h => by
    rw [cutF] at h
    cases hc : b[spanE blaB b i]? with
    | none => rw [hc] at h; cases h; exact ⟨[], by simp, hc⟩
    | some c =>
      rw [hc] at h
      dsimp only at h
      cases ho : oneL b (spanE blaB b i) c with
      | bad q => rw [ho] at h; cases h
      | tok t to =>
        rw [ho] at h
        obtain ⟨r, hr, hR⟩ := cutF_runs f to _ l h
        exact ⟨t :: r, by rw [hr]; simp, c, to, hc, ho, hR⟩
def isR (s : Str) (k : Int) : Bool := match s with
  | [] => false
  | c :: r => if 20 < (c :: r).length then false else match oneL (c :: r) 0 c with
    | .tok t to => decide (to = (c :: r).length) && decide (t.k = k)
    | .bad _ => false
theorem passS_full {q : UInt8 → Bool} {b : Str} (h : (passS q b 0).length = b.length) : passS q b 0 = b := by
  have h1 : (passS q b 0) <+: b := by
    unfold passS
    rw [List.drop_zero]
    exact List.takeWhile_prefix q
  exact h1.eq_of_length h
theorem isR_imp {s : Str} {k : Int} (hk : k = 1 ∨ k = 3) (h : isR s k = true) : isL s k = true := by
  cases s with
  | nil => cases h
  | cons c r =>
    unfold isR at h
    dsimp only at h
    by_cases hl : 20 < (c :: r).length
    · rw [if_pos hl] at h
      cases h
    rw [if_neg hl] at h
    unfold isL
    rw [if_neg hl]
    have h0 : (c :: r)[0]? = some c := rfl
    have hpos : ∃ m, (c :: r).length = m + 1 := ⟨r.length, rfl⟩
    generalize c :: r = s at *
    cases ho : oneL s 0 c with
    | bad q => rw [ho] at h; cases h
    | tok t to =>
      rw [ho] at h
      simp only [Bool.and_eq_true, decide_eq_true_eq] at h
      obtain ⟨hto, htk⟩ := h
      obtain ⟨hlet, q, hts, hspan⟩ := tok_name ho (by rw [htk]; exact hk)
      have hfull : passS q s 0 = s := passS_full (by unfold spanE at hspan; unfold passS; omega)
      have hcut : cutL s = .ok [t] := by
        obtain ⟨m, hm⟩ := hpos
        unfold cutL
        rw [if_neg (by omega), cutF, spanE_miss h0 (letter_bla hlet), h0]
        dsimp only
        rw [ho]
        dsimp only
        rw [hm, cutF, spanE_end (by omega), List.getElem?_eq_none (by omega)]
        rfl
      rw [hcut]
      simp [htk, hts, hfull]
theorem isL_imp {s : Str} {k : Int} (hk : k = 1 ∨ k = 3) (h : isL s k = true) : isR s k = true := by
  unfold isL at h
  split at h
  · cases h
  rename_i hl
  split at h
  · rename_i t hcut
    simp only [Bool.and_eq_true, decide_eq_true_eq] at h
    obtain ⟨htk, hts⟩ := h
    unfold cutL at hcut
    split at hcut
    · cases hcut
    obtain ⟨r, hr, hR⟩ := cutF_runs _ 0 [] _ hcut
    rw [List.nil_append] at hr
    subst hr
    obtain ⟨c, to, hc, ho, _⟩ := hR
    obtain ⟨hlet, q, hp, hspan⟩ := tok_name ho (by rw [htk]; exact hk)
    have hlt := (List.getElem?_eq_some_iff.1 hc).1
    have hle : (passS q s (spanE blaB s 0)).length ≤ s.length - spanE blaB s 0 := by
      unfold passS
      have h1 : ((s.drop (spanE blaB s 0)).takeWhile q).length ≤ (s.drop (spanE blaB s 0)).length := (List.takeWhile_prefix q).length_le
      rw [List.length_drop] at h1
      exact h1
    rw [← hp, hts] at hle
    have hj : spanE blaB s 0 = 0 := by omega
    rw [hj] at hc ho hp hspan
    have hto : to = s.length := by
      have h1 : spanE q s 0 = 0 + (passS q s 0).length := rfl
      rw [← hp, hts] at h1
      omega
    cases s with
    | nil => simp at hlt
    | cons c' r =>
      have hcc : c' = c := Option.some.inj hc
      subst hcc
      unfold isR
      dsimp only
      rw [if_neg hl, ho]
      simp [hto, htk]
  · cases h
theorem is_eq {s : Str} {k : Int} (hk : k = 1 ∨ k = 3) : isR s k = isL s k := by
  rw [Bool.eq_iff_iff]
  exact ⟨isR_imp hk, isL_imp hk⟩
theorem k_RIs {s : Str} {k : Int} {σ : Sg} (hs : s.length ≤ 1048576) (hk : k = 1 ∨ k = 3) : ACalls Tryz.prog 96 [.v (.str s), .v (.int .i64 k)] σ fun r σ' => r = .v (.bool (isL s k)) ∧ σ' = σ := by
  rw [← is_eq hk]
  cases s with
  | nil =>
    refine acalls_fit Tryz.func96 (by kernel_rfl) c96 rfl (by simp [a96]) fun hf => ?_
    clear hf
    simp -implicitDefEqProofs (maxSteps := 2000000) (disch := omega) [-getElem?_pos, a96]
    exact .fin (.v (.bool false)) ⟨rfl, rfl⟩ (.refl _)
  | cons c r =>
  have ko := k_ROne (b := c :: r) (i := 0) (c := c) (σ := σ) rfl hs
  have hI : isR (c :: r) k = if 20 < (c :: r).length then false else match oneL (c :: r) 0 c with
    | .tok t to => decide (to = (c :: r).length) && decide (t.k = k)
    | .bad _ => false := rfl
  generalize isR (c :: r) k = B at hI ⊢
  have hne : ¬ (c :: r).length = 0 := by simp
  generalize hss : c :: r = s at *
  have hni : ¬ (s.length : Int) = 0 := by omega
  refine acalls_fit Tryz.func96 (by kernel_rfl) c96 rfl (by simp [a96]) fun hf => ?_
  clear hf
  simp -implicitDefEqProofs (maxSteps := 2000000) (disch := omega) [-getElem?_pos, a96, hne, hni]
  refine .mk (fun h => ?_) fun h => ?_
  · rw [if_pos (by omega)] at hI
    simp -implicitDefEqProofs (maxSteps := 2000000) (disch := omega) [-getElem?_pos]
    exact .fin (.v (.bool false)) ⟨by rw [hI], rfl⟩ (.refl _)
  rw [if_neg (by omega)] at hI
  simp -implicitDefEqProofs (maxSteps := 2000000) (disch := omega) [-getElem?_pos]
  refine ⟨by omega, ?_⟩
  refine (show ACalls Tryz.prog 135 [.v (vBs s), .v (.int .i64 0)] σ _ from ko).mono fun r σ' hr => ?_
  cases hx : oneL s 0 c with
  | bad q =>
    rw [hx] at hr hI
    obtain ⟨⟨t, e, rfl⟩, rfl⟩ := hr
    simp -implicitDefEqProofs (maxSteps := 2000000) (disch := omega) [-getElem?_pos, encK]
    refine .mk (fun h => absurd h (by omega)) fun _ => ?_
    simp -implicitDefEqProofs (maxSteps := 2000000) (disch := omega) [-getElem?_pos]
    exact .fin (.v (.bool false)) ⟨by rw [hI], rfl⟩ (.refl _)
  | tok t to =>
    rw [hx] at hr hI
    obtain ⟨rfl, rfl⟩ := hr
    simp -implicitDefEqProofs (maxSteps := 2000000) (disch := omega) [-getElem?_pos, encK]
    refine .mk (fun h => ?_) fun h => ?_
    · have ht : to = s.length := by omega
      simp -implicitDefEqProofs (maxSteps := 2000000) (disch := omega) [-getElem?_pos]
      exact .fin (.v (.bool (t.k == k))) ⟨by rw [hI]; simp [ht]; rfl, rfl⟩ (.refl _)
    · have ht : ¬ to = s.length := by omega
      simp -implicitDefEqProofs (maxSteps := 2000000) (disch := omega) [-getElem?_pos]
      exact .fin (.v (.bool false)) ⟨by rw [hI]; simp [ht], rfl⟩ (.refl _)
theorem k_ROper {s : Str} {σ : Sg} : ACalls Tryz.prog 134 [.v (.str s)] σ fun r σ' => r = .v (.bool (decide (s ∈ opsL))) ∧ σ' = σ := by
  refine acalls_fit Tryz.func134 (by kernel_rfl) c134 rfl (by simp [a134]) fun hf => ?_
  clear hf
  by_cases hm : s ∈ opsL
  · have hm' := hm
    simp only [opsL, List.mem_cons, List.not_mem_nil, or_false] at hm'
    rcases hm' with rfl | rfl | rfl | rfl | rfl | rfl | rfl | rfl
    all_goals
      simp -implicitDefEqProofs (maxSteps := 2000000) (disch := omega) [-getElem?_pos, a134]
      exact .fin (.v (.bool true)) ⟨by rw [decide_eq_true hm], rfl⟩ (.refl _)
  · have hm' := hm
    simp only [opsL, List.mem_cons, List.not_mem_nil, or_false, not_or] at hm'
    obtain ⟨h1, h2, h3, h4, h5, h6, h7, h8⟩ := hm'
    simp -implicitDefEqProofs (maxSteps := 2000000) (disch := omega) [-getElem?_pos, a134, h1, h2, h3, h4, h5, h6, h7, h8]
    exact .fin (.v (.bool (s == [35]))) ⟨by rw [decide_eq_false hm]; simp [h8], rfl⟩ (.refl _)
theorem form_none {k : Int} (h : ∀ j ∈ formsT.map (·.1), k ≠ j) : formT k = none := by
  unfold formT
  generalize formsT = l at h
  induction l with
  | nil => rfl
  | cons q l ih =>
    obtain ⟨a, f⟩ := q
    have h1 : ¬ k = a := h a (by simp)
    have hb : (k == a) = false := by simp [h1]
    rw [List.lookup_cons, hb]
    exact ih fun j hj => h j (by simp at hj ⊢; exact .inr hj)
theorem k_RParts {k labels : Int} {o : Bool} {σ : Sg} (hl : 0 ≤ labels) (hl2 : labels ≤ 2000000) : ACalls Tryz.prog 94 [.v (.int .i64 k), .v (.int .i64 labels), .v (.bool o)] σ fun r σ' => r = .v (.int .i64 (partsN k labels o)) ∧ σ' = σ := by
  refine acalls_fit Tryz.func94 (by kernel_rfl) c94 rfl (by simp [a94]) fun hf => ?_
  clear hf
  by_cases h1 : k = 1
  · subst h1
    simp -implicitDefEqProofs (maxSteps := 2000000) (disch := omega) [-getElem?_pos, a94]
    exact .fin _ ⟨rfl, rfl⟩ (.refl _)
  by_cases h2 : k = 2
  · subst h2
    simp -implicitDefEqProofs (maxSteps := 2000000) (disch := omega) [-getElem?_pos, a94]
    exact .fin _ ⟨rfl, rfl⟩ (.refl _)
  by_cases h3 : k = 3
  · subst h3
    simp -implicitDefEqProofs (maxSteps := 2000000) (disch := omega) [-getElem?_pos, a94]
    exact .fin _ ⟨rfl, rfl⟩ (.refl _)
  by_cases h4 : k = 4
  · subst h4
    simp -implicitDefEqProofs (maxSteps := 2000000) (disch := omega) [-getElem?_pos, a94]
    exact .fin _ ⟨rfl, rfl⟩ (.refl _)
  by_cases h5 : k = 5
  · subst h5
    simp -implicitDefEqProofs (maxSteps := 2000000) (disch := omega) [-getElem?_pos, a94]
    exact .fin _ ⟨rfl, rfl⟩ (.refl _)
  by_cases h6 : k = 6
  · subst h6
    simp -implicitDefEqProofs (maxSteps := 2000000) (disch := omega) [-getElem?_pos, a94]
    exact .fin _ ⟨rfl, rfl⟩ (.refl _)
  by_cases h7 : k = 7
  · subst h7
    simp -implicitDefEqProofs (maxSteps := 2000000) (disch := omega) [-getElem?_pos, a94]
    exact .fin _ ⟨rfl, rfl⟩ (.refl _)
  by_cases h8 : k = 8
  · subst h8
    simp -implicitDefEqProofs (maxSteps := 2000000) (disch := omega) [-getElem?_pos, a94]
    exact .fin _ ⟨rfl, rfl⟩ (.refl _)
  by_cases h9 : k = 9
  · subst h9
    simp -implicitDefEqProofs (maxSteps := 2000000) (disch := omega) [-getElem?_pos, a94]
    exact .fin _ ⟨rfl, rfl⟩ (.refl _)
  by_cases h10 : k = 10
  · subst h10
    simp -implicitDefEqProofs (maxSteps := 2000000) (disch := omega) [-getElem?_pos, a94]
    exact .fin _ ⟨rfl, rfl⟩ (.refl _)
  by_cases h11 : k = 11
  · subst h11
    simp -implicitDefEqProofs (maxSteps := 2000000) (disch := omega) [-getElem?_pos, a94]
    exact .fin _ ⟨rfl, rfl⟩ (.refl _)
  by_cases h12 : k = 12
  · subst h12
    simp -implicitDefEqProofs (maxSteps := 2000000) (disch := omega) [-getElem?_pos, a94]
    exact .fin _ ⟨rfl, rfl⟩ (.refl _)
  by_cases h13 : k = 13
  · subst h13
    simp -implicitDefEqProofs (maxSteps := 2000000) (disch := omega) [-getElem?_pos, a94]
    exact .fin _ ⟨rfl, rfl⟩ (.refl _)
  by_cases h14 : k = 14
  · subst h14
    cases o with
    | true =>
      simp -implicitDefEqProofs (maxSteps := 2000000) (disch := omega) [-getElem?_pos, a94]
      exact .fin (.v (.int .i64 (labels + 2))) ⟨by simp [partsN]; omega, rfl⟩ (.refl _)
    | false =>
      simp -implicitDefEqProofs (maxSteps := 2000000) (disch := omega) [-getElem?_pos, a94]
      exact .fin (.v (.int .i64 (labels + 1))) ⟨by simp [partsN], rfl⟩ (.refl _)
  by_cases h15 : k = 15
  · subst h15
    simp -implicitDefEqProofs (maxSteps := 2000000) (disch := omega) [-getElem?_pos, a94]
    exact .fin _ ⟨rfl, rfl⟩ (.refl _)
  by_cases h16 : k = 16
  · subst h16
    simp -implicitDefEqProofs (maxSteps := 2000000) (disch := omega) [-getElem?_pos, a94]
    exact .fin _ ⟨rfl, rfl⟩ (.refl _)
  by_cases h17 : k = 17
  · subst h17
    simp -implicitDefEqProofs (maxSteps := 2000000) (disch := omega) [-getElem?_pos, a94]
    exact .fin _ ⟨rfl, rfl⟩ (.refl _)
  by_cases h18 : k = 18
  · subst h18
    simp -implicitDefEqProofs (maxSteps := 2000000) (disch := omega) [-getElem?_pos, a94]
    exact .fin _ ⟨rfl, rfl⟩ (.refl _)
  by_cases h19 : k = 19
  · subst h19
    simp -implicitDefEqProofs (maxSteps := 2000000) (disch := omega) [-getElem?_pos, a94]
    exact .fin _ ⟨rfl, rfl⟩ (.refl _)
  by_cases h20 : k = 20
  · subst h20
    simp -implicitDefEqProofs (maxSteps := 2000000) (disch := omega) [-getElem?_pos, a94]
    exact .fin _ ⟨rfl, rfl⟩ (.refl _)
  by_cases h21 : k = 21
  · subst h21
    simp -implicitDefEqProofs (maxSteps := 2000000) (disch := omega) [-getElem?_pos, a94]
    exact .fin _ ⟨rfl, rfl⟩ (.refl _)
  by_cases h22 : k = 22
  · subst h22
    simp -implicitDefEqProofs (maxSteps := 2000000) (disch := omega) [-getElem?_pos, a94]
    exact .fin _ ⟨rfl, rfl⟩ (.refl _)
  have hn : formT k = none := form_none (by simp [formsT, h1, h2, h3, h4, h5, h6, h7, h8, h9, h10, h11, h12, h13, h14, h15, h16, h17, h18, h19, h20, h21, h22])
  simp -implicitDefEqProofs (maxSteps := 2000000) (disch := omega) [-getElem?_pos, a94, h1, h2, h3, h4, h5, h6, h7, h8, h9, h10, h11, h12, h13, h14, h15, h16, h17, h18, h19, h20, h21, h22]
  exact .fin (.v (.int .i64 (-1))) ⟨by simp [partsN, hn, h8, h14], rfl⟩ (.refl _)
theorem k_REText {k p n : Int} {s t : Str} {ls ns : List Str} {l : List Ex} {σ : Sg} (hs : s.length ≤ 1048576) : ACalls Tryz.prog 93 [.v (encE (.mk k p n s t ls ns l))] σ fun r σ' => r = .v (.bool (textB k s)) ∧ σ' = σ := by
  have kq := fun σ => k_RQuote (b := s) (σ := σ) hs
  have k1 := fun σ => k_RIs (s := s) (k := 1) (σ := σ) hs (.inl rfl)
  have k3 := fun σ => k_RIs (s := s) (k := 3) (σ := σ) hs (.inr rfl)
  have ko := fun σ => k_ROper (s := s) (σ := σ)
  have hse : List.isEmpty s = decide (s = []) := by cases s <;> simp
  rw [encE_mk]
  refine acalls_fit Tryz.func93 (by kernel_rfl) c93 rfl (by simp [a93]) fun hf => ?_
  clear hf
  by_cases h1 : k = 1
  · subst h1
    simp -implicitDefEqProofs (maxSteps := 2000000) (disch := omega) [-getElem?_pos, a93]
    exact .fin (.v (.bool (List.isEmpty s))) ⟨by rw [hse]; rfl, rfl⟩ (.refl _)
  by_cases h2 : k = 2
  · subst h2
    simp -implicitDefEqProofs (maxSteps := 2000000) (disch := omega) [-getElem?_pos, a93]
    refine (kq _).then fun r hr => ?_
    have hB : textB 2 s = (quoteE s).isSome := rfl
    generalize textB 2 s = B at hB ⊢
    cases hq : qL s [34] with
    | none =>
      rw [hq] at hr
      subst hr
      simp -implicitDefEqProofs (maxSteps := 2000000) (disch := omega) [-getElem?_pos]
      exact .fin (.v (.bool false)) ⟨by rw [hB]; unfold quoteE; split <;> simp [hq], rfl⟩ (.refl _)
    | some z =>
      rw [hq] at hr
      subst hr
      simp -implicitDefEqProofs (maxSteps := 2000000) (disch := omega) [-getElem?_pos]
      exact .fin (.v (.bool (decide (s.length ≤ 2000)))) ⟨by rw [hB]; unfold quoteE; split <;> simp [hq] <;> omega, rfl⟩ (.refl _)
  by_cases h3 : k = 3
  · subst h3
    simp -implicitDefEqProofs (maxSteps := 2000000) (disch := omega) [-getElem?_pos, a93]
    refine (k1 _).then fun r hr => ?_
    subst hr
    simp -implicitDefEqProofs (maxSteps := 2000000) (disch := omega) [-getElem?_pos]
    exact .fin (.v (.bool (isL s 1))) ⟨rfl, rfl⟩ (.refl _)
  by_cases h4 : k = 4
  · subst h4
    simp -implicitDefEqProofs (maxSteps := 2000000) (disch := omega) [-getElem?_pos, a93]
    refine (k1 _).then fun r hr => ?_
    subst hr
    simp -implicitDefEqProofs (maxSteps := 2000000) (disch := omega) [-getElem?_pos]
    exact .fin (.v (.bool (isL s 1))) ⟨rfl, rfl⟩ (.refl _)
  by_cases h5 : k = 5
  · subst h5
    simp -implicitDefEqProofs (maxSteps := 2000000) (disch := omega) [-getElem?_pos, a93]
    exact .fin (.v (.bool (List.isEmpty s))) ⟨by rw [hse]; rfl, rfl⟩ (.refl _)
  by_cases h6 : k = 6
  · subst h6
    simp -implicitDefEqProofs (maxSteps := 2000000) (disch := omega) [-getElem?_pos, a93]
    refine (k1 _).then fun r hr => ?_
    subst hr
    simp -implicitDefEqProofs (maxSteps := 2000000) (disch := omega) [-getElem?_pos]
    exact .fin (.v (.bool (isL s 1))) ⟨rfl, rfl⟩ (.refl _)
  by_cases h7 : k = 7
  · subst h7
    simp -implicitDefEqProofs (maxSteps := 2000000) (disch := omega) [-getElem?_pos, a93]
    refine (k1 _).then fun r hr => ?_
    subst hr
    simp -implicitDefEqProofs (maxSteps := 2000000) (disch := omega) [-getElem?_pos]
    exact .fin (.v (.bool (isL s 1))) ⟨rfl, rfl⟩ (.refl _)
  by_cases h8 : k = 8
  · subst h8
    simp -implicitDefEqProofs (maxSteps := 2000000) (disch := omega) [-getElem?_pos, a93]
    exact .fin (.v (.bool (List.isEmpty s))) ⟨by rw [hse]; rfl, rfl⟩ (.refl _)
  by_cases h9 : k = 9
  · subst h9
    simp -implicitDefEqProofs (maxSteps := 2000000) (disch := omega) [-getElem?_pos, a93]
    refine (k1 _).then fun r hr => ?_
    subst hr
    simp -implicitDefEqProofs (maxSteps := 2000000) (disch := omega) [-getElem?_pos]
    exact .fin (.v (.bool (isL s 1))) ⟨rfl, rfl⟩ (.refl _)
  by_cases h10 : k = 10
  · subst h10
    simp -implicitDefEqProofs (maxSteps := 2000000) (disch := omega) [-getElem?_pos, a93]
    refine (k1 _).then fun r hr => ?_
    subst hr
    simp -implicitDefEqProofs (maxSteps := 2000000) (disch := omega) [-getElem?_pos]
    exact .fin (.v (.bool (isL s 1))) ⟨rfl, rfl⟩ (.refl _)
  by_cases h11 : k = 11
  · subst h11
    simp -implicitDefEqProofs (maxSteps := 2000000) (disch := omega) [-getElem?_pos, a93]
    refine (k1 _).then fun r hr => ?_
    subst hr
    simp -implicitDefEqProofs (maxSteps := 2000000) (disch := omega) [-getElem?_pos]
    exact .fin (.v (.bool (isL s 1))) ⟨rfl, rfl⟩ (.refl _)
  by_cases h12 : k = 12
  · subst h12
    simp -implicitDefEqProofs (maxSteps := 2000000) (disch := omega) [-getElem?_pos, a93]
    refine (k1 _).then fun r hr => ?_
    subst hr
    simp -implicitDefEqProofs (maxSteps := 2000000) (disch := omega) [-getElem?_pos]
    exact .fin (.v (.bool (isL s 1))) ⟨rfl, rfl⟩ (.refl _)
  by_cases h13 : k = 13
  · subst h13
    simp -implicitDefEqProofs (maxSteps := 2000000) (disch := omega) [-getElem?_pos, a93]
    refine (k3 _).then fun r hr => ?_
    subst hr
    simp -implicitDefEqProofs (maxSteps := 2000000) (disch := omega) [-getElem?_pos]
    exact .fin (.v (.bool (isL s 3))) ⟨rfl, rfl⟩ (.refl _)
  by_cases h14 : k = 14
  · subst h14
    simp -implicitDefEqProofs (maxSteps := 2000000) (disch := omega) [-getElem?_pos, a93]
    exact .fin (.v (.bool (List.isEmpty s))) ⟨by rw [hse]; rfl, rfl⟩ (.refl _)
  by_cases h15 : k = 15
  · subst h15
    simp -implicitDefEqProofs (maxSteps := 2000000) (disch := omega) [-getElem?_pos, a93]
    exact .fin (.v (.bool (List.isEmpty s))) ⟨by rw [hse]; rfl, rfl⟩ (.refl _)
  by_cases h16 : k = 16
  · subst h16
    simp -implicitDefEqProofs (maxSteps := 2000000) (disch := omega) [-getElem?_pos, a93]
    refine (ko _).then fun r hr => ?_
    subst hr
    simp -implicitDefEqProofs (maxSteps := 2000000) (disch := omega) [-getElem?_pos]
    exact .fin (.v (.bool (decide (s ∈ opsL)))) ⟨rfl, rfl⟩ (.refl _)
  by_cases h17 : k = 17
  · subst h17
    simp -implicitDefEqProofs (maxSteps := 2000000) (disch := omega) [-getElem?_pos, a93]
    exact .fin (.v (.bool (List.isEmpty s))) ⟨by rw [hse]; rfl, rfl⟩ (.refl _)
  by_cases h18 : k = 18
  · subst h18
    simp -implicitDefEqProofs (maxSteps := 2000000) (disch := omega) [-getElem?_pos, a93]
    exact .fin (.v (.bool (List.isEmpty s))) ⟨by rw [hse]; rfl, rfl⟩ (.refl _)
  by_cases h19 : k = 19
  · subst h19
    simp -implicitDefEqProofs (maxSteps := 2000000) (disch := omega) [-getElem?_pos, a93]
    exact .fin (.v (.bool (List.isEmpty s))) ⟨by rw [hse]; rfl, rfl⟩ (.refl _)
  by_cases h20 : k = 20
  · subst h20
    simp -implicitDefEqProofs (maxSteps := 2000000) (disch := omega) [-getElem?_pos, a93]
    exact .fin (.v (.bool (List.isEmpty s))) ⟨by rw [hse]; rfl, rfl⟩ (.refl _)
  by_cases h21 : k = 21
  · subst h21
    simp -implicitDefEqProofs (maxSteps := 2000000) (disch := omega) [-getElem?_pos, a93]
    exact .fin (.v (.bool (List.isEmpty s))) ⟨by rw [hse]; rfl, rfl⟩ (.refl _)
  by_cases h22 : k = 22
  · subst h22
    simp -implicitDefEqProofs (maxSteps := 2000000) (disch := omega) [-getElem?_pos, a93]
    exact .fin (.v (.bool (List.isEmpty s))) ⟨by rw [hse]; rfl, rfl⟩ (.refl _)
  have hn : formT k = none := form_none (by simp [formsT, h1, h2, h3, h4, h5, h6, h7, h8, h9, h10, h11, h12, h13, h14, h15, h16, h17, h18, h19, h20, h21, h22])
  simp -implicitDefEqProofs (maxSteps := 2000000) (disch := omega) [-getElem?_pos, a93, h1, h2, h3, h4, h5, h6, h7, h8, h9, h10, h11, h12, h13, h14, h15, h16, h17, h18, h19, h20, h21, h22]
  exact .fin (.v (.bool (List.isEmpty s))) ⟨by rw [hse]; unfold textB; rw [if_neg h2, hn], rfl⟩ (.refl _)
theorem nsz_mem {l : List Str} {s : Str} (h : s ∈ l) : s.length + 1 ≤ nsz l := by
  induction l with
  | nil => cases h
  | cons x l ih =>
    simp only [nsz]
    rcases List.mem_cons.1 h with rfl | h
    · omega
    · have := ih h; omega
structure AIn (l : List Str) (k : Int) (i : Nat) : Prop where
  hi : i ≤ l.length
  ha : ∀ (j : Nat) a, j < i → l[j]? = some a → isL a k = true
  hr : ∀ (j : Nat) a b, j + 1 < i → l[j]? = some a → l[j + 1]? = some b → a < b
theorem k_RAll {l : List Str} {k : Int} {σ : Sg} (hk : k = 1 ∨ k = 3) (hs : nsz l ≤ 1048576) : ACalls Tryz.prog 95 [.v (vS l), .v (.int .i64 k)] σ fun r σ' => r = .v (.bool ((l.all fun s => isL s k) && (riseL l && decide (l.length ≤ 30)))) ∧ σ' = σ := by
  have hln := nsz_len l
  refine acalls_fit Tryz.func95 (by kernel_rfl) c95 rfl (by simp [a95]) fun hf => ?_
  clear hf
  simp -implicitDefEqProofs (maxSteps := 2000000) (disch := omega) [-getElem?_pos, a95]
  refine W_loop (α := Nat) 0 (fun i => l.length - i) (fun i => ⟨[(0, .v (vS l)), (1, .v (.int .i64 k)), (5, .v (.int .i64 i))], σ⟩) (fun i => AIn l k i)
    (.eq (by simp)) ⟨Nat.zero_le _, fun j a h => by omega, fun j a b h => by omega⟩ fun i ⟨hi, ha, hr⟩ => ?_
  simp -implicitDefEqProofs (maxSteps := 2000000) (disch := omega) [-getElem?_pos]
  refine .mk (fun h => ?_) fun h => ?_
  · obtain ⟨x, hx⟩ : ∃ x, l[i]? = some x := ⟨l[i], List.getElem?_eq_getElem h⟩
    have hxl := nsz_mem (List.mem_of_getElem? hx)
    simp -implicitDefEqProofs (maxSteps := 2000000) (disch := omega) [-getElem?_pos, hx]
    refine ⟨h, ?_⟩
    refine (k_RIs (by omega) hk).then fun r hr1 => ?_
    subst hr1
    cases hI : isL x k with
    | false =>
      simp -implicitDefEqProofs (maxSteps := 2000000) (disch := omega) [-getElem?_pos, hx]
      have hB : (l.all fun s => isL s k) = false := by
        cases hb : l.all fun s => isL s k with
        | false => rfl
        | true =>
          have h2 := List.all_eq_true.1 hb x (List.mem_of_getElem? hx)
          rw [hI] at h2
          cases h2
      exact .fin (.v (.bool false)) ⟨by rw [hB]; rfl, rfl⟩ (.refl _)
    | true =>
      have ha' : ∀ (j : Nat) a, j < i + 1 → l[j]? = some a → isL a k = true := fun j a hj hja => by
        by_cases hji : j < i
        · exact ha j a hji hja
        · have : j = i := by omega
          subst this
          rw [hx] at hja
          cases hja
          exact hI
      simp -implicitDefEqProofs (maxSteps := 2000000) (disch := omega) [-getElem?_pos, hx]
      refine .mk (fun h0 => ?_) fun h0 => ?_
      · obtain ⟨y, hy⟩ : ∃ y, l[i - 1]? = some y := ⟨l[i - 1], List.getElem?_eq_getElem (by omega)⟩
        have ei : ((i : Int) - 1).toNat = i - 1 := by omega
        simp -implicitDefEqProofs (maxSteps := 2000000) (disch := omega) [-getElem?_pos, hx, ei, hy]
        refine ⟨by omega, by omega, by omega, ?_⟩
        simp -implicitDefEqProofs (maxSteps := 2000000) (disch := omega) [-getElem?_pos, hx, less_eq]
        refine .mk (fun hq => ?_) fun hq => ?_
        · simp -implicitDefEqProofs (maxSteps := 2000000) (disch := omega) [-getElem?_pos]
          refine ⟨i + 1, ⟨by omega, ha', fun j a b hj hja hjb => ?_⟩, by dsimp only; omega, .eq (by simp)⟩
          by_cases hji : j + 1 < i
          · exact hr j a b hji hja hjb
          · have : j = i - 1 := by omega
            subst this
            rw [hy] at hja
            rw [show i - 1 + 1 = i by omega, hx] at hjb
            cases hja
            cases hjb
            exact hq
        · simp -implicitDefEqProofs (maxSteps := 2000000) (disch := omega) [-getElem?_pos]
          have hR : riseL l = false := by
            cases hb : riseL l with
            | false => rfl
            | true => exact absurd ((riseL_iff l).1 hb (i - 1) y x hy (by rw [show i - 1 + 1 = i by omega]; exact hx)) hq
          exact .fin (.v (.bool false)) ⟨by rw [hR]; simp, rfl⟩ (.refl _)
      · simp -implicitDefEqProofs (maxSteps := 2000000) (disch := omega) [-getElem?_pos, hx]
        exact ⟨i + 1, ⟨by omega, ha', fun j a b hj => by omega⟩, by dsimp only; omega, .eq (by simp)⟩
  · simp -implicitDefEqProofs (maxSteps := 2000000) (disch := omega) [-getElem?_pos]
    have hR : riseL l = true := (riseL_iff l).2 fun j a b hja hjb => hr j a b (by have := (List.getElem?_eq_some_iff.1 hjb).1; omega) hja hjb
    have hA : (l.all fun s => isL s k) = true := List.all_eq_true.2 fun s hs => by
      obtain ⟨j, hj⟩ := List.mem_iff_getElem?.1 hs
      exact ha j s (by have := (List.getElem?_eq_some_iff.1 hj).1; omega) hj
    refine .fin _ ⟨?_, rfl⟩ (.refl _)
    rw [hR, hA, Bool.true_and, Bool.true_and]
    congr 2
    simp
    omega
structure MSt2 where
  i : Nat
  m : Bool
theorem k_ROwn {e : Ex} {σ : Sg} (he : csz e ≤ 1048576) : ACalls Tryz.prog 60 [.v (encE e)] σ fun r σ' => r = .v (.bool (ownB e)) ∧ σ' = σ := by
  cases e with
  | mk k p n s t ls ns l =>
  have hB : ownB (.mk k p n s t ls ns l) = if (l.length : Int) ≠ partsN k ls.length (decide (t ≠ [])) ∨ n < 0 ∨ (0 < n ∧ k ≠ 1) ∨ textB k s = false then false
    else if k = 8 then (ls.all fun s => isL s 1) && (riseL ls && decide (ls.length ≤ 30)) && decide (ns.length = 0) && decide (t = [])
    else if k = 14 then (ls.all fun s => isL s 3) && (riseL ls && decide (ls.length ≤ 30)) && decide (ns.length = ls.length) && (ns.all fun s => isL s 1) && (decide (t = []) || isL t 1) && decide (1 < l.length)
    else if k = 7 then isL t 1 && decide (ls.length + ns.length = 0)
    else decide (t = []) && decide (ls.length + ns.length = 0) := rfl
  simp only [csz] at he
  have hn1 := nsz_len ls
  have hn2 := nsz_len ns
  have hll := cszL_len l
  generalize ownB (.mk k p n s t ls ns l) = B at hB ⊢
  have kp := fun o σ => k_RParts (k := k) (labels := ls.length) (o := o) (σ := σ) (by omega) (by omega)
  have kt := fun σ => k_REText (k := k) (p := p) (n := n) (s := s) (t := t) (ls := ls) (ns := ns) (l := l) (σ := σ) (by omega)
  have ka1 := fun σ => k_RAll (l := ls) (k := 1) (σ := σ) (.inl rfl) (by omega)
  have ka3 := fun σ => k_RAll (l := ls) (k := 3) (σ := σ) (.inr rfl) (by omega)
  have ki := fun σ => k_RIs (s := t) (k := 1) (σ := σ) (by omega) (.inl rfl)
  rw [encE_mk] at kt ⊢
  have hte : (!List.isEmpty t) = decide (t ≠ []) := by cases t <;> simp
  have hte2 : List.isEmpty t = decide (t = []) := by cases t <;> simp
  refine acalls_fit Tryz.func60 (by kernel_rfl) c60 rfl (by simp [a60]) fun hf => ?_
  clear hf
  rw [← hte] at hB
  simp -implicitDefEqProofs (maxSteps := 2000000) (disch := omega) [-getElem?_pos, a60]
  refine (kt _).then fun r hr => ?_
  subst hr
  simp -implicitDefEqProofs (maxSteps := 2000000) (disch := omega) [-getElem?_pos]
  refine (kp _ _).then fun r hr => ?_
  subst hr
  obtain ⟨P, hP⟩ : ∃ P, P = partsN k ls.length (!List.isEmpty t) := ⟨_, rfl⟩
  rw [← hP] at hB ⊢
  by_cases h1 : (l.length : Int) = P
  rotate_left
  · rw [if_pos (.inl h1)] at hB
    simp -implicitDefEqProofs (maxSteps := 2000000) (disch := omega) [-getElem?_pos, h1]
    exact .fin (.v (.bool false)) ⟨by rw [hB], rfl⟩ (.refl _)
  by_cases h2 : n < 0
  · rw [if_pos (.inr (.inl h2))] at hB
    simp -implicitDefEqProofs (maxSteps := 2000000) (disch := omega) [-getElem?_pos, h1, h2]
    exact .fin (.v (.bool false)) ⟨by rw [hB], rfl⟩ (.refl _)
  by_cases h3 : 0 < n
  · have h30 : ¬ n = 0 := by omega
    by_cases h4 : k = 1
    rotate_left
    · rw [if_pos (.inr (.inr (.inl ⟨h3, h4⟩)))] at hB
      simp -implicitDefEqProofs (maxSteps := 2000000) (disch := omega) [-getElem?_pos, h1, h2, h30, h4]
      exact .fin (.v (.bool false)) ⟨by rw [hB], rfl⟩ (.refl _)
    subst h4
    cases hT : textB 1 s with
    | false =>
      rw [if_pos (.inr (.inr (.inr hT)))] at hB
      simp -implicitDefEqProofs (maxSteps := 2000000) (disch := omega) [-getElem?_pos, h1, h2, h30, hT]
      exact .fin (.v (.bool false)) ⟨by rw [hB], rfl⟩ (.refl _)
    | true =>
      rw [if_neg (by simp [h1, h2, hT]), if_neg (by decide), if_neg (by decide), if_neg (by decide)] at hB
      simp -implicitDefEqProofs (maxSteps := 2000000) (disch := omega) [-getElem?_pos, h1, h2, h30, hT]
      refine .mk (fun hl0 => ?_) fun hl0 => ?_
      rotate_left
      · simp -implicitDefEqProofs (maxSteps := 2000000) (disch := omega) [-getElem?_pos, hl0]
        exact .fin (.v (.bool false)) ⟨by rw [hB]; have : ¬ ls.length = 0 := fun h => hl0 (List.length_eq_zero_iff.1 h); simp [hl0], rfl⟩ (.refl _)
      subst hl0
      by_cases hn0 : ns = []
      rotate_left
      · have hp : 0 < ns.length := List.length_pos_iff.2 hn0
        simp -implicitDefEqProofs (maxSteps := 2000000) (disch := omega) [-getElem?_pos, hn0, hp]
        exact .fin (.v (.bool false)) ⟨by rw [hB]; simp [hn0], rfl⟩ (.refl _)
      subst hn0
      simp -implicitDefEqProofs (maxSteps := 2000000) (disch := omega) [-getElem?_pos]
      exact .fin (.v (.bool (List.isEmpty t))) ⟨by rw [hB, hte2]; simp, rfl⟩ (.refl _)
  · have h30 : n = 0 := by omega
    subst h30
    cases hT : textB k s with
    | false =>
      rw [if_pos (.inr (.inr (.inr hT)))] at hB
      simp -implicitDefEqProofs (maxSteps := 2000000) (disch := omega) [-getElem?_pos, h1, hT]
      exact .fin (.v (.bool false)) ⟨by rw [hB], rfl⟩ (.refl _)
    | true =>
      rw [if_neg (by simp [h1, hT])] at hB
      by_cases h8 : k = 8
      · rw [if_pos h8] at hB
        subst h8
        simp -implicitDefEqProofs (maxSteps := 2000000) (disch := omega) [-getElem?_pos, h1, hT]
        refine (ka1 _).then fun r hr => ?_
        subst hr
        cases hX : (ls.all fun s => isL s 1) && (riseL ls && decide (ls.length ≤ 30)) with
        | false =>
          rw [hX] at hB
          simp -implicitDefEqProofs (maxSteps := 2000000) (disch := omega) [-getElem?_pos]
          exact .fin (.v (.bool false)) ⟨by rw [hB]; simp, rfl⟩ (.refl _)
        | true =>
          rw [hX] at hB
          simp -implicitDefEqProofs (maxSteps := 2000000) (disch := omega) [-getElem?_pos]
          refine .mk (fun hn0 => ?_) fun hn0 => ?_
          · simp -implicitDefEqProofs (maxSteps := 2000000) (disch := omega) [-getElem?_pos, hn0]
            exact .fin (.v (.bool (List.isEmpty t))) ⟨by rw [hB, hte2]; simp [hn0], rfl⟩ (.refl _)
          · simp -implicitDefEqProofs (maxSteps := 2000000) (disch := omega) [-getElem?_pos, hn0]
            exact .fin (.v (.bool false)) ⟨by rw [hB]; simp [hn0], rfl⟩ (.refl _)
      rw [if_neg h8] at hB
      by_cases h14 : k = 14
      · rw [if_pos h14] at hB
        subst h14
        simp -implicitDefEqProofs (maxSteps := 2000000) (disch := omega) [-getElem?_pos, h1, hT]
        refine W_loop (α := Nat) 0 (fun i => ns.length - i) (fun i => ⟨[(1, .ptr σ.objs.length 0), (4, .v (.int .i64 i))], ⟨σ.objs ++ [obE (.mk 14 p 0 s t ls ns l)], σ.toks⟩⟩) (fun i => i ≤ ns.length ∧ ∀ (j : Nat) a, j < i → ns[j]? = some a → isL a 1 = true) (.eq2 (by simp [obE_mk]) (by simp)) ⟨Nat.zero_le _, fun j a h => by omega⟩ fun i ⟨hi, ha⟩ => ?_
        simp -implicitDefEqProofs (maxSteps := 2000000) (disch := omega) [-getElem?_pos, obE_mk]
        refine .mk (fun h => ?_) fun h => ?_
        · obtain ⟨x, hx⟩ : ∃ x, ns[i]? = some x := ⟨ns[i], List.getElem?_eq_getElem h⟩
          have hxl := nsz_mem (List.mem_of_getElem? hx)
          simp -implicitDefEqProofs (maxSteps := 2000000) (disch := omega) [-getElem?_pos, hx, obE_mk]
          refine ⟨h, ?_⟩
          refine (k_RIs (by omega) (.inl rfl)).then fun r hr1 => ?_
          subst hr1
          cases hI : isL x 1 with
          | false =>
            have hA : (ns.all fun s => isL s 1) = false := by
              cases hb : ns.all fun s => isL s 1 with
              | false => rfl
              | true =>
                have h2 := List.all_eq_true.1 hb x (List.mem_of_getElem? hx)
                rw [hI] at h2
                cases h2
            rw [hA] at hB
            simp -implicitDefEqProofs (maxSteps := 2000000) (disch := omega) [-getElem?_pos]
            exact .fin (.v (.bool false)) ⟨by rw [hB]; simp, rfl⟩ (.refl _)
          | true =>
            simp -implicitDefEqProofs (maxSteps := 2000000) (disch := omega) [-getElem?_pos]
            refine ⟨i + 1, ⟨h, fun j a hj hja => ?_⟩, by dsimp only; omega, .eq2 (by simp [obE_mk]) (by simp)⟩
            by_cases hji : j < i
            · exact ha j a hji hja
            · have : j = i := by omega
              subst this
              rw [hx] at hja
              cases hja
              exact hI
        · have hA : (ns.all fun s => isL s 1) = true := List.all_eq_true.2 fun s hs => by
            obtain ⟨j, hj⟩ := List.mem_iff_getElem?.1 hs
            exact ha j s (by have := (List.getElem?_eq_some_iff.1 hj).1; omega) hj
          rw [hA] at hB
          simp -implicitDefEqProofs (maxSteps := 2000000) (disch := omega) [-getElem?_pos, obE_mk]
          refine (ka3 _).then fun r hr => ?_
          subst hr
          cases hX : (ls.all fun s => isL s 3) && (riseL ls && decide (ls.length ≤ 30)) with
          | false =>
            rw [hX] at hB
            simp -implicitDefEqProofs (maxSteps := 2000000) (disch := omega) [-getElem?_pos]
            exact .fin (.v (.bool false)) ⟨by rw [hB]; simp, rfl⟩ (.refl _)
          | true =>
            rw [hX] at hB
            simp -implicitDefEqProofs (maxSteps := 2000000) (disch := omega) [-getElem?_pos]
            refine .mk (fun he1 => ?_) fun he1 => ?_
            rotate_left
            · simp -implicitDefEqProofs (maxSteps := 2000000) (disch := omega) [-getElem?_pos, he1]
              exact .fin (.v (.bool false)) ⟨by rw [hB]; have : ¬ ns.length = ls.length := fun h => he1 (by rw [h]); simp [this], rfl⟩ (.refl _)
            have he2 : ns.length = ls.length := by omega
            simp -implicitDefEqProofs (maxSteps := 2000000) (disch := omega) [-getElem?_pos, he1]
            refine .mk (fun hl1 => ?_) fun hl1 => ?_
            rotate_left
            · simp -implicitDefEqProofs (maxSteps := 2000000) (disch := omega) [-getElem?_pos, hl1]
              exact .fin (.v (.bool false)) ⟨by rw [hB, decide_eq_false (by omega : ¬ 1 < l.length)]; simp, rfl⟩ (.refl _)
            simp -implicitDefEqProofs (maxSteps := 2000000) (disch := omega) [-getElem?_pos, hl1]
            refine .mk (fun ht => ?_) fun ht => ?_
            · simp -implicitDefEqProofs (maxSteps := 2000000) (disch := omega) [-getElem?_pos, ht]
              exact .fin (.v (.bool true)) ⟨by rw [hB, decide_eq_true (by omega : 1 < l.length)]; simp [ht, he2], rfl⟩ (.refl _)
            · simp -implicitDefEqProofs (maxSteps := 2000000) (disch := omega) [-getElem?_pos, ht]
              refine (ki _).then fun r hr => ?_
              subst hr
              simp -implicitDefEqProofs (maxSteps := 2000000) (disch := omega) [-getElem?_pos]
              exact .fin (.v (.bool (isL t 1))) ⟨by rw [hB, decide_eq_true (by omega : 1 < l.length)]; simp [ht, he2], rfl⟩ (.refl _)
      rw [if_neg h14] at hB
      by_cases h7 : k = 7
      · rw [if_pos h7] at hB
        subst h7
        simp -implicitDefEqProofs (maxSteps := 2000000) (disch := omega) [-getElem?_pos, h1, hT]
        refine .mk (fun hl0 => ?_) fun hl0 => ?_
        rotate_left
        · simp -implicitDefEqProofs (maxSteps := 2000000) (disch := omega) [-getElem?_pos, hl0]
          exact .fin (.v (.bool false)) ⟨by rw [hB]; have : ¬ ls.length = 0 := fun h => hl0 (List.length_eq_zero_iff.1 h); simp [hl0], rfl⟩ (.refl _)
        subst hl0
        by_cases hn0 : ns = []
        rotate_left
        · have hp : 0 < ns.length := List.length_pos_iff.2 hn0
          simp -implicitDefEqProofs (maxSteps := 2000000) (disch := omega) [-getElem?_pos, hn0, hp]
          exact .fin (.v (.bool false)) ⟨by rw [hB]; simp [hn0], rfl⟩ (.refl _)
        subst hn0
        simp -implicitDefEqProofs (maxSteps := 2000000) (disch := omega) [-getElem?_pos]
        refine (ki _).then fun r hr => ?_
        subst hr
        simp -implicitDefEqProofs (maxSteps := 2000000) (disch := omega) [-getElem?_pos]
        exact .fin (.v (.bool (isL t 1))) ⟨by rw [hB]; simp, rfl⟩ (.refl _)
      rw [if_neg h7] at hB
      simp -implicitDefEqProofs (maxSteps := 2000000) (disch := omega) [-getElem?_pos, h1, hT, h8, h14]
      refine .mk (fun hl0 => ?_) fun hl0 => ?_
      rotate_left
      · simp -implicitDefEqProofs (maxSteps := 2000000) (disch := omega) [-getElem?_pos, hl0]
        exact .fin (.v (.bool false)) ⟨by rw [hB]; have : ¬ ls.length = 0 := fun h => hl0 (List.length_eq_zero_iff.1 h); simp [hl0], rfl⟩ (.refl _)
      subst hl0
      by_cases hn0 : ns = []
      rotate_left
      · have hp : 0 < ns.length := List.length_pos_iff.2 hn0
        simp -implicitDefEqProofs (maxSteps := 2000000) (disch := omega) [-getElem?_pos, hn0, hp]
        exact .fin (.v (.bool false)) ⟨by rw [hB]; simp [hn0], rfl⟩ (.refl _)
      subst hn0
      simp -implicitDefEqProofs (maxSteps := 2000000) (disch := omega) [-getElem?_pos, h7]
      exact .fin (.v (.bool (List.isEmpty t))) ⟨by rw [hB, hte2]; simp, rfl⟩ (.refl _)
theorem k_RFine (e : Ex) : ∀ {σ : Sg}, csz e ≤ 1048576 → ACalls Tryz.prog 34 [.v (encE e)] σ fun r σ' => r = .v (.bool (fineB e)) ∧ σ' = σ := by
  refine Ex.ind (P := fun e => ∀ {σ : Sg}, csz e ≤ 1048576 → ACalls Tryz.prog 34 [.v (encE e)] σ fun r σ' => r = .v (.bool (fineB e)) ∧ σ' = σ) (fun k p n s t ls ns l ih => ?_) e
  intro σ he
  have ko := fun σ => k_ROwn (e := .mk k p n s t ls ns l) (σ := σ) he
  have hB : fineB (.mk k p n s t ls ns l) = (ownB (.mk k p n s t ls ns l) && fineLB l) := by rw [fineB]
  generalize fineB (.mk k p n s t ls ns l) = B at hB ⊢
  generalize ownB (.mk k p n s t ls ns l) = O at hB ko
  have hsz : ∀ x ∈ l, csz x ≤ 1048576 := fun x hx => by
    have := cszL_mem hx
    simp only [csz] at he
    omega
  have hll : l.length ≤ 1048576 := by
    have := cszL_len l
    simp only [csz] at he
    omega
  rw [encE_mk] at ko ⊢
  refine acalls_fit Tryz.func34 (by kernel_rfl) c34 rfl (by simp [a34]) fun hf => ?_
  clear hf
  simp -implicitDefEqProofs (maxSteps := 2000000) (disch := omega) [-getElem?_pos, a34]
  refine (ko _).then fun r hr => ?_
  subst hr
  simp -implicitDefEqProofs (maxSteps := 2000000) (disch := omega) [-getElem?_pos]
  refine W_loop (α := MSt2) ⟨0, O⟩ (fun z => l.length - z.i) (fun z => ⟨[(1, .ptr σ.objs.length 0), (3, .v (.bool z.m)), (4, .v (.int .i64 z.i))], ⟨σ.objs ++ [obE (.mk k p n s t ls ns l)], σ.toks⟩⟩) (fun z => z.i ≤ l.length ∧ B = (z.m && fineLB (l.drop z.i))) (.eq2 (by simp [obE_mk]) (by simp)) ⟨Nat.zero_le _, by simpa using hB⟩ fun ⟨i, m⟩ ⟨hi, hm⟩ => ?_
  dsimp only at hi hm ⊢
  simp -implicitDefEqProofs (maxSteps := 2000000) (disch := omega) [-getElem?_pos, obE_mk]
  refine .mk (fun h => ?_) fun h => ?_
  · obtain ⟨x, hx⟩ : ∃ x, l[i]? = some x := ⟨l[i], List.getElem?_eq_getElem h⟩
    rw [drop_cons hx, fineLB] at hm
    cases m with
    | false =>
      simp -implicitDefEqProofs (maxSteps := 2000000) (disch := omega) [-getElem?_pos, obE_mk]
      exact .fin (.v (.bool false)) ⟨by rw [hm]; rfl, rfl⟩ (.refl _)
    | true =>
      simp -implicitDefEqProofs (maxSteps := 2000000) (disch := omega) [-getElem?_pos, hx, obE_mk]
      refine ⟨h, ?_⟩
      refine (ih x (List.mem_of_getElem? hx) (hsz x (List.mem_of_getElem? hx))).then fun r hr => ?_
      subst hr
      simp -implicitDefEqProofs (maxSteps := 2000000) (disch := omega) [-getElem?_pos]
      exact ⟨⟨i + 1, fineB x⟩, ⟨h, by rw [hm]; simp⟩, by dsimp only; omega, .eq2 (by simp [obE_mk]) (by simp)⟩
  · rw [List.drop_eq_nil_of_le (by omega)] at hm
    simp -implicitDefEqProofs (maxSteps := 2000000) (disch := omega) [-getElem?_pos]
    exact .fin (.v (.bool m)) ⟨by rw [hm]; simp [fineLB], rfl⟩ (.refl _)
theorem k_RMay {e : Ex} {σ : Sg} (he : csz e ≤ 1048576) : ACalls Tryz.prog 11 [.v (encE e)] σ fun r σ' => r = .v (.bool (mayB e)) ∧ σ' = σ := by
  have kd := fun σ => k_RDepth e (σ := σ) he
  have kn := fun σ => k_RNodes e (σ := σ) he
  have kf := fun σ => k_RFine e (σ := σ) he
  have hB : mayB e = (decide (dep e ≤ 60) && (decide (nds e ≤ 1500) && fineB e)) := rfl
  generalize mayB e = B at hB ⊢
  generalize fineB e = F at hB kf
  generalize dep e = d at hB kd
  generalize nds e = m at hB kn
  cases e with
  | mk k p n s t ls ns l =>
  rw [encE_mk] at kd kn kf ⊢
  refine acalls_fit Tryz.func11 (by kernel_rfl) c11 rfl (by simp [a11]) fun hf => ?_
  clear hf
  simp -implicitDefEqProofs (maxSteps := 2000000) (disch := omega) [-getElem?_pos, a11]
  refine (kd _).then fun r hr => ?_
  subst hr
  simp -implicitDefEqProofs (maxSteps := 2000000) (disch := omega) [-getElem?_pos]
  refine .mk (fun h1 => ?_) fun h1 => ?_
  rotate_left
  · simp -implicitDefEqProofs (maxSteps := 2000000) (disch := omega) [-getElem?_pos]
    exact .fin (.v (.bool false)) ⟨by rw [hB]; simp; intros; omega, rfl⟩ (.refl _)
  simp -implicitDefEqProofs (maxSteps := 2000000) (disch := omega) [-getElem?_pos]
  refine (kn _).then fun r hr => ?_
  subst hr
  simp -implicitDefEqProofs (maxSteps := 2000000) (disch := omega) [-getElem?_pos]
  refine .mk (fun h2 => ?_) fun h2 => ?_
  rotate_left
  · simp -implicitDefEqProofs (maxSteps := 2000000) (disch := omega) [-getElem?_pos]
    exact .fin (.v (.bool false)) ⟨by rw [hB]; simp; intros; omega, rfl⟩ (.refl _)
  simp -implicitDefEqProofs (maxSteps := 2000000) (disch := omega) [-getElem?_pos]
  refine (kf _).then fun r hr => ?_
  subst hr
  simp -implicitDefEqProofs (maxSteps := 2000000) (disch := omega) [-getElem?_pos]
  exact .fin (.v (.bool F)) ⟨by rw [hB, decide_eq_true (by omega : d ≤ 60), decide_eq_true (by omega : m ≤ 1500)]; simp, rfl⟩ (.refl _)
end Go.Proofs.YtpdeaekmgljeaaaGreatDoor
namespace Go.Proofs.YtpdeaekmgljeaaaGreatDoor
open Go.Shelf
end Go.Proofs.YtpdeaekmgljeaaaGreatDoor
namespace Go.Proofs.YtpdeaekmgljeaaaGreatDoor
open Go Go.Abs Go.RowKit
theorem grown_inv {σ : Sg} {m : Gh} {w : World} (h : Go.Abs.Inv σ m w) (k : Nat) (os : Array Obj) : Go.Abs.Inv σ m (Go.Sort.grow (w.drewN k) os) ∧ Ext m w m (Go.Sort.grow (w.drewN k) os) := by
  have hb : ∀ c, c < w.heap.size → (Go.Sort.grow (w.drewN k) os).heap[c]? = w.heap[c]? := fun c hc => Array.getElem?_append_left hc
  have e : Ext m w m (Go.Sort.grow (w.drewN k) os) :=
    ⟨rfl, rfl, rfl, by show w.heap.size ≤ (w.heap ++ os).size; simp, fun _ _ h => .inl h, fun _ tk h => ⟨tk, h, rfl, Nat.le_refl _, fun _ => rfl⟩, fun c off f => ⟨cell?_of_heap (hb c f.1), f.2⟩, fun c hc hn => ⟨hb c hc, hn⟩⟩
  refine ⟨⟨h.lobj, h.ltok, h.nodup, fun o ob c ho hc => (h.ob o ob c ho hc).mono e (hb c (h.lt_obj (Gh.mem_objb.2 (List.mem_of_getElem? hc)))), h.gone, fun tk htk => ?_, h.glob.mono e⟩, e⟩
  obtain ⟨h1, h2, h3, h4⟩ := h.tk tk htk
  refine ⟨h1, h2, h3, fun c hc => ?_⟩
  obtain ⟨us, ty, h5, h6⟩ := h4 c hc
  exact ⟨us, ty, (hb c (Array.getElem?_eq_some_iff.1 h5).1).trans h5, h6⟩
theorem tab_is {σ : Sg} {m : Gh} {w : World} (h : Inv σ m w) : Lib.TabIs Tryz.prog w "internal/strconv.uint64pow10" .u64 Lib.pow10Tab := by
  obtain ⟨⟨cs, ty, fr, hh, rfl⟩, _⟩ := h.glob _ (List.mem_cons_of_mem _ List.mem_cons_self)
  unfold Lib.TabIs World.var?
  rw [show Tryz.prog.globalNamed "internal/strconv.uint64pow10" = some 1 by kernel_rfl]
  simp only [Option.bind_some]
  rw [hh]
  rfl
end Go.Proofs.YtpdeaekmgljeaaaGreatDoor
namespace Go.Proofs.YtpdeaekmgljeaaaGreatDoor
open Go Go.Abs
def a4 : AFun := ⟨86,[.tmp 2],(.seq (.reg [1,2] [⟨some 1,none,.box (.t 0)⟩,⟨some 2,none,.mv (.c (.bool false))⟩]) (.seq (.reg [3] [⟨some 14,none,.call (.c (.fn 13)) []⟩,⟨some 3,none,.mv (.t 14)⟩]) (.seq (.reg [4] [⟨some 15,none,.load (some 8) (.t 1)⟩,⟨some 16,none,.call (.c (.fn 9)) [.t 15]⟩,⟨some 4,none,.mv (.t 16)⟩]) (.seq (.seq (.reg [18] [⟨some 17,none,.mv (.t 4)⟩,⟨some 18,none,.un .not (.t 17)⟩]) (.cond (.t 18) (.seq (.reg [2] [⟨some 19,none,.mv (.t 3)⟩,⟨some 2,none,.mv (.t 19)⟩]) .ret) .skip)) (.seq (.reg [5,6] [⟨some 21,none,.load (some 8) (.t 1)⟩,⟨some 22,none,.call (.c (.fn 14)) [.t 21]⟩,⟨some 20,none,.mv (.t 22)⟩,⟨some 23,none,.extract (.t 20) 0⟩,⟨some 24,none,.extract (.t 20) 1⟩,⟨some 5,none,.mv (.t 23)⟩,⟨some 6,none,.mv (.t 24)⟩]) (.seq (.reg [7,8] [⟨some 26,none,.load (some 8) (.t 1)⟩,⟨some 27,none,.call (.c (.fn 16)) [.t 26]⟩,⟨some 28,none,.call (.c (.fn 15)) [.t 27]⟩,⟨some 25,none,.mv (.t 28)⟩,⟨some 29,none,.extract (.t 25) 0⟩,⟨some 30,none,.extract (.t 25) 1⟩,⟨some 7,none,.mv (.t 29)⟩,⟨some 8,none,.mv (.t 30)⟩]) (.seq (.seq (.reg [38] [⟨some 31,none,.mv (.t 7)⟩,⟨some 32,none,.mv (.t 5)⟩,⟨some 33,none,.bin .neq .other false (.t 31) (.t 32)⟩,⟨some 34,none,.mv (.t 33)⟩,⟨some 35,some (34,false),.mv (.t 8)⟩,⟨some 36,some (34,false),.mv (.t 6)⟩,⟨some 37,some (34,false),.bin .neq .other false (.t 35) (.t 36)⟩,⟨some 38,none,.pick (.t 34) (.c (.bool true)) (.t 37)⟩]) (.cond (.t 38) (.seq (.reg [2] [⟨some 2,none,.mv (.c (.bool false))⟩]) .ret) .skip)) (.seq (.reg [9,10,11] [⟨some 40,none,.load (some 8) (.t 1)⟩,⟨some 41,none,.call (.c (.fn 17)) [.t 40]⟩,⟨some 39,none,.mv (.t 41)⟩,⟨some 42,none,.extract (.t 39) 0⟩,⟨some 43,none,.extract (.t 39) 1⟩,⟨some 44,none,.extract (.t 39) 2⟩,⟨some 9,none,.alloc [.int .i64 0,.int .i64 0,.int .i64 0,.str [],.str [],.snil,.snil,.snil]⟩,⟨none,none,.store 8 (.t 9) (.t 42)⟩,⟨some 10,none,.mv (.t 43)⟩,⟨some 11,none,.mv (.t 44)⟩]) (.seq (.seq (.reg [46] [⟨some 45,none,.mv (.t 5)⟩,⟨some 46,none,.bin .eql .other true (.t 45) (.c (.int .i64 1))⟩]) (.cond (.t 46) (.seq (.reg [2] [⟨some 47,none,.mv (.t 3)⟩,⟨some 48,none,.mv (.t 47)⟩,⟨some 49,some (48,true),.mv (.t 11)⟩,⟨some 50,some (48,true),.mkif 32 (.c (.int .i64 1))⟩,⟨some 51,some (48,true),.bin .eql .ifc false (.t 49) (.t 50)⟩,⟨some 52,none,.pick (.t 48) (.t 51) (.c (.bool false))⟩,⟨some 53,none,.mv (.t 52)⟩,⟨some 54,some (53,true),.mv (.t 10)⟩,⟨some 55,some (53,true),.len .sl (.t 54)⟩,⟨some 56,some (53,true),.bin .eql .other true (.t 55) (.c (.int .i64 0))⟩,⟨some 57,none,.pick (.t 53) (.t 56) (.c (.bool false))⟩,⟨some 2,none,.mv (.t 57)⟩]) .ret) .skip)) (.seq (.reg [12] [⟨some 58,none,.build [.snil,.int .i64 0,.bool false] []⟩,⟨some 59,none,.box (.t 58)⟩,⟨some 12,none,.mv (.t 59)⟩]) (.seq (.reg [13] [⟨some 60,none,.mv (.t 12)⟩,⟨some 61,none,.load (some 8) (.t 1)⟩,⟨some 62,none,.call (.c (.fn 18)) [.t 60,.t 61,.c .snil]⟩,⟨some 13,none,.alloc [.int .i64 0,.int .i64 0,.int .i64 0,.str [],.str [],.snil,.snil,.snil]⟩,⟨none,none,.store 8 (.t 13) (.t 62)⟩]) (.seq (.reg [2] [⟨some 63,none,.mv (.t 3)⟩,⟨some 64,none,.mv (.t 63)⟩,⟨some 65,some (64,true),.mv (.t 11)⟩,⟨some 66,some (64,true),.bin .eql .ifc true (.t 65) (.c .inil)⟩,⟨some 67,none,.pick (.t 64) (.t 66) (.c (.bool false))⟩,⟨some 68,none,.mv (.t 67)⟩,⟨some 69,some (68,true),.load (some 8) (.t 9)⟩,⟨some 70,some (68,true),.load (some 8) (.t 13)⟩,⟨some 71,some (68,true),.call (.c (.fn 19)) [.t 69,.t 70]⟩,⟨some 72,none,.pick (.t 68) (.t 71) (.c (.bool false))⟩,⟨some 73,none,.mv (.t 72)⟩,⟨some 74,some (73,true),.load (some 8) (.t 9)⟩,⟨some 75,some (73,true),.load (some 8) (.t 13)⟩,⟨some 76,some (73,true),.call (.c (.fn 20)) [.t 74,.t 75]⟩,⟨some 77,none,.pick (.t 73) (.t 76) (.c (.bool false))⟩,⟨some 78,none,.mv (.t 77)⟩,⟨some 79,some (78,true),.mv (.t 10)⟩,⟨some 80,some (78,true),.mv (.t 12)⟩,⟨some 81,some (78,true),.nilck (.t 80)⟩,⟨some 82,some (78,true),.faddr 0 (.t 81)⟩,⟨some 83,some (78,true),.load none (.t 82)⟩,⟨some 84,some (78,true),.call (.c (.fn 21)) [.t 79,.t 83]⟩,⟨some 85,none,.pick (.t 78) (.t 84) (.c (.bool false))⟩,⟨some 2,none,.mv (.t 85)⟩]) .ret))))))))))))⟩
theorem c4 : compF Tryz.prog [0, 1, 2, 3, 4, 5, 6, 7, 8, 9, 10, 11, 12, 13, 18, 38, 46] Tryz.f4 = some a4 := by kernel_rfl
def a6 : AFun := ⟨101,[.tmp 2],(.seq (.reg [1,2] [⟨some 1,none,.box (.t 0)⟩,⟨some 2,none,.mv (.c (.bool false))⟩]) (.seq (.reg [3] [⟨some 15,none,.call (.c (.fn 13)) []⟩,⟨some 3,none,.mv (.t 15)⟩]) (.seq (.reg [4] [⟨some 16,none,.load (some 8) (.t 1)⟩,⟨some 17,none,.call (.c (.fn 9)) [.t 16]⟩,⟨some 4,none,.mv (.t 17)⟩]) (.seq (.seq (.reg [19] [⟨some 18,none,.mv (.t 4)⟩,⟨some 19,none,.un .not (.t 18)⟩]) (.cond (.t 19) (.seq (.reg [2] [⟨some 20,none,.mv (.t 3)⟩,⟨some 2,none,.mv (.t 20)⟩]) .ret) .skip)) (.seq (.reg [5,6,7] [⟨some 22,none,.load (some 8) (.t 1)⟩,⟨some 23,none,.call (.c (.fn 17)) [.t 22]⟩,⟨some 21,none,.mv (.t 23)⟩,⟨some 24,none,.extract (.t 21) 0⟩,⟨some 25,none,.extract (.t 21) 1⟩,⟨some 26,none,.extract (.t 21) 2⟩,⟨some 5,none,.alloc [.int .i64 0,.int .i64 0,.int .i64 0,.str [],.str [],.snil,.snil,.snil]⟩,⟨none,none,.store 8 (.t 5) (.t 24)⟩,⟨some 6,none,.mv (.t 25)⟩,⟨some 7,none,.mv (.t 26)⟩]) (.seq (.seq (.reg [28] [⟨some 27,none,.mv (.t 7)⟩,⟨some 28,none,.bin .neq .ifc true (.t 27) (.c .inil)⟩]) (.cond (.t 28) (.seq (.reg [2] [⟨some 29,none,.mv (.t 3)⟩,⟨some 2,none,.mv (.t 29)⟩]) .ret) .skip)) (.seq (.reg [8] [⟨some 30,none,.load (some 8) (.t 5)⟩,⟨some 31,none,.call (.c (.fn 27)) [.t 30]⟩,⟨some 8,none,.mv (.t 31)⟩]) (.seq (.seq (.reg [36] [⟨some 32,none,.mv (.t 8)⟩,⟨some 33,none,.len .sl (.t 32)⟩,⟨some 34,none,.mv (.t 6)⟩,⟨some 35,none,.len .sl (.t 34)⟩,⟨some 36,none,.bin .neq .other false (.t 33) (.t 35)⟩]) (.cond (.t 36) (.seq (.reg [2] [⟨some 2,none,.mv (.c (.bool false))⟩]) .ret) .skip)) (.seq (.seq (.reg [9] [⟨some 9,none,.mv (.c (.int .i64 0))⟩]) (.block 0 (.loop (.seq (.seq (.reg [40] [⟨some 37,none,.mv (.t 9)⟩,⟨some 38,none,.mv (.t 8)⟩,⟨some 39,none,.len .sl (.t 38)⟩,⟨some 40,none,.bin .lss .other false (.t 37) (.t 39)⟩]) (.cond (.t 40) .skip (.exit 0))) (.seq (.block 1 (.seq (.reg [10] [⟨some 10,none,.mv (.c (.int .i64 0))⟩]) (.block 2 (.loop (.seq (.seq (.reg [45] [⟨some 43,none,.mv (.t 10)⟩,⟨some 44,none,.mv (.t 9)⟩,⟨some 45,none,.bin .lss .other false (.t 43) (.t 44)⟩]) (.cond (.t 45) .skip (.exit 2))) (.seq (.block 3 (.seq (.any [56] [(⟨some 48,none,.mv (.t 8)⟩,true),(⟨some 49,none,.mv (.t 9)⟩,false),(⟨some 50,none,.iaddr none (.t 48) (.t 49)⟩,true),(⟨some 51,none,.load none (.t 50)⟩,true),(⟨some 52,none,.mv (.t 8)⟩,false),(⟨some 53,none,.mv (.t 10)⟩,false),(⟨some 54,none,.iaddr none (.t 52) (.t 53)⟩,false),(⟨some 55,none,.load none (.t 54)⟩,false),(⟨some 56,none,.bin .eql .other false (.t 51) (.t 55)⟩,true)]) (.cond (.t 56) (.seq (.reg [2] [⟨some 2,none,.mv (.c (.bool false))⟩]) .ret) .skip))) (.reg [10] [⟨some 46,none,.mv (.t 10)⟩,⟨some 47,none,.bin .add .other true (.t 46) (.c (.int .i64 1))⟩,⟨some 10,none,.mv (.t 47)⟩]))))))) (.reg [9] [⟨some 41,none,.mv (.t 9)⟩,⟨some 42,none,.bin .add .other true (.t 41) (.c (.int .i64 1))⟩,⟨some 9,none,.mv (.t 42)⟩])))))) (.seq (.reg [11] [⟨some 57,none,.load (some 8) (.t 1)⟩,⟨some 58,none,.call (.c (.fn 16)) [.t 57]⟩,⟨some 59,none,.bin .eql .ifc true (.t 58) (.c .inil)⟩,⟨some 11,none,.mv (.t 59)⟩]) (.seq (.reg [12,14] [⟨some 61,none,.load (some 8) (.t 5)⟩,⟨some 62,none,.call (.c (.fn 17)) [.t 61]⟩,⟨some 60,none,.mv (.t 62)⟩,⟨some 63,none,.extract (.t 60) 0⟩,⟨some 64,none,.extract (.t 60) 1⟩,⟨some 65,none,.extract (.t 60) 2⟩,⟨some 12,none,.alloc [.int .i64 0,.int .i64 0,.int .i64 0,.str [],.str [],.snil,.snil,.snil]⟩,⟨none,none,.store 8 (.t 12) (.t 63)⟩,⟨some 13,none,.mv (.t 64)⟩,⟨some 14,none,.mv (.t 65)⟩]) (.seq (.seq (.reg [76] [⟨some 66,none,.mv (.t 11)⟩,⟨some 67,none,.mv (.t 66)⟩,⟨some 68,some (67,true),.mv (.t 14)⟩,⟨some 69,some (67,true),.bin .neq .ifc true (.t 68) (.c .inil)⟩,⟨some 70,some (67,true),.mv (.t 69)⟩,⟨some 71,some (70,false),.load (some 8) (.t 5)⟩,⟨some 72,some (70,false),.load (some 8) (.t 12)⟩,⟨some 73,some (70,false),.call (.c (.fn 19)) [.t 71,.t 72]⟩,⟨some 74,some (70,false),.un .not (.t 73)⟩,⟨some 75,some (67,true),.pick (.t 70) (.c (.bool true)) (.t 74)⟩,⟨some 76,none,.pick (.t 67) (.t 75) (.c (.bool false))⟩]) (.cond (.t 76) (.seq (.reg [2] [⟨some 2,none,.mv (.c (.bool false))⟩]) .ret) .skip)) (.seq (.reg [2] [⟨some 77,none,.mv (.t 3)⟩,⟨some 78,none,.mv (.t 77)⟩,⟨some 79,some (78,true),.mv (.t 11)⟩,⟨some 80,some (78,true),.load (some 8) (.t 1)⟩,⟨some 81,some (78,true),.call (.c (.fn 24)) [.t 80]⟩,⟨some 82,some (78,true),.len .sl (.t 81)⟩,⟨some 83,some (78,true),.bin .eql .other true (.t 82) (.c (.int .i64 0))⟩,⟨some 84,some (78,true),.bin .eql .bool false (.t 79) (.t 83)⟩,⟨some 85,none,.pick (.t 78) (.t 84) (.c (.bool false))⟩,⟨some 86,none,.mv (.t 85)⟩,⟨some 87,some (86,true),.mv (.t 11)⟩,⟨some 88,some (86,true),.un .not (.t 87)⟩,⟨some 89,some (86,true),.mv (.t 88)⟩,⟨some 90,some (89,false),.load (some 8) (.t 5)⟩,⟨some 91,some (89,false),.call (.c (.fn 16)) [.t 90]⟩,⟨some 92,some (89,false),.bin .eql .ifc true (.t 91) (.c .inil)⟩,⟨some 93,some (89,false),.mv (.t 92)⟩,⟨some 94,some (93,true),.load (some 8) (.t 5)⟩,⟨some 95,some (93,true),.call (.c (.fn 24)) [.t 94]⟩,⟨some 96,some (93,true),.len .sl (.t 95)⟩,⟨some 97,some (93,true),.bin .eql .other true (.t 96) (.c (.int .i64 0))⟩,⟨some 98,some (89,false),.pick (.t 93) (.t 97) (.c (.bool false))⟩,⟨some 99,some (86,true),.pick (.t 89) (.c (.bool true)) (.t 98)⟩,⟨some 100,none,.pick (.t 86) (.t 99) (.c (.bool false))⟩,⟨some 2,none,.mv (.t 100)⟩]) .ret)))))))))))))⟩
def a13 : AFun := ⟨66,[.tmp 0],(.seq (.reg [0] [⟨some 0,none,.mv (.c (.bool false))⟩]) (.seq (.reg [1,2,3] [⟨some 8,none,.build [.int .i64 0,.int .i64 0,.int .i64 0,.str [],.str [],.snil,.snil,.snil] [(0,1,.c (.int .i64 3)),(3,1,.c (.str [97]))]⟩,⟨some 9,none,.mksl (some 8) [.t 8]⟩,⟨some 10,none,.build [.int .i64 0,.int .i64 0,.int .i64 0,.str [],.str [],.snil,.snil,.snil] [(0,1,.c (.int .i64 4)),(3,1,.c (.str [97])),(7,1,.t 9)]⟩,⟨some 11,none,.mksl (some 8) [.t 10]⟩,⟨some 12,none,.build [.int .i64 0,.int .i64 0,.int .i64 0,.str [],.str [],.snil,.snil,.snil] [(0,1,.c (.int .i64 4)),(3,1,.c (.str [97])),(7,1,.t 11)]⟩,⟨some 13,none,.call (.c (.fn 17)) [.t 12]⟩,⟨some 7,none,.mv (.t 13)⟩,⟨some 14,none,.extract (.t 7) 0⟩,⟨some 15,none,.extract (.t 7) 1⟩,⟨some 16,none,.extract (.t 7) 2⟩,⟨some 1,none,.alloc [.int .i64 0,.int .i64 0,.int .i64 0,.str [],.str [],.snil,.snil,.snil]⟩,⟨none,none,.store 8 (.t 1) (.t 14)⟩,⟨some 2,none,.mv (.t 15)⟩,⟨some 3,none,.mv (.t 16)⟩]) (.seq (.reg [4] [⟨some 17,none,.build [.int .i64 0,.int .i64 0,.int .i64 0,.str [],.str [],.snil,.snil,.snil] [(0,1,.c (.int .i64 3)),(3,1,.c (.str [97])),(1,1,.c (.int .i64 3))]⟩,⟨some 18,none,.call (.c (.fn 16)) [.t 17]⟩,⟨some 4,none,.mv (.t 18)⟩]) (.seq (.reg [5,6] [⟨some 20,none,.mv (.t 4)⟩,⟨some 21,none,.call (.c (.fn 15)) [.t 20]⟩,⟨some 19,none,.mv (.t 21)⟩,⟨some 22,none,.extract (.t 19) 0⟩,⟨some 23,none,.extract (.t 19) 1⟩,⟨some 5,none,.mv (.t 22)⟩,⟨some 6,none,.mv (.t 23)⟩]) (.seq (.seq (.reg [36] [⟨some 24,none,.mv (.t 3)⟩,⟨some 25,none,.bin .neq .ifc true (.t 24) (.c .inil)⟩,⟨some 26,none,.mv (.t 25)⟩,⟨some 27,some (26,false),.mv (.t 2)⟩,⟨some 28,some (26,false),.len .sl (.t 27)⟩,⟨some 29,some (26,false),.bin .neq .other true (.t 28) (.c (.int .i64 2))⟩,⟨some 30,none,.pick (.t 26) (.c (.bool true)) (.t 29)⟩,⟨some 31,none,.mv (.t 30)⟩,⟨some 32,some (31,false),.faddr 7 (.t 1)⟩,⟨some 33,some (31,false),.load none (.t 32)⟩,⟨some 34,some (31,false),.len .sl (.t 33)⟩,⟨some 35,some (31,false),.bin .neq .other true (.t 34) (.c (.int .i64 1))⟩,⟨some 36,none,.pick (.t 31) (.c (.bool true)) (.t 35)⟩]) (.cond (.t 36) (.seq (.reg [0] [⟨some 0,none,.mv (.c (.bool false))⟩]) .ret) .skip)) (.seq (.seq (.reg [43] [⟨some 37,none,.faddr 7 (.t 1)⟩,⟨some 38,none,.load none (.t 37)⟩,⟨some 39,none,.iaddr (some 8) (.t 38) (.c (.int .i64 0))⟩,⟨some 40,none,.faddr 7 (.t 39)⟩,⟨some 41,none,.load none (.t 40)⟩,⟨some 42,none,.len .sl (.t 41)⟩,⟨some 43,none,.bin .neq .other true (.t 42) (.c (.int .i64 1))⟩]) (.cond (.t 43) (.seq (.reg [0] [⟨some 0,none,.mv (.c (.bool false))⟩]) .ret) .skip)) (.seq (.reg [0] [⟨some 44,none,.faddr 3 (.t 1)⟩,⟨some 45,none,.load none (.t 44)⟩,⟨some 46,none,.bin .eql .other true (.t 45) (.c (.str [118,48]))⟩,⟨some 47,none,.mv (.t 46)⟩,⟨some 48,some (47,true),.faddr 7 (.t 1)⟩,⟨some 49,some (47,true),.load none (.t 48)⟩,⟨some 50,some (47,true),.iaddr (some 8) (.t 49) (.c (.int .i64 0))⟩,⟨some 51,some (47,true),.faddr 7 (.t 50)⟩,⟨some 52,some (47,true),.load none (.t 51)⟩,⟨some 53,some (47,true),.iaddr (some 8) (.t 52) (.c (.int .i64 0))⟩,⟨some 54,some (47,true),.faddr 3 (.t 53)⟩,⟨some 55,some (47,true),.load none (.t 54)⟩,⟨some 56,some (47,true),.bin .eql .other true (.t 55) (.c (.str [118,49]))⟩,⟨some 57,none,.pick (.t 47) (.t 56) (.c (.bool false))⟩,⟨some 58,none,.mv (.t 57)⟩,⟨some 59,some (58,true),.mv (.t 5)⟩,⟨some 60,some (58,true),.bin .eql .other true (.t 59) (.c (.int .i64 4))⟩,⟨some 61,none,.pick (.t 58) (.t 60) (.c (.bool false))⟩,⟨some 62,none,.mv (.t 61)⟩,⟨some 63,some (62,true),.mv (.t 6)⟩,⟨some 64,some (62,true),.bin .eql .other true (.t 63) (.c (.int .i64 3))⟩,⟨some 65,none,.pick (.t 62) (.t 64) (.c (.bool false))⟩,⟨some 0,none,.mv (.t 65)⟩]) .ret)))))))⟩
theorem c13 : compF Tryz.prog [0, 1, 2, 3, 4, 5, 6, 36, 43] Tryz.f13 = some a13 := by kernel_rfl
def a14 : AFun := ⟨23,[.tmp 2,.tmp 3],(.seq (.reg [1,2,3] [⟨some 1,none,.box (.t 0)⟩,⟨some 2,none,.mv (.c (.int .i64 0))⟩,⟨some 3,none,.mv (.c (.int .i64 0))⟩]) (.seq (.reg [4] [⟨some 6,none,.load (some 8) (.t 1)⟩,⟨some 7,none,.call (.c (.fn 11)) [.t 6]⟩,⟨some 4,none,.mv (.t 7)⟩]) (.seq (.seq (.reg [9] [⟨some 8,none,.mv (.t 4)⟩,⟨some 9,none,.un .not (.t 8)⟩]) (.cond (.t 9) (.seq (.reg [2,3] [⟨some 2,none,.mv (.c (.int .i64 1))⟩,⟨some 3,none,.mv (.c (.int .i64 (-1)))⟩]) .ret) .skip)) (.seq (.reg [5] [⟨some 10,none,.build [.snil,.int .i64 0,.bool false] []⟩,⟨some 11,none,.box (.t 10)⟩,⟨some 5,none,.mv (.t 11)⟩]) (.seq (.reg [] [⟨some 12,none,.mv (.t 5)⟩,⟨some 13,none,.load (some 8) (.t 1)⟩,⟨some 14,none,.call (.c (.fn 18)) [.t 12,.t 13,.c .snil]⟩]) (.seq (.seq (.reg [18] [⟨some 15,none,.mv (.t 5)⟩,⟨some 16,none,.nilck (.t 15)⟩,⟨some 17,none,.faddr 2 (.t 16)⟩,⟨some 18,none,.load none (.t 17)⟩]) (.cond (.t 18) (.seq (.any [2,3] [(⟨some 19,none,.mv (.t 5)⟩,true),(⟨some 20,none,.nilck (.t 19)⟩,true),(⟨some 21,none,.faddr 1 (.t 20)⟩,true),(⟨some 22,none,.load none (.t 21)⟩,true),(⟨some 2,none,.mv (.c (.int .i64 4))⟩,false),(⟨some 3,none,.mv (.t 22)⟩,true)]) .ret) .skip)) (.seq (.reg [2,3] [⟨some 2,none,.mv (.c (.int .i64 0))⟩,⟨some 3,none,.mv (.c (.int .i64 (-1)))⟩]) .ret)))))))⟩
theorem c14 : compF Tryz.prog [0, 1, 2, 3, 4, 5, 9, 18] Tryz.f14 = some a14 := by kernel_rfl
def a16 : AFun := ⟨26,[.tmp 2],(.seq (.reg [1,2] [⟨some 1,none,.box (.t 0)⟩,⟨some 2,none,.mv (.c .inil)⟩]) (.seq (.seq (.reg [6] [⟨some 4,none,.load (some 8) (.t 1)⟩,⟨some 5,none,.call (.c (.fn 23)) [.t 4]⟩,⟨some 6,none,.un .not (.t 5)⟩]) (.cond (.t 6) (.seq (.reg [2] [⟨some 7,none,.mkif 32 (.c (.int .i64 1))⟩,⟨some 2,none,.mv (.t 7)⟩]) .ret) .skip)) (.seq (.reg [3] [⟨some 8,none,.build [.snil,.snil] []⟩,⟨some 9,none,.box (.t 8)⟩,⟨some 3,none,.mv (.t 9)⟩]) (.seq (.reg [] [⟨some 10,none,.mv (.t 3)⟩,⟨some 11,none,.load (some 8) (.t 1)⟩,⟨some 12,none,.call (.c (.fn 42)) [.t 10,.t 11,.c .snil]⟩]) (.seq (.seq (.reg [18] [⟨some 13,none,.mv (.t 3)⟩,⟨some 14,none,.nilck (.t 13)⟩,⟨some 15,none,.faddr 1 (.t 14)⟩,⟨some 16,none,.load none (.t 15)⟩,⟨some 17,none,.len .sl (.t 16)⟩,⟨some 18,none,.bin .gtr .other true (.t 17) (.c (.int .i64 0))⟩]) (.cond (.t 18) (.seq (.reg [2] [⟨some 19,none,.mv (.t 3)⟩,⟨some 20,none,.nilck (.t 19)⟩,⟨some 21,none,.faddr 1 (.t 20)⟩,⟨some 22,none,.load none (.t 21)⟩,⟨some 23,none,.iaddr none (.t 22) (.c (.int .i64 0))⟩,⟨some 24,none,.load none (.t 23)⟩,⟨some 25,none,.call (.c (.fn 43)) [.t 24,.c (.int .i64 4)]⟩,⟨some 2,none,.mv (.t 25)⟩]) .ret) .skip)) (.seq (.reg [2] [⟨some 2,none,.mv (.c .inil)⟩]) .ret))))))⟩
theorem c16 : compF Tryz.prog [0, 1, 2, 3, 6, 18] Tryz.f16 = some a16 := by kernel_rfl
def a17 : AFun := ⟨22,[.cell 2 (some 8),.tmp 3,.tmp 4],(.seq (.reg [1,2,3,4] [⟨some 1,none,.box (.t 0)⟩,⟨some 2,none,.alloc [.int .i64 0,.int .i64 0,.int .i64 0,.str [],.str [],.snil,.snil,.snil]⟩,⟨some 3,none,.mv (.c .snil)⟩,⟨some 4,none,.mv (.c .inil)⟩]) (.seq (.seq (.reg [9] [⟨some 7,none,.load (some 8) (.t 1)⟩,⟨some 8,none,.call (.c (.fn 23)) [.t 7]⟩,⟨some 9,none,.un .not (.t 8)⟩]) (.cond (.t 9) (.seq (.reg [3,4] [⟨some 10,none,.build [.int .i64 0,.int .i64 0,.int .i64 0,.str [],.str [],.snil,.snil,.snil] []⟩,⟨some 11,none,.mkif 32 (.c (.int .i64 1))⟩,⟨none,none,.store 8 (.t 2) (.t 10)⟩,⟨some 3,none,.mv (.c .snil)⟩,⟨some 4,none,.mv (.t 11)⟩]) .ret) .skip)) (.seq (.reg [5] [⟨some 12,none,.build [.snil,.snil] []⟩,⟨some 13,none,.box (.t 12)⟩,⟨some 5,none,.mv (.t 13)⟩]) (.seq (.reg [6] [⟨some 14,none,.mv (.t 5)⟩,⟨some 15,none,.load (some 8) (.t 1)⟩,⟨some 16,none,.call (.c (.fn 42)) [.t 14,.t 15,.c .snil]⟩,⟨some 6,none,.alloc [.int .i64 0,.int .i64 0,.int .i64 0,.str [],.str [],.snil,.snil,.snil]⟩,⟨none,none,.store 8 (.t 6) (.t 16)⟩]) (.seq (.any [3,4] [(⟨some 17,none,.load (some 8) (.t 6)⟩,true),(⟨some 18,none,.mv (.t 5)⟩,false),(⟨some 19,none,.nilck (.t 18)⟩,false),(⟨some 20,none,.faddr 0 (.t 19)⟩,false),(⟨some 21,none,.load none (.t 20)⟩,false),(⟨none,none,.store 8 (.t 2) (.t 17)⟩,false),(⟨some 3,none,.mv (.t 21)⟩,true),(⟨some 4,none,.mv (.c .inil)⟩,true)]) .ret)))))⟩
theorem c17 : compF Tryz.prog [0, 1, 2, 3, 4, 5, 6, 9] Tryz.f17 = some a17 := by kernel_rfl
def a18 : AFun := ⟨211,[.cell 6 (some 8)],(.seq (.reg [4,6] [⟨some 4,none,.box (.t 1)⟩,⟨some 6,none,.alloc [.int .i64 0,.int .i64 0,.int .i64 0,.str [],.str [],.snil,.snil,.snil]⟩]) (.seq (.reg [7] [⟨some 17,none,.faddr 0 (.t 4)⟩,⟨some 18,none,.load none (.t 17)⟩,⟨some 19,none,.faddr 1 (.t 4)⟩,⟨some 20,none,.load none (.t 19)⟩,⟨some 21,none,.faddr 2 (.t 4)⟩,⟨some 22,none,.load none (.t 21)⟩,⟨some 23,none,.faddr 3 (.t 4)⟩,⟨some 24,none,.load none (.t 23)⟩,⟨some 25,none,.faddr 4 (.t 4)⟩,⟨some 26,none,.load none (.t 25)⟩,⟨some 27,none,.faddr 5 (.t 4)⟩,⟨some 28,none,.load none (.t 27)⟩,⟨some 29,none,.build [.int .i64 0,.int .i64 0,.int .i64 0,.str [],.str [],.snil,.snil,.snil] [(0,1,.t 18),(1,1,.t 20),(2,1,.t 22),(3,1,.t 24),(4,1,.t 26),(5,1,.t 28)]⟩,⟨some 7,none,.alloc [.int .i64 0,.int .i64 0,.int .i64 0,.str [],.str [],.snil,.snil,.snil]⟩,⟨none,none,.store 8 (.t 7) (.t 29)⟩]) (.seq (.seq (.reg [32] [⟨some 30,none,.faddr 0 (.t 4)⟩,⟨some 31,none,.load none (.t 30)⟩,⟨some 32,none,.bin .eql .other true (.t 31) (.c (.int .i64 3))⟩]) (.cond (.t 32) (.seq (.seq (.reg [8] [⟨some 33,none,.mv (.t 2)⟩,⟨some 34,none,.len .sl (.t 33)⟩,⟨some 35,none,.bin .sub .other true (.t 34) (.c (.int .i64 1))⟩,⟨some 8,none,.mv (.t 35)⟩]) (.block 0 (.loop (.seq (.seq (.reg [37] [⟨some 36,none,.mv (.t 8)⟩,⟨some 37,none,.bin .geq .other true (.t 36) (.c (.int .i64 0))⟩]) (.cond (.t 37) .skip (.exit 0))) (.seq (.block 1 (.seq (.any [47] [(⟨some 40,none,.mv (.t 2)⟩,true),(⟨some 41,none,.mv (.t 8)⟩,false),(⟨some 42,none,.iaddr (some 2) (.t 40) (.t 41)⟩,true),(⟨some 43,none,.faddr 0 (.t 42)⟩,true),(⟨some 44,none,.load none (.t 43)⟩,true),(⟨some 45,none,.faddr 3 (.t 4)⟩,false),(⟨some 46,none,.load none (.t 45)⟩,false),(⟨some 47,none,.bin .eql .other false (.t 44) (.t 46)⟩,true)]) (.cond (.t 47) (.seq (.reg [] [⟨some 48,none,.mv (.t 2)⟩,⟨some 49,none,.mv (.t 8)⟩,⟨some 50,none,.iaddr (some 2) (.t 48) (.t 49)⟩,⟨some 51,none,.faddr 1 (.t 50)⟩,⟨some 52,none,.load none (.t 51)⟩,⟨some 53,none,.faddr 3 (.t 7)⟩,⟨none,none,.store 1 (.t 53) (.t 52)⟩]) (.seq (.reg [] [⟨some 54,none,.load (some 8) (.t 7)⟩,⟨none,none,.store 8 (.t 6) (.t 54)⟩]) .ret)) .skip))) (.reg [8] [⟨some 38,none,.mv (.t 8)⟩,⟨some 39,none,.bin .sub .other true (.t 38) (.c (.int .i64 1))⟩,⟨some 8,none,.mv (.t 39)⟩])))))) (.seq (.seq (.reg [59] [⟨some 55,none,.mv (.t 0)⟩,⟨some 56,none,.nilck (.t 55)⟩,⟨some 57,none,.faddr 2 (.t 56)⟩,⟨some 58,none,.load none (.t 57)⟩,⟨some 59,none,.un .not (.t 58)⟩]) (.cond (.t 59) (.reg [] [⟨some 60,none,.mv (.t 0)⟩,⟨some 61,none,.faddr 1 (.t 4)⟩,⟨some 62,none,.load none (.t 61)⟩,⟨some 63,none,.nilck (.t 60)⟩,⟨some 64,none,.faddr 1 (.t 63)⟩,⟨none,none,.store 1 (.t 64) (.t 62)⟩]) .skip)) (.seq (.reg [] [⟨some 65,none,.mv (.t 0)⟩,⟨some 66,none,.nilck (.t 65)⟩,⟨some 67,none,.faddr 2 (.t 66)⟩,⟨none,none,.store 1 (.t 67) (.c (.bool true))⟩]) (.seq (.reg [] [⟨some 68,none,.load (some 8) (.t 7)⟩,⟨none,none,.store 8 (.t 6) (.t 68)⟩]) .ret)))) .skip)) (.seq (.reg [9] [⟨some 9,none,.mv (.c .snil)⟩]) (.seq (.seq (.reg [81] [⟨some 69,none,.faddr 0 (.t 4)⟩,⟨some 70,none,.load none (.t 69)⟩,⟨some 71,none,.bin .eql .other true (.t 70) (.c (.int .i64 4))⟩,⟨some 72,none,.mv (.t 71)⟩,⟨some 73,some (72,false),.faddr 0 (.t 4)⟩,⟨some 74,some (72,false),.load none (.t 73)⟩,⟨some 75,some (72,false),.bin .eql .other true (.t 74) (.c (.int .i64 6))⟩,⟨some 76,none,.pick (.t 72) (.c (.bool true)) (.t 75)⟩,⟨some 77,none,.mv (.t 76)⟩,⟨some 78,some (77,false),.faddr 0 (.t 4)⟩,⟨some 79,some (77,false),.load none (.t 78)⟩,⟨some 80,some (77,false),.bin .eql .other true (.t 79) (.c (.int .i64 7))⟩,⟨some 81,none,.pick (.t 77) (.c (.bool true)) (.t 80)⟩]) (.cond (.t 81) (.seq (.reg [10] [⟨some 82,none,.mv (.t 0)⟩,⟨some 83,none,.faddr 3 (.t 4)⟩,⟨some 84,none,.load none (.t 83)⟩,⟨some 85,none,.call (.c (.fn 44)) [.t 82,.t 84]⟩,⟨some 10,none,.alloc [.str [],.str []]⟩,⟨none,none,.store 2 (.t 10) (.t 85)⟩]) (.seq (.reg [9] [⟨some 86,none,.mv (.t 9)⟩,⟨some 87,none,.load (some 2) (.t 10)⟩,⟨some 88,none,.mksl (some 2) [.t 87]⟩,⟨some 89,none,.append (some 2) 32 (.t 86) (.t 88)⟩,⟨some 9,none,.mv (.t 89)⟩]) (.reg [] [⟨some 90,none,.faddr 1 (.t 10)⟩,⟨some 91,none,.load none (.t 90)⟩,⟨some 92,none,.faddr 3 (.t 7)⟩,⟨none,none,.store 1 (.t 92) (.t 91)⟩]))) .skip)) (.seq (.seq (.reg [95] [⟨some 93,none,.faddr 0 (.t 4)⟩,⟨some 94,none,.load none (.t 93)⟩,⟨some 95,none,.bin .eql .other true (.t 94) (.c (.int .i64 14))⟩]) (.cond (.t 95) (.seq (.reg [11] [⟨some 11,none,.mv (.c (.int .i64 0))⟩]) (.block 2 (.loop (.seq (.seq (.reg [100] [⟨some 96,none,.mv (.t 11)⟩,⟨some 97,none,.faddr 6 (.t 4)⟩,⟨some 98,none,.load none (.t 97)⟩,⟨some 99,none,.len .sl (.t 98)⟩,⟨some 100,none,.bin .lss .other false (.t 96) (.t 99)⟩]) (.cond (.t 100) .skip (.exit 2))) (.seq (.block 3 (.seq (.reg [12] [⟨some 103,none,.mv (.t 0)⟩,⟨some 104,none,.faddr 6 (.t 4)⟩,⟨some 105,none,.load none (.t 104)⟩,⟨some 106,none,.mv (.t 11)⟩,⟨some 107,none,.iaddr none (.t 105) (.t 106)⟩,⟨some 108,none,.load none (.t 107)⟩,⟨some 109,none,.call (.c (.fn 44)) [.t 103,.t 108]⟩,⟨some 12,none,.alloc [.str [],.str []]⟩,⟨none,none,.store 2 (.t 12) (.t 109)⟩]) (.seq (.reg [9] [⟨some 110,none,.mv (.t 9)⟩,⟨some 111,none,.load (some 2) (.t 12)⟩,⟨some 112,none,.mksl (some 2) [.t 111]⟩,⟨some 113,none,.append (some 2) 32 (.t 110) (.t 112)⟩,⟨some 9,none,.mv (.t 113)⟩]) (.reg [] [⟨some 114,none,.faddr 6 (.t 7)⟩,⟨some 115,none,.load none (.t 114)⟩,⟨some 116,none,.faddr 1 (.t 12)⟩,⟨some 117,none,.load none (.t 116)⟩,⟨some 118,none,.mksl none [.t 117]⟩,⟨some 119,none,.append none 16 (.t 115) (.t 118)⟩,⟨some 120,none,.faddr 6 (.t 7)⟩,⟨none,none,.store 1 (.t 120) (.t 119)⟩])))) (.reg [11] [⟨some 101,none,.mv (.t 11)⟩,⟨some 102,none,.bin .add .other true (.t 101) (.c (.int .i64 1))⟩,⟨some 11,none,.mv (.t 102)⟩])))))) .skip)) (.seq (.seq (.reg [133] [⟨some 121,none,.faddr 0 (.t 4)⟩,⟨some 122,none,.load none (.t 121)⟩,⟨some 123,none,.bin .eql .other true (.t 122) (.c (.int .i64 7))⟩,⟨some 124,none,.mv (.t 123)⟩,⟨some 125,some (124,false),.faddr 0 (.t 4)⟩,⟨some 126,some (124,false),.load none (.t 125)⟩,⟨some 127,some (124,false),.bin .eql .other true (.t 126) (.c (.int .i64 14))⟩,⟨some 128,some (124,false),.mv (.t 127)⟩,⟨some 129,some (128,true),.faddr 4 (.t 4)⟩,⟨some 130,some (128,true),.load none (.t 129)⟩,⟨some 131,some (128,true),.bin .neq .other true (.t 130) (.c (.str []))⟩,⟨some 132,some (124,false),.pick (.t 128) (.t 131) (.c (.bool false))⟩,⟨some 133,none,.pick (.t 124) (.c (.bool true)) (.t 132)⟩]) (.cond (.t 133) (.seq (.reg [13] [⟨some 134,none,.mv (.t 0)⟩,⟨some 135,none,.faddr 4 (.t 4)⟩,⟨some 136,none,.load none (.t 135)⟩,⟨some 137,none,.call (.c (.fn 44)) [.t 134,.t 136]⟩,⟨some 13,none,.alloc [.str [],.str []]⟩,⟨none,none,.store 2 (.t 13) (.t 137)⟩]) (.seq (.reg [9] [⟨some 138,none,.mv (.t 9)⟩,⟨some 139,none,.load (some 2) (.t 13)⟩,⟨some 140,none,.mksl (some 2) [.t 139]⟩,⟨some 141,none,.append (some 2) 32 (.t 138) (.t 140)⟩,⟨some 9,none,.mv (.t 141)⟩]) (.reg [] [⟨some 142,none,.faddr 1 (.t 13)⟩,⟨some 143,none,.load none (.t 142)⟩,⟨some 144,none,.faddr 4 (.t 7)⟩,⟨none,none,.store 1 (.t 144) (.t 143)⟩]))) .skip)) (.seq (.seq (.reg [14] [⟨some 14,none,.mv (.c (.int .i64 0))⟩]) (.block 4 (.loop (.seq (.seq (.reg [149] [⟨some 145,none,.mv (.t 14)⟩,⟨some 146,none,.faddr 7 (.t 4)⟩,⟨some 147,none,.load none (.t 146)⟩,⟨some 148,none,.len .sl (.t 147)⟩,⟨some 149,none,.bin .lss .other false (.t 145) (.t 148)⟩]) (.cond (.t 149) .skip (.exit 4))) (.seq (.block 5 (.seq (.reg [15] [⟨some 152,none,.mv (.t 2)⟩,⟨some 15,none,.mv (.t 152)⟩]) (.seq (.seq (.reg [154] [⟨some 153,none,.faddr 0 (.t 4)⟩,⟨some 154,none,.load none (.t 153)⟩]) (.block 6 (.seq (.reg [155] [⟨some 156,none,.bin .eql .other true (.t 154) (.c (.int .i64 4))⟩,⟨some 155,none,.mv (.t 156)⟩]) (.cond (.t 155) (.reg [15] [⟨some 157,none,.mv (.t 2)⟩,⟨some 158,none,.mv (.t 9)⟩,⟨some 159,none,.iaddr (some 2) (.t 158) (.c (.int .i64 0))⟩,⟨some 160,none,.load (some 2) (.t 159)⟩,⟨some 161,none,.call (.c (.fn 45)) [.t 157,.t 160]⟩,⟨some 15,none,.mv (.t 161)⟩]) (.seq (.reg [162] [⟨some 163,none,.bin .eql .other true (.t 154) (.c (.int .i64 6))⟩,⟨some 162,none,.mv (.t 163)⟩]) (.cond (.t 162) (.seq (.reg [165] [⟨some 164,none,.mv (.t 14)⟩,⟨some 165,none,.bin .eql .other true (.t 164) (.c (.int .i64 1))⟩]) (.cond (.t 165) (.reg [15] [⟨some 166,none,.mv (.t 2)⟩,⟨some 167,none,.mv (.t 9)⟩,⟨some 168,none,.iaddr (some 2) (.t 167) (.c (.int .i64 0))⟩,⟨some 169,none,.load (some 2) (.t 168)⟩,⟨some 170,none,.call (.c (.fn 45)) [.t 166,.t 169]⟩,⟨some 15,none,.mv (.t 170)⟩]) .skip)) (.seq (.reg [171] [⟨some 172,none,.bin .eql .other true (.t 154) (.c (.int .i64 7))⟩,⟨some 171,none,.mv (.t 172)⟩]) (.cond (.t 171) (.seq (.reg [15] [⟨some 173,none,.mv (.t 2)⟩,⟨some 174,none,.mv (.t 9)⟩,⟨some 175,none,.iaddr (some 2) (.t 174) (.c (.int .i64 0))⟩,⟨some 176,none,.load (some 2) (.t 175)⟩,⟨some 177,none,.call (.c (.fn 45)) [.t 173,.t 176]⟩,⟨some 15,none,.mv (.t 177)⟩]) (.seq (.reg [179] [⟨some 178,none,.mv (.t 14)⟩,⟨some 179,none,.bin .eql .other true (.t 178) (.c (.int .i64 0))⟩]) (.cond (.t 179) (.reg [15] [⟨some 180,none,.mv (.t 15)⟩,⟨some 181,none,.mv (.t 9)⟩,⟨some 182,none,.iaddr (some 2) (.t 181) (.c (.int .i64 1))⟩,⟨some 183,none,.load (some 2) (.t 182)⟩,⟨some 184,none,.call (.c (.fn 45)) [.t 180,.t 183]⟩,⟨some 15,none,.mv (.t 184)⟩]) .skip))) (.seq (.reg [185] [⟨some 186,none,.bin .eql .other true (.t 154) (.c (.int .i64 14))⟩,⟨some 185,none,.mv (.t 186)⟩]) (.cond (.t 185) (.seq (.reg [188] [⟨some 187,none,.mv (.t 14)⟩,⟨some 188,none,.bin .gtr .other true (.t 187) (.c (.int .i64 0))⟩]) (.cond (.t 188) (.reg [15] [⟨some 189,none,.mv (.t 2)⟩,⟨some 190,none,.mv (.t 9)⟩,⟨some 191,none,.mv (.t 14)⟩,⟨some 192,none,.bin .sub .other true (.t 191) (.c (.int .i64 1))⟩,⟨some 193,none,.iaddr (some 2) (.t 190) (.t 192)⟩,⟨some 194,none,.load (some 2) (.t 193)⟩,⟨some 195,none,.call (.c (.fn 45)) [.t 189,.t 194]⟩,⟨some 15,none,.mv (.t 195)⟩]) .skip)) .skip)))))))))) (.seq (.reg [16] [⟨some 196,none,.mv (.t 0)⟩,⟨some 197,none,.faddr 7 (.t 4)⟩,⟨some 198,none,.load none (.t 197)⟩,⟨some 199,none,.mv (.t 14)⟩,⟨some 200,none,.iaddr (some 8) (.t 198) (.t 199)⟩,⟨some 201,none,.load (some 8) (.t 200)⟩,⟨some 202,none,.mv (.t 15)⟩,⟨some 203,none,.call (.c (.fn 18)) [.t 196,.t 201,.t 202]⟩,⟨some 16,none,.alloc [.int .i64 0,.int .i64 0,.int .i64 0,.str [],.str [],.snil,.snil,.snil]⟩,⟨none,none,.store 8 (.t 16) (.t 203)⟩]) (.reg [] [⟨some 204,none,.faddr 7 (.t 7)⟩,⟨some 205,none,.load none (.t 204)⟩,⟨some 206,none,.load (some 8) (.t 16)⟩,⟨some 207,none,.mksl (some 8) [.t 206]⟩,⟨some 208,none,.append (some 8) 128 (.t 205) (.t 207)⟩,⟨some 209,none,.faddr 7 (.t 7)⟩,⟨none,none,.store 1 (.t 209) (.t 208)⟩]))))) (.reg [14] [⟨some 150,none,.mv (.t 14)⟩,⟨some 151,none,.bin .add .other true (.t 150) (.c (.int .i64 1))⟩,⟨some 14,none,.mv (.t 151)⟩])))))) (.seq (.reg [] [⟨some 210,none,.load (some 8) (.t 7)⟩,⟨none,none,.store 8 (.t 6) (.t 210)⟩]) .ret)))))))))⟩
theorem c18 : compF Tryz.prog [0, 1, 2, 4, 6, 7, 8, 9, 10, 11, 12, 13, 14, 15, 16, 32, 37, 47, 59, 81, 95, 100, 133, 149, 154, 155, 162, 165, 171, 179, 185, 188] Tryz.f18 = some a18 := by kernel_rfl
def a42 : AFun := ⟨203,[.cell 6 (some 8)],(.seq (.reg [3,4,6] [⟨some 3,none,.box (.t 0)⟩,⟨some 4,none,.box (.t 1)⟩,⟨some 6,none,.alloc [.int .i64 0,.int .i64 0,.int .i64 0,.str [],.str [],.snil,.snil,.snil]⟩]) (.seq (.reg [7] [⟨some 20,none,.load (some 8) (.t 4)⟩,⟨some 7,none,.alloc [.int .i64 0,.int .i64 0,.int .i64 0,.str [],.str [],.snil,.snil,.snil]⟩,⟨none,none,.store 8 (.t 7) (.t 20)⟩]) (.seq (.reg [] [⟨some 21,none,.faddr 5 (.t 4)⟩,⟨some 22,none,.load none (.t 21)⟩,⟨some 23,none,.call (.c (.fn 66)) [.t 22]⟩,⟨some 24,none,.faddr 5 (.t 7)⟩,⟨none,none,.store 1 (.t 24) (.t 23)⟩,⟨some 25,none,.faddr 6 (.t 7)⟩,⟨none,none,.store 1 (.t 25) (.c .snil)⟩,⟨some 26,none,.faddr 7 (.t 7)⟩,⟨none,none,.store 1 (.t 26) (.c .snil)⟩]) (.seq (.reg [8] [⟨some 27,none,.mkfn 67 [.t 3]⟩,⟨some 8,none,.mv (.t 27)⟩]) (.seq (.reg [9,10] [⟨some 9,none,.alloc [.str [],.str []]⟩,⟨some 10,none,.alloc [.str [],.str []]⟩]) (.seq (.reg [11] [⟨some 11,none,.mv (.c .snil)⟩]) (.seq (.seq (.reg [29] [⟨some 28,none,.faddr 0 (.t 4)⟩,⟨some 29,none,.load none (.t 28)⟩]) (.block 0 (.seq (.reg [30] [⟨some 31,none,.bin .eql .other true (.t 29) (.c (.int .i64 3))⟩,⟨some 30,none,.mv (.t 31)⟩]) (.cond (.t 30) (.seq (.reg [12,13] [⟨some 33,none,.mv (.t 2)⟩,⟨some 34,none,.faddr 3 (.t 4)⟩,⟨some 35,none,.load none (.t 34)⟩,⟨some 36,none,.call (.c (.fn 69)) [.t 33,.t 35]⟩,⟨some 32,none,.mv (.t 36)⟩,⟨some 37,none,.extract (.t 32) 0⟩,⟨some 38,none,.extract (.t 32) 1⟩,⟨some 12,none,.mv (.t 37)⟩,⟨some 13,none,.mv (.t 38)⟩]) (.seq (.seq (.reg [40] [⟨some 39,none,.mv (.t 13)⟩,⟨some 40,none,.un .not (.t 39)⟩]) (.cond (.t 40) (.any [] [(⟨some 41,none,.load none (.t 3)⟩,true),(⟨some 42,none,.load none (.t 3)⟩,false),(⟨some 43,none,.nilck (.t 42)⟩,false),(⟨some 44,none,.faddr 1 (.t 43)⟩,false),(⟨some 45,none,.load none (.t 44)⟩,false),(⟨some 46,none,.faddr 1 (.t 4)⟩,false),(⟨some 47,none,.load none (.t 46)⟩,false),(⟨some 48,none,.mksl none [.t 47]⟩,false),(⟨some 49,none,.append none 8 (.t 45) (.t 48)⟩,false),(⟨some 50,none,.nilck (.t 41)⟩,true),(⟨some 51,none,.faddr 1 (.t 50)⟩,true),(⟨none,none,.store 1 (.t 51) (.t 49)⟩,true)]) .skip)) (.reg [] [⟨some 52,none,.mv (.t 12)⟩,⟨some 53,none,.faddr 3 (.t 7)⟩,⟨none,none,.store 1 (.t 53) (.t 52)⟩]))) (.seq (.seq (.reg [54] [⟨some 55,none,.bin .eql .other true (.t 29) (.c (.int .i64 4))⟩,⟨some 54,none,.mv (.t 55)⟩]) (.cond (.t 54) .skip (.reg [54] [⟨some 56,none,.bin .eql .other true (.t 29) (.c (.int .i64 6))⟩,⟨some 54,none,.mv (.t 56)⟩]))) (.cond (.t 54) (.seq (.reg [] [⟨some 57,none,.mv (.t 8)⟩,⟨some 58,none,.faddr 3 (.t 4)⟩,⟨some 59,none,.load none (.t 58)⟩,⟨some 60,none,.call (.t 57) [.t 59]⟩,⟨none,none,.store 2 (.t 9) (.t 60)⟩]) (.reg [] [⟨some 61,none,.faddr 1 (.t 9)⟩,⟨some 62,none,.load none (.t 61)⟩,⟨some 63,none,.faddr 3 (.t 7)⟩,⟨none,none,.store 1 (.t 63) (.t 62)⟩])) (.seq (.reg [64] [⟨some 65,none,.bin .eql .other true (.t 29) (.c (.int .i64 7))⟩,⟨some 64,none,.mv (.t 65)⟩]) (.cond (.t 64) (.seq (.reg [] [⟨some 66,none,.mv (.t 8)⟩,⟨some 67,none,.faddr 3 (.t 4)⟩,⟨some 68,none,.load none (.t 67)⟩,⟨some 69,none,.call (.t 66) [.t 68]⟩,⟨none,none,.store 2 (.t 9) (.t 69)⟩]) (.seq (.reg [] [⟨some 70,none,.mv (.t 8)⟩,⟨some 71,none,.faddr 4 (.t 4)⟩,⟨some 72,none,.load none (.t 71)⟩,⟨some 73,none,.call (.t 70) [.t 72]⟩,⟨none,none,.store 2 (.t 10) (.t 73)⟩]) (.any [] [(⟨some 74,none,.faddr 1 (.t 9)⟩,true),(⟨some 75,none,.load none (.t 74)⟩,true),(⟨some 76,none,.faddr 1 (.t 10)⟩,false),(⟨some 77,none,.load none (.t 76)⟩,false),(⟨some 78,none,.faddr 3 (.t 7)⟩,false),(⟨none,none,.store 1 (.t 78) (.t 75)⟩,false),(⟨some 79,none,.faddr 4 (.t 7)⟩,true),(⟨none,none,.store 1 (.t 79) (.t 77)⟩,true)]))) (.seq (.reg [80] [⟨some 81,none,.bin .eql .other true (.t 29) (.c (.int .i64 14))⟩,⟨some 80,none,.mv (.t 81)⟩]) (.cond (.t 80) (.seq (.seq (.reg [83,84,85] [⟨some 82,none,.faddr 6 (.t 4)⟩,⟨some 83,none,.load none (.t 82)⟩,⟨some 84,none,.len .sl (.t 83)⟩,⟨some 85,none,.mv (.c (.int .i64 0))⟩]) (.block 1 (.loop (.seq (.reg [86] [⟨some 86,none,.bin .lss .other false (.t 85) (.t 84)⟩]) (.seq (.cond (.t 86) .skip (.exit 1)) (.seq (.block 2 (.seq (.reg [15] [⟨some 87,none,.iaddr none (.t 83) (.t 85)⟩,⟨some 88,none,.load none (.t 87)⟩,⟨some 15,none,.mv (.t 88)⟩]) (.seq (.reg [16] [⟨some 89,none,.mv (.t 8)⟩,⟨some 90,none,.mv (.t 15)⟩,⟨some 91,none,.call (.t 89) [.t 90]⟩,⟨some 16,none,.alloc [.str [],.str []]⟩,⟨none,none,.store 2 (.t 16) (.t 91)⟩]) (.any [11] [(⟨some 92,none,.mv (.t 11)⟩,true),(⟨some 93,none,.load (some 2) (.t 16)⟩,false),(⟨some 94,none,.mksl (some 2) [.t 93]⟩,false),(⟨some 96,none,.faddr 6 (.t 7)⟩,false),(⟨some 97,none,.load none (.t 96)⟩,false),(⟨some 98,none,.faddr 1 (.t 16)⟩,false),(⟨some 99,none,.load none (.t 98)⟩,false),(⟨some 100,none,.mksl none [.t 99]⟩,false),(⟨some 95,none,.append (some 2) 32 (.t 92) (.t 94)⟩,false),(⟨some 101,none,.append none 16 (.t 97) (.t 100)⟩,true),(⟨some 11,none,.mv (.t 95)⟩,true),(⟨some 102,none,.faddr 6 (.t 7)⟩,true),(⟨none,none,.store 1 (.t 102) (.t 101)⟩,true)])))) (.reg [85] [⟨some 103,none,.bin .add .other true (.t 85) (.c (.int .i64 1))⟩,⟨some 85,none,.mv (.t 103)⟩]))))))) (.seq (.reg [106] [⟨some 104,none,.faddr 4 (.t 4)⟩,⟨some 105,none,.load none (.t 104)⟩,⟨some 106,none,.bin .neq .other true (.t 105) (.c (.str []))⟩]) (.cond (.t 106) (.seq (.reg [] [⟨some 107,none,.mv (.t 8)⟩,⟨some 108,none,.faddr 4 (.t 4)⟩,⟨some 109,none,.load none (.t 108)⟩,⟨some 110,none,.call (.t 107) [.t 109]⟩,⟨none,none,.store 2 (.t 10) (.t 110)⟩]) (.reg [] [⟨some 111,none,.faddr 1 (.t 10)⟩,⟨some 112,none,.load none (.t 111)⟩,⟨some 113,none,.faddr 4 (.t 7)⟩,⟨none,none,.store 1 (.t 113) (.t 112)⟩])) .skip))) .skip)))))))))) (.seq (.seq (.reg [115,116,117] [⟨some 114,none,.faddr 7 (.t 4)⟩,⟨some 115,none,.load none (.t 114)⟩,⟨some 116,none,.len .sl (.t 115)⟩,⟨some 117,none,.mv (.c (.int .i64 0))⟩]) (.block 3 (.loop (.seq (.reg [118] [⟨some 118,none,.bin .lss .other false (.t 117) (.t 116)⟩]) (.seq (.cond (.t 118) .skip (.exit 3)) (.seq (.block 4 (.seq (.reg [18,17] [⟨some 119,none,.mv (.t 117)⟩,⟨some 120,none,.iaddr (some 8) (.t 115) (.t 117)⟩,⟨some 121,none,.load (some 8) (.t 120)⟩,⟨some 18,none,.alloc [.int .i64 0,.int .i64 0,.int .i64 0,.str [],.str [],.snil,.snil,.snil]⟩,⟨some 17,none,.mv (.t 119)⟩,⟨none,none,.store 8 (.t 18) (.t 121)⟩]) (.seq (.reg [19] [⟨some 122,none,.mv (.t 2)⟩,⟨some 19,none,.mv (.t 122)⟩]) (.seq (.block 5 (.seq (.reg [123] [⟨some 124,none,.faddr 0 (.t 4)⟩,⟨some 125,none,.load none (.t 124)⟩,⟨some 126,none,.bin .eql .other true (.t 125) (.c (.int .i64 4))⟩,⟨some 127,none,.mv (.t 126)⟩,⟨some 128,some (127,false),.faddr 0 (.t 4)⟩,⟨some 129,some (127,false),.load none (.t 128)⟩,⟨some 130,some (127,false),.bin .eql .other true (.t 129) (.c (.int .i64 6))⟩,⟨some 131,some (127,false),.mv (.t 130)⟩,⟨some 132,some (131,true),.mv (.t 17)⟩,⟨some 133,some (131,true),.bin .eql .other true (.t 132) (.c (.int .i64 1))⟩,⟨some 134,some (127,false),.pick (.t 131) (.t 133) (.c (.bool false))⟩,⟨some 135,none,.pick (.t 127) (.c (.bool true)) (.t 134)⟩,⟨some 136,none,.mv (.t 135)⟩,⟨some 137,some (136,false),.faddr 0 (.t 4)⟩,⟨some 138,some (136,false),.load none (.t 137)⟩,⟨some 139,some (136,false),.bin .eql .other true (.t 138) (.c (.int .i64 7))⟩,⟨some 140,some (136,false),.mv (.t 139)⟩,⟨some 141,some (140,true),.mv (.t 17)⟩,⟨some 142,some (140,true),.bin .eql .other true (.t 141) (.c (.int .i64 1))⟩,⟨some 143,some (136,false),.pick (.t 140) (.t 142) (.c (.bool false))⟩,⟨some 144,none,.pick (.t 136) (.c (.bool true)) (.t 143)⟩,⟨some 123,none,.mv (.t 144)⟩]) (.cond (.t 123) (.reg [19] [⟨some 145,none,.mv (.t 2)⟩,⟨some 146,none,.load (some 2) (.t 9)⟩,⟨some 147,none,.mksl (some 2) [.t 146]⟩,⟨some 148,none,.call (.c (.fn 70)) [.t 145,.t 147]⟩,⟨some 19,none,.mv (.t 148)⟩]) (.seq (.reg [149] [⟨some 150,none,.faddr 0 (.t 4)⟩,⟨some 151,none,.load none (.t 150)⟩,⟨some 152,none,.bin .eql .other true (.t 151) (.c (.int .i64 7))⟩,⟨some 149,none,.mv (.t 152)⟩]) (.cond (.t 149) (.reg [19] [⟨some 153,none,.mv (.t 2)⟩,⟨some 154,none,.load (some 2) (.t 9)⟩,⟨some 155,none,.load (some 2) (.t 10)⟩,⟨some 156,none,.mksl (some 2) [.t 154,.t 155]⟩,⟨some 157,none,.call (.c (.fn 70)) [.t 153,.t 156]⟩,⟨some 19,none,.mv (.t 157)⟩]) (.seq (.reg [158] [⟨some 159,none,.faddr 0 (.t 4)⟩,⟨some 160,none,.load none (.t 159)⟩,⟨some 161,none,.bin .eql .other true (.t 160) (.c (.int .i64 14))⟩,⟨some 162,none,.mv (.t 161)⟩,⟨some 163,some (162,true),.mv (.t 17)⟩,⟨some 164,some (162,true),.bin .gtr .other true (.t 163) (.c (.int .i64 0))⟩,⟨some 165,none,.pick (.t 162) (.t 164) (.c (.bool false))⟩,⟨some 166,none,.mv (.t 165)⟩,⟨some 167,some (166,true),.mv (.t 17)⟩,⟨some 168,some (166,true),.mv (.t 11)⟩,⟨some 169,some (166,true),.len .sl (.t 168)⟩,⟨some 170,some (166,true),.bin .leq .other false (.t 167) (.t 169)⟩,⟨some 171,none,.pick (.t 166) (.t 170) (.c (.bool false))⟩,⟨some 158,none,.mv (.t 171)⟩]) (.cond (.t 158) (.reg [19] [⟨some 172,none,.mv (.t 2)⟩,⟨some 173,none,.mv (.t 11)⟩,⟨some 174,none,.mv (.t 17)⟩,⟨some 175,none,.bin .sub .other true (.t 174) (.c (.int .i64 1))⟩,⟨some 176,none,.iaddr (some 2) (.t 173) (.t 175)⟩,⟨some 177,none,.load (some 2) (.t 176)⟩,⟨some 178,none,.mksl (some 2) [.t 177]⟩,⟨some 179,none,.call (.c (.fn 70)) [.t 172,.t 178]⟩,⟨some 19,none,.mv (.t 179)⟩]) (.seq (.reg [180] [⟨some 181,none,.faddr 0 (.t 4)⟩,⟨some 182,none,.load none (.t 181)⟩,⟨some 183,none,.bin .eql .other true (.t 182) (.c (.int .i64 14))⟩,⟨some 184,none,.mv (.t 183)⟩,⟨some 185,some (184,true),.mv (.t 17)⟩,⟨some 186,some (184,true),.bin .gtr .other true (.t 185) (.c (.int .i64 0))⟩,⟨some 187,none,.pick (.t 184) (.t 186) (.c (.bool false))⟩,⟨some 180,none,.mv (.t 187)⟩]) (.cond (.t 180) (.reg [19] [⟨some 188,none,.mv (.t 2)⟩,⟨some 189,none,.load (some 2) (.t 10)⟩,⟨some 190,none,.mksl (some 2) [.t 189]⟩,⟨some 191,none,.call (.c (.fn 70)) [.t 188,.t 190]⟩,⟨some 19,none,.mv (.t 191)⟩]) .skip))))))))) (.any [] [(⟨some 192,none,.faddr 7 (.t 7)⟩,true),(⟨some 193,none,.load none (.t 192)⟩,true),(⟨some 194,none,.load none (.t 3)⟩,false),(⟨some 195,none,.load (some 8) (.t 18)⟩,false),(⟨some 196,none,.mv (.t 19)⟩,false),(⟨some 197,none,.call (.c (.fn 42)) [.t 194,.t 195,.t 196]⟩,false),(⟨some 198,none,.mksl (some 8) [.t 197]⟩,false),(⟨some 199,none,.append (some 8) 128 (.t 193) (.t 198)⟩,true),(⟨some 200,none,.faddr 7 (.t 7)⟩,true),(⟨none,none,.store 1 (.t 200) (.t 199)⟩,true)]))))) (.reg [117] [⟨some 201,none,.bin .add .other true (.t 117) (.c (.int .i64 1))⟩,⟨some 117,none,.mv (.t 201)⟩]))))))) (.seq (.reg [] [⟨some 202,none,.load (some 8) (.t 7)⟩,⟨none,none,.store 8 (.t 6) (.t 202)⟩]) .ret)))))))))⟩
theorem c42 : compF Tryz.prog [0, 1, 2, 3, 4, 6, 7, 8, 9, 10, 11, 12, 13, 15, 16, 17, 18, 19, 29, 30, 40, 54, 64, 80, 83, 84, 85, 86, 106, 115, 116, 117, 118, 123, 149, 158, 180] Tryz.f42 = some a42 := by kernel_rfl
def a44 : AFun := ⟨25,[.cell 4 (some 2)],(.seq (.reg [4] [⟨some 4,none,.alloc [.str [],.str []]⟩]) (.seq (.reg [] [⟨some 5,none,.mv (.t 0)⟩,⟨some 6,none,.mv (.t 0)⟩,⟨some 7,none,.nilck (.t 6)⟩,⟨some 8,none,.faddr 0 (.t 7)⟩,⟨some 9,none,.load none (.t 8)⟩,⟨some 10,none,.mv (.t 1)⟩,⟨some 11,none,.mksl none [.t 10]⟩,⟨some 12,none,.append none 16 (.t 9) (.t 11)⟩,⟨some 13,none,.nilck (.t 5)⟩,⟨some 14,none,.faddr 0 (.t 13)⟩,⟨none,none,.store 1 (.t 14) (.t 12)⟩]) (.seq (.reg [] [⟨some 15,none,.mv (.t 1)⟩,⟨some 16,none,.mv (.t 0)⟩,⟨some 17,none,.nilck (.t 16)⟩,⟨some 18,none,.faddr 0 (.t 17)⟩,⟨some 19,none,.load none (.t 18)⟩,⟨some 20,none,.len .sl (.t 19)⟩,⟨some 21,none,.bin .sub .other true (.t 20) (.c (.int .i64 1))⟩,⟨some 22,none,.call (.c (.fn 71)) [.t 21]⟩,⟨some 23,none,.bin .add .other true (.c (.str [118])) (.t 22)⟩,⟨some 24,none,.build [.str [],.str []] [(0,1,.t 15),(1,1,.t 23)]⟩,⟨none,none,.store 2 (.t 4) (.t 24)⟩]) .ret)))⟩
theorem c44 : compF Tryz.prog [0, 1, 4] Tryz.f44 = some a44 := by kernel_rfl
def a45 : AFun := ⟨11,[.tmp 4],(.seq (.reg [3,4] [⟨some 3,none,.box (.t 1)⟩,⟨some 4,none,.mv (.c .snil)⟩]) (.seq (.any [4] [(⟨some 5,none,.mksl (some 2) []⟩,true),(⟨some 6,none,.mv (.t 0)⟩,false),(⟨some 8,none,.load (some 2) (.t 3)⟩,false),(⟨some 9,none,.mksl (some 2) [.t 8]⟩,false),(⟨some 7,none,.append (some 2) 32 (.t 5) (.t 6)⟩,false),(⟨some 10,none,.append (some 2) 32 (.t 7) (.t 9)⟩,true),(⟨some 4,none,.mv (.t 10)⟩,true)]) .ret))⟩
theorem c45 : compF Tryz.prog [0, 1, 3, 4] Tryz.f45 = some a45 := by kernel_rfl
def a66 : AFun := ⟨8,[.tmp 2],(.seq (.reg [2] [⟨some 2,none,.mv (.c .snil)⟩]) (.seq (.seq (.reg [4] [⟨some 3,none,.mv (.t 0)⟩,⟨some 4,none,.bin .eql .sl true (.t 3) (.c .snil)⟩]) (.cond (.t 4) (.seq (.reg [2] [⟨some 2,none,.mv (.c .snil)⟩]) .ret) .skip)) (.seq (.reg [2] [⟨some 5,none,.mksl none []⟩,⟨some 6,none,.mv (.t 0)⟩,⟨some 7,none,.append none 16 (.t 5) (.t 6)⟩,⟨some 2,none,.mv (.t 7)⟩]) .ret)))⟩
theorem c66 : compF Tryz.prog [0, 2, 4] Tryz.f66 = some a66 := by kernel_rfl
def a67 : AFun := ⟨9,[.cell 3 (some 2)],(.seq (.reg [3] [⟨some 3,none,.alloc [.str [],.str []]⟩]) (.seq (.reg [] [⟨some 4,none,.mv (.t 0)⟩,⟨some 5,none,.load none (.t 1)⟩,⟨some 6,none,.mv (.t 0)⟩,⟨some 7,none,.call (.c (.fn 68)) [.t 5,.t 6]⟩,⟨some 8,none,.build [.str [],.str []] [(0,1,.t 4),(1,1,.t 7)]⟩,⟨none,none,.store 2 (.t 3) (.t 8)⟩]) .ret))⟩
theorem c67 : compF Tryz.prog [0, 1, 3] Tryz.f67 = some a67 := by kernel_rfl
def a68 : AFun := ⟨23,[.tmp 4],(.seq (.reg [4] [⟨some 4,none,.mv (.c (.str []))⟩]) (.seq (.reg [] [⟨some 5,none,.mv (.t 0)⟩,⟨some 6,none,.mv (.t 0)⟩,⟨some 7,none,.nilck (.t 6)⟩,⟨some 8,none,.faddr 0 (.t 7)⟩,⟨some 9,none,.load none (.t 8)⟩,⟨some 10,none,.mv (.t 1)⟩,⟨some 11,none,.mksl none [.t 10]⟩,⟨some 12,none,.append none 16 (.t 9) (.t 11)⟩,⟨some 13,none,.nilck (.t 5)⟩,⟨some 14,none,.faddr 0 (.t 13)⟩,⟨none,none,.store 1 (.t 14) (.t 12)⟩]) (.seq (.reg [4] [⟨some 15,none,.mv (.t 0)⟩,⟨some 16,none,.nilck (.t 15)⟩,⟨some 17,none,.faddr 0 (.t 16)⟩,⟨some 18,none,.load none (.t 17)⟩,⟨some 19,none,.len .sl (.t 18)⟩,⟨some 20,none,.bin .sub .other true (.t 19) (.c (.int .i64 1))⟩,⟨some 21,none,.call (.c (.fn 71)) [.t 20]⟩,⟨some 22,none,.bin .add .other true (.c (.str [118])) (.t 21)⟩,⟨some 4,none,.mv (.t 22)⟩]) .ret)))⟩
theorem c68 : compF Tryz.prog [0, 1, 4] Tryz.f68 = some a68 := by kernel_rfl
def a70 : AFun := ⟨13,[.tmp 4],(.seq (.reg [4] [⟨some 4,none,.mv (.c .snil)⟩]) (.seq (.reg [4] [⟨some 5,none,.mv (.t 0)⟩,⟨some 6,none,.mv (.t 0)⟩,⟨some 7,none,.len .sl (.t 6)⟩,⟨some 8,none,.mv (.t 0)⟩,⟨some 9,none,.len .sl (.t 8)⟩,⟨some 10,none,.slice (.sl (some 2)) (.t 5) none (some (.t 7)) (some (.t 9))⟩,⟨some 11,none,.mv (.t 1)⟩,⟨some 12,none,.append (some 2) 32 (.t 10) (.t 11)⟩,⟨some 4,none,.mv (.t 12)⟩]) .ret))⟩
theorem c70 : compF Tryz.prog [0, 1, 4] Tryz.f70 = some a70 := by kernel_rfl
end Go.Proofs.YtpdeaekmgljeaaaGreatDoor
