/-
  Lexer: the reference's tokens. (Own work.)
-/
import Derived.Test.YtpdeaekmgljeaaaGreatDoorL8
import Derived.Test.YtpdeaekmgljeaaaGreatDoorL5
set_option linter.unusedVariables false
set_option linter.unusedSimpArgs false
namespace Go.Proofs.YtpdeaekmgljeaaaGreatDoor
open Go Go.Abs

def qn (u : Bool) (d : UInt8) : Bool := lowB d || (digB d || (u && uppB d))
theorem qn_ld : qn false = ldB := by funext d; simp [qn, ldB]
theorem qn_lud : qn true = ludB := by funext d; simp only [qn, ludB, Bool.true_and]; rw [Bool.or_comm (digB d)]
theorem low_upp {c : UInt8} (h : lowB c = true) : uppB c = false := by
  simp only [lowB, uppB, Bool.and_eq_true, decide_eq_true_eq, Bool.and_eq_false_iff, decide_eq_false_iff_not] at h ⊢
  omega
theorem oneL_name {b : Str} {i : Nat} {c : UInt8} (h : (lowB c || uppB c) = true) : oneL b i c = nameN b i (if uppB c = true then 3 else if passS (qn (uppB c)) b i ∈ wordsL then 2 else 1) (qn (uppB c)) := by
  unfold oneL
  cases hl : lowB c with
  | true => simp [low_upp hl, qn_ld]
  | false =>
    cases hu : uppB c with
    | true => simp [qn_lud]
    | false => simp [hl, hu] at h
structure NSt where
  k : Nat
  n : Nat
  g : Bool
structure NIn (b : Str) (i : Nat) (x : NSt) : Prop where
  hik : i ≤ x.k
  hk : x.k ≤ b.length
  he : spanE digB b i = spanE digB b x.k
  h0 : x.g = false → x.n ≤ 9223372036854775807 ∧ numV (passS digB b i) 0 = numV (passS digB b x.k) x.n
  h1 : x.g = true → x.n = 0 ∧ 9223372036854775807 < numV (passS digB b i) 0
theorem passS_hit {q : UInt8 → Bool} {b : Str} {i : Nat} {c : UInt8} (h : b[i]? = some c) (hq : q c = true) : passS q b i = c :: passS q b (i + 1) := by
  unfold passS
  rw [drop_cons h, List.takeWhile_cons_of_pos hq]
theorem passS_miss {q : UInt8 → Bool} {b : Str} {i : Nat} {c : UInt8} (h : b[i]? = some c) (hq : q c = false) : passS q b i = [] := by
  unfold passS
  rw [drop_cons h, List.takeWhile_cons_of_neg (by simp [hq])]
theorem passS_end {q : UInt8 → Bool} {b : Str} {i : Nat} (h : b.length ≤ i) : passS q b i = [] := by
  unfold passS
  rw [List.drop_eq_nil_of_le h]
  rfl
theorem wrap_digit {n : Nat} {d : UInt8} (hd : 48 ≤ d.toNat ∧ d.toNat ≤ 57) (hn : n * 10 + (d.toNat - 48) ≤ 9223372036854775807) : IntKind.wrap .u64 (10 * (n : Int) + IntKind.wrap .u64 (IntKind.wrap .u8 ((d.toNat : Int) - 48))) = ((n * 10 + (d.toNat - 48) : Nat) : Int) := by
  have e1 : IntKind.wrap .u8 ((d.toNat : Int) - 48) = (d.toNat : Int) - 48 := wrap_u8 (by omega) (by omega)
  have e2 : IntKind.wrap .u64 ((d.toNat : Int) - 48) = (d.toNat : Int) - 48 := wrap_u64 (by omega) (by omega)
  rw [e1, e2, wrap_u64 (by omega) (by omega)]
  omega
def sgn (x : Str) : Str := (signsL.find? fun s => decide (x.take s.length = s)).getD []
theorem sgn_ones {c : UInt8} {r : Str} : ∀ l : List Str, (∀ s ∈ l, s.length = 1) → (l.find? fun s => decide ((c :: r).take s.length = s)).getD [] = if [c] ∈ l then [c] else []
  | [], _ => rfl
  | s :: l, h => by
    have h1 := h s (.head _)
    rw [List.find?_cons, h1]
    by_cases e : [c] = s
    · rw [show decide ((c :: r).take 1 = s) = true from decide_eq_true (by simpa using e), if_pos (by rw [e]; exact .head _)]
      exact e.symm
    · rw [show decide ((c :: r).take 1 = s) = false from decide_eq_false (by simpa using e)]
      rw [sgn_ones l fun s hs => h s (.tail _ hs)]
      simp [e]
theorem sgn_one {c : UInt8} : sgn [c] = if [c] ∈ onesL then [c] else [] := by
  have h := sgn_ones (c := c) (r := []) onesL (by decide)
  rw [← h]
  unfold sgn
  have k : ∀ x y : UInt8, decide (List.take 2 [c] = [x, y]) = false := fun x y => decide_eq_false (by simp)
  rw [show signsL = [45, 62] :: [61, 61] :: [58, 61] :: onesL from rfl]
  simp only [List.find?_cons, List.length_cons, List.length_nil, Nat.zero_add, Nat.reduceAdd, k]
theorem sgn_two {c e : UInt8} : sgn [c, e] = if [c, e] ∈ [[45, 62], [61, 61], [58, 61]] then [c, e] else if [c] ∈ onesL then [c] else [] := by
  have h := sgn_ones (c := c) (r := [e]) onesL (by decide)
  rw [← h]
  unfold sgn
  rw [show signsL = [45, 62] :: [61, 61] :: [58, 61] :: onesL from rfl]
  simp only [List.find?_cons, List.length_cons, List.length_nil, List.take, List.mem_cons, List.not_mem_nil, or_false]
  by_cases h1 : [c, e] = [45, 62]
  · simp [h1]
  by_cases h2 : [c, e] = [61, 61]
  · simp [h2]
  by_cases h3 : [c, e] = [58, 61]
  · simp [h3]
  simp only [h1, h2, h3, decide_false, or_self, if_false]
def OnePost (σ : Sg) (x : NR) (r : D) (σ' : Sg) : Prop := (match x with
  | .tok t to => r = .tup [.v (encK t), .v (.int .i64 to), .v (.int .i64 (-1))]
  | .bad q => ∃ (t : Tk) (e : Int), r = .tup [.v (encK t), .v (.int .i64 e), .v (.int .i64 q)]) ∧ σ' = σ
set_option maxHeartbeats 1000000 in
theorem k_ROne {b : Str} {i : Nat} {c : UInt8} {σ : Sg} (hc : b[i]? = some c) (hb : b.length ≤ 1048576) : ACalls Tryz.prog 135 [.v (vBs b), .v (.int .i64 i)] σ (OnePost σ (oneL b i c)) := by
  have hi : i < b.length := (List.getElem?_eq_some_iff.1 hc).1
  have cl := fun c σ => k_RLow (c := c) (σ := σ)
  have cu := fun c σ => k_RHigh (c := c) (σ := σ)
  have cd := fun c σ => k_RDigit (c := c) (σ := σ)
  unfold vB at cl cu cd
  obtain ⟨X, hX⟩ : ∃ X, X = oneL b i c := ⟨_, rfl⟩
  rw [← hX]
  refine acalls_fit Tryz.func135 (by kernel_rfl) c135 rfl (by simp [a135]) fun hf => ?_
  clear hf
  simp -implicitDefEqProofs (maxSteps := 2000000) (disch := omega) [-getElem?_pos, a135]
  refine ⟨by omega, fun c' hc' => ?_⟩
  rw [hc] at hc'
  cases hc'
  refine (cl _ _).then fun r hr => ?_
  subst hr
  simp -implicitDefEqProofs (maxSteps := 2000000) (disch := omega) [-getElem?_pos]
  refine (cu _ _).then fun r hr => ?_
  subst hr
  simp -implicitDefEqProofs (maxSteps := 2000000) (disch := omega) [-getElem?_pos]
  refine (cd _ _).then fun r hr => ?_
  subst hr
  cases hlo : lowB c with
  | true =>
    have hup := low_upp hlo
    have hq0 : qn false c = true := by simp [qn, hlo, hup]
    rw [oneL_name (by simp [hlo, hup]), hup] at hX
    simp -implicitDefEqProofs (maxSteps := 2000000) (disch := omega) [-getElem?_pos]
    refine W_loop (α := Nat) i (fun k => b.length - k) (fun k => ⟨[(0, .v (vBs b)), (1, .v (.int .i64 i)), (4, .ptr σ.objs.length 0), (8, .v (.int .i64 k)), (10, .v (.bool false))], ⟨σ.objs ++ [.cells [.v (.int .i64 0), .v (.int .i64 0), .v (.int .i64 0), .v (.str [])]], σ.toks⟩⟩)
      (fun k => i ≤ k ∧ k ≤ b.length ∧ spanE (qn false) b i = spanE (qn false) b k) (.eq2 (by simp [hup]) (by simp [hup])) ⟨Nat.le_refl _, by omega, rfl⟩ fun k ⟨hik, hk, he⟩ => ?_
    simp -implicitDefEqProofs (maxSteps := 2000000) (disch := omega) [-getElem?_pos]
    have upp : ∀ h : k < b.length, ∀ d, b[k]? = some d → qn false d = true → i ≤ k + 1 ∧ k + 1 ≤ b.length ∧ spanE (qn false) b i = spanE (qn false) b (k + 1) := fun h d hd hq => ⟨by omega, by omega, by rw [he, spanE_hit hd hq]⟩
    refine .mk (fun h => ?_) fun h => ?_
    · simp -implicitDefEqProofs (maxSteps := 2000000) (disch := omega) [-getElem?_pos]
      refine ⟨by omega, fun d hd => ?_⟩
      refine (cl _ _).then fun r hr => ?_
      subst hr
      cases hld : lowB d with
      | true =>
        simp -implicitDefEqProofs (maxSteps := 2000000) (disch := omega) [-getElem?_pos]
        exact ⟨k + 1, upp h d hd (by simp [qn, hld]), by show b.length - (k + 1) < b.length - k; omega, .eq (by simp)⟩
      | false =>
        simp -implicitDefEqProofs (maxSteps := 2000000) (disch := omega) [-getElem?_pos]
        refine ⟨by omega, fun d' hd' => ?_⟩
        rw [hd] at hd'
        cases hd'
        refine (cd _ _).then fun r hr => ?_
        subst hr
        cases hdd : digB d with
        | true =>
          simp -implicitDefEqProofs (maxSteps := 2000000) (disch := omega) [-getElem?_pos]
          exact ⟨k + 1, upp h d hd (by simp [qn, hld, hdd]), by show b.length - (k + 1) < b.length - k; omega, .eq (by simp)⟩
        | false =>
          simp -implicitDefEqProofs (maxSteps := 2000000) (disch := omega) [-getElem?_pos]
          have hE : spanE (qn false) b i = k := by rw [he]; exact spanE_miss hd (by simp [qn, hld, hdd])
          have hP : List.drop i (List.take k b) = passS (qn false) b i := by rw [← hE, passS_eq]
          have hL : (passS (qn false) b i).length = k - i := by rw [← hP]; simp; omega
          rw [hP]
          refine ⟨by omega, by omega, k_IsWord.then fun r hr => ?_⟩
          subst hr
          by_cases hw : passS (qn false) b i ∈ wordsL
          · simp -implicitDefEqProofs (maxSteps := 2000000) (disch := omega) [-getElem?_pos, hw]
            refine .mk (fun h20 => ?_) fun h20 => ?_
            · rw [show X = NR.bad i from by rw [hX, nameN, if_pos (by omega)]]
              simp -implicitDefEqProofs (maxSteps := 2000000) (disch := omega) [-getElem?_pos, hw]
              exact .fin _ ⟨⟨⟨0, 0, 0, []⟩, _, rfl⟩, rfl⟩ (.refl _)
            · rw [show X = NR.tok ⟨2, i, 0, passS (qn false) b i⟩ k from by rw [hX, nameN, if_neg (by omega), hE]; simp [hw]]
              simp -implicitDefEqProofs (maxSteps := 2000000) (disch := omega) [-getElem?_pos, hw]
              exact .fin _ ⟨rfl, rfl⟩ (.refl _)
          · simp -implicitDefEqProofs (maxSteps := 2000000) (disch := omega) [-getElem?_pos, hw]
            refine .mk (fun h20 => ?_) fun h20 => ?_
            · rw [show X = NR.bad i from by rw [hX, nameN, if_pos (by omega)]]
              simp -implicitDefEqProofs (maxSteps := 2000000) (disch := omega) [-getElem?_pos, hw]
              exact .fin _ ⟨⟨⟨0, 0, 0, []⟩, _, rfl⟩, rfl⟩ (.refl _)
            · rw [show X = NR.tok ⟨1, i, 0, passS (qn false) b i⟩ k from by rw [hX, nameN, if_neg (by omega), hE]; simp [hw]]
              simp -implicitDefEqProofs (maxSteps := 2000000) (disch := omega) [-getElem?_pos, hw]
              exact .fin _ ⟨rfl, rfl⟩ (.refl _)


    · simp -implicitDefEqProofs (maxSteps := 2000000) (disch := omega) [-getElem?_pos]
      have hE : spanE (qn false) b i = k := by rw [he, spanE_end (by omega)]; 
      have hP : List.drop i (List.take k b) = passS (qn false) b i := by rw [← hE, passS_eq]
      have hL : (passS (qn false) b i).length = k - i := by rw [← hP]; simp; omega
      rw [hP]
      refine ⟨by omega, by omega, k_IsWord.then fun r hr => ?_⟩
      subst hr
      by_cases hw : passS (qn false) b i ∈ wordsL
      · simp -implicitDefEqProofs (maxSteps := 2000000) (disch := omega) [-getElem?_pos, hw]
        refine .mk (fun h20 => ?_) fun h20 => ?_
        · rw [show X = NR.bad i from by rw [hX, nameN, if_pos (by omega)]]
          simp -implicitDefEqProofs (maxSteps := 2000000) (disch := omega) [-getElem?_pos, hw]
          exact .fin _ ⟨⟨⟨0, 0, 0, []⟩, _, rfl⟩, rfl⟩ (.refl _)
        · rw [show X = NR.tok ⟨2, i, 0, passS (qn false) b i⟩ k from by rw [hX, nameN, if_neg (by omega), hE]; simp [hw]]
          simp -implicitDefEqProofs (maxSteps := 2000000) (disch := omega) [-getElem?_pos, hw]
          exact .fin _ ⟨rfl, rfl⟩ (.refl _)
      · simp -implicitDefEqProofs (maxSteps := 2000000) (disch := omega) [-getElem?_pos, hw]
        refine .mk (fun h20 => ?_) fun h20 => ?_
        · rw [show X = NR.bad i from by rw [hX, nameN, if_pos (by omega)]]
          simp -implicitDefEqProofs (maxSteps := 2000000) (disch := omega) [-getElem?_pos, hw]
          exact .fin _ ⟨⟨⟨0, 0, 0, []⟩, _, rfl⟩, rfl⟩ (.refl _)
        · rw [show X = NR.tok ⟨1, i, 0, passS (qn false) b i⟩ k from by rw [hX, nameN, if_neg (by omega), hE]; simp [hw]]
          simp -implicitDefEqProofs (maxSteps := 2000000) (disch := omega) [-getElem?_pos, hw]
          exact .fin _ ⟨rfl, rfl⟩ (.refl _)


  | false =>
  cases hup : uppB c with
  | true =>
    have hq0 : qn true c = true := by simp [qn, hlo, hup]
    rw [oneL_name (by simp [hlo, hup]), hup] at hX
    simp -implicitDefEqProofs (maxSteps := 2000000) (disch := omega) [-getElem?_pos]
    refine W_loop (α := Nat) i (fun k => b.length - k) (fun k => ⟨[(0, .v (vBs b)), (1, .v (.int .i64 i)), (4, .ptr σ.objs.length 0), (8, .v (.int .i64 k)), (10, .v (.bool true))], ⟨σ.objs ++ [.cells [.v (.int .i64 0), .v (.int .i64 0), .v (.int .i64 0), .v (.str [])]], σ.toks⟩⟩)
      (fun k => i ≤ k ∧ k ≤ b.length ∧ spanE (qn true) b i = spanE (qn true) b k) (.eq2 (by simp [hup]) (by simp [hup])) ⟨Nat.le_refl _, by omega, rfl⟩ fun k ⟨hik, hk, he⟩ => ?_
    simp -implicitDefEqProofs (maxSteps := 2000000) (disch := omega) [-getElem?_pos]
    have upp : ∀ h : k < b.length, ∀ d, b[k]? = some d → qn true d = true → i ≤ k + 1 ∧ k + 1 ≤ b.length ∧ spanE (qn true) b i = spanE (qn true) b (k + 1) := fun h d hd hq => ⟨by omega, by omega, by rw [he, spanE_hit hd hq]⟩
    refine .mk (fun h => ?_) fun h => ?_
    · simp -implicitDefEqProofs (maxSteps := 2000000) (disch := omega) [-getElem?_pos]
      refine ⟨by omega, fun d hd => ?_⟩
      refine (cl _ _).then fun r hr => ?_
      subst hr
      cases hld : lowB d with
      | true =>
        simp -implicitDefEqProofs (maxSteps := 2000000) (disch := omega) [-getElem?_pos]
        exact ⟨k + 1, upp h d hd (by simp [qn, hld]), by show b.length - (k + 1) < b.length - k; omega, .eq (by simp)⟩
      | false =>
        simp -implicitDefEqProofs (maxSteps := 2000000) (disch := omega) [-getElem?_pos]
        refine ⟨by omega, fun d' hd' => ?_⟩
        rw [hd] at hd'
        cases hd'
        refine (cd _ _).then fun r hr => ?_
        subst hr
        cases hdd : digB d with
        | true =>
          simp -implicitDefEqProofs (maxSteps := 2000000) (disch := omega) [-getElem?_pos]
          exact ⟨k + 1, upp h d hd (by simp [qn, hld, hdd]), by show b.length - (k + 1) < b.length - k; omega, .eq (by simp)⟩
        | false =>
          simp -implicitDefEqProofs (maxSteps := 2000000) (disch := omega) [-getElem?_pos]
          refine ⟨by omega, fun d' hd' => ?_⟩
          rw [hd] at hd'
          cases hd'
          refine (cu _ _).then fun r hr => ?_
          subst hr
          cases hud : uppB d with
          | true =>
            simp -implicitDefEqProofs (maxSteps := 2000000) (disch := omega) [-getElem?_pos]
            exact ⟨k + 1, upp h d hd (by simp [qn, hld, hdd, hud]), by show b.length - (k + 1) < b.length - k; omega, .eq (by simp)⟩
          | false =>
            simp -implicitDefEqProofs (maxSteps := 2000000) (disch := omega) [-getElem?_pos]
            have hE : spanE (qn true) b i = k := by rw [he]; exact spanE_miss hd (by simp [qn, hld, hdd, hud])
            have hP : List.drop i (List.take k b) = passS (qn true) b i := by rw [← hE, passS_eq]
            have hL : (passS (qn true) b i).length = k - i := by rw [← hP]; simp; omega
            rw [hP]
            refine ⟨by omega, by omega, k_IsWord.then fun r hr => ?_⟩
            subst hr
            by_cases hw : passS (qn true) b i ∈ wordsL
            · simp -implicitDefEqProofs (maxSteps := 2000000) (disch := omega) [-getElem?_pos, hw]
              refine .mk (fun h20 => ?_) fun h20 => ?_
              · rw [show X = NR.bad i from by rw [hX, nameN, if_pos (by omega)]]
                simp -implicitDefEqProofs (maxSteps := 2000000) (disch := omega) [-getElem?_pos, hw]
                exact .fin _ ⟨⟨⟨0, 0, 0, []⟩, _, rfl⟩, rfl⟩ (.refl _)
              · rw [show X = NR.tok ⟨3, i, 0, passS (qn true) b i⟩ k from by rw [hX, nameN, if_neg (by omega), hE]; simp [hw]]
                simp -implicitDefEqProofs (maxSteps := 2000000) (disch := omega) [-getElem?_pos, hw]
                exact .fin _ ⟨rfl, rfl⟩ (.refl _)
            · simp -implicitDefEqProofs (maxSteps := 2000000) (disch := omega) [-getElem?_pos, hw]
              refine .mk (fun h20 => ?_) fun h20 => ?_
              · rw [show X = NR.bad i from by rw [hX, nameN, if_pos (by omega)]]
                simp -implicitDefEqProofs (maxSteps := 2000000) (disch := omega) [-getElem?_pos, hw]
                exact .fin _ ⟨⟨⟨0, 0, 0, []⟩, _, rfl⟩, rfl⟩ (.refl _)
              · rw [show X = NR.tok ⟨3, i, 0, passS (qn true) b i⟩ k from by rw [hX, nameN, if_neg (by omega), hE]; simp [hw]]
                simp -implicitDefEqProofs (maxSteps := 2000000) (disch := omega) [-getElem?_pos, hw]
                exact .fin _ ⟨rfl, rfl⟩ (.refl _)


    · simp -implicitDefEqProofs (maxSteps := 2000000) (disch := omega) [-getElem?_pos]
      have hE : spanE (qn true) b i = k := by rw [he, spanE_end (by omega)]; 
      have hP : List.drop i (List.take k b) = passS (qn true) b i := by rw [← hE, passS_eq]
      have hL : (passS (qn true) b i).length = k - i := by rw [← hP]; simp; omega
      rw [hP]
      refine ⟨by omega, by omega, k_IsWord.then fun r hr => ?_⟩
      subst hr
      by_cases hw : passS (qn true) b i ∈ wordsL
      · simp -implicitDefEqProofs (maxSteps := 2000000) (disch := omega) [-getElem?_pos, hw]
        refine .mk (fun h20 => ?_) fun h20 => ?_
        · rw [show X = NR.bad i from by rw [hX, nameN, if_pos (by omega)]]
          simp -implicitDefEqProofs (maxSteps := 2000000) (disch := omega) [-getElem?_pos, hw]
          exact .fin _ ⟨⟨⟨0, 0, 0, []⟩, _, rfl⟩, rfl⟩ (.refl _)
        · rw [show X = NR.tok ⟨3, i, 0, passS (qn true) b i⟩ k from by rw [hX, nameN, if_neg (by omega), hE]; simp [hw]]
          simp -implicitDefEqProofs (maxSteps := 2000000) (disch := omega) [-getElem?_pos, hw]
          exact .fin _ ⟨rfl, rfl⟩ (.refl _)
      · simp -implicitDefEqProofs (maxSteps := 2000000) (disch := omega) [-getElem?_pos, hw]
        refine .mk (fun h20 => ?_) fun h20 => ?_
        · rw [show X = NR.bad i from by rw [hX, nameN, if_pos (by omega)]]
          simp -implicitDefEqProofs (maxSteps := 2000000) (disch := omega) [-getElem?_pos, hw]
          exact .fin _ ⟨⟨⟨0, 0, 0, []⟩, _, rfl⟩, rfl⟩ (.refl _)
        · rw [show X = NR.tok ⟨3, i, 0, passS (qn true) b i⟩ k from by rw [hX, nameN, if_neg (by omega), hE]; simp [hw]]
          simp -implicitDefEqProofs (maxSteps := 2000000) (disch := omega) [-getElem?_pos, hw]
          exact .fin _ ⟨rfl, rfl⟩ (.refl _)


  | false =>
  cases hdi : digB c with
  | true =>
    rw [oneL, if_neg (by simp [hlo]), if_neg (by simp [hup]), if_pos hdi] at hX
    simp -implicitDefEqProofs (maxSteps := 2000000) (disch := omega) [-getElem?_pos]
    refine W_loop (α := NSt) ⟨i, 0, false⟩ (fun x => b.length - x.k) (fun x => ⟨[(0, .v (vBs b)), (1, .v (.int .i64 i)), (4, .ptr σ.objs.length 0), (7, .v (.int .u8 c.toNat)), (8, .v (.int .i64 x.k)), (14, .v (.int .u64 x.n)), (15, .v (.bool x.g))], ⟨σ.objs ++ [.cells [.v (.int .i64 0), .v (.int .i64 0), .v (.int .i64 0), .v (.str [])]], σ.toks⟩⟩)
      (fun x => NIn b i x) (.eq2 (by simp [hdi]) (by simp)) ⟨Nat.le_refl _, by dsimp only; omega, rfl, fun _ => ⟨by simp, rfl⟩, fun h => by cases h⟩ fun ⟨k, n, g⟩ ⟨hik, hk, he, h0, h1⟩ => ?_
    dsimp only at hik hk he h0 h1
    simp -implicitDefEqProofs (maxSteps := 2000000) (disch := omega) [-getElem?_pos]
    refine .mk (fun h => ?_) fun h => ?_
    · simp -implicitDefEqProofs (maxSteps := 2000000) (disch := omega) [-getElem?_pos]
      refine ⟨by omega, fun d hd => ?_⟩
      refine (cd _ _).then fun r hr => ?_
      subst hr
      cases hdd : digB d with
      | true =>
        have hdg : 48 ≤ d.toNat ∧ d.toNat ≤ 57 := by simpa [digB] using hdd
        have hrk : b.length - (k + 1) < b.length - k := by omega
        have hek : spanE digB b i = spanE digB b (k + 1) := by rw [he, spanE_hit hd hdd]
        cases g with
        | true =>
          simp -implicitDefEqProofs (maxSteps := 2000000) (disch := omega) [-getElem?_pos]
          exact ⟨by omega, fun d' hd' => ⟨⟨k + 1, 0, true⟩, ⟨by dsimp only; omega, h, hek, fun h => Bool.noConfusion h, fun _ => ⟨rfl, (h1 rfl).2⟩⟩, hrk, .eq (by simp)⟩⟩
        | false =>
          obtain ⟨hn, hv⟩ := h0 rfl
          rw [passS_hit hd hdd, numV_cons] at hv
          have hge := numV_ge (passS digB b (k + 1)) (n * 10 + (d.toNat - 48))
          simp -implicitDefEqProofs (maxSteps := 2000000) (disch := omega) [-getElem?_pos]
          refine .mk (fun h2 => ?_) fun h2 => ?_
          · simp -implicitDefEqProofs (maxSteps := 2000000) (disch := omega) [-getElem?_pos]
            refine .mk (fun h3 => ?_) fun h3 => ?_
            · simp -implicitDefEqProofs (maxSteps := 2000000) (disch := omega) [-getElem?_pos]
              refine ⟨by omega, fun d' hd' => ⟨by omega, fun d'' hd'' => ?_⟩⟩
              rw [hd] at hd' hd''
              cases hd'
              cases hd''
              refine .mk (fun h4 => ?_) fun h4 => ?_
              · simp -implicitDefEqProofs (maxSteps := 2000000) (disch := omega) [-getElem?_pos]
                exact ⟨⟨k + 1, 0, true⟩, ⟨by dsimp only; omega, h, hek, fun h => Bool.noConfusion h, fun _ => ⟨rfl, by omega⟩⟩, hrk, .eq (by simp; exact h4)⟩
              · have hw := wrap_digit (n := n) hdg (by omega)
                have h4' : decide (55 < (d.toNat : Int)) = false := decide_eq_false h4
                simp -implicitDefEqProofs (maxSteps := 2000000) (disch := omega) [-getElem?_pos, h4']
                exact ⟨⟨k + 1, n * 10 + (d.toNat - 48), false⟩, ⟨by dsimp only; omega, h, hek, fun _ => ⟨by dsimp only; omega, hv⟩, fun h => Bool.noConfusion h⟩, hrk, .eq (by simp [h4']; omega)⟩
            · simp -implicitDefEqProofs (maxSteps := 2000000) (disch := omega) [-getElem?_pos]
              refine ⟨by omega, fun d' hd' => ?_⟩
              rw [hd] at hd'
              cases hd'
              have hw := wrap_digit (n := n) hdg (by omega)
              exact ⟨⟨k + 1, n * 10 + (d.toNat - 48), false⟩, ⟨by dsimp only; omega, h, hek, fun _ => ⟨by dsimp only; omega, hv⟩, fun h => Bool.noConfusion h⟩, hrk, .eq (by simp [hw])⟩
          · simp -implicitDefEqProofs (maxSteps := 2000000) (disch := omega) [-getElem?_pos]
            refine ⟨by omega, fun d' hd' => ?_⟩
            exact ⟨⟨k + 1, 0, true⟩, ⟨by dsimp only; omega, h, hek, fun h => Bool.noConfusion h, fun _ => ⟨rfl, by omega⟩⟩, hrk, .eq (by simp)⟩
      | false =>
        have hE : spanE digB b i = k := by rw [he]; exact spanE_miss hd hdd
        have hP := passS_miss hd hdd
        cases g with
        | true =>
          rw [show X = NR.bad i from by rw [hX, numN, if_pos (.inl (h1 rfl).2)]]
          simp -implicitDefEqProofs (maxSteps := 2000000) (disch := omega) [-getElem?_pos]
          exact .fin _ ⟨⟨⟨0, 0, 0, []⟩, _, rfl⟩, rfl⟩ (.refl _)
        | false =>
          obtain ⟨hn, hv⟩ := h0 rfl
          rw [hP, numV_nil] at hv
          have hL : (passS digB b i).length = k - i := by rw [← passS_eq, hE]; simp; omega
          have hwn : IntKind.wrap .i64 (n : Int) = n := wrap_i64 (by omega) (by omega)
          simp -implicitDefEqProofs (maxSteps := 2000000) (disch := omega) [-getElem?_pos, hwn]
          refine .mk (fun h1 => ?_) fun h1 => ?_
          · simp -implicitDefEqProofs (maxSteps := 2000000) (disch := omega) [-getElem?_pos, hwn]
            refine .mk (fun h48 => ?_) fun h48 => ?_
            · rw [show X = NR.bad i from by rw [hX, numN, if_pos (.inr ⟨by omega, by omega⟩)]]
              simp -implicitDefEqProofs (maxSteps := 2000000) (disch := omega) [-getElem?_pos, hwn]
              exact .fin _ ⟨⟨⟨0, 0, 0, []⟩, _, rfl⟩, rfl⟩ (.refl _)
            · rw [show X = NR.tok ⟨4, i, n, []⟩ k from by rw [hX, numN, if_neg (by omega), hE, hv]]
              simp -implicitDefEqProofs (maxSteps := 2000000) (disch := omega) [-getElem?_pos, hwn]
              exact .fin _ ⟨rfl, rfl⟩ (.refl _)
          · rw [show X = NR.tok ⟨4, i, n, []⟩ k from by rw [hX, numN, if_neg (by omega), hE, hv]]
            simp -implicitDefEqProofs (maxSteps := 2000000) (disch := omega) [-getElem?_pos, hwn]
            exact .fin _ ⟨rfl, rfl⟩ (.refl _)

    · have hE : spanE digB b i = k := by rw [he]; exact spanE_end (by omega)
      have hP : passS digB b k = [] := passS_end (by omega)
      cases g with
      | true =>
        rw [show X = NR.bad i from by rw [hX, numN, if_pos (.inl (h1 rfl).2)]]
        simp -implicitDefEqProofs (maxSteps := 2000000) (disch := omega) [-getElem?_pos]
        exact .fin _ ⟨⟨⟨0, 0, 0, []⟩, _, rfl⟩, rfl⟩ (.refl _)
      | false =>
        obtain ⟨hn, hv⟩ := h0 rfl
        rw [hP, numV_nil] at hv
        have hL : (passS digB b i).length = k - i := by rw [← passS_eq, hE]; simp; omega
        have hwn : IntKind.wrap .i64 (n : Int) = n := wrap_i64 (by omega) (by omega)
        simp -implicitDefEqProofs (maxSteps := 2000000) (disch := omega) [-getElem?_pos, hwn]
        refine .mk (fun h1 => ?_) fun h1 => ?_
        · simp -implicitDefEqProofs (maxSteps := 2000000) (disch := omega) [-getElem?_pos, hwn]
          refine .mk (fun h48 => ?_) fun h48 => ?_
          · rw [show X = NR.bad i from by rw [hX, numN, if_pos (.inr ⟨by omega, by omega⟩)]]
            simp -implicitDefEqProofs (maxSteps := 2000000) (disch := omega) [-getElem?_pos, hwn]
            exact .fin _ ⟨⟨⟨0, 0, 0, []⟩, _, rfl⟩, rfl⟩ (.refl _)
          · rw [show X = NR.tok ⟨4, i, n, []⟩ k from by rw [hX, numN, if_neg (by omega), hE, hv]]
            simp -implicitDefEqProofs (maxSteps := 2000000) (disch := omega) [-getElem?_pos, hwn]
            exact .fin _ ⟨rfl, rfl⟩ (.refl _)
        · rw [show X = NR.tok ⟨4, i, n, []⟩ k from by rw [hX, numN, if_neg (by omega), hE, hv]]
          simp -implicitDefEqProofs (maxSteps := 2000000) (disch := omega) [-getElem?_pos, hwn]
          exact .fin _ ⟨rfl, rfl⟩ (.refl _)

  | false =>
    rw [oneL, if_neg (by simp [hlo]), if_neg (by simp [hup]), if_neg (by simp [hdi])] at hX
    simp -implicitDefEqProofs (maxSteps := 2000000) (disch := omega) [-getElem?_pos]
    refine .mk (fun h34 => ?_) fun h34 => ?_
    · rw [if_pos (by omega)] at hX
      simp -implicitDefEqProofs (maxSteps := 2000000) (disch := omega) [-getElem?_pos]
      refine (k_RText (b := b) (i := i + 1) (by omega) hb).then fun r hr => ?_
      cases ht : textL (b.drop (i + 1)) (i + 1) [] with
      | ok st to =>
        rw [ht] at hX
        simp only [ht] at hr
        subst hr
        have hlt := textL_to _ _ _ _ _ _ (Nat.le_refl _) ht
        simp -implicitDefEqProofs (maxSteps := 2000000) (disch := omega) [-getElem?_pos]
        refine .mk (fun h2 => ?_) fun h2 => ?_
        · rw [show X = NR.bad i from by rw [hX, textN, if_pos (by omega)]]
          simp -implicitDefEqProofs (maxSteps := 2000000) (disch := omega) [-getElem?_pos]
          exact .fin _ ⟨⟨⟨5, i, 0, st⟩, _, rfl⟩, rfl⟩ (.refl _)
        · rw [show X = NR.tok ⟨5, i, 0, st⟩ to from by rw [hX, textN, if_neg (by omega)]]
          simp -implicitDefEqProofs (maxSteps := 2000000) (disch := omega) [-getElem?_pos]
          exact .fin _ ⟨rfl, rfl⟩ (.refl _)
      | bad q =>
        rw [ht] at hX
        simp only [ht] at hr
        subst hr
        rw [show X = NR.bad q from hX]
        simp -implicitDefEqProofs (maxSteps := 2000000) (disch := omega) [-getElem?_pos]
        refine .mk (fun h2 => by omega) fun h2 => ?_
        simp -implicitDefEqProofs (maxSteps := 2000000) (disch := omega) [-getElem?_pos]
        exact .fin _ ⟨⟨⟨5, i, 0, []⟩, _, rfl⟩, rfl⟩ (.refl _)
    · rw [if_neg (by omega)] at hX
      have hone : List.drop i (List.take (i + 1) b) = [c] := by rw [List.drop_take, drop_cons hc]; simp
      simp -implicitDefEqProofs (maxSteps := 2000000) (disch := omega) [-getElem?_pos]
      refine .mk (fun h => ?_) fun h => ?_
      · obtain ⟨e, hce⟩ : ∃ e, b[i + 1]? = some e := ⟨b[i + 1]'(by omega), List.getElem?_eq_getElem _⟩
        have htwo : List.drop i (List.take (i + 2) b) = [c, e] := by rw [List.drop_take, drop_cons hc, drop_cons hce]; simp
        have hS : signF b i signsL = sgn [c, e] := by rw [signF, drop_cons hc, drop_cons hce]; rfl
        rw [sgn_two] at hS
        have ht2 : ((i : Int) + 2).toNat = i + 2 := by omega
        have h1i : ((i : Int) + 1).toNat = i + 1 := by omega
        by_cases hA : c = 45 ∧ e = 62
        · skip
          have hS2 : signF b i signsL = [c, e] := by rw [hS, if_pos (by simp [hA])]
          rw [show X = NR.tok ⟨6, i, 0, [c, e]⟩ (i + 2) from by rw [hX, signN, hS2, if_neg (by simp)]; rfl]
          obtain ⟨rfl, rfl⟩ := hA
          simp -implicitDefEqProofs (maxSteps := 2000000) (disch := omega) [-getElem?_pos, h1i, hone, ht2, htwo]
          refine ⟨by omega, by omega, ?_⟩
          exact .fin _ ⟨rfl, rfl⟩ (.refl _)

        by_cases hB : c = 61 ∧ e = 61
        · skip
          have hS2 : signF b i signsL = [c, e] := by rw [hS, if_pos (by simp [hB])]
          rw [show X = NR.tok ⟨6, i, 0, [c, e]⟩ (i + 2) from by rw [hX, signN, hS2, if_neg (by simp)]; rfl]
          obtain ⟨rfl, rfl⟩ := hB
          simp -implicitDefEqProofs (maxSteps := 2000000) (disch := omega) [-getElem?_pos, h1i, hone, ht2, htwo]
          refine ⟨by omega, by omega, ?_⟩
          exact .fin _ ⟨rfl, rfl⟩ (.refl _)

        by_cases hC : c = 58 ∧ e = 61
        · skip
          have hS2 : signF b i signsL = [c, e] := by rw [hS, if_pos (by simp [hC])]
          rw [show X = NR.tok ⟨6, i, 0, [c, e]⟩ (i + 2) from by rw [hX, signN, hS2, if_neg (by simp)]; rfl]
          obtain ⟨rfl, rfl⟩ := hC
          simp -implicitDefEqProofs (maxSteps := 2000000) (disch := omega) [-getElem?_pos, h1i, hone, ht2, htwo]
          refine ⟨by omega, by omega, ?_⟩
          exact .fin _ ⟨rfl, rfl⟩ (.refl _)

        rw [if_neg (by simp only [List.mem_cons, List.not_mem_nil, or_false, List.cons.injEq, and_true, not_or]; exact ⟨hA, hB, hC⟩)] at hS
        simp -implicitDefEqProofs (maxSteps := 2000000) (disch := omega) [-getElem?_pos, hone, ht2, htwo]
        refine ⟨by omega, by omega, ?_⟩
        refine .mk (fun h => absurd h hA) fun _ => ?_
        have hB' := not_and.1 hB
        have hC' := not_and.1 hC
        have hBb : (c == 61 && e == 61) = false := by simpa using hB'
        have hCb : (c == 58 && e == 61) = false := by simpa using hC'
        simp -implicitDefEqProofs (maxSteps := 2000000) (disch := omega) [-getElem?_pos, hone, ht2, htwo, hBb, hCb, h1i]
        refine ⟨by omega, by omega, ?_⟩
        refine ((k_RIn (l := onesL) (s := [c])).argA VLe.lax.d).then fun r hr => ?_
        subst hr
        by_cases ho : [c] ∈ onesL
        · rw [if_pos ho] at hS
          rw [show X = NR.tok ⟨6, i, 0, [c]⟩ (i + 1) from by rw [hX, signN, hS, if_neg (by simp)]; rfl]
          simp -implicitDefEqProofs (maxSteps := 2000000) (disch := omega) [-getElem?_pos, ho]
          exact .fin _ ⟨rfl, rfl⟩ (.refl _)
        · rw [if_neg ho] at hS
          rw [show X = NR.bad i from by rw [hX, signN, hS, if_pos rfl]]
          simp -implicitDefEqProofs (maxSteps := 2000000) (disch := omega) [-getElem?_pos, ho]
          exact .fin _ ⟨⟨⟨0, 0, 0, []⟩, _, rfl⟩, rfl⟩ (.refl _)

      · have hS : signF b i signsL = sgn [c] := by rw [signF, drop_cons hc, List.drop_eq_nil_of_le (by omega)]; rfl
        have h1i : ((i : Int) + 1).toNat = i + 1 := by omega
        rw [sgn_one] at hS
        simp -implicitDefEqProofs (maxSteps := 2000000) (disch := omega) [-getElem?_pos, hone, h1i]
        refine ⟨by omega, by omega, ?_⟩
        refine ((k_RIn (l := onesL) (s := [c])).argA VLe.lax.d).then fun r hr => ?_
        subst hr
        by_cases ho : [c] ∈ onesL
        · rw [if_pos ho] at hS
          rw [show X = NR.tok ⟨6, i, 0, [c]⟩ (i + 1) from by rw [hX, signN, hS, if_neg (by simp)]; rfl]
          simp -implicitDefEqProofs (maxSteps := 2000000) (disch := omega) [-getElem?_pos, ho]
          exact .fin _ ⟨rfl, rfl⟩ (.refl _)
        · rw [if_neg ho] at hS
          rw [show X = NR.bad i from by rw [hX, signN, hS, if_pos rfl]]
          simp -implicitDefEqProofs (maxSteps := 2000000) (disch := omega) [-getElem?_pos, ho]
          exact .fin _ ⟨⟨⟨0, 0, 0, []⟩, _, rfl⟩, rfl⟩ (.refl _)

end Go.Proofs.YtpdeaekmgljeaaaGreatDoor
