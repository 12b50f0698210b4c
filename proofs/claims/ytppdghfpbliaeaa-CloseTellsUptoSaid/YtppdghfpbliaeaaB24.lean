/-
  Closed functions: the reference: whether expressions are the same, whether a name is lacking; an error's number. (Own work.)
-/
import Derived.Test.YtppdghfpbliaeaaB21
set_option linter.unusedVariables false
set_option linter.unusedSimpArgs false
namespace Go.Proofs.Ytppdghfpbliaeaa
open Go Go.Abs

theorem k_Texts14 {a b : List Str} {σ : Sg} : ACalls Try.prog 38 [.v (vS a), .v (vS b)] σ fun r σ' => r = .v (.bool (decide (a = b))) ∧ σ' = σ := by
  refine acalls_fit Try.func38 (by kernel_rfl) c38 rfl (by simp [a38]) fun hf => ?_
  simp at hf
  simp -implicitDefEqProofs (maxSteps := 2000000) (disch := omega) [-getElem?_pos, a38]
  refine .mk (fun hl => ?_) fun hl => ?_
  rotate_left
  · simp -implicitDefEqProofs (maxSteps := 2000000) (disch := omega) [-getElem?_pos]
    exact .fin _ ⟨by simp; intro h; exact hl (by rw [h]), rfl⟩ (.refl _)
  simp -implicitDefEqProofs (maxSteps := 2000000) (disch := omega) [-getElem?_pos]
  refine W_loop (α := Nat) 0 (fun i => a.length - i) (fun i => ⟨[(0, .v (vS a)), (1, .v (vS b)), (5, .v (.int .i64 i))], σ⟩) (fun i => i ≤ a.length ∧ (a = b ↔ a.drop i = b.drop i))
    (.eq (by simp)) ⟨by omega, by simp⟩ fun i ⟨hi, he⟩ => ?_
  simp -implicitDefEqProofs (maxSteps := 2000000) (disch := omega) [-getElem?_pos]
  refine .mk (fun h => ?_) fun h => ?_
  · simp -implicitDefEqProofs (maxSteps := 2000000) (disch := omega) [-getElem?_pos]
    refine ⟨by omega, fun x hx => ?_⟩
    refine ⟨by omega, fun y hy => ?_⟩
    rw [drop_cons hx, drop_cons hy] at he
    refine .mk (fun hq => ?_) fun hq => ?_
    · subst hq
      simp -implicitDefEqProofs (maxSteps := 2000000) (disch := omega) [-getElem?_pos]
      refine ⟨i + 1, ⟨by omega, ?_⟩, by dsimp only; omega, .eq (by simp)⟩
      simpa using he
    · simp -implicitDefEqProofs (maxSteps := 2000000) (disch := omega) [-getElem?_pos]
      refine .fin _ ⟨?_, rfl⟩ (.refl _)
      rw [decide_eq_false (fun h' => hq (List.cons.inj (he.1 h')).1)]
  · simp -implicitDefEqProofs (maxSteps := 2000000) (disch := omega) [-getElem?_pos]
    refine .fin _ ⟨?_, rfl⟩ (.refl _)
    rw [List.drop_eq_nil_of_le (by omega), List.drop_eq_nil_of_le (by omega)] at he
    rw [decide_eq_true (he.2 rfl)]

noncomputable instance : DecidableEq Co := fun _ _ => Classical.propDecidable _
theorem k_RSame (a : Co) : ∀ (b : Co) {σ : Sg}, csz a ≤ 1048576 → ACalls Try.prog 13 [.v (encC a), .v (encC b)] σ fun r σ' => r = .v (.bool (decide (a = b))) ∧ σ' = σ := by
  refine Co.ind (P := fun a => ∀ (b : Co) {σ : Sg}, csz a ≤ 1048576 → ACalls Try.prog 13 [.v (encC a), .v (encC b)] σ fun r σ' => r = .v (.bool (decide (a = b))) ∧ σ' = σ) (fun k n s t ns l ih => ?_) a
  intro b σ he
  simp only [csz] at he
  have hll := cszL_len l
  cases b with
  | mk k2 n2 s2 t2 ns2 l2 =>
  rw [encC_mk, encC_mk]
  refine acalls_fit Try.func13 (by kernel_rfl) c13 rfl (by simp [a13]) fun hf => ?_
  clear hf
  simp -implicitDefEqProofs (maxSteps := 2000000) (disch := omega) [-getElem?_pos, a13]
  refine k_Texts14.then fun r hr => ?_
  subst hr
  by_cases h1 : k = k2
  rotate_left
  · simp -implicitDefEqProofs (maxSteps := 2000000) (disch := omega) [-getElem?_pos, h1]
    exact .fin _ ⟨by simp [h1], rfl⟩ (.refl _)
  by_cases h2 : n = n2
  rotate_left
  · simp -implicitDefEqProofs (maxSteps := 2000000) (disch := omega) [-getElem?_pos, h1, h2]
    exact .fin _ ⟨by simp [h2], rfl⟩ (.refl _)
  by_cases h3 : s = s2
  rotate_left
  · simp -implicitDefEqProofs (maxSteps := 2000000) (disch := omega) [-getElem?_pos, h1, h2, h3]
    exact .fin _ ⟨by simp [h3], rfl⟩ (.refl _)
  by_cases h4 : t = t2
  rotate_left
  · simp -implicitDefEqProofs (maxSteps := 2000000) (disch := omega) [-getElem?_pos, h1, h2, h3, h4]
    exact .fin _ ⟨by simp [h4], rfl⟩ (.refl _)
  by_cases h5 : ns = ns2
  rotate_left
  · simp -implicitDefEqProofs (maxSteps := 2000000) (disch := omega) [-getElem?_pos, h1, h2, h3, h4, h5]
    exact .fin _ ⟨by simp [h5], rfl⟩ (.refl _)
  subst h1 h2 h3 h4 h5
  by_cases h6 : l.length = l2.length
  rotate_left
  · have h6i : ¬ (l.length : Int) = l2.length := by omega
    simp -implicitDefEqProofs (maxSteps := 2000000) (disch := omega) [-getElem?_pos, h6, h6i]
    exact .fin _ ⟨by simp; rintro rfl; exact h6 rfl, rfl⟩ (.refl _)
  simp -implicitDefEqProofs (maxSteps := 2000000) (disch := omega) [-getElem?_pos, h6]
  refine W_loop (α := Nat) 0 (fun i => l.length - i) (fun i => ⟨[(2, .ptr σ.objs.length 0), (3, .ptr (σ.objs.length + 1) 0), (4, .v (.bool false)), (6, .v (.int .i64 i))], ⟨σ.objs ++ [obC (.mk k n s t ns l), obC (.mk k n s t ns l2)], σ.toks⟩⟩)
    (fun i => i ≤ l.length ∧ (l = l2 ↔ l.drop i = l2.drop i)) (.eq2 (by simp [obC_mk]) (by simp)) ⟨by omega, by simp⟩ fun i ⟨hi, he2⟩ => ?_
  simp -implicitDefEqProofs (maxSteps := 2000000) (disch := omega) [-getElem?_pos, obC_mk]
  refine .mk (fun h => ?_) fun h => ?_
  · simp -implicitDefEqProofs (maxSteps := 2000000) (disch := omega) [-getElem?_pos]
    refine ⟨by omega, ?_⟩
    intro x hx
    refine ⟨by omega, ?_⟩
    intro y hy
    rw [drop_cons hx, drop_cons hy] at he2
    have hx1 := cszL_mem (List.mem_of_getElem? hx)
    refine (ih x (List.mem_of_getElem? hx) y (by omega)).then fun r hr => ?_
    subst hr
    by_cases hq : x = y
    · rw [hq] at he2
      simp -implicitDefEqProofs (maxSteps := 2000000) (disch := omega) [-getElem?_pos, hq]
      refine ⟨i + 1, ⟨by omega, ?_⟩, by dsimp only; omega, .eq2 (by simp [obC_mk]) (by simp)⟩
      simpa using he2
    · simp -implicitDefEqProofs (maxSteps := 2000000) (disch := omega) [-getElem?_pos, hq]
      refine .fin _ ⟨?_, rfl⟩ (.refl _)
      have hne : ¬ l = l2 := fun h => hq (List.cons.inj (he2.1 h)).1
      simp [hne]
  · simp -implicitDefEqProofs (maxSteps := 2000000) (disch := omega) [-getElem?_pos]
    refine .fin _ ⟨?_, rfl⟩ (.refl _)
    rw [List.drop_eq_nil_of_le (by omega), List.drop_eq_nil_of_le (by omega)] at he2
    simp [he2.2 rfl]

mutual
/-- Is there one without a name? -/
def nl : Co → Bool
  | .mk k n s t ns l => badOf (.mk k n s t ns l) || nlL l
def nlL : List Co → Bool
  | [] => false
  | x :: l => nl x || nlL l
end
theorem wk_bad (e : Co) : ∀ w, (wk e w).2.bad = (w.bad || nl e) := by
  refine Co.ind (P := fun e => ∀ w, (wk e w).2.bad = (w.bad || nl e)) (fun k n s t ns l ih w => ?_) e
  have hL : ∀ (l : List Co) (w : Ws), (∀ x ∈ l, ∀ w, (wk x w).2.bad = (w.bad || nl x)) → (wkL l w).2.bad = (w.bad || nlL l) := by
    intro l
    induction l with
    | nil => intro w _; simp [wkL, nlL]
    | cons x l ih2 =>
      intro w h
      simp only [wkL, nlL]
      rw [ih2 (wk x w).2 fun y hy => h y (by simp [hy]), h x (by simp), Bool.or_assoc]
  have h1 := hL l (if isFun k then ⟨w.fs ++ [fuOf (.mk k n s t ns l)], w.bad || badOf (.mk k n s t ns l)⟩ else w) ih
  simp only [wk, nl]
  cases hk : isFun k with
  | false =>
    have hb : badOf (.mk k n s t ns l) = false := by
      simp only [isFun, decide_eq_false_iff_not] at hk
      simp only [badOf, decide_eq_false_iff_not]
      rintro ⟨h, _⟩
      exact hk (.inr h)
    simp only [hk, Bool.false_eq_true, if_false] at h1 ⊢
    rw [h1, hb, Bool.false_or]
  | true =>
    simp only [hk, if_true] at h1 ⊢
    rw [Bool.or_assoc] at h1
    cases hr : (wkL l ⟨w.fs ++ [fuOf (.mk k n s t ns l)], w.bad || badOf (.mk k n s t ns l)⟩).1 with
    | nil => exact h1
    | cons x r => exact h1
theorem nlL_false {l : List Co} : nlL l = false ↔ ∀ x ∈ l, nl x = false := by
  induction l with
  | nil => simp [nlL]
  | cons x l ih => simp [nlL, ih]
theorem nlL_true {l : List Co} {x : Co} (hx : x ∈ l) (h : nl x = true) : nlL l = true := by
  cases hq : nlL l with
  | true => rfl
  | false => rw [nlL_false.1 hq x hx] at h; cases h
theorem k_Nameless (e : Co) : ∀ {σ : Sg}, csz e ≤ 1048576 → ACalls Try.prog 34 [.v (encC e)] σ fun r σ' => r = .v (.bool (nl e)) ∧ σ' = σ := by
  refine Co.ind (P := fun e => ∀ {σ : Sg}, csz e ≤ 1048576 → ACalls Try.prog 34 [.v (encC e)] σ fun r σ' => r = .v (.bool (nl e)) ∧ σ' = σ) (fun k n s t ns l ih => ?_) e
  intro σ he
  have hll := cszL_len l
  have he' := he
  simp only [csz] at he'
  simp only [nl]
  rw [encC_mk]
  refine acalls_fit Try.func34 (by kernel_rfl) c34 rfl (by simp [a34]) fun hf => ?_
  clear hf
  by_cases hb : badOf (.mk k n s t ns l) = true
  · rw [hb]
    simp only [badOf, decide_eq_true_eq] at hb
    obtain ⟨rfl, rfl⟩ := hb
    simp -implicitDefEqProofs (maxSteps := 2000000) (disch := omega) [-getElem?_pos, a34]
    exact .fin _ ⟨rfl, rfl⟩ (.refl _)
  have hb' : badOf (.mk k n s t ns l) = false := by simpa using hb
  rw [hb', Bool.false_or]
  simp only [badOf, decide_eq_true_eq] at hb
  by_cases h7 : k = 7
  · subst h7
    have hs : ¬ s = [] := fun h => hb ⟨rfl, h⟩
    simp -implicitDefEqProofs (maxSteps := 2000000) (disch := omega) [-getElem?_pos, a34, hs]
    refine W_loop (α := Nat) 0 (fun i => l.length - i) (fun i => ⟨[(1, .ptr σ.objs.length 0), (3, .v (.int .i64 i))], ⟨σ.objs ++ [.cells [.v (.int .i64 7), .v (.int .i64 n), .v (.str s), .v (.str t), .v (.sl none false (ns.map .str)), .v (.sl (some 6) false (l.map encC))]], σ.toks⟩⟩)
      (fun i => i ≤ l.length ∧ ∀ x ∈ l.take i, nl x = false) (.eq (by simp)) ⟨by simp, by simp⟩ fun i ⟨hi, hm⟩ => ?_
    simp -implicitDefEqProofs (maxSteps := 2000000) (disch := omega) [-getElem?_pos]
    refine .mk (fun h => ?_) fun h => ?_
    · simp -implicitDefEqProofs (maxSteps := 2000000) (disch := omega) [-getElem?_pos]
      refine ⟨by omega, ?_⟩
      intro x hx
      have hmx := List.mem_of_getElem? hx
      have hcx := cszL_mem hmx
      refine (ih x hmx (by omega)).then fun r hr => ?_
      subst hr
      cases hb2 : nl x with
      | true =>
        simp -implicitDefEqProofs (maxSteps := 2000000) (disch := omega) [-getElem?_pos]
        exact .fin _ ⟨by rw [nlL_true hmx hb2], rfl⟩ (.refl _)
      | false =>
        simp -implicitDefEqProofs (maxSteps := 2000000) (disch := omega) [-getElem?_pos]
        refine ⟨i + 1, ⟨by omega, fun y hy => ?_⟩, by show l.length - (i + 1) < l.length - i; omega, .eq (by simp)⟩
        rw [List.take_add_one, hx] at hy
        simp only [Option.toList, List.mem_append, List.mem_singleton] at hy
        rcases hy with hy | rfl
        · exact hm y hy
        · exact hb2
    · simp -implicitDefEqProofs (maxSteps := 2000000) (disch := omega) [-getElem?_pos]
      rw [List.take_of_length_le (by omega)] at hm
      exact .fin _ ⟨by rw [nlL_false.2 hm], rfl⟩ (.refl _)

  · simp -implicitDefEqProofs (maxSteps := 2000000) (disch := omega) [-getElem?_pos, a34, h7]
    refine W_loop (α := Nat) 0 (fun i => l.length - i) (fun i => ⟨[(1, .ptr σ.objs.length 0), (3, .v (.int .i64 i))], ⟨σ.objs ++ [.cells [.v (.int .i64 k), .v (.int .i64 n), .v (.str s), .v (.str t), .v (.sl none false (ns.map .str)), .v (.sl (some 6) false (l.map encC))]], σ.toks⟩⟩)
      (fun i => i ≤ l.length ∧ ∀ x ∈ l.take i, nl x = false) (.eq (by simp)) ⟨by simp, by simp⟩ fun i ⟨hi, hm⟩ => ?_
    simp -implicitDefEqProofs (maxSteps := 2000000) (disch := omega) [-getElem?_pos]
    refine .mk (fun h => ?_) fun h => ?_
    · simp -implicitDefEqProofs (maxSteps := 2000000) (disch := omega) [-getElem?_pos]
      refine ⟨by omega, ?_⟩
      intro x hx
      have hmx := List.mem_of_getElem? hx
      have hcx := cszL_mem hmx
      refine (ih x hmx (by omega)).then fun r hr => ?_
      subst hr
      cases hb2 : nl x with
      | true =>
        simp -implicitDefEqProofs (maxSteps := 2000000) (disch := omega) [-getElem?_pos]
        exact .fin _ ⟨by rw [nlL_true hmx hb2], rfl⟩ (.refl _)
      | false =>
        simp -implicitDefEqProofs (maxSteps := 2000000) (disch := omega) [-getElem?_pos]
        refine ⟨i + 1, ⟨by omega, fun y hy => ?_⟩, by show l.length - (i + 1) < l.length - i; omega, .eq (by simp)⟩
        rw [List.take_add_one, hx] at hy
        simp only [Option.toList, List.mem_append, List.mem_singleton] at hy
        rcases hy with hy | rfl
        · exact hm y hy
        · exact hb2
    · simp -implicitDefEqProofs (maxSteps := 2000000) (disch := omega) [-getElem?_pos]
      rw [List.take_of_length_le (by omega)] at hm
      exact .fin _ ⟨by rw [nlL_false.2 hm], rfl⟩ (.refl _)

theorem k_Code {n : Int} {σ : Sg} (h1 : 0 ≤ n) (h2 : n ≤ 11) : ACalls Try.prog 11 [.v (errV n)] σ fun r σ' => r = .v (.int .i64 n) ∧ σ' = σ := by
  refine acalls_fit Try.func11 (by kernel_rfl) c11 rfl (by simp [a11]) fun hf => ?_
  clear hf
  by_cases h0 : n = 0
  · subst h0
    simp -implicitDefEqProofs (maxSteps := 2000000) (disch := omega) [-getElem?_pos, a11, errV]
    exact .fin _ ⟨rfl, rfl⟩ (.refl _)
  simp -implicitDefEqProofs (maxSteps := 2000000) (disch := omega) [-getElem?_pos, a11, errV, h0]
  refine W_loop (α := Nat) 1 (fun i => 12 - i) (fun i => ⟨[(0, .v (.iface 47 (.int .i64 n))), (3, .v (.int .i64 i))], σ⟩) (fun i => 1 ≤ i ∧ i ≤ n) (.eq (by simp)) (by omega) fun i ⟨hi, hin⟩ => ?_
  simp -implicitDefEqProofs (maxSteps := 2000000) (disch := omega) [-getElem?_pos]
  refine .mk (fun h => ?_) fun h => by omega
  have hty : intTy Try.prog 47 = true := by kernel_rfl
  simp -implicitDefEqProofs (maxSteps := 2000000) (disch := omega) [-getElem?_pos, hty]
  by_cases hq : n = i
  · simp -implicitDefEqProofs (maxSteps := 2000000) (disch := omega) [-getElem?_pos, hq]
    exact .fin _ ⟨rfl, rfl⟩ (.refl _)
  · simp -implicitDefEqProofs (maxSteps := 2000000) (disch := omega) [-getElem?_pos, hq]
    exact ⟨i + 1, by omega, by show 12 - (i + 1) < 12 - i; omega, .eq (by simp)⟩
end Go.Proofs.Ytppdghfpbliaeaa
