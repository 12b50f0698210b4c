/-
  Core expressions: how many nodes; whether they are the same. (Own work.)
-/
import Derived.Test.YtbifjffjibnjjaaDoorG4
set_option linter.unusedVariables false
set_option linter.unusedSimpArgs false
namespace Go.Proofs.YtbifjffjibnjjaaDoor
open Go Go.Abs
theorem k_RTexts1 {a b : List Str} {σ : Sg} : ACalls Tryd.prog 36 [.v (vS a), .v (vS b)] σ fun r σ' => r = .v (.bool (decide (a = b))) ∧ σ' = σ := by
  refine acalls_fit Tryd.func36 (by kernel_rfl) c36 rfl (by simp [a36]) fun hf => ?_
  simp at hf
  simp -implicitDefEqProofs (maxSteps := 2000000) (disch := omega) [-getElem?_pos, a36]
  refine .mk (fun hl => ?_) fun hl => ?_
  rotate_left
  · simp -implicitDefEqProofs (maxSteps := 2000000) (disch := omega) [-getElem?_pos]
    exact .fin _ ⟨by simp; intro h; exact hl (by rw [h]), rfl⟩ (.refl _)
  simp -implicitDefEqProofs (maxSteps := 2000000) (disch := omega) [-getElem?_pos]
  refine W_loop (α := Nat) 0 (fun i => a.length - i) (fun i => ⟨[(0, .v (vS a)), (1, .v (vS b)), (5, .v (.int .i64 i))], σ⟩) (fun i => i ≤ a.length ∧ (a = b ↔ a.drop i = b.drop i))
    (.eq (by simp)) ⟨by omega, by simp⟩ fun i ⟨hi, he⟩ => ?_
  simp -implicitDefEqProofs (maxSteps := 2000000) (disch := omega) [-getElem?_pos]
  refine .mk (fun h => ?_) fun h => ?_
  · simp -implicitDefEqProofs (maxSteps := 2000000) (disch := omega) [-getElem?_pos]
    refine ⟨by omega, fun x hx => ?_⟩
    refine ⟨by omega, fun y hy => ?_⟩
    rw [drop_cons hx, drop_cons hy] at he
    refine .mk (fun hq => ?_) fun hq => ?_
    · subst hq
      simp -implicitDefEqProofs (maxSteps := 2000000) (disch := omega) [-getElem?_pos]
      refine ⟨i + 1, ⟨by omega, ?_⟩, by dsimp only; omega, .eq (by simp)⟩
      simpa using he
    · simp -implicitDefEqProofs (maxSteps := 2000000) (disch := omega) [-getElem?_pos]
      refine .fin _ ⟨?_, rfl⟩ (.refl _)
      rw [decide_eq_false (fun h' => hq (List.cons.inj (he.1 h')).1)]
  · simp -implicitDefEqProofs (maxSteps := 2000000) (disch := omega) [-getElem?_pos]
    refine .fin _ ⟨?_, rfl⟩ (.refl _)
    rw [List.drop_eq_nil_of_le (by omega), List.drop_eq_nil_of_le (by omega)] at he
    rw [decide_eq_true (he.2 rfl)]

theorem k_RTexts {a b : List Str} {σ : Sg} : ACalls Tryd.prog 18 [.v (vS a), .v (vS b)] σ fun r σ' => r = .v (.bool (decide (a = b))) ∧ σ' = σ := by
  refine acalls_fit Tryd.func18 (by kernel_rfl) c18 rfl (by simp [a18]) fun hf => ?_
  clear hf
  simp -implicitDefEqProofs (maxSteps := 2000000) (disch := omega) [-getElem?_pos, a18]
  refine k_RTexts1.then fun r hr => ?_
  subst hr
  simp -implicitDefEqProofs (maxSteps := 2000000) (disch := omega) [-getElem?_pos]
  exact .fin _ ⟨rfl, rfl⟩ (.refl _)

theorem k_Texts14 {a b : List Str} {σ : Sg} : ACalls Tryd.prog 32 [.v (vS a), .v (vS b)] σ fun r σ' => r = .v (.bool (decide (a = b))) ∧ σ' = σ := by
  refine acalls_fit Tryd.func32 (by kernel_rfl) c32 rfl (by simp [a32]) fun hf => ?_
  simp at hf
  simp -implicitDefEqProofs (maxSteps := 2000000) (disch := omega) [-getElem?_pos, a32]
  refine .mk (fun hl => ?_) fun hl => ?_
  rotate_left
  · simp -implicitDefEqProofs (maxSteps := 2000000) (disch := omega) [-getElem?_pos]
    exact .fin _ ⟨by simp; intro h; exact hl (by rw [h]), rfl⟩ (.refl _)
  simp -implicitDefEqProofs (maxSteps := 2000000) (disch := omega) [-getElem?_pos]
  refine W_loop (α := Nat) 0 (fun i => a.length - i) (fun i => ⟨[(0, .v (vS a)), (1, .v (vS b)), (5, .v (.int .i64 i))], σ⟩) (fun i => i ≤ a.length ∧ (a = b ↔ a.drop i = b.drop i))
    (.eq (by simp)) ⟨by omega, by simp⟩ fun i ⟨hi, he⟩ => ?_
  simp -implicitDefEqProofs (maxSteps := 2000000) (disch := omega) [-getElem?_pos]
  refine .mk (fun h => ?_) fun h => ?_
  · simp -implicitDefEqProofs (maxSteps := 2000000) (disch := omega) [-getElem?_pos]
    refine ⟨by omega, fun x hx => ?_⟩
    refine ⟨by omega, fun y hy => ?_⟩
    rw [drop_cons hx, drop_cons hy] at he
    refine .mk (fun hq => ?_) fun hq => ?_
    · subst hq
      simp -implicitDefEqProofs (maxSteps := 2000000) (disch := omega) [-getElem?_pos]
      refine ⟨i + 1, ⟨by omega, ?_⟩, by dsimp only; omega, .eq (by simp)⟩
      simpa using he
    · simp -implicitDefEqProofs (maxSteps := 2000000) (disch := omega) [-getElem?_pos]
      refine .fin _ ⟨?_, rfl⟩ (.refl _)
      rw [decide_eq_false (fun h' => hq (List.cons.inj (he.1 h')).1)]
  · simp -implicitDefEqProofs (maxSteps := 2000000) (disch := omega) [-getElem?_pos]
    refine .fin _ ⟨?_, rfl⟩ (.refl _)
    rw [List.drop_eq_nil_of_le (by omega), List.drop_eq_nil_of_le (by omega)] at he
    rw [decide_eq_true (he.2 rfl)]

noncomputable instance : DecidableEq Co := fun _ _ => Classical.propDecidable _
theorem k_EqualStr {xs ys : List (List UInt8)} {σ : Sg} : ACalls Tryd.prog 42 [.v (.sl none false (xs.map .str)), .v (.sl none false (ys.map .str))] σ fun r σ' => r = .v (.bool (decide (xs = ys))) ∧ σ' = σ := by
  refine acalls_fit Tryd.func42 (by kernel_rfl) c42 rfl (by simp [a42]) fun hf => ?_
  simp at hf
  simp -implicitDefEqProofs (maxSteps := 2000000) (disch := omega) [-getElem?_pos, a42]
  refine .mk (fun hl => ?_) fun hl => ?_
  rotate_left
  · simp -implicitDefEqProofs (maxSteps := 2000000) (disch := omega) [-getElem?_pos]
    exact .fin _ ⟨by simp; intro h; exact hl (by rw [h]), rfl⟩ (.refl _)
  simp -implicitDefEqProofs (maxSteps := 2000000) (disch := omega) [-getElem?_pos]
  refine W_loop (α := Nat) 0 (fun i => xs.length - i) (fun i => ⟨[(0, .v (.sl none false (xs.map .str))), (1, .v (.sl none false (ys.map .str))), (12, .v (.int .i64 xs.length)), (13, .v (.int .i64 i))], σ⟩) (fun i => i ≤ xs.length ∧ (xs = ys ↔ xs.drop i = ys.drop i))
    (.eq (by simp)) ⟨by omega, by simp⟩ fun i ⟨hi, he⟩ => ?_
  simp -implicitDefEqProofs (maxSteps := 2000000) (disch := omega) [-getElem?_pos]
  refine .mk (fun h => ?_) fun h => ?_
  · simp -implicitDefEqProofs (maxSteps := 2000000) (disch := omega) [-getElem?_pos]
    refine ⟨by omega, fun a ha => ?_⟩
    refine ⟨by omega, fun b hb => ?_⟩
    rw [drop_cons ha, drop_cons hb] at he
    refine .mk (fun hq => ?_) fun hq => ?_
    · subst hq
      simp -implicitDefEqProofs (maxSteps := 2000000) (disch := omega) [-getElem?_pos]
      refine ⟨i + 1, ⟨by omega, ?_⟩, by dsimp only; omega, .eq (by simp)⟩
      simpa using he
    · simp -implicitDefEqProofs (maxSteps := 2000000) (disch := omega) [-getElem?_pos]
      refine .fin _ ⟨?_, rfl⟩ (.refl _)
      rw [decide_eq_false (fun h' => hq (List.cons.inj (he.1 h')).1)]
  · simp -implicitDefEqProofs (maxSteps := 2000000) (disch := omega) [-getElem?_pos]
    refine .fin _ ⟨?_, rfl⟩ (.refl _)
    rw [List.drop_eq_nil_of_le (by omega), List.drop_eq_nil_of_le (by omega)] at he
    rw [decide_eq_true (he.2 rfl)]

theorem k_EqualFuncCore {xs ys : List Co} {fd : D} {σ : Sg} (hp : ∀ os x y, x ∈ xs → y ∈ ys → WCall Tryd.prog fd [.v (encC x), .v (encC y)] ⟨σ.objs ++ os, σ.toks⟩ fun r σ' => r = .v (.bool (decide (x = y))) ∧ σ' = ⟨σ.objs ++ os, σ.toks⟩)
    (hd : fd.low σ.objs.length σ.toks.length) :
    ACalls Tryd.prog 43 [.v (.sl (some 6) false (xs.map encC)), .v (.sl (some 6) false (ys.map encC)), fd] σ fun r σ' => r = .v (.bool (decide (xs = ys))) ∧ σ' = σ := by
  refine acalls_fit Tryd.func43 (by kernel_rfl) c43 rfl (by simp [a43]) fun hf => ?_
  simp at hf
  simp -implicitDefEqProofs (maxSteps := 2000000) (disch := omega) [-getElem?_pos, a43]
  refine .mk (fun hl => ?_) fun hl => ?_
  rotate_left
  · simp -implicitDefEqProofs (maxSteps := 2000000) (disch := omega) [-getElem?_pos]
    exact .fin _ ⟨by simp; intro h; exact hl (by rw [h]), rfl⟩ (.refl _)
  simp -implicitDefEqProofs (maxSteps := 2000000) (disch := omega) [-getElem?_pos]
  refine W_loop (α := Nat) 0 (fun i => xs.length - i) (fun i => ⟨[(1, .v (.sl (some 6) false (ys.map encC))), (2, fd), (15, .v (.sl (some 6) false (xs.map encC))), (16, .v (.int .i64 xs.length)), (17, .v (.int .i64 i))], σ⟩) (fun i => i ≤ xs.length ∧ (xs = ys ↔ xs.drop i = ys.drop i))
    (.eq (by simp)) ⟨by omega, by simp⟩ fun i ⟨hi, he⟩ => ?_
  simp -implicitDefEqProofs (maxSteps := 2000000) (disch := omega) [-getElem?_pos]
  refine .mk (fun h => ?_) fun h => ?_
  · simp -implicitDefEqProofs (maxSteps := 2000000) (disch := omega) [-getElem?_pos]
    refine ⟨by omega, fun a ha => ?_⟩
    obtain ⟨a0, ha0⟩ : ∃ a0, a0 = a := ⟨_, rfl⟩
    cases a with
    | mk k1 n1 s1 t1 ns1 l1 =>
    rw [encC_mk]
    simp -implicitDefEqProofs (maxSteps := 2000000) (disch := omega) [-getElem?_pos]
    refine ⟨by omega, fun b hb => ?_⟩
    obtain ⟨b0, hb0⟩ : ∃ b0, b0 = b := ⟨_, rfl⟩
    rw [drop_cons ha, drop_cons hb] at he
    have hp' := fun os => hp os _ b (List.mem_of_getElem? ha) (List.mem_of_getElem? hb)
    cases b with
    | mk k2 n2 s2 t2 ns2 l2 =>
    rw [encC_mk, encC_mk] at hp'
    rw [encC_mk]
    simp -implicitDefEqProofs (maxSteps := 2000000) (disch := omega) [-getElem?_pos]
    simp only [← ha0, ← hb0] at hp' he
    refine (hp' _).then fun r hr => ?_
    subst hr
    simp -implicitDefEqProofs (maxSteps := 2000000) (disch := omega) [-getElem?_pos]
    refine .mk (fun hq => ?_) fun hq => ?_
    · rw [hq] at he
      simp -implicitDefEqProofs (maxSteps := 2000000) (disch := omega) [-getElem?_pos]
      refine ⟨i + 1, ⟨by omega, ?_⟩, by dsimp only; omega, .dropO rfl (by simp) (by simp) (by simp [hd])⟩
      simpa using he
    · simp -implicitDefEqProofs (maxSteps := 2000000) (disch := omega) [-getElem?_pos]
      refine .fin _ ⟨?_, rfl⟩ (.refl _)
      rw [decide_eq_false (fun h' => hq (List.cons.inj (he.1 h')).1)]
  · simp -implicitDefEqProofs (maxSteps := 2000000) (disch := omega) [-getElem?_pos]
    refine .fin _ ⟨?_, rfl⟩ (.refl _)
    rw [List.drop_eq_nil_of_le (by omega), List.drop_eq_nil_of_le (by omega)] at he
    rw [decide_eq_true (he.2 rfl)]

mutual
def nds : Co → Nat
  | .mk _ _ _ _ _ l => 1 + ndsL l
def ndsL : List Co → Nat
  | [] => 0
  | x :: l => nds x + ndsL l
end
theorem ndsL_get {l : List Co} {i : Nat} {x : Co} (h : l[i]? = some x) : ndsL (l.take (i + 1)) = ndsL (l.take i) + nds x := by
  induction l generalizing i with
  | nil => simp at h
  | cons y l ih =>
    cases i with
    | zero => simp at h; subst h; simp [ndsL]
    | succ i => have := ih (by simpa using h); simp only [List.take_succ_cons, ndsL] at *; omega
theorem ndsL_take (l : List Co) (i : Nat) : ndsL (l.take i) ≤ ndsL l := by
  induction l generalizing i with
  | nil => simp
  | cons y l ih =>
    cases i with
    | zero => simp [ndsL]
    | succ i => have := ih i; simp only [List.take_succ_cons, ndsL]; omega
theorem nds_le (e : Co) : nds e ≤ csz e := by
  refine Co.ind (P := fun e => nds e ≤ csz e) (fun k n s t ns l ih => ?_) e
  have hl : ndsL l ≤ cszL l := by
    clear e
    induction l with
    | nil => simp [ndsL]
    | cons x l ih2 => have h1 := ih x (by simp); have h2 := ih2 fun y hy => ih y (by simp [hy]); simp only [ndsL, cszL]; omega
  simp only [nds, csz]
  omega
theorem k_Nodes (e : Co) : ∀ {σ : Sg}, csz e ≤ 1048576 → ACalls Tryd.prog 21 [.v (encC e)] σ fun r σ' => r = .v (.int .i64 (nds e)) ∧ σ' = σ := by
  refine Co.ind (P := fun e => ∀ {σ : Sg}, csz e ≤ 1048576 → ACalls Tryd.prog 21 [.v (encC e)] σ fun r σ' => r = .v (.int .i64 (nds e)) ∧ σ' = σ) (fun k n s t ns l ih => ?_) e
  intro σ he
  have hn := nds_le (.mk k n s t ns l)
  simp only [csz, nds] at he hn ⊢
  rw [encC_mk]
  refine acalls_fit Tryd.func21 (by kernel_rfl) c21 rfl (by simp [a21]) fun hf => ?_
  clear hf
  simp -implicitDefEqProofs (maxSteps := 2000000) (disch := omega) [-getElem?_pos, a21]
  refine W_loop (α := Nat) 0 (fun i => l.length - i) (fun i => ⟨[(1, .ptr σ.objs.length 0), (3, .v (.int .i64 (1 + ndsL (l.take i) : Nat))), (7, .v (.sl (some 6) false (l.map encC))), (8, .v (.int .i64 l.length)), (9, .v (.int .i64 i))], ⟨σ.objs ++ [obC (.mk k n s t ns l)], σ.toks⟩⟩)
    (fun i => i ≤ l.length) (.eq2 (by simp [obC_mk]) (by simp [ndsL])) (by omega) fun i hi => ?_
  have hnt := ndsL_take l i
  simp -implicitDefEqProofs (maxSteps := 2000000) (disch := omega) [-getElem?_pos]
  refine .mk (fun h => ?_) fun h => ?_
  · simp -implicitDefEqProofs (maxSteps := 2000000) (disch := omega) [-getElem?_pos]
    refine ⟨by omega, ?_⟩
    intro x hx
    have hx1 := cszL_mem (List.mem_of_getElem? hx)
    have hx2 := ndsL_get hx
    have hx3 := ndsL_take l (i + 1)
    have hcall := fun σ => ih x (List.mem_of_getElem? hx) (σ := σ) (by omega)
    have hll := cszL_len l
    cases x with
    | mk k2 n2 s2 t2 ns2 l2 =>
    rw [encC_mk] at hcall ⊢
    simp -implicitDefEqProofs (maxSteps := 2000000) (disch := omega) [-getElem?_pos]
    refine (hcall _).then fun r hr => ?_
    subst hr
    generalize Co.mk k2 n2 s2 t2 ns2 l2 = x at *
    simp -implicitDefEqProofs (maxSteps := 2000000) (disch := omega) [-getElem?_pos]
    refine ⟨i + 1, by omega, by dsimp only; omega, .dropX (ys := [obC (.mk k n s t ns l)]) (xs := [_]) rfl rfl (by simp) (by simp [obC_mk]) (by simp [hx2]; omega) (by simp)⟩
  · rw [List.take_of_length_le (by omega)]
    simp -implicitDefEqProofs (maxSteps := 2000000) (disch := omega) [-getElem?_pos]
    exact .fin _ ⟨by simp, rfl⟩ (.refl _)

theorem k_RNodes (e : Co) : ∀ {σ : Sg}, csz e ≤ 1048576 → ACalls Tryd.prog 22 [.v (encC e)] σ fun r σ' => r = .v (.int .i64 (nds e)) ∧ σ' = σ := by
  refine Co.ind (P := fun e => ∀ {σ : Sg}, csz e ≤ 1048576 → ACalls Tryd.prog 22 [.v (encC e)] σ fun r σ' => r = .v (.int .i64 (nds e)) ∧ σ' = σ) (fun k n s t ns l ih => ?_) e
  intro σ he
  have hn := nds_le (.mk k n s t ns l)
  simp only [csz, nds] at he hn ⊢
  rw [encC_mk]
  have hll := cszL_len l
  refine acalls_fit Tryd.func22 (by kernel_rfl) c22 rfl (by simp [a22]) fun hf => ?_
  clear hf
  simp -implicitDefEqProofs (maxSteps := 2000000) (disch := omega) [-getElem?_pos, a22]
  refine W_loop (α := Nat) 0 (fun i => l.length - i) (fun i => ⟨[(1, .ptr σ.objs.length 0), (3, .v (.int .i64 (1 + ndsL (l.take i) : Nat))), (4, .v (.int .i64 i))], ⟨σ.objs ++ [obC (.mk k n s t ns l)], σ.toks⟩⟩)
    (fun i => i ≤ l.length) (.eq2 (by simp [obC_mk]) (by simp [ndsL])) (by omega) fun i hi => ?_
  have hnt := ndsL_take l i
  simp -implicitDefEqProofs (maxSteps := 2000000) (disch := omega) [-getElem?_pos, obC_mk]
  refine .mk (fun h => ?_) fun h => ?_
  · simp -implicitDefEqProofs (maxSteps := 2000000) (disch := omega) [-getElem?_pos]
    refine ⟨by omega, ?_⟩
    intro x hx
    have hx1 := cszL_mem (List.mem_of_getElem? hx)
    have hx2 := ndsL_get hx
    have hx3 := ndsL_take l (i + 1)
    refine (ih x (List.mem_of_getElem? hx) (by omega)).then fun r hr => ?_
    subst hr
    simp -implicitDefEqProofs (maxSteps := 2000000) (disch := omega) [-getElem?_pos]
    exact ⟨i + 1, by omega, by dsimp only; omega, .eq2 (by simp [obC_mk]) (by simp [hx2]; omega)⟩
  · rw [List.take_of_length_le (by omega)]
    simp -implicitDefEqProofs (maxSteps := 2000000) (disch := omega) [-getElem?_pos]
    exact .fin _ ⟨by simp, rfl⟩ (.refl _)

theorem k_Same (a : Co) : ∀ (b : Co) {σ : Sg}, ACalls Tryd.prog 23 [.v (encC a), .v (encC b)] σ fun r σ' => r = .v (.bool (decide (a = b))) ∧ σ' = σ := by
  refine Co.ind (P := fun a => ∀ (b : Co) {σ : Sg}, ACalls Tryd.prog 23 [.v (encC a), .v (encC b)] σ fun r σ' => r = .v (.bool (decide (a = b))) ∧ σ' = σ) (fun k n s t ns l ih => ?_) a
  intro b σ
  cases b with
  | mk k2 n2 s2 t2 ns2 l2 =>
  rw [encC_mk, encC_mk]
  refine acalls_fit Tryd.func23 (by kernel_rfl) c23 rfl (by simp [a23]) fun hf => ?_
  clear hf
  by_cases h1 : k = k2
  rotate_left
  · simp -implicitDefEqProofs (maxSteps := 2000000) (disch := omega) [-getElem?_pos, a23, h1]
    exact .fin _ ⟨by simp [h1], rfl⟩ (.refl _)
  by_cases h2 : n = n2
  rotate_left
  · simp -implicitDefEqProofs (maxSteps := 2000000) (disch := omega) [-getElem?_pos, a23, h1, h2]
    exact .fin _ ⟨by simp [h2], rfl⟩ (.refl _)
  by_cases h3 : s = s2
  rotate_left
  · simp -implicitDefEqProofs (maxSteps := 2000000) (disch := omega) [-getElem?_pos, a23, h1, h2, h3]
    exact .fin _ ⟨by simp [h3], rfl⟩ (.refl _)
  by_cases h4 : t = t2
  rotate_left
  · simp -implicitDefEqProofs (maxSteps := 2000000) (disch := omega) [-getElem?_pos, a23, h1, h2, h3, h4]
    exact .fin _ ⟨by simp [h4], rfl⟩ (.refl _)
  subst h1 h2 h3 h4
  simp -implicitDefEqProofs (maxSteps := 2000000) (disch := omega) [-getElem?_pos, a23]
  refine k_EqualStr.then fun r hr => ?_
  subst hr
  by_cases h5 : ns = ns2
  rotate_left
  · simp -implicitDefEqProofs (maxSteps := 2000000) (disch := omega) [-getElem?_pos, h5]
    exact .fin _ ⟨by simp [h5], rfl⟩ (.refl _)
  subst h5
  simp -implicitDefEqProofs (maxSteps := 2000000) (disch := omega) [-getElem?_pos]
  refine (k_EqualFuncCore (xs := l) (ys := l2) (fun os x y hx hy => WCall_fn.symm ▸ ih x hx y) (by simp)).then fun r hr => ?_
  subst hr
  simp -implicitDefEqProofs (maxSteps := 2000000) (disch := omega) [-getElem?_pos]
  exact .fin _ ⟨by simp, rfl⟩ (.refl _)

theorem k_RSame (a : Co) : ∀ (b : Co) {σ : Sg}, csz a ≤ 1048576 → ACalls Tryd.prog 24 [.v (encC a), .v (encC b)] σ fun r σ' => r = .v (.bool (decide (a = b))) ∧ σ' = σ := by
  refine Co.ind (P := fun a => ∀ (b : Co) {σ : Sg}, csz a ≤ 1048576 → ACalls Tryd.prog 24 [.v (encC a), .v (encC b)] σ fun r σ' => r = .v (.bool (decide (a = b))) ∧ σ' = σ) (fun k n s t ns l ih => ?_) a
  intro b σ he
  simp only [csz] at he
  have hll := cszL_len l
  cases b with
  | mk k2 n2 s2 t2 ns2 l2 =>
  rw [encC_mk, encC_mk]
  refine acalls_fit Tryd.func24 (by kernel_rfl) c24 rfl (by simp [a24]) fun hf => ?_
  clear hf
  simp -implicitDefEqProofs (maxSteps := 2000000) (disch := omega) [-getElem?_pos, a24]
  refine k_Texts14.then fun r hr => ?_
  subst hr
  by_cases h1 : k = k2
  rotate_left
  · simp -implicitDefEqProofs (maxSteps := 2000000) (disch := omega) [-getElem?_pos, h1]
    exact .fin _ ⟨by simp [h1], rfl⟩ (.refl _)
  by_cases h2 : n = n2
  rotate_left
  · simp -implicitDefEqProofs (maxSteps := 2000000) (disch := omega) [-getElem?_pos, h1, h2]
    exact .fin _ ⟨by simp [h2], rfl⟩ (.refl _)
  by_cases h3 : s = s2
  rotate_left
  · simp -implicitDefEqProofs (maxSteps := 2000000) (disch := omega) [-getElem?_pos, h1, h2, h3]
    exact .fin _ ⟨by simp [h3], rfl⟩ (.refl _)
  by_cases h4 : t = t2
  rotate_left
  · simp -implicitDefEqProofs (maxSteps := 2000000) (disch := omega) [-getElem?_pos, h1, h2, h3, h4]
    exact .fin _ ⟨by simp [h4], rfl⟩ (.refl _)
  by_cases h5 : ns = ns2
  rotate_left
  · simp -implicitDefEqProofs (maxSteps := 2000000) (disch := omega) [-getElem?_pos, h1, h2, h3, h4, h5]
    exact .fin _ ⟨by simp [h5], rfl⟩ (.refl _)
  subst h1 h2 h3 h4 h5
  by_cases h6 : l.length = l2.length
  rotate_left
  · have h6i : ¬ (l.length : Int) = l2.length := by omega
    simp -implicitDefEqProofs (maxSteps := 2000000) (disch := omega) [-getElem?_pos, h6, h6i]
    exact .fin _ ⟨by simp; rintro rfl; exact h6 rfl, rfl⟩ (.refl _)
  simp -implicitDefEqProofs (maxSteps := 2000000) (disch := omega) [-getElem?_pos, h6]
  refine W_loop (α := Nat) 0 (fun i => l.length - i) (fun i => ⟨[(2, .ptr σ.objs.length 0), (3, .ptr (σ.objs.length + 1) 0), (4, .v (.bool false)), (6, .v (.int .i64 i))], ⟨σ.objs ++ [obC (.mk k n s t ns l), obC (.mk k n s t ns l2)], σ.toks⟩⟩)
    (fun i => i ≤ l.length ∧ (l = l2 ↔ l.drop i = l2.drop i)) (.eq2 (by simp [obC_mk]) (by simp)) ⟨by omega, by simp⟩ fun i ⟨hi, he2⟩ => ?_
  simp -implicitDefEqProofs (maxSteps := 2000000) (disch := omega) [-getElem?_pos, obC_mk]
  refine .mk (fun h => ?_) fun h => ?_
  · simp -implicitDefEqProofs (maxSteps := 2000000) (disch := omega) [-getElem?_pos]
    refine ⟨by omega, ?_⟩
    intro x hx
    refine ⟨by omega, ?_⟩
    intro y hy
    rw [drop_cons hx, drop_cons hy] at he2
    have hx1 := cszL_mem (List.mem_of_getElem? hx)
    refine (ih x (List.mem_of_getElem? hx) y (by omega)).then fun r hr => ?_
    subst hr
    by_cases hq : x = y
    · rw [hq] at he2
      simp -implicitDefEqProofs (maxSteps := 2000000) (disch := omega) [-getElem?_pos, hq]
      refine ⟨i + 1, ⟨by omega, ?_⟩, by dsimp only; omega, .eq2 (by simp [obC_mk]) (by simp)⟩
      simpa using he2
    · simp -implicitDefEqProofs (maxSteps := 2000000) (disch := omega) [-getElem?_pos, hq]
      refine .fin _ ⟨?_, rfl⟩ (.refl _)
      have hne : ¬ l = l2 := fun h => hq (List.cons.inj (he2.1 h)).1
      simp [hne]
  · simp -implicitDefEqProofs (maxSteps := 2000000) (disch := omega) [-getElem?_pos]
    refine .fin _ ⟨?_, rfl⟩ (.refl _)
    rw [List.drop_eq_nil_of_le (by omega), List.drop_eq_nil_of_le (by omega)] at he2
    simp [he2.2 rfl]
end Go.Proofs.YtbifjffjibnjjaaDoor
