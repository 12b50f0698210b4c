/-
  Layer 14: with more fuel, walked. (Own work.)
-/
import Derived.Test.YtbifjffjibnjjaaDoorK18
set_option linter.unusedVariables false
set_option linter.unusedSimpArgs false
set_option maxHeartbeats 1000000
namespace Go.Proofs.YtbifjffjibnjjaaDoor
open Go Go.Abs

def obC : Co → Ob
  | .mk k n s t ns l => .cells [.v (.int .i64 k), .v (.int .i64 n), .v (.str s), .v (.str t), .v (.sl none false (ns.map .str)), .v (.sl (some 6) false (l.map encC))]
theorem obC_mk {k n : Int} {s t : Str} {ns : List Str} {l : List Co} : obC (.mk k n s t ns l) = .cells [.v (.int .i64 k), .v (.int .i64 n), .v (.str s), .v (.str t), .v (.sl none false (ns.map .str)), .v (.sl (some 6) false (l.map encC))] := rfl
mutual
def nds : Co → Nat
  | .mk _ _ _ _ _ l => 1 + ndsL l
def ndsL : List Co → Nat
  | [] => 0
  | x :: l => nds x + ndsL l
end
theorem ndsL_get {l : List Co} {i : Nat} {x : Co} (h : l[i]? = some x) : ndsL (l.take (i + 1)) = ndsL (l.take i) + nds x := by
  induction l generalizing i with
  | nil => simp at h
  | cons y l ih =>
    cases i with
    | zero => simp at h; subst h; simp [ndsL]
    | succ i => have := ih (by simpa using h); simp only [List.take_succ_cons, ndsL] at *; omega
theorem ndsL_take (l : List Co) (i : Nat) : ndsL (l.take i) ≤ ndsL l := by
  induction l generalizing i with
  | nil => simp
  | cons y l ih =>
    cases i with
    | zero => simp [ndsL]
    | succ i => have := ih i; simp only [List.take_succ_cons, ndsL]; omega
theorem nds_le (e : Co) : nds e ≤ csz e := by
  refine Co.ind (P := fun e => nds e ≤ csz e) (fun k n s t ns l ih => ?_) e
  have hl : ndsL l ≤ cszL l := by
    clear e
    induction l with
    | nil => simp [ndsL]
    | cons x l ih2 => have h1 := ih x (by simp); have h2 := ih2 fun y hy => ih y (by simp [hy]); simp only [ndsL, cszL]; omega
  simp only [nds, csz]
  omega
theorem k_Nodes (e : Co) : ∀ {σ : Sg}, csz e ≤ 1048576 → ACalls Tryd.prog 21 [.v (encC e)] σ fun r σ' => r = .v (.int .i64 (nds e)) ∧ σ' = σ := by
  refine Co.ind (P := fun e => ∀ {σ : Sg}, csz e ≤ 1048576 → ACalls Tryd.prog 21 [.v (encC e)] σ fun r σ' => r = .v (.int .i64 (nds e)) ∧ σ' = σ) (fun k n s t ns l ih => ?_) e
  intro σ he
  have hn := nds_le (.mk k n s t ns l)
  simp only [csz, nds] at he hn ⊢
  rw [encC_mk]
  refine acalls_fit Tryd.func21 (by kernel_rfl) c21 rfl (by simp [a21]) fun hf => ?_
  clear hf
  simp -implicitDefEqProofs (maxSteps := 2000000) (disch := omega) [-getElem?_pos, a21]
  refine W_loop (α := Nat) 0 (fun i => l.length - i) (fun i => ⟨[(1, .ptr σ.objs.length 0), (3, .v (.int .i64 (1 + ndsL (l.take i) : Nat))), (7, .v (.sl (some 6) false (l.map encC))), (8, .v (.int .i64 l.length)), (9, .v (.int .i64 i))], ⟨σ.objs ++ [obC (.mk k n s t ns l)], σ.toks⟩⟩)
    (fun i => i ≤ l.length) (.eq2 (by simp [obC_mk]) (by simp [ndsL])) (by omega) fun i hi => ?_
  have hnt := ndsL_take l i
  simp -implicitDefEqProofs (maxSteps := 2000000) (disch := omega) [-getElem?_pos]
  refine .mk (fun h => ?_) fun h => ?_
  · simp -implicitDefEqProofs (maxSteps := 2000000) (disch := omega) [-getElem?_pos]
    refine ⟨by omega, ?_⟩
    intro x hx
    have hx1 := cszL_mem (List.mem_of_getElem? hx)
    have hx2 := ndsL_get hx
    have hx3 := ndsL_take l (i + 1)
    have hcall := fun σ => ih x (List.mem_of_getElem? hx) (σ := σ) (by omega)
    have hll := cszL_len l
    cases x with
    | mk k2 n2 s2 t2 ns2 l2 =>
    rw [encC_mk] at hcall ⊢
    simp -implicitDefEqProofs (maxSteps := 2000000) (disch := omega) [-getElem?_pos]
    refine (hcall _).then fun r hr => ?_
    subst hr
    generalize Co.mk k2 n2 s2 t2 ns2 l2 = x at *
    simp -implicitDefEqProofs (maxSteps := 2000000) (disch := omega) [-getElem?_pos]
    refine ⟨i + 1, by omega, by dsimp only; omega, .dropX (ys := [obC (.mk k n s t ns l)]) (xs := [_]) rfl rfl (by simp) (by simp [obC_mk]) (by simp [hx2]; omega) (by simp)⟩
  · rw [List.take_of_length_le (by omega)]
    simp -implicitDefEqProofs (maxSteps := 2000000) (disch := omega) [-getElem?_pos]
    exact .fin _ ⟨by simp, rfl⟩ (.refl _)

@[reducible] def coInt (n : Int) : V := .agg [.int .i64 1, .int .i64 n, .str [], .str [], .snil, .snil]
@[reducible] def coSum : V := .agg [.int .i64 16, .int .i64 0, .str [43], .str [], .snil, .sl (some 6) true [coInt 2, coInt 3]]
theorem k_Sum {σ : Sg} : ACalls Tryd.prog 29 [] σ fun r σ' => r = .v coSum ∧ σ' = σ := by
  refine acalls_fit Tryd.func29 (by kernel_rfl) c29 rfl (by simp [a29]) fun hf => ?_
  clear hf
  simp -implicitDefEqProofs (maxSteps := 2000000) (disch := omega) [-getElem?_pos, a29]
  exact .fin _ ⟨rfl, rfl⟩ (.refl _)

def coE : Co := .mk 16 0 [43] [] [] [.mk 1 2 [] [] [] [], .mk 1 3 [] [] [] []]
theorem le_coInt {n : Int} : VLe (coInt n) (encC (.mk 1 n [] [] [] [])) := by
  rw [encC_mk]
  exact .agg ⟨.refl _, .refl _, .refl _, .refl _, .snil, .snil, trivial⟩ (by simp)
theorem le_coSum : D.Le (.v coSum) (.v (encC coE)) := by
  refine VLe.d ?_
  unfold coE
  rw [encC_mk]
  refine .agg ⟨.refl _, .refl _, .refl _, .refl _, .snil, .sl rfl (by intro y hy; obtain ⟨x, _, rfl⟩ := List.mem_map.1 hy; exact encC_shape x) ?_ ?_, trivial⟩ (by simp)
  · simp [V.flat, encC_mk]
  · simp only [V.flat, encC_mk, List.map_cons, List.map_nil, List.flatMap_cons, List.flatMap_nil, V.cells, List.cons_append, List.nil_append]
    exact ⟨.refl _, .refl _, .refl _, .refl _, .snil, .snil, .refl _, .refl _, .refl _, .refl _, .snil, .snil, trivial⟩

theorem k_RTexts {a b : List Str} {σ : Sg} : ACalls Tryd.prog 32 [.v (vS a), .v (vS b)] σ fun r σ' => r = .v (.bool (decide (a = b))) ∧ σ' = σ := by
  refine acalls_fit Tryd.func32 (by kernel_rfl) c32 rfl (by simp [a32]) fun hf => ?_
  simp at hf
  simp -implicitDefEqProofs (maxSteps := 2000000) (disch := omega) [-getElem?_pos, a32]
  refine .mk (fun hl => ?_) fun hl => ?_
  rotate_left
  · simp -implicitDefEqProofs (maxSteps := 2000000) (disch := omega) [-getElem?_pos]
    exact .fin _ ⟨by simp; intro h; exact hl (by rw [h]), rfl⟩ (.refl _)
  simp -implicitDefEqProofs (maxSteps := 2000000) (disch := omega) [-getElem?_pos]
  refine W_loop (α := Nat) 0 (fun i => a.length - i) (fun i => ⟨[(0, .v (vS a)), (1, .v (vS b)), (5, .v (.int .i64 i))], σ⟩) (fun i => i ≤ a.length ∧ (a = b ↔ a.drop i = b.drop i))
    (.eq (by simp)) ⟨by omega, by simp⟩ fun i ⟨hi, he⟩ => ?_
  simp -implicitDefEqProofs (maxSteps := 2000000) (disch := omega) [-getElem?_pos]
  refine .mk (fun h => ?_) fun h => ?_
  · simp -implicitDefEqProofs (maxSteps := 2000000) (disch := omega) [-getElem?_pos]
    refine ⟨by omega, fun x hx => ?_⟩
    refine ⟨by omega, fun y hy => ?_⟩
    rw [drop_cons hx, drop_cons hy] at he
    refine .mk (fun hq => ?_) fun hq => ?_
    · subst hq
      simp -implicitDefEqProofs (maxSteps := 2000000) (disch := omega) [-getElem?_pos]
      refine ⟨i + 1, ⟨by omega, ?_⟩, by dsimp only; omega, .eq (by simp)⟩
      simpa using he
    · simp -implicitDefEqProofs (maxSteps := 2000000) (disch := omega) [-getElem?_pos]
      refine .fin _ ⟨?_, rfl⟩ (.refl _)
      rw [decide_eq_false (fun h' => hq (List.cons.inj (he.1 h')).1)]
  · simp -implicitDefEqProofs (maxSteps := 2000000) (disch := omega) [-getElem?_pos]
    refine .fin _ ⟨?_, rfl⟩ (.refl _)
    rw [List.drop_eq_nil_of_le (by omega), List.drop_eq_nil_of_le (by omega)] at he
    rw [decide_eq_true (he.2 rfl)]

def outsB (m m' : Ms) : Bool := decide (m.err = m'.err ∧ m.fault = m'.fault ∧ m.tr = m'.tr)
theorem k_Outs {m m' : Ms} {σ : Sg} : ACalls Tryd.prog 12 [.v (outV m), .v (outV m')] σ fun r σ' => r = .v (.bool (outsB m m')) ∧ σ' = σ := by
  unfold outV
  refine acalls_fit Tryd.func12 (by kernel_rfl) c12 rfl (by simp [a12]) fun hf => ?_
  clear hf
  simp -implicitDefEqProofs (maxSteps := 2000000) (disch := omega) [-getElem?_pos, a12]
  refine k_RTexts.then fun r hr => ?_
  subst hr
  simp -implicitDefEqProofs (maxSteps := 2000000) (disch := omega) [-getElem?_pos]
  refine .mk (fun h1 => ?_) fun h1 => ?_
  · simp -implicitDefEqProofs (maxSteps := 2000000) (disch := omega) [-getElem?_pos]
    refine .mk (fun h2 => ?_) fun h2 => ?_
    · simp -implicitDefEqProofs (maxSteps := 2000000) (disch := omega) [-getElem?_pos]
      exact .fin _ ⟨by simp [outsB, h1, h2], rfl⟩ (.refl _)
    · simp -implicitDefEqProofs (maxSteps := 2000000) (disch := omega) [-getElem?_pos]
      exact .fin _ ⟨by simp [outsB, h2], rfl⟩ (.refl _)
  · simp -implicitDefEqProofs (maxSteps := 2000000) (disch := omega) [-getElem?_pos]
    exact .fin _ ⟨by simp [outsB, h1], rfl⟩ (.refl _)
def begB (a b : List Str) : Bool := decide (a.take b.length = b)
theorem begB_of {a b : List Str} (h : b <+: a) : begB a b = true := by
  obtain ⟨c, rfl⟩ := h
  simp [begB]
theorem k_Begins {a b : List Str} {σ : Sg} : ACalls Tryd.prog 11 [.v (vS a), .v (vS b)] σ fun r σ' => r = .v (.bool (begB a b)) ∧ σ' = σ := by
  refine acalls_fit Tryd.func11 (by kernel_rfl) c11 rfl (by simp [a11]) fun hf => ?_
  clear hf
  have k1 := fun σ => k_RTexts (a := a.take b.length) (b := b) (σ := σ)
  rw [show vS (a.take b.length) = .sl none false ((a.map .str).take b.length) by simp [vS, List.map_take]] at k1
  simp -implicitDefEqProofs (maxSteps := 2000000) (disch := omega) [-getElem?_pos, a11]
  refine .mk (fun h => ?_) fun h => ?_
  · simp -implicitDefEqProofs (maxSteps := 2000000) (disch := omega) [-getElem?_pos]
    refine .fin _ ⟨?_, rfl⟩ (.refl _)
    have : begB a b = false := by
      unfold begB
      refine decide_eq_false fun e => ?_
      have := congrArg List.length e
      simp at this
      omega
    rw [this]
  · simp -implicitDefEqProofs (maxSteps := 2000000) (disch := omega) [-getElem?_pos]
    refine ⟨by omega, ?_⟩
    refine (k1 _).then fun r hr => ?_
    subst hr
    simp -implicitDefEqProofs (maxSteps := 2000000) (disch := omega) [-getElem?_pos]
    exact .fin _ ⟨rfl, rfl⟩ (.refl _)
theorem k_Lines {a : List Str} {σ : Sg} (hl : a.length ≤ 4000000) : ACalls Tryd.prog 9 [.v (vS a)] σ fun r σ' => isB r ∧ σ' = σ := by
  refine acalls_fit Tryd.func9 (by kernel_rfl) c9 rfl (by simp [a9]) fun hf => ?_
  clear hf
  simp -implicitDefEqProofs (maxSteps := 2000000) (disch := omega) [-getElem?_pos, a9]
  refine W_loop (α := Nat) 0 (fun i => a.length - i) (fun i => ⟨[(0, .v (vS a)), (3, .v (.int .i64 i))], σ⟩) (fun i => i ≤ a.length) (.eq (by simp)) (by omega) fun i hi => ?_
  simp -implicitDefEqProofs (maxSteps := 2000000) (disch := omega) [-getElem?_pos]
  refine .mk (fun h => ?_) fun h => ?_
  · simp -implicitDefEqProofs (maxSteps := 2000000) (disch := omega) [-getElem?_pos]
    refine ⟨by omega, fun x hx => ?_⟩
    refine .mk (fun hq => ?_) fun hq => ?_
    · simp -implicitDefEqProofs (maxSteps := 2000000) (disch := omega) [-getElem?_pos]
      exact .fin _ ⟨⟨_, rfl⟩, rfl⟩ (.refl _)
    · simp -implicitDefEqProofs (maxSteps := 2000000) (disch := omega) [-getElem?_pos]
      exact ⟨i + 1, by omega, by dsimp only; omega, .eq (by simp)⟩
  · simp -implicitDefEqProofs (maxSteps := 2000000) (disch := omega) [-getElem?_pos]
    exact .fin _ ⟨⟨_, rfl⟩, rfl⟩ (.refl _)
theorem run3 : runM coE [] 3 = ⟨some (.int 5), ⟨[], 0, 0, 0, [], []⟩⟩ := by kernel_rfl
theorem run2 : runM coE [] 2 = ⟨none, ⟨[], 0, 8, 0, [], []⟩⟩ := by kernel_rfl
theorem coE_ok : okC 1048576 coE := by
  refine ⟨by simp [coE, csz, cszL, nsz], ?_⟩
  unfold coE
  rw [encC_mk]
  simp only [V.fits, V.fitsL, List.map_nil, List.map_cons, encC_mk, List.length_nil, List.length_cons]
  decide
theorem k_RunSum {n : Nat} {σ : Sg} (hn : n ≤ 40000) : ACalls Tryd.prog 10 [.v coSum, .v .snil, .v (.int .i64 n)] σ fun r σ' => (∃ φ, r = runD φ (runM coE [] n)) ∧ σ' = σ := by
  refine (k_Run (e := coE) (inp := []) (fuel := n) coE_ok hn).args rfl fun i d d' hd hd' => ?_
  match i with
  | 0 => cases hd; cases hd'; exact le_coSum
  | 1 => cases hd; cases hd'; exact .snil
  | 2 => cases hd; cases hd'; exact .refl _
  | n + 3 => simp at hd
theorem k_Up14 {σ : Sg} : ACalls Tryd.prog 7 [] σ fun r σ' => r = .v (.bool true) ∧ σ' = σ := by
  have q3 := fun σ => k_RunSum (n := 3) (σ := σ) (by omega)
  have q2 := fun σ => k_RunSum (n := 2) (σ := σ) (by omega)
  rw [run3] at q3
  rw [run2] at q2
  simp only [runD, valV, encW, celW, zW, outV, List.map_nil, exists_const] at q3 q2
  refine acalls_fit Tryd.func7 (by kernel_rfl) c7 rfl (by simp [a7]) fun hf => ?_
  clear hf
  simp -implicitDefEqProofs (maxSteps := 2000000) (disch := omega) [-getElem?_pos, a7]
  refine k_Sum.then fun r hr => ?_
  subst hr
  simp -implicitDefEqProofs (maxSteps := 2000000) (disch := omega) [-getElem?_pos]
  refine (q3 _).then fun r hr => ?_
  replace hr := hr
  subst hr
  simp -implicitDefEqProofs (maxSteps := 2000000) (disch := omega) [-getElem?_pos]
  refine k_Sum.then fun r hr => ?_
  subst hr
  simp -implicitDefEqProofs (maxSteps := 2000000) (disch := omega) [-getElem?_pos]
  refine (q2 _).then fun r hr => ?_
  replace hr := hr
  subst hr
  simp -implicitDefEqProofs (maxSteps := 2000000) (disch := omega) [-getElem?_pos]
  refine k_Sum.then fun r hr => ?_
  subst hr
  simp -implicitDefEqProofs (maxSteps := 2000000) (disch := omega) [-getElem?_pos]
  refine ((k_Nodes coE (by simp [coE, csz, cszL, nsz])).arg1 le_coSum).then fun r hr => ?_
  subst hr
  simp -implicitDefEqProofs (maxSteps := 2000000) (disch := omega) [-getElem?_pos, coE, nds, ndsL]
  exact .fin _ ⟨rfl, rfl⟩ (.refl _)
end Go.Proofs.YtbifjffjibnjjaaDoor
