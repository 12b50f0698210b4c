/-
  Layer 17: with more fuel, walked. (Own work.)
-/
import Derived.Test.YtbifjffjibnjjaaDoorO15
import Derived.Test.YtbifjffjibnjjaaDoorF3
import Derived.Test.YtbifjffjibnjjaaDoorF4
set_option linter.unusedVariables false
set_option linter.unusedSimpArgs false
set_option maxHeartbeats 1000000
namespace Go.Proofs.YtbifjffjibnjjaaDoor
open Go Go.Abs

theorem k_RTexts {a b : List Str} {σ : Sg} : ACalls Tryd.prog 32 [.v (vS a), .v (vS b)] σ fun r σ' => r = .v (.bool (decide (a = b))) ∧ σ' = σ := by
  refine acalls_fit Tryd.func32 (by kernel_rfl) c32 rfl (by simp [a32]) fun hf => ?_
  simp at hf
  simp -implicitDefEqProofs (maxSteps := 2000000) (disch := omega) [-getElem?_pos, a32]
  refine .mk (fun hl => ?_) fun hl => ?_
  rotate_left
  · simp -implicitDefEqProofs (maxSteps := 2000000) (disch := omega) [-getElem?_pos]
    exact .fin _ ⟨by simp; intro h; exact hl (by rw [h]), rfl⟩ (.refl _)
  simp -implicitDefEqProofs (maxSteps := 2000000) (disch := omega) [-getElem?_pos]
  refine W_loop (α := Nat) 0 (fun i => a.length - i) (fun i => ⟨[(0, .v (vS a)), (1, .v (vS b)), (5, .v (.int .i64 i))], σ⟩) (fun i => i ≤ a.length ∧ (a = b ↔ a.drop i = b.drop i))
    (.eq (by simp)) ⟨by omega, by simp⟩ fun i ⟨hi, he⟩ => ?_
  simp -implicitDefEqProofs (maxSteps := 2000000) (disch := omega) [-getElem?_pos]
  refine .mk (fun h => ?_) fun h => ?_
  · simp -implicitDefEqProofs (maxSteps := 2000000) (disch := omega) [-getElem?_pos]
    refine ⟨by omega, fun x hx => ?_⟩
    refine ⟨by omega, fun y hy => ?_⟩
    rw [drop_cons hx, drop_cons hy] at he
    refine .mk (fun hq => ?_) fun hq => ?_
    · subst hq
      simp -implicitDefEqProofs (maxSteps := 2000000) (disch := omega) [-getElem?_pos]
      refine ⟨i + 1, ⟨by omega, ?_⟩, by dsimp only; omega, .eq (by simp)⟩
      simpa using he
    · simp -implicitDefEqProofs (maxSteps := 2000000) (disch := omega) [-getElem?_pos]
      refine .fin _ ⟨?_, rfl⟩ (.refl _)
      rw [decide_eq_false (fun h' => hq (List.cons.inj (he.1 h')).1)]
  · simp -implicitDefEqProofs (maxSteps := 2000000) (disch := omega) [-getElem?_pos]
    refine .fin _ ⟨?_, rfl⟩ (.refl _)
    rw [List.drop_eq_nil_of_le (by omega), List.drop_eq_nil_of_le (by omega)] at he
    rw [decide_eq_true (he.2 rfl)]

/-- A result looked at twice. -/
theorem k_Outs {e f : Int} {s : Str} {l : List Str} {σ : Sg} : ACalls Tryd.prog 12 [.v (.agg [.int .i64 e, .int .i64 f, .str s, .sl none false (l.map .str)]), .v (.agg [.int .i64 e, .int .i64 f, .str s, .sl none false (l.map .str)])] σ fun r σ' => r = .v (.bool true) ∧ σ' = σ := by
  refine acalls_fit Tryd.func12 (by kernel_rfl) c12 rfl (by simp [a12]) fun hf => ?_
  clear hf
  simp -implicitDefEqProofs (maxSteps := 2000000) (disch := omega) [-getElem?_pos, a12]
  refine k_RTexts.then fun r hr => ?_
  subst hr
  simp -implicitDefEqProofs (maxSteps := 2000000) (disch := omega) [-getElem?_pos]
  exact .fin _ ⟨rfl, rfl⟩ (.refl _)
def begB (a b : List Str) : Bool := decide (a.take b.length = b)
theorem begB_of {a b : List Str} (h : b <+: a) : begB a b = true := by
  obtain ⟨c, rfl⟩ := h
  simp [begB]
theorem k_Begins {a b : List Str} {σ : Sg} : ACalls Tryd.prog 11 [.v (vS a), .v (vS b)] σ fun r σ' => r = .v (.bool (begB a b)) ∧ σ' = σ := by
  refine acalls_fit Tryd.func11 (by kernel_rfl) c11 rfl (by simp [a11]) fun hf => ?_
  clear hf
  have k1 := fun σ => k_RTexts (a := a.take b.length) (b := b) (σ := σ)
  rw [show vS (a.take b.length) = .sl none false ((a.map .str).take b.length) by simp [vS, List.map_take]] at k1
  simp -implicitDefEqProofs (maxSteps := 2000000) (disch := omega) [-getElem?_pos, a11]
  refine .mk (fun h => ?_) fun h => ?_
  · simp -implicitDefEqProofs (maxSteps := 2000000) (disch := omega) [-getElem?_pos]
    refine .fin _ ⟨?_, rfl⟩ (.refl _)
    have : begB a b = false := by
      unfold begB
      refine decide_eq_false fun e => ?_
      have := congrArg List.length e
      simp at this
      omega
    rw [this]
  · simp -implicitDefEqProofs (maxSteps := 2000000) (disch := omega) [-getElem?_pos]
    refine ⟨by omega, ?_⟩
    refine (k1 _).then fun r hr => ?_
    subst hr
    simp -implicitDefEqProofs (maxSteps := 2000000) (disch := omega) [-getElem?_pos]
    exact .fin _ ⟨rfl, rfl⟩ (.refl _)
theorem k_Lines {a : List Str} {σ : Sg} (hl : a.length ≤ 4000000) : ACalls Tryd.prog 15 [.v (vS a)] σ fun r σ' => isB r ∧ σ' = σ := by
  refine acalls_fit Tryd.func15 (by kernel_rfl) c15 rfl (by simp [a15]) fun hf => ?_
  clear hf
  simp -implicitDefEqProofs (maxSteps := 2000000) (disch := omega) [-getElem?_pos, a15]
  refine W_loop (α := Nat) 0 (fun i => a.length - i) (fun i => ⟨[(0, .v (vS a)), (3, .v (.int .i64 i))], σ⟩) (fun i => i ≤ a.length) (.eq (by simp)) (by omega) fun i hi => ?_
  simp -implicitDefEqProofs (maxSteps := 2000000) (disch := omega) [-getElem?_pos]
  refine .mk (fun h => ?_) fun h => ?_
  · simp -implicitDefEqProofs (maxSteps := 2000000) (disch := omega) [-getElem?_pos]
    refine ⟨by omega, fun x hx => ?_⟩
    refine .mk (fun hq => ?_) fun hq => ?_
    · simp -implicitDefEqProofs (maxSteps := 2000000) (disch := omega) [-getElem?_pos]
      exact .fin _ ⟨⟨_, rfl⟩, rfl⟩ (.refl _)
    · simp -implicitDefEqProofs (maxSteps := 2000000) (disch := omega) [-getElem?_pos]
      exact ⟨i + 1, by omega, by dsimp only; omega, .eq (by simp)⟩
  · simp -implicitDefEqProofs (maxSteps := 2000000) (disch := omega) [-getElem?_pos]
    exact .fin _ ⟨⟨_, rfl⟩, rfl⟩ (.refl _)

@[reducible] def exInt : V := .agg [.int .i64 1, .int .i64 0, .int .i64 1, .str [], .str [], .snil, .snil, .snil]
@[reducible] def exUnit : V := .agg [.int .i64 8, .int .i64 0, .int .i64 0, .str [], .str [], .snil, .snil, .snil]
@[reducible] def exExt : V := .agg [.int .i64 10, .int .i64 0, .int .i64 0, .str [97], .str [], .snil, .snil, .sl (some 8) true [exInt, exUnit]]
@[reducible] def exSel : V := .agg [.int .i64 9, .int .i64 0, .int .i64 0, .str [97], .str [], .snil, .snil, .sl (some 8) true [exUnit]]
def eInt : Ex := .mk 1 0 1 [] [] [] [] []
def eUnit : Ex := .mk 8 0 0 [] [] [] [] []
def eExt : Ex := .mk 10 0 0 [97] [] [] [] [eInt, eUnit]
def eSel : Ex := .mk 9 0 0 [97] [] [] [] [eUnit]
theorem le_exExt : D.Le (.v exExt) (.v (encE eExt)) := by
  refine VLe.d ?_
  unfold eExt eInt eUnit
  rw [encE_mk]
  refine .agg ⟨.refl _, .refl _, .refl _, .refl _, .refl _, .snil, .snil, .sl rfl (by intro y hy; obtain ⟨x, _, rfl⟩ := List.mem_map.1 hy; exact encE_shape x) ?_ ?_, trivial⟩ (by simp)
  · simp [V.flat, encE_mk]
  · simp only [V.flat, encE_mk, List.map_cons, List.map_nil, List.flatMap_cons, List.flatMap_nil, V.cells, List.cons_append, List.nil_append]
    exact ⟨.refl _, .refl _, .refl _, .refl _, .refl _, .snil, .snil, .snil, .refl _, .refl _, .refl _, .refl _, .refl _, .snil, .snil, .snil, trivial⟩
theorem le_exSel : D.Le (.v exSel) (.v (encE eSel)) := by
  refine VLe.d ?_
  unfold eSel eUnit
  rw [encE_mk]
  refine .agg ⟨.refl _, .refl _, .refl _, .refl _, .refl _, .snil, .snil, .sl rfl (by intro y hy; obtain ⟨x, _, rfl⟩ := List.mem_map.1 hy; exact encE_shape x) ?_ ?_, trivial⟩ (by simp)
  · simp [V.flat, encE_mk]
  · simp only [V.flat, encE_mk, List.map_cons, List.map_nil, List.flatMap_cons, List.flatMap_nil, V.cells, List.cons_append, List.nil_append]
    exact ⟨.refl _, .refl _, .refl _, .refl _, .refl _, .snil, .snil, .snil, trivial⟩
theorem runExt : runM eExt [] 9 = ⟨some (.rcd (.cons [97] (.int 1) .nil)), ⟨[], 6, 0, 0, [], []⟩⟩ := by kernel_rfl
theorem runSel : runM eSel [] 9 = ⟨none, ⟨[], 7, 11, 0, [], []⟩⟩ := by kernel_rfl
theorem textExt : textT [] 2001 [] (.rcd (.cons [97] (.int 1) .nil)) = [123, 97, 32, 61, 32, 49, 125] := by
  rw [textT, if_neg (by simp)]
  have hs : sortS (namesE (.cons [97] (.int 1) .nil)) = [[97]] := by simp [namesE, sortS]
  unfold rcdT
  rw [hs]
  simp only [fldsT, lookE, if_pos, Option.getD_some]
  rw [textT]
  have hi : Lib.itoa 1 = [49] := by kernel_rfl
  rw [hi]
  rfl
theorem eExt_ok : okC 1048576 eExt := by
  refine ⟨by simp [eExt, eInt, eUnit, csz, cszL, nsz], ?_⟩
  unfold eExt eInt eUnit
  rw [encE_mk]
  simp only [V.fits, V.fitsL, List.map_nil, List.map_cons, encE_mk, List.length_nil, List.length_cons]
  decide
theorem eSel_ok : okC 1048576 eSel := by
  refine ⟨by simp [eSel, eUnit, csz, cszL, nsz], ?_⟩
  unfold eSel eUnit
  rw [encE_mk]
  simp only [V.fits, V.fitsL, List.map_nil, List.map_cons, encE_mk, List.length_nil, List.length_cons]
  decide
theorem k_RunExt {σ : Sg} : ACalls Tryd.prog 17 [.v exExt, .v .snil, .v (.int .i64 9)] σ fun r σ' => r = .v (.agg [.int .i64 0, .int .i64 0, .str [123, 97, 32, 61, 32, 49, 125], .sl none false []]) ∧ σ' = σ := by
  have h := k_Run (e := eExt) (inp := []) (fuel := 9) (σ := σ) eExt_ok (by omega)
  rw [runExt] at h
  unfold outV textR at h
  dsimp only at h
  rw [textExt] at h
  refine h.args rfl fun i d d' hd hd' => ?_
  match i with
  | 0 => cases hd; cases hd'; exact le_exExt
  | 1 => cases hd; cases hd'; exact .snil
  | 2 => cases hd; cases hd'; exact .refl _
  | n + 3 => simp at hd
theorem k_RunSel {σ : Sg} : ACalls Tryd.prog 17 [.v exSel, .v .snil, .v (.int .i64 9)] σ fun r σ' => r = .v (.agg [.int .i64 11, .int .i64 0, .str [], .sl none false []]) ∧ σ' = σ := by
  have h := k_Run (e := eSel) (inp := []) (fuel := 9) (σ := σ) eSel_ok (by omega)
  rw [runSel] at h
  unfold outV textR at h
  dsimp only at h
  refine h.args rfl fun i d d' hd hd' => ?_
  match i with
  | 0 => cases hd; cases hd'; exact le_exSel
  | 1 => cases hd; cases hd'; exact .snil
  | 2 => cases hd; cases hd'; exact .refl _
  | n + 3 => simp at hd
theorem k_Up17 {σ : Sg} : ACalls Tryd.prog 13 [] σ fun r σ' => r = .v (.bool true) ∧ σ' = σ := by
  refine acalls_fit Tryd.func13 (by kernel_rfl) c13 rfl (by simp [a13]) fun hf => ?_
  clear hf
  simp -implicitDefEqProofs (maxSteps := 2000000) (disch := omega) [-getElem?_pos, a13]
  refine k_RunExt.then fun r hr => ?_
  subst hr
  simp -implicitDefEqProofs (maxSteps := 2000000) (disch := omega) [-getElem?_pos]
  refine k_RunSel.then fun r hr => ?_
  subst hr
  simp -implicitDefEqProofs (maxSteps := 2000000) (disch := omega) [-getElem?_pos]
  exact .fin _ ⟨rfl, rfl⟩ (.refl _)
end Go.Proofs.YtbifjffjibnjjaaDoor

set_option linter.unusedVariables false
set_option linter.unusedSimpArgs false
set_option maxHeartbeats 2000000
namespace Go.Proofs.YtbifjffjibnjjaaDoor
open Go Go.Abs

/-- Of two runs, as the law looks at them. -/
theorem more (e : Ex) (inp : List Str) (F M : Nat) : Gd M (runM e inp F) (runM e inp (F + M)) (ms0 inp F) :=
  ev_more M (F + 1) (F + M + 1) e .nil (ms0 inp F) rfl (by simp [ms0]) (by simp [ms0])
theorem k_ModelMore {e : Ex} {inp : List Str} {fuel mr : Int} {σ : Sg} (hc : csz e ≤ 1048576) (hi : inp.length ≤ 4000000) : ACalls Tryd.prog 4 [.v (encE e), .v (vS inp), .v (.int .i64 fuel), .v (.int .i64 mr)] σ fun r σ' => r = .v (.bool true) := by
  have f1 := fun σ => k_Few (e := e) (σ := σ) hc
  have f2 := fun σ => k_Lines (σ := σ) hi
  have f3 := fun σ => k_RNodes e (σ := σ) hc
  obtain ⟨z0, z1, z2, z3, z4, z5, z6, z7, hco⟩ := list8 (show (exV e).length = 8 by cases e; rfl)
  have hec : encE e = .agg [z0, z1, z2, z3, z4, z5, z6, z7] := by rw [encE_exV, hco]
  have kr := fun (n : Nat) (σ : Sg) (hn : n ≤ 40000) (hf : (encE e).fits) => k_Run (e := e) (inp := inp) (fuel := n) (σ := σ) ⟨hc, hf⟩ hn
  rw [hec] at f1 f3 kr ⊢
  refine acalls_fit Tryd.func4 (by kernel_rfl) c4 rfl (by simp [a4]) fun hf => ?_
  have hfit := hf.1
  clear hf
  simp -implicitDefEqProofs (maxSteps := 2000000) (disch := omega) [-getElem?_pos, a4]
  refine k_Up17.then fun r hr => ?_
  subst hr
  simp -implicitDefEqProofs (maxSteps := 2000000) (disch := omega) [-getElem?_pos]
  refine (f1 _).then fun r hr => ?_
  obtain ⟨q1, rfl⟩ := hr
  simp -implicitDefEqProofs (maxSteps := 2000000) (disch := omega) [-getElem?_pos]
  refine (f2 _).then fun r hr => ?_
  obtain ⟨q2, rfl⟩ := hr
  cases q1 with
  | false =>
    simp -implicitDefEqProofs (maxSteps := 2000000) (disch := omega) [-getElem?_pos]
    exact .fin _ rfl (.refl _)
  | true =>
  cases q2 with
  | false =>
    simp -implicitDefEqProofs (maxSteps := 2000000) (disch := omega) [-getElem?_pos]
    exact .fin _ rfl (.refl _)
  | true =>
  simp -implicitDefEqProofs (maxSteps := 2000000) (disch := omega) [-getElem?_pos]
  refine (f3 _).then fun r hr => ?_
  subst hr
  simp -implicitDefEqProofs (maxSteps := 2000000) (disch := omega) [-getElem?_pos]
  refine .mk (fun g0 => ?_) fun g0 => ?_
  rotate_left
  · simp -implicitDefEqProofs (maxSteps := 2000000) (disch := omega) [-getElem?_pos]
    exact .fin _ rfl (.refl _)
  simp -implicitDefEqProofs (maxSteps := 2000000) (disch := omega) [-getElem?_pos]
  refine .mk (fun g1 => ?_) fun g1 => ?_
  rotate_left
  · simp -implicitDefEqProofs (maxSteps := 2000000) (disch := omega) [-getElem?_pos]
    exact .fin _ rfl (.refl _)
  simp -implicitDefEqProofs (maxSteps := 2000000) (disch := omega) [-getElem?_pos]
  refine .mk (fun g2 => ?_) fun g2 => ?_
  rotate_left
  · simp -implicitDefEqProofs (maxSteps := 2000000) (disch := omega) [-getElem?_pos]
    exact .fin _ rfl (.refl _)
  simp -implicitDefEqProofs (maxSteps := 2000000) (disch := omega) [-getElem?_pos]
  refine .mk (fun g3 => ?_) fun g3 => ?_
  rotate_left
  · simp -implicitDefEqProofs (maxSteps := 2000000) (disch := omega) [-getElem?_pos]
    exact .fin _ rfl (.refl _)
  simp -implicitDefEqProofs (maxSteps := 2000000) (disch := omega) [-getElem?_pos]
  refine .mk (fun g4 => ?_) fun g4 => ?_
  · simp -implicitDefEqProofs (maxSteps := 2000000) (disch := omega) [-getElem?_pos]
    exact .fin _ rfl (.refl _)
  obtain ⟨F, rfl⟩ : ∃ F : Nat, fuel = F := ⟨fuel.toNat, by omega⟩
  obtain ⟨M, rfl⟩ : ∃ M : Nat, mr = M := ⟨mr.toNat, by omega⟩
  have hgd := more e inp F M
  have r1 := fun σ => kr F σ (by omega) hfit
  have r2 := fun σ => kr (F + M) σ (by omega) hfit
  generalize runM e inp F = rs1 at hgd r1
  generalize runM e inp (F + M) = rs2 at hgd r2
  obtain ⟨v1, m1⟩ := rs1
  obtain ⟨v2, m2⟩ := rs2
  have ge := hgd.err
  have gc := hgd.c
  have gt := hgd.dd
  dsimp only at ge gc gt
  clear hgd
  by_cases h8 : m1.err = 8
  · have hv1 : v1 = none := ge.2 (by rw [h8]; decide)
    subst hv1
    have hpre := begB_of (gt h8)
    generalize hx2 : textR ⟨v2, m2⟩ = x2
    unfold outV at r1 r2
    rw [hx2] at r2
    dsimp only at r1 r2
    rw [show textR ⟨none, m1⟩ = [] from rfl, h8] at r1
    simp -implicitDefEqProofs (maxSteps := 2000000) (disch := omega) [-getElem?_pos]
    refine (r1 _).then fun r hr => ?_
    subst hr
    simp -implicitDefEqProofs (maxSteps := 2000000) (disch := omega) [-getElem?_pos]
    refine (r2 _).then fun r hr => ?_
    subst hr
    simp -implicitDefEqProofs (maxSteps := 2000000) (disch := omega) [-getElem?_pos]
    refine k_Begins.then fun r hr => ?_
    subst hr
    rw [hpre]
    simp -implicitDefEqProofs (maxSteps := 2000000) (disch := omega) [-getElem?_pos]
    exact .fin _ rfl (.refl _)
  · have h2 := gc h8
    injection h2 with hv hm
    subst hv
    subst hm
    have ho : outV ⟨v2, m1.up M⟩ = outV ⟨v2, m1⟩ := rfl
    rw [ho] at r2
    generalize hx2 : textR ⟨v2, m1⟩ = x2
    unfold outV at r1 r2
    rw [hx2] at r1 r2
    dsimp only at r1 r2
    simp -implicitDefEqProofs (maxSteps := 2000000) (disch := omega) [-getElem?_pos]
    refine (r1 _).then fun r hr => ?_
    subst hr
    simp -implicitDefEqProofs (maxSteps := 2000000) (disch := omega) [-getElem?_pos]
    refine (r2 _).then fun r hr => ?_
    subst hr
    simp -implicitDefEqProofs (maxSteps := 2000000) (disch := omega) [-getElem?_pos, h8]
    refine k_Outs.then fun r hr => ?_
    subst hr
    simp -implicitDefEqProofs (maxSteps := 2000000) (disch := omega) [-getElem?_pos]
    exact .fin _ rfl (.refl _)
end Go.Proofs.YtbifjffjibnjjaaDoor

