/-
  Core expressions: the document's example is run. (Own work.)
-/
import Derived.Test.YtbifjffjibnjjaaDoorG5
set_option linter.unusedVariables false
set_option linter.unusedSimpArgs false
namespace Go.Proofs.YtbifjffjibnjjaaDoor
open Go Go.Abs

/-- The last objects are forgotten. -/
theorem weak_dropS {B : Sg} {env env' : List (Nat × D)} {zs os xs : List Ob} {ts ts' : List Nat} (hz : zs = os ++ xs) (ht : ts = ts') (hos : B.objs.length ≤ os.length) (hts : B.toks.length ≤ ts'.length) (hob : ∀ ob ∈ os, ob ∈ B.objs ∨ ob.low os.length ts'.length)
    (h : EnvEq env env') (l : EnvLow os.length ts'.length env') : Weak B ⟨env, ⟨zs, ts⟩⟩ ⟨env', ⟨os, ts'⟩⟩ := by
  subst hz ht
  have := Weak.drop (B := B) (os := os) (xs := xs) (ts := ts) (ts' := []) hos hts hob (h.ok l)
  simpa using this
/-- A machine. -/
@[reducible] def mcO (fuel err : Int) : Ob := .cells [.v .snil, .v (.int .i64 fuel), .v (.int .i64 err), .v (.int .i64 0), .v (.str []), .v .snil]
@[reducible] def coInt (n : Int) : V := .agg [.int .i64 1, .int .i64 n, .str [], .str [], .snil, .snil]
@[reducible] def coSum : V := .agg [.int .i64 16, .int .i64 0, .str [43], .str [], .snil, .sl (some 6) true [coInt 2, coInt 3]]
@[reducible] def vInt (n : Int) : V := .agg [.int .i64 1, .int .i64 n, .str [], .snil, .pnil, .pnil]
@[reducible] def vNone : V := .agg [.int .i64 0, .int .i64 0, .str [], .snil, .pnil, .pnil]

theorem k_PartsInt {n : Int} {σ : Sg} : ACalls Tryd.prog 49 [.v (coInt n)] σ fun r σ' => r = .v (.int .i64 0) ∧ σ' = σ := by
  refine acalls_fit Tryd.func49 (by kernel_rfl) c49 rfl (by simp [a49]) fun hf => ?_
  clear hf
  simp -implicitDefEqProofs (maxSteps := 2000000) (disch := omega) [-getElem?_pos, a49]
  exact .fin _ ⟨rfl, rfl⟩ (.refl _)
theorem k_PartsSum {σ : Sg} : ACalls Tryd.prog 49 [.v coSum] σ fun r σ' => r = .v (.int .i64 2) ∧ σ' = σ := by
  refine acalls_fit Tryd.func49 (by kernel_rfl) c49 rfl (by simp [a49]) fun hf => ?_
  clear hf
  simp -implicitDefEqProofs (maxSteps := 2000000) (disch := omega) [-getElem?_pos, a49]
  exact .fin _ ⟨rfl, rfl⟩ (.refl _)
theorem k_End {p : Nat} {fuel : Int} {σ : Sg} (hp : σ.objs[p]? = some (mcO fuel 0)) : ACalls Tryd.prog 48 [.ptr p 0, .v (.int .i64 8), .v (.int .i64 0)] σ fun r σ' => r = .tup [.v vNone, .v (.bool false)] ∧ σ' = σ.put p (mcO fuel 8) := by
  have hlt := (List.getElem?_eq_some_iff.1 hp).1
  refine acalls_fit Tryd.func48 (by kernel_rfl) c48 rfl (by simp [a48]) fun hf => ?_
  clear hf
  simp -implicitDefEqProofs (maxSteps := 2000000) (disch := omega) [-getElem?_pos, a48, List.getElem?_append_left, List.set_append_left, hp]
  exact .finS _ ⟨σ.objs.set p (mcO fuel 8), σ.toks⟩ ⟨rfl, rfl⟩ (.refl _) (low_set (by simp))
theorem k_EvalInt {p : Nat} {n fuel : Int} {σ : Sg} (hp : σ.objs[p]? = some (mcO fuel 0)) (h0 : 0 < fuel) (h1 : fuel ≤ 3) :
    ACalls Tryd.prog 31 [.ptr p 0, .v (coInt n), .v .pnil] σ fun r σ' => r = .tup [.v (vInt n), .v (.bool true)] ∧ σ' = σ.put p (mcO (fuel - 1) 0) := by
  have hlt := (List.getElem?_eq_some_iff.1 hp).1
  refine acalls_fit Tryd.func31 (by kernel_rfl) c31 rfl (by simp [a31]) fun hf => ?_
  clear hf
  simp -implicitDefEqProofs (maxSteps := 2000000) (disch := omega) [-getElem?_pos, a31, List.getElem?_append_left, List.set_append_left, hp]
  refine .mk (fun h => by omega) fun h => ?_
  simp -implicitDefEqProofs (maxSteps := 2000000) (disch := omega) [-getElem?_pos, List.getElem?_append_left, List.set_append_left, hp]
  refine k_PartsInt.then fun r hr => ?_
  subst hr
  simp -implicitDefEqProofs (maxSteps := 2000000) (disch := omega) [-getElem?_pos, List.getElem?_append_left, List.set_append_left, hp]
  exact .finS _ ⟨σ.objs.set p (mcO (fuel - 1) 0), σ.toks⟩ ⟨rfl, rfl⟩ (.refl _) (low_set (by simp))
theorem k_EvalInt0 {p : Nat} {n : Int} {σ : Sg} (hp : σ.objs[p]? = some (mcO 0 0)) :
    ACalls Tryd.prog 31 [.ptr p 0, .v (coInt n), .v .pnil] σ fun r σ' => r = .tup [.v vNone, .v (.bool false)] ∧ σ' = σ.put p (mcO 0 8) := by
  have hlt := (List.getElem?_eq_some_iff.1 hp).1
  refine acalls_fit Tryd.func31 (by kernel_rfl) c31 rfl (by simp [a31]) fun hf => ?_
  clear hf
  simp -implicitDefEqProofs (maxSteps := 2000000) (disch := omega) [-getElem?_pos, a31, List.getElem?_append_left, List.set_append_left, hp]
  refine ACalls.mono (k_End (p := p) (fuel := 0) (by rw [List.getElem?_append_left hlt]; exact hp)) fun r σ' hr => ?_
  obtain ⟨rfl, rfl⟩ := hr
  simp -implicitDefEqProofs (maxSteps := 2000000) (disch := omega) [-getElem?_pos, List.getElem?_append_left, List.set_append_left, hp]
  exact .finS _ ⟨σ.objs.set p (mcO 0 8), σ.toks⟩ ⟨rfl, rfl⟩ (.refl _) (low_set (by simp))

def outL : Nat → List V
  | 0 => []
  | 1 => [vInt 2]
  | _ => [vInt 2, vInt 3]
theorem k_All2 {p : Nat} {σ : Sg} (hp : σ.objs[p]? = some (mcO 2 0)) :
    ACalls Tryd.prog 53 [.ptr p 0, .v (.sl (some 6) true [coInt 2, coInt 3]), .v .pnil] σ fun r σ' => r = .tup [.v (.sl (some 6) false [vInt 2, vInt 3]), .v (.bool true)] ∧ σ' = σ.put p (mcO 0 0) := by
  have hlt := (List.getElem?_eq_some_iff.1 hp).1
  have hset : (⟨σ.objs.set p (mcO 2 0), σ.toks⟩ : Sg) = σ := by
    obtain ⟨os, ts⟩ := σ
    dsimp only at hp ⊢
    congr 1
    obtain ⟨h1, h2⟩ := List.getElem?_eq_some_iff.1 hp
    rw [← h2, List.set_getElem_self]
  refine acalls_fit Tryd.func53 (by kernel_rfl) c53 rfl (by simp [a53]) fun hf => ?_
  clear hf
  simp -implicitDefEqProofs (maxSteps := 2000000) (disch := omega) [-getElem?_pos, a53]
  refine W_loop (α := Nat) 0 (fun i => 2 - i) (fun i => ⟨[(0, .ptr p 0), (2, .v .pnil), (8, .tsl σ.toks.length (some 6) (outL i)), (13, .v (.sl (some 6) true [coInt 2, coInt 3])), (14, .v (.int .i64 2)), (15, .v (.int .i64 i))], ⟨σ.objs.set p (mcO (2 - i) 0), σ.toks ++ [(outL i).length]⟩⟩)
    (fun i => i ≤ 2) (weak_tok2 (i := 8) (sh := some 6) (by simp only [Sg.tadd, outL]; rw [← hset]; simp) (by simp [outL]) (by simp)) (by omega) fun i hi => ?_
  have o0 : outL 0 = [] := rfl
  have o1 : outL 1 = [vInt 2] := rfl
  have o2 : outL 2 = [vInt 2, vInt 3] := rfl
  rcases (show i = 0 ∨ i = 1 ∨ i = 2 by omega) with rfl | rfl | rfl
  · simp -implicitDefEqProofs (maxSteps := 2000000) (disch := omega) [-getElem?_pos, o0]
    refine ACalls.mono (k_EvalInt (p := p) (n := 2) (fuel := 2) (by simp [hlt]) (by omega) (by omega)) fun r σ' hr => ?_
    obtain ⟨rfl, rfl⟩ := hr
    simp -implicitDefEqProofs (maxSteps := 2000000) (disch := omega) [-getElem?_pos, List.set_append_left, hlt]
    exact ⟨1, by omega, by dsimp only; omega, weak_dropS rfl (by simp [o1]) (by simp) (by simp) (low_set (by simp)) (by simp [o1]) (by simp [hlt])⟩
  · simp -implicitDefEqProofs (maxSteps := 2000000) (disch := omega) [-getElem?_pos, o1]
    refine ACalls.mono (k_EvalInt (p := p) (n := 3) (fuel := 1) (by simp [hlt]) (by omega) (by omega)) fun r σ' hr => ?_
    obtain ⟨rfl, rfl⟩ := hr
    simp -implicitDefEqProofs (maxSteps := 2000000) (disch := omega) [-getElem?_pos, List.set_append_left, hlt]
    exact ⟨2, by omega, by dsimp only; omega, weak_dropS rfl (by simp [o2]) (by simp) (by simp) (low_set (by simp)) (by simp [o2]) (by simp [hlt])⟩
  · simp -implicitDefEqProofs (maxSteps := 2000000) (disch := omega) [-getElem?_pos, o2]
    exact .finS (.tup [.v (.sl (some 6) false [vInt 2, vInt 3]), .v (.bool true)]) ⟨σ.objs.set p (mcO 0 0), σ.toks⟩ ⟨rfl, rfl⟩ (.tup2 .tsl (.refl _)) (low_set (by simp))

theorem k_All1 {p : Nat} {σ : Sg} (hp : σ.objs[p]? = some (mcO 1 0)) :
    ACalls Tryd.prog 53 [.ptr p 0, .v (.sl (some 6) true [coInt 2, coInt 3]), .v .pnil] σ fun r σ' => r = .tup [.v .snil, .v (.bool false)] ∧ σ' = σ.put p (mcO 0 8) := by
  have hlt := (List.getElem?_eq_some_iff.1 hp).1
  have hset : (⟨σ.objs.set p (mcO 1 0), σ.toks⟩ : Sg) = σ := by
    obtain ⟨os, ts⟩ := σ
    dsimp only at hp ⊢
    congr 1
    obtain ⟨h1, h2⟩ := List.getElem?_eq_some_iff.1 hp
    rw [← h2, List.set_getElem_self]
  refine acalls_fit Tryd.func53 (by kernel_rfl) c53 rfl (by simp [a53]) fun hf => ?_
  clear hf
  simp -implicitDefEqProofs (maxSteps := 2000000) (disch := omega) [-getElem?_pos, a53]
  refine W_loop (α := Nat) 0 (fun i => 2 - i) (fun i => ⟨[(0, .ptr p 0), (2, .v .pnil), (8, .tsl σ.toks.length (some 6) (outL i)), (13, .v (.sl (some 6) true [coInt 2, coInt 3])), (14, .v (.int .i64 2)), (15, .v (.int .i64 i))], ⟨σ.objs.set p (mcO (1 - i) 0), σ.toks ++ [(outL i).length]⟩⟩)
    (fun i => i ≤ 1) (weak_tok2 (i := 8) (sh := some 6) (by simp only [Sg.tadd, outL]; rw [← hset]; simp) (by simp [outL]) (by simp)) (by omega) fun i hi => ?_
  have o0 : outL 0 = [] := rfl
  have o1 : outL 1 = [vInt 2] := rfl
  rcases (show i = 0 ∨ i = 1 by omega) with rfl | rfl
  · simp -implicitDefEqProofs (maxSteps := 2000000) (disch := omega) [-getElem?_pos, o0]
    refine ACalls.mono (k_EvalInt (p := p) (n := 2) (fuel := 1) (by simp [hlt]) (by omega) (by omega)) fun r σ' hr => ?_
    obtain ⟨rfl, rfl⟩ := hr
    simp -implicitDefEqProofs (maxSteps := 2000000) (disch := omega) [-getElem?_pos, List.set_append_left, hlt]
    exact ⟨1, by omega, by dsimp only; omega, weak_dropS rfl (by simp [o1]) (by simp) (by simp) (low_set (by simp)) (by simp [o1]) (by simp [hlt])⟩
  · simp -implicitDefEqProofs (maxSteps := 2000000) (disch := omega) [-getElem?_pos, o1]
    refine ACalls.mono (k_EvalInt0 (p := p) (n := 3) (by simp [hlt])) fun r σ' hr => ?_
    obtain ⟨rfl, rfl⟩ := hr
    simp -implicitDefEqProofs (maxSteps := 2000000) (disch := omega) [-getElem?_pos, List.set_append_left, hlt]
    exact .finS (.tup [.v .snil, .v (.bool false)]) ⟨σ.objs.set p (mcO 0 8), σ.toks⟩ ⟨rfl, rfl⟩ (.refl _) (low_set (by simp))

theorem k_Are2 {σ : Sg} : ACalls Tryd.prog 83 [.v (.sl (some 6) true [vInt 2, vInt 3]), .v (.sl none true [.int .i64 1, .int .i64 1])] σ fun r σ' => r = .v (.bool true) ∧ σ' = σ := by
  refine acalls_fit Tryd.func83 (by kernel_rfl) c83 rfl (by simp [a83]) fun hf => ?_
  clear hf
  simp -implicitDefEqProofs (maxSteps := 2000000) (disch := omega) [-getElem?_pos, a83]
  refine W_loop (α := Nat) 0 (fun i => 2 - i) (fun i => ⟨[(0, .v (.sl (some 6) true [vInt 2, vInt 3])), (7, .v (.sl none true [.int .i64 1, .int .i64 1])), (8, .v (.int .i64 2)), (9, .v (.int .i64 i))], σ⟩)
    (fun i => i ≤ 2) (.eq (by simp)) (by omega) fun i hi => ?_
  rcases (show i = 0 ∨ i = 1 ∨ i = 2 by omega) with rfl | rfl | rfl
  · simp -implicitDefEqProofs (maxSteps := 2000000) (disch := omega) [-getElem?_pos]
    exact ⟨1, by omega, by dsimp only; omega, .eq (by simp)⟩
  · simp -implicitDefEqProofs (maxSteps := 2000000) (disch := omega) [-getElem?_pos]
    exact ⟨2, by omega, by dsimp only; omega, .eq (by simp)⟩
  · simp -implicitDefEqProofs (maxSteps := 2000000) (disch := omega) [-getElem?_pos]
    exact .fin _ ⟨rfl, rfl⟩ (.refl _)
theorem k_Opr {p : Nat} {σ : Sg} : ACalls Tryd.prog 84 [.ptr p 0, .v (.str [43]), .v (vInt 2), .v (vInt 3)] σ fun r σ' => r = .tup [.v (vInt 5), .v (.bool true)] ∧ σ' = σ := by
  refine acalls_fit Tryd.func84 (by kernel_rfl) c84 rfl (by simp [a84]) fun hf => ?_
  clear hf
  simp -implicitDefEqProofs (maxSteps := 2000000) (disch := omega) [-getElem?_pos, a84]
  refine k_Are2.then fun r hr => ?_
  subst hr
  simp -implicitDefEqProofs (maxSteps := 2000000) (disch := omega) [-getElem?_pos]
  exact .fin _ ⟨rfl, rfl⟩ (.refl _)
theorem k_Do {p : Nat} {σ : Sg} : ACalls Tryd.prog 54 [.ptr p 0, .v coSum, .v (.sl (some 6) false [vInt 2, vInt 3])] σ fun r σ' => r = .tup [.v (vInt 5), .v (.bool true)] ∧ σ' = σ := by
  refine acalls_fit Tryd.func54 (by kernel_rfl) c54 rfl (by simp [a54]) fun hf => ?_
  clear hf
  simp -implicitDefEqProofs (maxSteps := 2000000) (disch := omega) [-getElem?_pos, a54]
  refine k_Opr.then fun r hr => ?_
  subst hr
  simp -implicitDefEqProofs (maxSteps := 2000000) (disch := omega) [-getElem?_pos]
  exact .fin _ ⟨rfl, rfl⟩ (.refl _)
theorem k_Eval3 {p : Nat} {σ : Sg} (hp : σ.objs[p]? = some (mcO 3 0)) :
    ACalls Tryd.prog 31 [.ptr p 0, .v coSum, .v .pnil] σ fun r σ' => r = .tup [.v (vInt 5), .v (.bool true)] ∧ σ' = σ.put p (mcO 0 0) := by
  have hlt := (List.getElem?_eq_some_iff.1 hp).1
  refine acalls_fit Tryd.func31 (by kernel_rfl) c31 rfl (by simp [a31]) fun hf => ?_
  clear hf
  simp -implicitDefEqProofs (maxSteps := 2000000) (disch := omega) [-getElem?_pos, a31, List.getElem?_append_left, List.set_append_left, hp]
  refine k_PartsSum.then fun r hr => ?_
  subst hr
  simp -implicitDefEqProofs (maxSteps := 2000000) (disch := omega) [-getElem?_pos, List.getElem?_append_left, List.set_append_left, hp]
  refine ACalls.mono (k_All2 (p := p) (by simp [hlt])) fun r σ' hr => ?_
  obtain ⟨rfl, rfl⟩ := hr
  simp -implicitDefEqProofs (maxSteps := 2000000) (disch := omega) [-getElem?_pos, List.set_append_left, hlt]
  refine k_Do.then fun r hr => ?_
  subst hr
  simp -implicitDefEqProofs (maxSteps := 2000000) (disch := omega) [-getElem?_pos, List.set_append_left, hlt]
  exact .finS _ ⟨σ.objs.set p (mcO 0 0), σ.toks⟩ ⟨rfl, rfl⟩ (.refl _) (low_set (by simp))
theorem k_Eval2 {p : Nat} {σ : Sg} (hp : σ.objs[p]? = some (mcO 2 0)) :
    ACalls Tryd.prog 31 [.ptr p 0, .v coSum, .v .pnil] σ fun r σ' => r = .tup [.v vNone, .v (.bool false)] ∧ σ' = σ.put p (mcO 0 8) := by
  have hlt := (List.getElem?_eq_some_iff.1 hp).1
  refine acalls_fit Tryd.func31 (by kernel_rfl) c31 rfl (by simp [a31]) fun hf => ?_
  clear hf
  simp -implicitDefEqProofs (maxSteps := 2000000) (disch := omega) [-getElem?_pos, a31, List.getElem?_append_left, List.set_append_left, hp]
  refine k_PartsSum.then fun r hr => ?_
  subst hr
  simp -implicitDefEqProofs (maxSteps := 2000000) (disch := omega) [-getElem?_pos, List.getElem?_append_left, List.set_append_left, hp]
  refine ACalls.mono (k_All1 (p := p) (by simp [hlt])) fun r σ' hr => ?_
  obtain ⟨rfl, rfl⟩ := hr
  simp -implicitDefEqProofs (maxSteps := 2000000) (disch := omega) [-getElem?_pos, List.set_append_left, hlt]
  exact .finS _ ⟨σ.objs.set p (mcO 0 8), σ.toks⟩ ⟨rfl, rfl⟩ (.refl _) (low_set (by simp))
@[reducible] def outV (err : Int) : V := .agg [.int .i64 err, .int .i64 0, .str [], .snil]
theorem k_Run3 {σ : Sg} : ACalls Tryd.prog 10 [.v coSum, .v .snil, .v (.int .i64 3)] σ fun r σ' => r = .tup [.v (vInt 5), .v (outV 0)] ∧ σ' = σ := by
  refine acalls_fit Tryd.func10 (by kernel_rfl) c10 rfl (by simp [a10]) fun hf => ?_
  clear hf
  simp -implicitDefEqProofs (maxSteps := 2000000) (disch := omega) [-getElem?_pos, a10]
  refine ACalls.mono (k_Eval3 (by simp)) fun r σ' hr => ?_
  obtain ⟨rfl, rfl⟩ := hr
  simp -implicitDefEqProofs (maxSteps := 2000000) (disch := omega) [-getElem?_pos]
  exact .fin _ ⟨rfl, rfl⟩ (.refl _)
theorem k_Run2 {σ : Sg} : ACalls Tryd.prog 10 [.v coSum, .v .snil, .v (.int .i64 2)] σ fun r σ' => r = .tup [.v vNone, .v (outV 8)] ∧ σ' = σ := by
  refine acalls_fit Tryd.func10 (by kernel_rfl) c10 rfl (by simp [a10]) fun hf => ?_
  clear hf
  simp -implicitDefEqProofs (maxSteps := 2000000) (disch := omega) [-getElem?_pos, a10]
  refine ACalls.mono (k_Eval2 (by simp)) fun r σ' hr => ?_
  obtain ⟨rfl, rfl⟩ := hr
  simp -implicitDefEqProofs (maxSteps := 2000000) (disch := omega) [-getElem?_pos]
  exact .fin _ ⟨rfl, rfl⟩ (.refl _)
theorem k_Sum {σ : Sg} : ACalls Tryd.prog 29 [] σ fun r σ' => r = .v coSum ∧ σ' = σ := by
  refine acalls_fit Tryd.func29 (by kernel_rfl) c29 rfl (by simp [a29]) fun hf => ?_
  clear hf
  simp -implicitDefEqProofs (maxSteps := 2000000) (disch := omega) [-getElem?_pos, a29]
  exact .fin _ ⟨rfl, rfl⟩ (.refl _)

def coE : Co := .mk 16 0 [43] [] [] [.mk 1 2 [] [] [] [], .mk 1 3 [] [] [] []]
theorem le_coInt {n : Int} : VLe (coInt n) (encC (.mk 1 n [] [] [] [])) := by
  rw [encC_mk]
  exact .agg ⟨.refl _, .refl _, .refl _, .refl _, .snil, .snil, trivial⟩ (by simp)
theorem le_coSum : D.Le (.v coSum) (.v (encC coE)) := by
  refine VLe.d ?_
  unfold coE
  rw [encC_mk]
  refine .agg ⟨.refl _, .refl _, .refl _, .refl _, .snil, .sl rfl (by intro y hy; obtain ⟨x, _, rfl⟩ := List.mem_map.1 hy; exact encC_shape x) ?_ ?_, trivial⟩ (by simp)
  · simp [V.flat, encC_mk]
  · simp only [V.flat, encC_mk, List.map_cons, List.map_nil, List.flatMap_cons, List.flatMap_nil, V.cells, List.cons_append, List.nil_append]
    exact ⟨.refl _, .refl _, .refl _, .refl _, .snil, .snil, .refl _, .refl _, .refl _, .refl _, .snil, .snil, trivial⟩
theorem k_Up14 {σ : Sg} : ACalls Tryd.prog 7 [] σ fun r σ' => r = .v (.bool true) ∧ σ' = σ := by
  refine acalls_fit Tryd.func7 (by kernel_rfl) c7 rfl (by simp [a7]) fun hf => ?_
  clear hf
  simp -implicitDefEqProofs (maxSteps := 2000000) (disch := omega) [-getElem?_pos, a7]
  refine k_Sum.then fun r hr => ?_
  subst hr
  simp -implicitDefEqProofs (maxSteps := 2000000) (disch := omega) [-getElem?_pos]
  refine k_Run3.then fun r hr => ?_
  subst hr
  simp -implicitDefEqProofs (maxSteps := 2000000) (disch := omega) [-getElem?_pos]
  refine k_Sum.then fun r hr => ?_
  subst hr
  simp -implicitDefEqProofs (maxSteps := 2000000) (disch := omega) [-getElem?_pos]
  refine k_Run2.then fun r hr => ?_
  subst hr
  simp -implicitDefEqProofs (maxSteps := 2000000) (disch := omega) [-getElem?_pos]
  refine k_Sum.then fun r hr => ?_
  subst hr
  simp -implicitDefEqProofs (maxSteps := 2000000) (disch := omega) [-getElem?_pos]
  refine ((k_Nodes coE (by simp [coE, csz, cszL, nsz])).arg1 le_coSum).then fun r hr => ?_
  subst hr
  simp -implicitDefEqProofs (maxSteps := 2000000) (disch := omega) [-getElem?_pos, coE, nds, ndsL]
  exact .fin _ ⟨rfl, rfl⟩ (.refl _)
end Go.Proofs.YtbifjffjibnjjaaDoor
