/-
  Types: how many nodes; a copy. (Own work.)
-/
import Derived.Test.YtkpnhcccocaakaaDoorT14
set_option linter.unusedVariables false
set_option linter.unusedSimpArgs false
namespace Go.Proofs.YtkpnhcccocaakaaDoor
open Go Go.Abs

theorem k_Nodes (t : Tp) : ∀ {σ : Sg}, tbk t ≤ 1048576 → ACalls Tryd.prog 51 [.v (encT t)] σ fun r σ' => r = .v (.int .i64 (tnd t)) ∧ σ' = σ := by
  refine Tp.ind (P := fun t => ∀ {σ : Sg}, tbk t ≤ 1048576 → ACalls Tryd.prog 51 [.v (encT t)] σ fun r σ' => r = .v (.int .i64 (tnd t)) ∧ σ' = σ) (fun k n l ls tl ih => ?_) t
  intro σ he
  have hn := tnd_le (.mk k n l ls tl)
  simp only [tbk, tnd] at he hn ⊢
  have hll := tbkL_len l
  rw [encT_mk]
  refine acalls_fit Tryd.func51 (by kernel_rfl) c51 rfl (by simp [a51]) fun hf => ?_
  clear hf
  simp -implicitDefEqProofs (maxSteps := 2000000) (disch := omega) [-getElem?_pos, a51]
  refine W_loop (α := Nat) 0 (fun i => l.length - i) (fun i => ⟨[(3, .v (.int .i64 (1 + tndL (l.take i) : Nat))), (7, .v (.sl (some 5) false (l.map encT))), (8, .v (.int .i64 l.length)), (9, .v (.int .i64 i))], σ⟩)
    (fun i => i ≤ l.length) (.dropO rfl (by simp) (by simp [tndL]) (by simp)) (by omega) fun i hi => ?_
  have hnt := tndL_take l i
  simp -implicitDefEqProofs (maxSteps := 2000000) (disch := omega) [-getElem?_pos]
  refine .mk (fun h => ?_) fun h => ?_
  · simp -implicitDefEqProofs (maxSteps := 2000000) (disch := omega) [-getElem?_pos]
    refine ⟨by omega, ?_⟩
    intro x hx
    have hx1 := tbkL_mem (List.mem_of_getElem? hx)
    have hx2 := tndL_get hx
    have hx3 := tndL_take l (i + 1)
    have hc := fun σ => ih x (List.mem_of_getElem? hx) (σ := σ) (by omega)
    generalize tnd x = d at *
    obtain ⟨k2, n2, l2, ls2, tl2⟩ := x
    rw [encT_mk] at hc ⊢
    simp -implicitDefEqProofs (maxSteps := 2000000) (disch := omega) [-getElem?_pos]
    refine (hc _).then fun r hr => ?_
    subst hr
    simp -implicitDefEqProofs (maxSteps := 2000000) (disch := omega) [-getElem?_pos]
    exact ⟨i + 1, by omega, by show l.length - (i + 1) < l.length - i; omega, .dropO rfl (by simp) (by simp [hx2]; omega) (by simp)⟩
  · rw [List.take_of_length_le (by omega)]
    simp -implicitDefEqProofs (maxSteps := 2000000) (disch := omega) [-getElem?_pos]
    exact .fin _ ⟨by simp, rfl⟩ (.refl _)
theorem tp_leD {k n tl : Int} {l : List Tp} {ls : List Str} {x y : D} (hx : D.Le x (.v (.sl (some 5) false (l.map encT)))) (hy : D.Le y (.v (vS ls))) : D.Le (.agg [.v (.int .i64 k), .v (.int .i64 n), x, y, .v (.int .i64 tl)]) (.v (encT (.mk k n l ls tl))) := by
  rw [encT_mk]
  refine D.Le.aggV rfl (fun y hy => ?_) fun i x y h1 h2 => ?_
  · simp only [List.mem_cons, List.not_mem_nil, or_false] at hy
    rcases hy with rfl | rfl | rfl | rfl | rfl <;> rfl
  · match i with
    | 0 => cases h1; cases h2; exact .refl _
    | 1 => cases h1; cases h2; exact .refl _
    | 2 => cases h1; cases h2; exact hx
    | 3 => cases h1; cases h2; exact hy
    | 4 => cases h1; cases h2; exact .refl _
    | j + 5 => simp at h1
def encI (l : List Tp) (i : Nat) : List V := (l.take i).map encT
theorem encI_zero (l : List Tp) : encI l 0 = [] := rfl
theorem encI_all {l : List Tp} {i : Nat} (h : l.length ≤ i) : encI l i = l.map encT := by unfold encI; rw [List.take_of_length_le h]
theorem encI_len {l : List Tp} {i : Nat} (h : i ≤ l.length) : (encI l i).length = i := by unfold encI; simp; omega
theorem encI_step {l : List Tp} {i : Nat} {x : Tp} (h : l[i]? = some x) : encI l i ++ [encT x] = encI l (i + 1) := by unfold encI; rw [List.take_add_one, h]; simp
theorem k_Copied (t : Tp) : ∀ {σ : Sg}, tbk t ≤ 1048576 → ACalls Tryd.prog 52 [.v (encT t)] σ fun r σ' => r = .v (encT t) ∧ σ' = σ := by
  refine Tp.ind (P := fun t => ∀ {σ : Sg}, tbk t ≤ 1048576 → ACalls Tryd.prog 52 [.v (encT t)] σ fun r σ' => r = .v (encT t) ∧ σ' = σ) (fun k n l ls tl ih => ?_) t
  intro σ he
  simp only [tbk] at he
  have hll := tbkL_len l
  have hnl := nsz_len ls
  have hE := encT_mk (k := k) (n := n) (l := l) (ls := ls) (tl := tl)
  rw [hE]
  refine acalls_fit Tryd.func52 (by kernel_rfl) c52 rfl (by simp [a52]) fun hf => ?_
  clear hf
  simp -implicitDefEqProofs (maxSteps := 2000000) (disch := omega) [-getElem?_pos, a52]
  refine (k_CloneS (by omega)).then fun r hr => ?_
  subst hr
  simp -implicitDefEqProofs (maxSteps := 2000000) (disch := omega) [-getElem?_pos]
  refine W_loop (α := Nat) 0 (fun i => l.length - i) (fun i => ⟨[(2, .ptr (σ.objs.length + 1) 0), (3, .ptr (σ.objs.length + 2) 0), (13, .v (.sl (some 5) false (l.map encT))), (14, .v (.int .i64 l.length)), (15, .v (.int .i64 i))],
      ⟨σ.objs ++ [.cells [.v (.int .i64 k), .v (.int .i64 n), .v (.sl (some 5) false (l.map encT)), .v (.sl none false (ls.map .str)), .v (.int .i64 tl)], .cells [.v (.int .i64 0), .v (.int .i64 0), .v .snil, .v .snil, .v (.int .i64 0)], .cells [.v (.int .i64 k), .v (.int .i64 n), .tsl σ.toks.length (some 5) (encI l i), .v (vS ls), .v (.int .i64 tl)]], σ.toks ++ [i]⟩⟩)
    (fun i => i ≤ l.length) (.tokE (σ.objs.length + 2) 2 (some 5) _ (by simp; rfl) (by simp) (by simp [encI_zero]) (by simp)) (by omega) fun i hi => ?_
  have htl := encI_len hi
  simp -implicitDefEqProofs (maxSteps := 2000000) (disch := omega) [-getElem?_pos]
  refine .mk (fun h => ?_) fun h => ?_
  · simp -implicitDefEqProofs (maxSteps := 2000000) (disch := omega) [-getElem?_pos]
    refine ⟨by omega, fun x hx => ?_⟩
    have hx1 := tbkL_mem (List.mem_of_getElem? hx)
    have hc := fun σ => ih x (List.mem_of_getElem? hx) (σ := σ) (by omega)
    have hys := encI_step hx
    obtain ⟨k2, n2, l2, ls2, tl2⟩ := x
    rw [encT_mk] at hc hys ⊢
    simp -implicitDefEqProofs (maxSteps := 2000000) (disch := omega) [-getElem?_pos]
    refine (hc _).then fun r hr => ?_
    subst hr
    simp -implicitDefEqProofs (maxSteps := 2000000) (disch := omega) [-getElem?_pos, htl]
    exact ⟨by omega, i + 1, by omega, by show l.length - (i + 1) < l.length - i; omega, .dropX (ys := [_, _, _]) (by rw [← hys]; rfl) rfl (by simp) (by simp) (by simp) (by simp)⟩
  · have hil : i = l.length := by omega
    subst hil
    rw [encI_all (Nat.le_refl _)] at htl ⊢
    simp -implicitDefEqProofs (maxSteps := 2000000) (disch := omega) [-getElem?_pos]
    exact .finS _ σ ⟨rfl, rfl⟩ (by rw [← hE]; exact tp_leD .tsl (.refl _)) (fun ob h => .inl h) (by simp) (by simp) (by simp) (by simp) (by simp)
end Go.Proofs.YtkpnhcccocaakaaDoor
