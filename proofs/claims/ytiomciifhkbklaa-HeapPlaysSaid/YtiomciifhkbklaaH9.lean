/-
  Words one behind the other (slices.Concat), walked. (Own work.)
-/
import Derived.Test.YtiomciifhkbklaaH8
import Derived.Test.YtiomciifhkbklaaF2
set_option linter.unusedVariables false
set_option linter.unusedSimpArgs false
set_option maxHeartbeats 1000000
namespace Go.Proofs.Ytiomciifhkbklaa
open Go Go.Abs

/- Parts one behind the other. -/
def rowsX (l : List Wd) : List D := (V.flat (l.map wv)).map .v
def cX (l : List Wd) (rest : List D) : List D := rowsX l ++ rest
theorem flatX_len (l : List Wd) : (V.flat (l.map wv)).length = l.length * 2 := by
  rw [V.flat_length (sh := some 2) (fun x hx => by obtain ⟨e, _, rfl⟩ := List.mem_map.1 hx; exact rfl)]
  simp [shn]
theorem rowsX_len (l : List Wd) : (rowsX l).length = l.length * 2 := by rw [rowsX, List.length_map, flatX_len]
@[simp] theorem cX_len (l : List Wd) (rest : List D) : (cX l rest).length = l.length * 2 + rest.length := by rw [cX, List.length_append, rowsX_len]
theorem rowsX_app (a b : List Wd) : rowsX (a ++ b) = rowsX a ++ rowsX b := by simp [rowsX, V.flat]
theorem cX_put {l x : List Wd} {rest : List D} : List.take (l.length * 2) (cX l rest) ++ ((V.flat (x.map wv)).map .v ++ List.drop (l.length * 2 + (V.flat (x.map wv)).length) (cX l rest)) = cX (l ++ x) (rest.drop (x.length * 2)) := by
  have e := rowsX_len l
  unfold cX
  rw [← e, List.take_left, flatX_len, List.drop_length_add_append, rowsX_app, List.append_assoc]
  rfl
theorem k_GrowV {n : Nat} {σ : Sg} (hn : 0 < n) (hl : n ≤ 4000001) : ACalls Try.prog 44 [.v .snil, .v (.int .i64 n)] σ fun r σ' => ∃ c cs, n ≤ c ∧ n * 2 ≤ cs.length ∧ r = .msl σ.objs.length 0 0 (some 2) (some c) ∧ σ' = ⟨σ.objs ++ [.cells cs], σ.toks⟩ := by
  refine acalls_fit Try.func44 (by kernel_rfl) c44 rfl (by simp [a44]) fun hf => ?_
  clear hf
  simp -implicitDefEqProofs (maxSteps := 2000000) (disch := omega) [-getElem?_pos, a44]
  refine .mk (fun h => by omega) fun h => ?_
  simp -implicitDefEqProofs (maxSteps := 2000000) (disch := omega) [-getElem?_pos]
  refine .mk (fun h => ?_) fun h => by omega
  simp -implicitDefEqProofs (maxSteps := 2000000) (disch := omega) [-getElem?_pos]
  repeat refine ⟨by omega, ?_⟩
  intro hn0
  simp -implicitDefEqProofs (maxSteps := 2000000) (disch := omega) [-getElem?_pos]
  repeat refine ⟨by omega, ?_⟩
  intro c hc hm
  repeat refine ⟨by omega, ?_⟩
  have hfl : (V.flat (List.replicate n (zrow (some 2) [V.bool false, V.int .i64 0]))).length = n * 2 := by
    rw [V.flat_length (sh := some 2) (by intro x hx; rw [List.eq_of_mem_replicate hx]; rfl)]
    simp [shn]
  exact ⟨_, _, WeakR.refl _ _ _, c, hc, _, by simp [hfl], rfl, rfl⟩
def vX (l : List Wd) : V := .sl (some 2) false (l.map wv)
def catX (L : List (List Wd)) : List Wd := L.flatten
theorem catX_take {L : List (List Wd)} {i : Nat} {x : List Wd} (h : L[i]? = some x) : catX (L.take (i + 1)) = catX (L.take i) ++ x := by
  unfold catX; rw [List.take_add_one, h]; simp
theorem catX_le {L : List (List Wd)} (i : Nat) : (catX (L.take i)).length ≤ (catX L).length := by
  unfold catX
  conv => rhs; rw [← List.take_append_drop i L, List.flatten_append, List.length_append]
  omega
structure CatS where
  i : Nat
  rest : List D
theorem k_ConcatV {L : List (List Wd)} {f : Bool} {σ : Sg} (hne : catX L ≠ []) (hl : (catX L).length ≤ 4000001) (hll : L.length ≤ 1000000) : ACalls Try.prog 32 [.v (.sl none f (L.map vX))] σ fun r σ' => r = .v (vX (catX L)) ∧ σ' = σ := by
  refine acalls_fit Try.func32 (by kernel_rfl) c32W rfl (by simp [a32W]) fun hf => ?_
  clear hf
  simp -implicitDefEqProofs (maxSteps := 2000000) (disch := omega) [-getElem?_pos, a32W]
  refine W_loop (α := Nat) 0 (fun i => L.length - i) (fun i => ⟨[(0, .v (.sl none f (L.map vX))), (3, .v (.int .i64 (catX (L.take i)).length)), (9, .v (.sl none f (L.map vX))), (10, .v (.int .i64 L.length)), (11, .v (.int .i64 i))], σ⟩) (fun i => i ≤ L.length)
    (.eq (by simp [catX])) (by omega) fun i hi => ?_
  have hfl := catX_le (L := L) i
  simp -implicitDefEqProofs (maxSteps := 2000000) (disch := omega) [-getElem?_pos]
  refine .mk (fun h => ?_) fun h => ?_
  · simp -implicitDefEqProofs (maxSteps := 2000000) (disch := omega) [-getElem?_pos]
    repeat refine ⟨by omega, ?_⟩
    intro x hx
    have ht := catX_take hx
    have hfl2 := catX_le (L := L) (i + 1)
    have hlen : (catX (L.take (i + 1))).length = (catX (L.take i)).length + x.length := by rw [ht, List.length_append]
    unfold vX
    simp -implicitDefEqProofs (maxSteps := 2000000) (disch := omega) [-getElem?_pos]
    refine .mk (fun h => by omega) fun h => ?_
    simp -implicitDefEqProofs (maxSteps := 2000000) (disch := omega) [-getElem?_pos]
    exact ⟨i + 1, by omega, by dsimp only; omega, .eq (by simp [hlen, vX])⟩
  rw [List.take_of_length_le (l := L) (by omega)]
  have hpos : 0 < (catX L).length := List.length_pos_iff.2 hne
  simp -implicitDefEqProofs (maxSteps := 2000000) (disch := omega) [-getElem?_pos]
  refine (k_GrowV (n := (catX L).length) hpos hl).mono fun r σ' h => ?_
  obtain ⟨c, cs, hc, hcs, rfl, rfl⟩ := h
  simp -implicitDefEqProofs (maxSteps := 2000000) (disch := omega) [-getElem?_pos]
  refine W_loop (α := CatS) ⟨0, cs⟩ (fun x => L.length - x.i) (fun x => ⟨[(6, .msl σ.objs.length 0 (catX (L.take x.i)).length (some 2) (some c)), (25, .v (.sl none f (L.map vX))), (26, .v (.int .i64 L.length)), (27, .v (.int .i64 x.i))], ⟨σ.objs ++ [.cells (cX (catX (L.take x.i)) x.rest)], σ.toks⟩⟩) (fun x => x.i ≤ L.length ∧ (catX L).length * 2 ≤ (catX (L.take x.i)).length * 2 + x.rest.length)
    (.eq2 (by simp [catX, cX, rowsX, V.flat]) (by simp [catX])) ⟨by simp, by simpa [catX] using hcs⟩ fun ⟨i, rest⟩ ⟨hi, hr⟩ => ?_
  dsimp only at hi hr ⊢
  have hfl := catX_le (L := L) i
  simp -implicitDefEqProofs (maxSteps := 2000000) (disch := omega) [-getElem?_pos]
  refine .mk (fun h => ?_) fun h => ?_
  · simp -implicitDefEqProofs (maxSteps := 2000000) (disch := omega) [-getElem?_pos]
    repeat refine ⟨by omega, ?_⟩
    intro x hx
    have ht := catX_take hx
    have hfl2 := catX_le (L := L) (i + 1)
    have hlen : (catX (L.take (i + 1))).length = (catX (L.take i)).length + x.length := by rw [ht, List.length_append]
    unfold vX
    simp -implicitDefEqProofs (maxSteps := 2000000) (disch := omega) [-getElem?_pos]
    refine .mk (fun h => ?_) fun h => absurd h (by omega)
    simp -implicitDefEqProofs (maxSteps := 2000000) (disch := omega) [-getElem?_pos, cX_put]
    refine ⟨by omega, ⟨i + 1, rest.drop (x.length * 2)⟩, ⟨by dsimp only; omega, by simp only [List.length_drop]; omega⟩, by dsimp only; omega, .eq2 ?_ (by simp [hlen, vX])⟩
    simp [ht]
  · rw [List.take_of_length_le (l := L) (by omega)]
    simp -implicitDefEqProofs (maxSteps := 2000000) (disch := omega) [-getElem?_pos]
    have hcat : (catX L).map wv ≠ [] := fun h => hne (List.map_eq_nil_iff.1 h)
    refine .freeze ((catX L).map wv) _ ⟨rfl, rfl⟩ (by simp; rfl) (fun e => ?_) ?_ (by simp) (by intro x hx; obtain ⟨e, _, rfl⟩ := List.mem_map.1 hx; exact rfl)
    · have := congrArg List.length e
      rw [cX_len] at this
      simp only [List.length_nil] at this
      omega
    · rw [List.drop_zero]
      have e := rowsX_len (catX L)
      have e2 : (catX L).length * shn (some 2) = (rowsX (catX L)).length := by rw [e]; rfl
      rw [e2, cX, List.take_left]
      rfl
theorem k_GrowV0 {σ : Sg} : ACalls Try.prog 44 [.v .snil, .v (.int .i64 0)] σ fun r σ' => r = .v .snil ∧ σ' = σ := by
  refine acalls_fit Try.func44 (by kernel_rfl) c44 rfl (by simp [a44]) fun hf => ?_
  clear hf
  simp -implicitDefEqProofs (maxSteps := 2000000) (disch := omega) [-getElem?_pos, a44]
  exact .fin _ ⟨rfl, rfl⟩ (.refl _)
theorem k_ConcatV0 {L : List (List Wd)} {f : Bool} {σ : Sg} (hne : catX L = []) (hll : L.length ≤ 1000000) : ACalls Try.prog 32 [.v (.sl none f (L.map vX))] σ fun r σ' => r = .v (vX []) ∧ σ' = σ := by
  have hx0 : ∀ (i : Nat) x, L[i]? = some x → x = [] := by
    intro i x hx
    unfold catX at hne
    exact List.flatten_eq_nil_iff.1 hne x (List.mem_of_getElem? hx)
  refine acalls_fit Try.func32 (by kernel_rfl) c32W rfl (by simp [a32W]) fun hf => ?_
  clear hf
  simp -implicitDefEqProofs (maxSteps := 2000000) (disch := omega) [-getElem?_pos, a32W]
  refine W_loop (α := Nat) 0 (fun i => L.length - i) (fun i => ⟨[(0, .v (.sl none f (L.map vX))), (3, .v (.int .i64 0)), (9, .v (.sl none f (L.map vX))), (10, .v (.int .i64 L.length)), (11, .v (.int .i64 i))], σ⟩) (fun i => i ≤ L.length)
    (.eq (by simp)) (by omega) fun i hi => ?_
  simp -implicitDefEqProofs (maxSteps := 2000000) (disch := omega) [-getElem?_pos]
  refine .mk (fun h => ?_) fun h => ?_
  · simp -implicitDefEqProofs (maxSteps := 2000000) (disch := omega) [-getElem?_pos]
    repeat refine ⟨by omega, ?_⟩
    intro x hx
    obtain rfl := hx0 i x hx
    unfold vX
    simp -implicitDefEqProofs (maxSteps := 2000000) (disch := omega) [-getElem?_pos]
    exact ⟨i + 1, by omega, by dsimp only; omega, .eq (by simp [vX])⟩
  simp -implicitDefEqProofs (maxSteps := 2000000) (disch := omega) [-getElem?_pos]
  refine k_GrowV0.then fun r hr => ?_
  subst hr
  simp -implicitDefEqProofs (maxSteps := 2000000) (disch := omega) [-getElem?_pos]
  refine W_loop (α := Nat) 0 (fun i => L.length - i) (fun i => ⟨[(6, .v (.sl (some 2) true [])), (25, .v (.sl none f (L.map vX))), (26, .v (.int .i64 L.length)), (27, .v (.int .i64 i))], σ⟩) (fun i => i ≤ L.length)
    (.le (by simp)) (by omega) fun i hi => ?_
  simp -implicitDefEqProofs (maxSteps := 2000000) (disch := omega) [-getElem?_pos]
  refine .mk (fun h => ?_) fun h => ?_
  · simp -implicitDefEqProofs (maxSteps := 2000000) (disch := omega) [-getElem?_pos]
    repeat refine ⟨by omega, ?_⟩
    intro x hx
    obtain rfl := hx0 i x hx
    unfold vX
    simp -implicitDefEqProofs (maxSteps := 2000000) (disch := omega) [-getElem?_pos]
    exact ⟨i + 1, by omega, by dsimp only; omega, .eq (by simp [vX])⟩
  · simp -implicitDefEqProofs (maxSteps := 2000000) (disch := omega) [-getElem?_pos]
    exact .fin _ ⟨rfl, rfl⟩ (by simp [vX])
theorem k_ConcatAny {L : List (List Wd)} {f : Bool} {xs : List V} {σ : Sg} (hx : xs = L.map vX) (hl : (catX L).length ≤ 4000001) (hll : L.length ≤ 1000000) : ACalls Try.prog 32 [.v (.sl none f xs)] σ fun r σ' => r = .v (vX (catX L)) ∧ σ' = σ := by
  subst hx
  by_cases hne : catX L = []
  · rw [hne]
    exact k_ConcatV0 hne hll
  · exact k_ConcatV hne hl hll
end Go.Proofs.Ytiomciifhkbklaa
