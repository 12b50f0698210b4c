/-
  Core expressions, walked: tuples. (Own work.)
-/
import Derived.Test.YtbifjffjibnjjaaDoorM07
import Derived.Shelf.Strconv.Itoa4
import Derived.Test.YtbifjffjibnjjaaDoorChecked
set_option linter.unusedVariables false
set_option linter.unusedSimpArgs false
set_option maxHeartbeats 1000000
namespace Go.Proofs.YtbifjffjibnjjaaDoor
open Go Go.Abs

def rowsX (φ : Nat → Nat) (l : List Vl) : List D := (V.flat (l.map (encW φ))).map .v
def cX (φ : Nat → Nat) (l : List Vl) (rest : List D) : List D := rowsX φ l ++ rest
theorem flatX_len {φ : Nat → Nat} (l : List Vl) : (V.flat (l.map (encW φ))).length = l.length * 6 := by
  rw [V.flat_length (sh := some 6) (fun x hx => by obtain ⟨e, _, rfl⟩ := List.mem_map.1 hx; exact encW_shape e)]
  simp [shn]
theorem rowsX_len {φ : Nat → Nat} (l : List Vl) : (rowsX φ l).length = l.length * 6 := by rw [rowsX, List.length_map, flatX_len]
@[simp] theorem cX_len {φ : Nat → Nat} (l : List Vl) (rest : List D) : (cX φ l rest).length = l.length * 6 + rest.length := by rw [cX, List.length_append, rowsX_len]
theorem rowsX_app {φ : Nat → Nat} (a b : List Vl) : rowsX φ (a ++ b) = rowsX φ a ++ rowsX φ b := by simp [rowsX, V.flat]
theorem cX_put {φ : Nat → Nat} {l x : List Vl} {rest : List D} : List.take (l.length * 6) (cX φ l rest) ++ ((V.flat (x.map (encW φ))).map .v ++ List.drop (l.length * 6 + (V.flat (x.map (encW φ))).length) (cX φ l rest)) = cX φ (l ++ x) (rest.drop (x.length * 6)) := by
  have e := rowsX_len (φ := φ) l
  unfold cX
  rw [← e, List.take_left, flatX_len, List.drop_length_add_append, rowsX_app, List.append_assoc]
  rfl
theorem k_GrowV {n : Nat} {σ : Sg} (hn : 0 < n) (hl : n ≤ 4000001) : ACalls Tryd.prog 124 [.v .snil, .v (.int .i64 n)] σ fun r σ' => ∃ c cs, n ≤ c ∧ n * 6 ≤ cs.length ∧ r = .msl σ.objs.length 0 0 (some 6) (some c) ∧ σ' = ⟨σ.objs ++ [.cells cs], σ.toks⟩ := by
  refine acalls_fit Tryd.func124 (by kernel_rfl) c124 rfl (by simp [a124]) fun hf => ?_
  clear hf
  simp -implicitDefEqProofs (maxSteps := 2000000) (disch := omega) [-getElem?_pos, a124]
  refine .mk (fun h => by omega) fun h => ?_
  simp -implicitDefEqProofs (maxSteps := 2000000) (disch := omega) [-getElem?_pos]
  refine .mk (fun h => ?_) fun h => by omega
  simp -implicitDefEqProofs (maxSteps := 2000000) (disch := omega) [-getElem?_pos]
  repeat refine ⟨by omega, ?_⟩
  intro hn0
  simp -implicitDefEqProofs (maxSteps := 2000000) (disch := omega) [-getElem?_pos]
  repeat refine ⟨by omega, ?_⟩
  intro c hc hm
  repeat refine ⟨by omega, ?_⟩
  have hfl : (V.flat (List.replicate n (zrow (some 6) [V.int .i64 0, V.int .i64 0, V.str [], V.snil, V.pnil, V.pnil]))).length = n * 6 := by
    rw [V.flat_length (sh := some 6) (by intro x hx; rw [List.eq_of_mem_replicate hx]; rfl)]
    simp [shn]
  exact ⟨_, _, WeakR.refl _ _ _, c, hc, _, by simp [hfl], rfl, rfl⟩
def vX (φ : Nat → Nat) (l : List Vl) : V := .sl (some 6) false (l.map (encW φ))
def catX (L : List (List Vl)) : List Vl := L.flatten
theorem catX_take {L : List (List Vl)} {i : Nat} {x : List Vl} (h : L[i]? = some x) : catX (L.take (i + 1)) = catX (L.take i) ++ x := by
  unfold catX; rw [List.take_add_one, h]; simp
theorem catX_le {L : List (List Vl)} (i : Nat) : (catX (L.take i)).length ≤ (catX L).length := by
  unfold catX
  conv => rhs; rw [← List.take_append_drop i L, List.flatten_append, List.length_append]
  omega
structure CatS where
  i : Nat
  rest : List D
theorem k_ConcatV {φ : Nat → Nat} {L : List (List Vl)} {f : Bool} {σ : Sg} (hne : catX L ≠ []) (hl : (catX L).length ≤ 4000001) (hll : L.length ≤ 1000000) : ACalls Tryd.prog 102 [.v (.sl none f (L.map (vX φ)))] σ fun r σ' => r = .v (vX φ (catX L)) ∧ σ' = σ := by
  refine acalls_fit Tryd.func102 (by kernel_rfl) c102W rfl (by simp [a102W]) fun hf => ?_
  clear hf
  simp -implicitDefEqProofs (maxSteps := 2000000) (disch := omega) [-getElem?_pos, a102W]
  refine W_loop (α := Nat) 0 (fun i => L.length - i) (fun i => ⟨[(0, .v (.sl none f (L.map (vX φ)))), (3, .v (.int .i64 (catX (L.take i)).length)), (9, .v (.sl none f (L.map (vX φ)))), (10, .v (.int .i64 L.length)), (11, .v (.int .i64 i))], σ⟩) (fun i => i ≤ L.length)
    (.eq (by simp [catX])) (by omega) fun i hi => ?_
  have hfl := catX_le (L := L) i
  simp -implicitDefEqProofs (maxSteps := 2000000) (disch := omega) [-getElem?_pos]
  refine .mk (fun h => ?_) fun h => ?_
  · simp -implicitDefEqProofs (maxSteps := 2000000) (disch := omega) [-getElem?_pos]
    repeat refine ⟨by omega, ?_⟩
    intro x hx
    have ht := catX_take hx
    have hfl2 := catX_le (L := L) (i + 1)
    have hlen : (catX (L.take (i + 1))).length = (catX (L.take i)).length + x.length := by rw [ht, List.length_append]
    unfold vX
    simp -implicitDefEqProofs (maxSteps := 2000000) (disch := omega) [-getElem?_pos]
    refine .mk (fun h => by omega) fun h => ?_
    simp -implicitDefEqProofs (maxSteps := 2000000) (disch := omega) [-getElem?_pos]
    exact ⟨i + 1, by omega, by dsimp only; omega, .eq (by simp [hlen, vX])⟩
  rw [List.take_of_length_le (l := L) (by omega)]
  have hpos : 0 < (catX L).length := List.length_pos_iff.2 hne
  simp -implicitDefEqProofs (maxSteps := 2000000) (disch := omega) [-getElem?_pos]
  refine (k_GrowV (n := (catX L).length) hpos hl).mono fun r σ' h => ?_
  obtain ⟨c, cs, hc, hcs, rfl, rfl⟩ := h
  simp -implicitDefEqProofs (maxSteps := 2000000) (disch := omega) [-getElem?_pos]
  refine W_loop (α := CatS) ⟨0, cs⟩ (fun x => L.length - x.i) (fun x => ⟨[(6, .msl σ.objs.length 0 (catX (L.take x.i)).length (some 6) (some c)), (25, .v (.sl none f (L.map (vX φ)))), (26, .v (.int .i64 L.length)), (27, .v (.int .i64 x.i))], ⟨σ.objs ++ [.cells (cX φ (catX (L.take x.i)) x.rest)], σ.toks⟩⟩) (fun x => x.i ≤ L.length ∧ (catX L).length * 6 ≤ (catX (L.take x.i)).length * 6 + x.rest.length)
    (.eq2 (by simp [catX, cX, rowsX, V.flat]) (by simp [catX])) ⟨by simp, by simpa [catX] using hcs⟩ fun ⟨i, rest⟩ ⟨hi, hr⟩ => ?_
  dsimp only at hi hr ⊢
  have hfl := catX_le (L := L) i
  simp -implicitDefEqProofs (maxSteps := 2000000) (disch := omega) [-getElem?_pos]
  refine .mk (fun h => ?_) fun h => ?_
  · simp -implicitDefEqProofs (maxSteps := 2000000) (disch := omega) [-getElem?_pos]
    repeat refine ⟨by omega, ?_⟩
    intro x hx
    have ht := catX_take hx
    have hfl2 := catX_le (L := L) (i + 1)
    have hlen : (catX (L.take (i + 1))).length = (catX (L.take i)).length + x.length := by rw [ht, List.length_append]
    unfold vX
    simp -implicitDefEqProofs (maxSteps := 2000000) (disch := omega) [-getElem?_pos]
    refine .mk (fun h => ?_) fun h => absurd h (by omega)
    simp -implicitDefEqProofs (maxSteps := 2000000) (disch := omega) [-getElem?_pos, cX_put]
    refine ⟨by omega, ⟨i + 1, rest.drop (x.length * 6)⟩, ⟨by dsimp only; omega, by simp only [List.length_drop]; omega⟩, by dsimp only; omega, .eq2 ?_ (by simp [hlen, vX])⟩
    simp [ht]
  · rw [List.take_of_length_le (l := L) (by omega)]
    simp -implicitDefEqProofs (maxSteps := 2000000) (disch := omega) [-getElem?_pos]
    have hcat : (catX L).map (encW φ) ≠ [] := fun h => hne (List.map_eq_nil_iff.1 h)
    refine .freeze ((catX L).map (encW φ)) _ ⟨rfl, rfl⟩ (by simp; rfl) (fun e => ?_) ?_ (by simp) (by intro x hx; obtain ⟨e, _, rfl⟩ := List.mem_map.1 hx; exact encW_shape e)
    · have := congrArg List.length e
      rw [cX_len] at this
      simp only [List.length_nil] at this
      omega
    · rw [List.drop_zero]
      have e := rowsX_len (φ := φ) (catX L)
      have e2 : (catX L).length * shn (some 6) = (rowsX φ (catX L)).length := by rw [e]; rfl
      rw [e2, cX, List.take_left]
      rfl
theorem k_GrowV0 {σ : Sg} : ACalls Tryd.prog 124 [.v .snil, .v (.int .i64 0)] σ fun r σ' => r = .v .snil ∧ σ' = σ := by
  refine acalls_fit Tryd.func124 (by kernel_rfl) c124 rfl (by simp [a124]) fun hf => ?_
  clear hf
  simp -implicitDefEqProofs (maxSteps := 2000000) (disch := omega) [-getElem?_pos, a124]
  exact .fin _ ⟨rfl, rfl⟩ (.refl _)
theorem k_ConcatV0 {φ : Nat → Nat} {L : List (List Vl)} {f : Bool} {σ : Sg} (hne : catX L = []) (hll : L.length ≤ 1000000) : ACalls Tryd.prog 102 [.v (.sl none f (L.map (vX φ)))] σ fun r σ' => r = .v (vX φ []) ∧ σ' = σ := by
  have hx0 : ∀ (i : Nat) x, L[i]? = some x → x = [] := by
    intro i x hx
    unfold catX at hne
    exact List.flatten_eq_nil_iff.1 hne x (List.mem_of_getElem? hx)
  refine acalls_fit Tryd.func102 (by kernel_rfl) c102W rfl (by simp [a102W]) fun hf => ?_
  clear hf
  simp -implicitDefEqProofs (maxSteps := 2000000) (disch := omega) [-getElem?_pos, a102W]
  refine W_loop (α := Nat) 0 (fun i => L.length - i) (fun i => ⟨[(0, .v (.sl none f (L.map (vX φ)))), (3, .v (.int .i64 0)), (9, .v (.sl none f (L.map (vX φ)))), (10, .v (.int .i64 L.length)), (11, .v (.int .i64 i))], σ⟩) (fun i => i ≤ L.length)
    (.eq (by simp)) (by omega) fun i hi => ?_
  simp -implicitDefEqProofs (maxSteps := 2000000) (disch := omega) [-getElem?_pos]
  refine .mk (fun h => ?_) fun h => ?_
  · simp -implicitDefEqProofs (maxSteps := 2000000) (disch := omega) [-getElem?_pos]
    repeat refine ⟨by omega, ?_⟩
    intro x hx
    obtain rfl := hx0 i x hx
    unfold vX
    simp -implicitDefEqProofs (maxSteps := 2000000) (disch := omega) [-getElem?_pos]
    exact ⟨i + 1, by omega, by dsimp only; omega, .eq (by simp [vX])⟩
  simp -implicitDefEqProofs (maxSteps := 2000000) (disch := omega) [-getElem?_pos]
  refine k_GrowV0.then fun r hr => ?_
  subst hr
  simp -implicitDefEqProofs (maxSteps := 2000000) (disch := omega) [-getElem?_pos]
  refine W_loop (α := Nat) 0 (fun i => L.length - i) (fun i => ⟨[(6, .v (.sl (some 6) true [])), (25, .v (.sl none f (L.map (vX φ)))), (26, .v (.int .i64 L.length)), (27, .v (.int .i64 i))], σ⟩) (fun i => i ≤ L.length)
    (.le (by simp)) (by omega) fun i hi => ?_
  simp -implicitDefEqProofs (maxSteps := 2000000) (disch := omega) [-getElem?_pos]
  refine .mk (fun h => ?_) fun h => ?_
  · simp -implicitDefEqProofs (maxSteps := 2000000) (disch := omega) [-getElem?_pos]
    repeat refine ⟨by omega, ?_⟩
    intro x hx
    obtain rfl := hx0 i x hx
    unfold vX
    simp -implicitDefEqProofs (maxSteps := 2000000) (disch := omega) [-getElem?_pos]
    exact ⟨i + 1, by omega, by dsimp only; omega, .eq (by simp [vX])⟩
  · simp -implicitDefEqProofs (maxSteps := 2000000) (disch := omega) [-getElem?_pos]
    exact .fin _ ⟨rfl, rfl⟩ (by simp [vX])
theorem k_ConcatAny {φ : Nat → Nat} {L : List (List Vl)} {f : Bool} {xs : List V} {σ : Sg} (hx : xs = L.map (vX φ)) (hl : (catX L).length ≤ 4000001) (hll : L.length ≤ 1000000) : ACalls Tryd.prog 102 [.v (.sl none f xs)] σ fun r σ' => r = .v (vX φ (catX L)) ∧ σ' = σ := by
  subst hx
  by_cases hne : catX L = []
  · rw [hne]
    exact k_ConcatV0 hne hll
  · exact k_ConcatV hne hl hll
end Go.Proofs.YtbifjffjibnjjaaDoor

/-
  Core expressions, walked: what something of a tuple comes to. (Own work.)
-/
set_option linter.unusedVariables false
set_option linter.unusedSimpArgs false
set_option maxHeartbeats 1000000
namespace Go.Proofs.YtbifjffjibnjjaaDoor
open Go Go.Abs

theorem kind4 {v : Vl} (h : kindW v = 4) : ∃ l, v = .tup l := by cases v <;> simp [kindW] at h; exact ⟨_, rfl⟩
theorem tuple_stuck {k : Int} {t a x : Vl} {m : Ms} (h : ¬ (kindW t = 4 ∧ kindW a = 1)) : tupleM k t a x m = stuckM m := by
  unfold tupleM
  split
  · exact absurd ⟨rfl, rfl⟩ h
  · rfl
theorem k_Tuple2 {mo tt : Nat} {φ ψ : Nat → Nat} {m : Ms} {k : Int} {t a : Vl} {n L : Nat} {σ : Sg} (hk : k = 9 ∨ k = 11) (h : Sto mo tt φ ψ m σ) (ha : okV n L t) (hL : L ≤ 4000000) : ACalls Tryd.prog 82 [.ptr mo 0, .v (.int .i64 k), .v (.sl (some 6) false ([t, a].map (encW φ)))] σ (Outc mo tt φ ψ m σ (tupleM k t a zVl m)) := by
  have hml := h.mlt
  obtain ⟨a1, a2, a3, a4, a5, hca⟩ := celW_kind (φ := φ) t
  obtain ⟨b1, b2, b3, b4, b5, hcb⟩ := celW_kind (φ := φ) a
  have hea : encW φ t = .agg [.int .i64 (kindW t), a1, a2, a3, a4, a5] := by unfold encW; rw [hca]
  have heb : encW φ a = .agg [.int .i64 (kindW a), b1, b2, b3, b4, b5] := by unfold encW; rw [hcb]
  simp only [List.map_cons, List.map_nil]
  rw [hea, heb]
  have hst : ¬ (kindW t = 4 ∧ kindW a = 1) → tupleM k t a zVl m = stuckM m := tuple_stuck
  rcases hk with rfl | rfl
  · skip
    refine acalls_fit Tryd.func82 (by kernel_rfl) c82 rfl (by simp [a82]) fun hf => ?_
    clear hf
    simp -implicitDefEqProofs (maxSteps := 2000000) (disch := omega) [-getElem?_pos, a82]
    refine ⟨?_, ?_⟩
    · skip
      refine .mk (fun h4 => ?_) fun h4 => ?_
      · simp -implicitDefEqProofs (maxSteps := 2000000) (disch := omega) [-getElem?_pos]
        refine .mk (fun h1 => ?_) fun h1 => ?_
        · obtain ⟨l, rfl⟩ := kind4 h4
          obtain ⟨i, rfl⟩ := kind1 h1
          simp only [celW, encWs_eq] at hca hcb
          cases hca
          cases hcb
          obtain ⟨hl, hv⟩ := ha
          simp -implicitDefEqProofs (maxSteps := 2000000) (disch := omega) [-getElem?_pos]
          refine .mk (fun g0 => ?_) fun g0 => ?_
          · simp -implicitDefEqProofs (maxSteps := 2000000) (disch := omega) [-getElem?_pos]
            refine .mk (fun g1 => ?_) fun g1 => ?_
            · simp -implicitDefEqProofs (maxSteps := 2000000) (disch := omega) [-getElem?_pos]
              refine .mk (fun g2 => ?_) fun g2 => ?_
              · rw [show tupleM 9 (.tup l) (.int i) zVl m = stuckM m by simp [tupleM, show ¬ i < 0 by omega, g2]]
                simp -implicitDefEqProofs (maxSteps := 2000000) (disch := omega) [-getElem?_pos]
                refine (k_Stuck (h.add _)).mono fun r σ2 ⟨φ2, ψ2, hr, hA⟩ => ?_
                replace hr : r = .tup [.v zW, .v (.bool false)] := hr
                subst hr
                have h0 : σ2.objs[σ.objs.length ]? = some _ := hA.loc h (j := 0) rfl
                have hl := (List.getElem?_eq_some_iff.1 h0).1
                unfold zW
                simp -implicitDefEqProofs (maxSteps := 2000000) (disch := omega) [-getElem?_pos, h0, hl, List.getElem?_set_self]
                exact ⟨_, _, WeakR.refl _ _ _, φ2, ψ2, rfl, (hA.back h).put _ (by omega) h0 (by omega)⟩

              · simp -implicitDefEqProofs (maxSteps := 2000000) (disch := omega) [-getElem?_pos]
                refine ⟨by omega, by omega, fun x hx => ?_⟩
                obtain ⟨x0, x1, x2, x3, x4, x5, hcx⟩ := list6 (celW_len (φ := φ) x)
                have hex : encW φ x = .agg [x0, x1, x2, x3, x4, x5] := by unfold encW; rw [hcx]
                have he : tupleM 9 (.tup l) (.int i) zVl m = done x m := by simp [tupleM, show ¬ i < 0 by omega, show ¬ (l.length : Int) < i by omega, g2, hx]
                rw [hex, he]
                simp -implicitDefEqProofs (maxSteps := 2000000) (disch := omega) [-getElem?_pos]
                exact ⟨_, _, WeakR.refl _ _ _, φ, ψ, by simp [done, resW, hex], (Aft.refl h).add _⟩

            · rw [show tupleM 9 (.tup l) (.int i) zVl m = stuckM m by simp [tupleM, show (l.length : Int) < i by omega]]
              simp -implicitDefEqProofs (maxSteps := 2000000) (disch := omega) [-getElem?_pos]
              refine (k_Stuck (h.add _)).mono fun r σ2 ⟨φ2, ψ2, hr, hA⟩ => ?_
              replace hr : r = .tup [.v zW, .v (.bool false)] := hr
              subst hr
              have h0 : σ2.objs[σ.objs.length ]? = some _ := hA.loc h (j := 0) rfl
              have hl := (List.getElem?_eq_some_iff.1 h0).1
              unfold zW
              simp -implicitDefEqProofs (maxSteps := 2000000) (disch := omega) [-getElem?_pos, h0, hl, List.getElem?_set_self]
              exact ⟨_, _, WeakR.refl _ _ _, φ2, ψ2, rfl, (hA.back h).put _ (by omega) h0 (by omega)⟩

          · rw [show tupleM 9 (.tup l) (.int i) zVl m = stuckM m by simp [tupleM, show i < 0 by omega]]
            simp -implicitDefEqProofs (maxSteps := 2000000) (disch := omega) [-getElem?_pos]
            refine (k_Stuck (h.add _)).mono fun r σ2 ⟨φ2, ψ2, hr, hA⟩ => ?_
            replace hr : r = .tup [.v zW, .v (.bool false)] := hr
            subst hr
            have h0 : σ2.objs[σ.objs.length ]? = some _ := hA.loc h (j := 0) rfl
            have hl := (List.getElem?_eq_some_iff.1 h0).1
            unfold zW
            simp -implicitDefEqProofs (maxSteps := 2000000) (disch := omega) [-getElem?_pos, h0, hl, List.getElem?_set_self]
            exact ⟨_, _, WeakR.refl _ _ _, φ2, ψ2, rfl, (hA.back h).put _ (by omega) h0 (by omega)⟩

        · rw [hst fun e => h1 e.2]
          simp -implicitDefEqProofs (maxSteps := 2000000) (disch := omega) [-getElem?_pos]
          refine (k_Stuck (h.add _)).mono fun r σ2 ⟨φ2, ψ2, hr, hA⟩ => ?_
          replace hr : r = .tup [.v zW, .v (.bool false)] := hr
          subst hr
          have h0 : σ2.objs[σ.objs.length ]? = some _ := hA.loc h (j := 0) rfl
          have hl := (List.getElem?_eq_some_iff.1 h0).1
          unfold zW
          simp -implicitDefEqProofs (maxSteps := 2000000) (disch := omega) [-getElem?_pos, h0, hl, List.getElem?_set_self]
          exact ⟨_, _, WeakR.refl _ _ _, φ2, ψ2, rfl, (hA.back h).put _ (by omega) h0 (by omega)⟩

      · rw [hst fun e => h4 e.1]
        simp -implicitDefEqProofs (maxSteps := 2000000) (disch := omega) [-getElem?_pos]
        refine (k_Stuck (h.add _)).mono fun r σ2 ⟨φ2, ψ2, hr, hA⟩ => ?_
        replace hr : r = .tup [.v zW, .v (.bool false)] := hr
        subst hr
        have h0 : σ2.objs[σ.objs.length ]? = some _ := hA.loc h (j := 0) rfl
        have hl := (List.getElem?_eq_some_iff.1 h0).1
        unfold zW
        simp -implicitDefEqProofs (maxSteps := 2000000) (disch := omega) [-getElem?_pos, h0, hl, List.getElem?_set_self]
        exact ⟨_, _, WeakR.refl _ _ _, φ2, ψ2, rfl, (hA.back h).put _ (by omega) h0 (by omega)⟩


    · skip
      refine .mk (fun h4 => ?_) fun h4 => ?_
      · simp -implicitDefEqProofs (maxSteps := 2000000) (disch := omega) [-getElem?_pos]
        refine .mk (fun h1 => ?_) fun h1 => ?_
        · obtain ⟨l, rfl⟩ := kind4 h4
          obtain ⟨i, rfl⟩ := kind1 h1
          simp only [celW, encWs_eq] at hca hcb
          cases hca
          cases hcb
          obtain ⟨hl, hv⟩ := ha
          simp -implicitDefEqProofs (maxSteps := 2000000) (disch := omega) [-getElem?_pos]
          refine .mk (fun g0 => ?_) fun g0 => ?_
          · simp -implicitDefEqProofs (maxSteps := 2000000) (disch := omega) [-getElem?_pos]
            refine .mk (fun g1 => ?_) fun g1 => ?_
            · simp -implicitDefEqProofs (maxSteps := 2000000) (disch := omega) [-getElem?_pos]
              refine .mk (fun g2 => ?_) fun g2 => ?_
              · rw [show tupleM 9 (.tup l) (.int i) zVl m = stuckM m by simp [tupleM, show ¬ i < 0 by omega, g2]]
                simp -implicitDefEqProofs (maxSteps := 2000000) (disch := omega) [-getElem?_pos]
                refine (k_Stuck (h.add _)).mono fun r σ2 ⟨φ2, ψ2, hr, hA⟩ => ?_
                replace hr : r = .tup [.v zW, .v (.bool false)] := hr
                subst hr
                have h0 : σ2.objs[σ.objs.length ]? = some _ := hA.loc h (j := 0) rfl
                have hl := (List.getElem?_eq_some_iff.1 h0).1
                unfold zW
                simp -implicitDefEqProofs (maxSteps := 2000000) (disch := omega) [-getElem?_pos, h0, hl, List.getElem?_set_self]
                exact ⟨_, _, WeakR.refl _ _ _, φ2, ψ2, rfl, (hA.back h).put _ (by omega) h0 (by omega)⟩

              · simp -implicitDefEqProofs (maxSteps := 2000000) (disch := omega) [-getElem?_pos]
                refine ⟨by omega, by omega, fun x hx => ?_⟩
                obtain ⟨x0, x1, x2, x3, x4, x5, hcx⟩ := list6 (celW_len (φ := φ) x)
                have hex : encW φ x = .agg [x0, x1, x2, x3, x4, x5] := by unfold encW; rw [hcx]
                have he : tupleM 9 (.tup l) (.int i) zVl m = done x m := by simp [tupleM, show ¬ i < 0 by omega, show ¬ (l.length : Int) < i by omega, g2, hx]
                rw [hex, he]
                simp -implicitDefEqProofs (maxSteps := 2000000) (disch := omega) [-getElem?_pos]
                exact ⟨_, _, WeakR.refl _ _ _, φ, ψ, by simp [done, resW, hex], (Aft.refl h).add _⟩

            · rw [show tupleM 9 (.tup l) (.int i) zVl m = stuckM m by simp [tupleM, show (l.length : Int) < i by omega]]
              simp -implicitDefEqProofs (maxSteps := 2000000) (disch := omega) [-getElem?_pos]
              refine (k_Stuck (h.add _)).mono fun r σ2 ⟨φ2, ψ2, hr, hA⟩ => ?_
              replace hr : r = .tup [.v zW, .v (.bool false)] := hr
              subst hr
              have h0 : σ2.objs[σ.objs.length ]? = some _ := hA.loc h (j := 0) rfl
              have hl := (List.getElem?_eq_some_iff.1 h0).1
              unfold zW
              simp -implicitDefEqProofs (maxSteps := 2000000) (disch := omega) [-getElem?_pos, h0, hl, List.getElem?_set_self]
              exact ⟨_, _, WeakR.refl _ _ _, φ2, ψ2, rfl, (hA.back h).put _ (by omega) h0 (by omega)⟩

          · rw [show tupleM 9 (.tup l) (.int i) zVl m = stuckM m by simp [tupleM, show i < 0 by omega]]
            simp -implicitDefEqProofs (maxSteps := 2000000) (disch := omega) [-getElem?_pos]
            refine (k_Stuck (h.add _)).mono fun r σ2 ⟨φ2, ψ2, hr, hA⟩ => ?_
            replace hr : r = .tup [.v zW, .v (.bool false)] := hr
            subst hr
            have h0 : σ2.objs[σ.objs.length ]? = some _ := hA.loc h (j := 0) rfl
            have hl := (List.getElem?_eq_some_iff.1 h0).1
            unfold zW
            simp -implicitDefEqProofs (maxSteps := 2000000) (disch := omega) [-getElem?_pos, h0, hl, List.getElem?_set_self]
            exact ⟨_, _, WeakR.refl _ _ _, φ2, ψ2, rfl, (hA.back h).put _ (by omega) h0 (by omega)⟩

        · rw [hst fun e => h1 e.2]
          simp -implicitDefEqProofs (maxSteps := 2000000) (disch := omega) [-getElem?_pos]
          refine (k_Stuck (h.add _)).mono fun r σ2 ⟨φ2, ψ2, hr, hA⟩ => ?_
          replace hr : r = .tup [.v zW, .v (.bool false)] := hr
          subst hr
          have h0 : σ2.objs[σ.objs.length ]? = some _ := hA.loc h (j := 0) rfl
          have hl := (List.getElem?_eq_some_iff.1 h0).1
          unfold zW
          simp -implicitDefEqProofs (maxSteps := 2000000) (disch := omega) [-getElem?_pos, h0, hl, List.getElem?_set_self]
          exact ⟨_, _, WeakR.refl _ _ _, φ2, ψ2, rfl, (hA.back h).put _ (by omega) h0 (by omega)⟩

      · rw [hst fun e => h4 e.1]
        simp -implicitDefEqProofs (maxSteps := 2000000) (disch := omega) [-getElem?_pos]
        refine (k_Stuck (h.add _)).mono fun r σ2 ⟨φ2, ψ2, hr, hA⟩ => ?_
        replace hr : r = .tup [.v zW, .v (.bool false)] := hr
        subst hr
        have h0 : σ2.objs[σ.objs.length ]? = some _ := hA.loc h (j := 0) rfl
        have hl := (List.getElem?_eq_some_iff.1 h0).1
        unfold zW
        simp -implicitDefEqProofs (maxSteps := 2000000) (disch := omega) [-getElem?_pos, h0, hl, List.getElem?_set_self]
        exact ⟨_, _, WeakR.refl _ _ _, φ2, ψ2, rfl, (hA.back h).put _ (by omega) h0 (by omega)⟩


  · skip
    refine acalls_fit Tryd.func82 (by kernel_rfl) c82 rfl (by simp [a82]) fun hf => ?_
    clear hf
    simp -implicitDefEqProofs (maxSteps := 2000000) (disch := omega) [-getElem?_pos, a82]
    refine ⟨?_, ?_⟩
    · skip
      refine .mk (fun h4 => ?_) fun h4 => ?_
      · simp -implicitDefEqProofs (maxSteps := 2000000) (disch := omega) [-getElem?_pos]
        refine .mk (fun h1 => ?_) fun h1 => ?_
        · obtain ⟨l, rfl⟩ := kind4 h4
          obtain ⟨i, rfl⟩ := kind1 h1
          simp only [celW, encWs_eq] at hca hcb
          cases hca
          cases hcb
          obtain ⟨hl, hv⟩ := ha
          simp -implicitDefEqProofs (maxSteps := 2000000) (disch := omega) [-getElem?_pos]
          refine .mk (fun g0 => ?_) fun g0 => ?_
          · simp -implicitDefEqProofs (maxSteps := 2000000) (disch := omega) [-getElem?_pos]
            refine .mk (fun g1 => ?_) fun g1 => ?_
            · simp -implicitDefEqProofs (maxSteps := 2000000) (disch := omega) [-getElem?_pos]
              refine .mk (fun g2 => ?_) fun g2 => ?_
              · rw [show tupleM 11 (.tup l) (.int i) zVl m = stuckM m by simp [tupleM, show ¬ i < 0 by omega, g2]]
                simp -implicitDefEqProofs (maxSteps := 2000000) (disch := omega) [-getElem?_pos]
                refine (k_Stuck (h.add _)).mono fun r σ2 ⟨φ2, ψ2, hr, hA⟩ => ?_
                replace hr : r = .tup [.v zW, .v (.bool false)] := hr
                subst hr
                have h0 : σ2.objs[σ.objs.length ]? = some _ := hA.loc h (j := 0) rfl
                have hl := (List.getElem?_eq_some_iff.1 h0).1
                unfold zW
                simp -implicitDefEqProofs (maxSteps := 2000000) (disch := omega) [-getElem?_pos, h0, hl, List.getElem?_set_self]
                exact ⟨_, _, WeakR.refl _ _ _, φ2, ψ2, rfl, (hA.back h).put _ (by omega) h0 (by omega)⟩

              · simp -implicitDefEqProofs (maxSteps := 2000000) (disch := omega) [-getElem?_pos]
                repeat refine ⟨by omega, ?_⟩
                refine (k_ConcatAny (φ := φ) (L := [l.take i.toNat, l.drop (i.toNat + 1)]) (by rw [show (i + 1).toNat = i.toNat + 1 by omega]; simp [vX, List.map_take, List.map_drop]) (by simp [catX]; omega) (by simp)).then fun r hr => ?_
                subst hr
                have he : tupleM 11 (.tup l) (.int i) zVl m = done (.tup (l.take i.toNat ++ l.drop (i.toNat + 1))) m := by simp [tupleM, show ¬ i < 0 by omega, show ¬ (l.length : Int) < i by omega, g2]
                rw [he]
                unfold vX
                simp -implicitDefEqProofs (maxSteps := 2000000) (disch := omega) [-getElem?_pos]
                exact ⟨_, _, WeakR.refl _ _ _, φ, ψ, by simp [done, resW, encW, celW, encWs_eq, catX], (Aft.refl h).add _⟩

            · rw [show tupleM 11 (.tup l) (.int i) zVl m = stuckM m by simp [tupleM, show (l.length : Int) < i by omega]]
              simp -implicitDefEqProofs (maxSteps := 2000000) (disch := omega) [-getElem?_pos]
              refine (k_Stuck (h.add _)).mono fun r σ2 ⟨φ2, ψ2, hr, hA⟩ => ?_
              replace hr : r = .tup [.v zW, .v (.bool false)] := hr
              subst hr
              have h0 : σ2.objs[σ.objs.length ]? = some _ := hA.loc h (j := 0) rfl
              have hl := (List.getElem?_eq_some_iff.1 h0).1
              unfold zW
              simp -implicitDefEqProofs (maxSteps := 2000000) (disch := omega) [-getElem?_pos, h0, hl, List.getElem?_set_self]
              exact ⟨_, _, WeakR.refl _ _ _, φ2, ψ2, rfl, (hA.back h).put _ (by omega) h0 (by omega)⟩

          · rw [show tupleM 11 (.tup l) (.int i) zVl m = stuckM m by simp [tupleM, show i < 0 by omega]]
            simp -implicitDefEqProofs (maxSteps := 2000000) (disch := omega) [-getElem?_pos]
            refine (k_Stuck (h.add _)).mono fun r σ2 ⟨φ2, ψ2, hr, hA⟩ => ?_
            replace hr : r = .tup [.v zW, .v (.bool false)] := hr
            subst hr
            have h0 : σ2.objs[σ.objs.length ]? = some _ := hA.loc h (j := 0) rfl
            have hl := (List.getElem?_eq_some_iff.1 h0).1
            unfold zW
            simp -implicitDefEqProofs (maxSteps := 2000000) (disch := omega) [-getElem?_pos, h0, hl, List.getElem?_set_self]
            exact ⟨_, _, WeakR.refl _ _ _, φ2, ψ2, rfl, (hA.back h).put _ (by omega) h0 (by omega)⟩

        · rw [hst fun e => h1 e.2]
          simp -implicitDefEqProofs (maxSteps := 2000000) (disch := omega) [-getElem?_pos]
          refine (k_Stuck (h.add _)).mono fun r σ2 ⟨φ2, ψ2, hr, hA⟩ => ?_
          replace hr : r = .tup [.v zW, .v (.bool false)] := hr
          subst hr
          have h0 : σ2.objs[σ.objs.length ]? = some _ := hA.loc h (j := 0) rfl
          have hl := (List.getElem?_eq_some_iff.1 h0).1
          unfold zW
          simp -implicitDefEqProofs (maxSteps := 2000000) (disch := omega) [-getElem?_pos, h0, hl, List.getElem?_set_self]
          exact ⟨_, _, WeakR.refl _ _ _, φ2, ψ2, rfl, (hA.back h).put _ (by omega) h0 (by omega)⟩

      · rw [hst fun e => h4 e.1]
        simp -implicitDefEqProofs (maxSteps := 2000000) (disch := omega) [-getElem?_pos]
        refine (k_Stuck (h.add _)).mono fun r σ2 ⟨φ2, ψ2, hr, hA⟩ => ?_
        replace hr : r = .tup [.v zW, .v (.bool false)] := hr
        subst hr
        have h0 : σ2.objs[σ.objs.length ]? = some _ := hA.loc h (j := 0) rfl
        have hl := (List.getElem?_eq_some_iff.1 h0).1
        unfold zW
        simp -implicitDefEqProofs (maxSteps := 2000000) (disch := omega) [-getElem?_pos, h0, hl, List.getElem?_set_self]
        exact ⟨_, _, WeakR.refl _ _ _, φ2, ψ2, rfl, (hA.back h).put _ (by omega) h0 (by omega)⟩


    · skip
      refine .mk (fun h4 => ?_) fun h4 => ?_
      · simp -implicitDefEqProofs (maxSteps := 2000000) (disch := omega) [-getElem?_pos]
        refine .mk (fun h1 => ?_) fun h1 => ?_
        · obtain ⟨l, rfl⟩ := kind4 h4
          obtain ⟨i, rfl⟩ := kind1 h1
          simp only [celW, encWs_eq] at hca hcb
          cases hca
          cases hcb
          obtain ⟨hl, hv⟩ := ha
          simp -implicitDefEqProofs (maxSteps := 2000000) (disch := omega) [-getElem?_pos]
          refine .mk (fun g0 => ?_) fun g0 => ?_
          · simp -implicitDefEqProofs (maxSteps := 2000000) (disch := omega) [-getElem?_pos]
            refine .mk (fun g1 => ?_) fun g1 => ?_
            · simp -implicitDefEqProofs (maxSteps := 2000000) (disch := omega) [-getElem?_pos]
              refine .mk (fun g2 => ?_) fun g2 => ?_
              · rw [show tupleM 11 (.tup l) (.int i) zVl m = stuckM m by simp [tupleM, show ¬ i < 0 by omega, g2]]
                simp -implicitDefEqProofs (maxSteps := 2000000) (disch := omega) [-getElem?_pos]
                refine (k_Stuck (h.add _)).mono fun r σ2 ⟨φ2, ψ2, hr, hA⟩ => ?_
                replace hr : r = .tup [.v zW, .v (.bool false)] := hr
                subst hr
                have h0 : σ2.objs[σ.objs.length ]? = some _ := hA.loc h (j := 0) rfl
                have hl := (List.getElem?_eq_some_iff.1 h0).1
                unfold zW
                simp -implicitDefEqProofs (maxSteps := 2000000) (disch := omega) [-getElem?_pos, h0, hl, List.getElem?_set_self]
                exact ⟨_, _, WeakR.refl _ _ _, φ2, ψ2, rfl, (hA.back h).put _ (by omega) h0 (by omega)⟩

              · simp -implicitDefEqProofs (maxSteps := 2000000) (disch := omega) [-getElem?_pos]
                repeat refine ⟨by omega, ?_⟩
                refine (k_ConcatAny (φ := φ) (L := [l.take i.toNat, l.drop (i.toNat + 1)]) (by rw [show (i + 1).toNat = i.toNat + 1 by omega]; simp [vX, List.map_take, List.map_drop]) (by simp [catX]; omega) (by simp)).then fun r hr => ?_
                subst hr
                have he : tupleM 11 (.tup l) (.int i) zVl m = done (.tup (l.take i.toNat ++ l.drop (i.toNat + 1))) m := by simp [tupleM, show ¬ i < 0 by omega, show ¬ (l.length : Int) < i by omega, g2]
                rw [he]
                unfold vX
                simp -implicitDefEqProofs (maxSteps := 2000000) (disch := omega) [-getElem?_pos]
                exact ⟨_, _, WeakR.refl _ _ _, φ, ψ, by simp [done, resW, encW, celW, encWs_eq, catX], (Aft.refl h).add _⟩

            · rw [show tupleM 11 (.tup l) (.int i) zVl m = stuckM m by simp [tupleM, show (l.length : Int) < i by omega]]
              simp -implicitDefEqProofs (maxSteps := 2000000) (disch := omega) [-getElem?_pos]
              refine (k_Stuck (h.add _)).mono fun r σ2 ⟨φ2, ψ2, hr, hA⟩ => ?_
              replace hr : r = .tup [.v zW, .v (.bool false)] := hr
              subst hr
              have h0 : σ2.objs[σ.objs.length ]? = some _ := hA.loc h (j := 0) rfl
              have hl := (List.getElem?_eq_some_iff.1 h0).1
              unfold zW
              simp -implicitDefEqProofs (maxSteps := 2000000) (disch := omega) [-getElem?_pos, h0, hl, List.getElem?_set_self]
              exact ⟨_, _, WeakR.refl _ _ _, φ2, ψ2, rfl, (hA.back h).put _ (by omega) h0 (by omega)⟩

          · rw [show tupleM 11 (.tup l) (.int i) zVl m = stuckM m by simp [tupleM, show i < 0 by omega]]
            simp -implicitDefEqProofs (maxSteps := 2000000) (disch := omega) [-getElem?_pos]
            refine (k_Stuck (h.add _)).mono fun r σ2 ⟨φ2, ψ2, hr, hA⟩ => ?_
            replace hr : r = .tup [.v zW, .v (.bool false)] := hr
            subst hr
            have h0 : σ2.objs[σ.objs.length ]? = some _ := hA.loc h (j := 0) rfl
            have hl := (List.getElem?_eq_some_iff.1 h0).1
            unfold zW
            simp -implicitDefEqProofs (maxSteps := 2000000) (disch := omega) [-getElem?_pos, h0, hl, List.getElem?_set_self]
            exact ⟨_, _, WeakR.refl _ _ _, φ2, ψ2, rfl, (hA.back h).put _ (by omega) h0 (by omega)⟩

        · rw [hst fun e => h1 e.2]
          simp -implicitDefEqProofs (maxSteps := 2000000) (disch := omega) [-getElem?_pos]
          refine (k_Stuck (h.add _)).mono fun r σ2 ⟨φ2, ψ2, hr, hA⟩ => ?_
          replace hr : r = .tup [.v zW, .v (.bool false)] := hr
          subst hr
          have h0 : σ2.objs[σ.objs.length ]? = some _ := hA.loc h (j := 0) rfl
          have hl := (List.getElem?_eq_some_iff.1 h0).1
          unfold zW
          simp -implicitDefEqProofs (maxSteps := 2000000) (disch := omega) [-getElem?_pos, h0, hl, List.getElem?_set_self]
          exact ⟨_, _, WeakR.refl _ _ _, φ2, ψ2, rfl, (hA.back h).put _ (by omega) h0 (by omega)⟩

      · rw [hst fun e => h4 e.1]
        simp -implicitDefEqProofs (maxSteps := 2000000) (disch := omega) [-getElem?_pos]
        refine (k_Stuck (h.add _)).mono fun r σ2 ⟨φ2, ψ2, hr, hA⟩ => ?_
        replace hr : r = .tup [.v zW, .v (.bool false)] := hr
        subst hr
        have h0 : σ2.objs[σ.objs.length ]? = some _ := hA.loc h (j := 0) rfl
        have hl := (List.getElem?_eq_some_iff.1 h0).1
        unfold zW
        simp -implicitDefEqProofs (maxSteps := 2000000) (disch := omega) [-getElem?_pos, h0, hl, List.getElem?_set_self]
        exact ⟨_, _, WeakR.refl _ _ _, φ2, ψ2, rfl, (hA.back h).put _ (by omega) h0 (by omega)⟩


theorem k_Tuple3 {mo tt : Nat} {φ ψ : Nat → Nat} {m : Ms} {k : Int} {x t a : Vl} {n L : Nat} {σ : Sg} (hk : k = 10 ∨ k = 12) (h : Sto mo tt φ ψ m σ) (ha : okV n L t) (hL : L ≤ 4000000) : ACalls Tryd.prog 82 [.ptr mo 0, .v (.int .i64 k), .v (.sl (some 6) false ([x, a, t].map (encW φ)))] σ (Outc mo tt φ ψ m σ (tupleM k t a x m)) := by
  have hml := h.mlt
  obtain ⟨a1, a2, a3, a4, a5, hca⟩ := celW_kind (φ := φ) t
  obtain ⟨b1, b2, b3, b4, b5, hcb⟩ := celW_kind (φ := φ) a
  obtain ⟨c0, c1, c2, c3, c4, c5, hcx⟩ := list6 (celW_len (φ := φ) x)
  have hea : encW φ t = .agg [.int .i64 (kindW t), a1, a2, a3, a4, a5] := by unfold encW; rw [hca]
  have heb : encW φ a = .agg [.int .i64 (kindW a), b1, b2, b3, b4, b5] := by unfold encW; rw [hcb]
  have hex : encW φ x = .agg [c0, c1, c2, c3, c4, c5] := by unfold encW; rw [hcx]
  simp only [List.map_cons, List.map_nil]
  rw [hea, heb, hex]
  have hst : ¬ (kindW t = 4 ∧ kindW a = 1) → tupleM k t a x m = stuckM m := tuple_stuck
  rcases hk with rfl | rfl
  · skip
    refine acalls_fit Tryd.func82 (by kernel_rfl) c82 rfl (by simp [a82]) fun hf => ?_
    clear hf
    simp -implicitDefEqProofs (maxSteps := 2000000) (disch := omega) [-getElem?_pos, a82]
    refine ⟨?_, ?_⟩
    · skip
      refine .mk (fun h4 => ?_) fun h4 => ?_
      · simp -implicitDefEqProofs (maxSteps := 2000000) (disch := omega) [-getElem?_pos]
        refine .mk (fun h1 => ?_) fun h1 => ?_
        · obtain ⟨l, rfl⟩ := kind4 h4
          obtain ⟨i, rfl⟩ := kind1 h1
          simp only [celW, encWs_eq] at hca hcb
          cases hca
          cases hcb
          obtain ⟨hl, hv⟩ := ha
          simp -implicitDefEqProofs (maxSteps := 2000000) (disch := omega) [-getElem?_pos]
          refine .mk (fun g0 => ?_) fun g0 => ?_
          · simp -implicitDefEqProofs (maxSteps := 2000000) (disch := omega) [-getElem?_pos]
            refine .mk (fun g1 => ?_) fun g1 => ?_
            · simp -implicitDefEqProofs (maxSteps := 2000000) (disch := omega) [-getElem?_pos]
              refine .mk (fun g2 => ?_) fun g2 => ?_
              · subst g2
                simp -implicitDefEqProofs (maxSteps := 2000000) (disch := omega) [-getElem?_pos]
                repeat refine ⟨by omega, ?_⟩
                refine (k_ConcatAny (φ := φ) (L := [l.take (l.length : Int).toNat, [x], l.drop (l.length : Int).toNat]) (by simp [vX, List.map_take, List.map_drop, hex]) (by simp [catX]; omega) (by simp)).then fun r hr => ?_
                subst hr
                have he : tupleM 10 (.tup l) (.int (l.length : Int)) x m = done (.tup (l.take (l.length : Int).toNat ++ x :: l.drop (l.length : Int).toNat)) m := by simp [tupleM, show ¬ (l.length : Int) < 0 by omega]
                rw [he]
                unfold vX
                simp -implicitDefEqProofs (maxSteps := 2000000) (disch := omega) [-getElem?_pos]
                exact ⟨_, _, WeakR.refl _ _ _, φ, ψ, by simp [done, resW, encW, celW, encWs_eq, catX], (Aft.refl h).add _⟩

              · simp -implicitDefEqProofs (maxSteps := 2000000) (disch := omega) [-getElem?_pos]
                repeat refine ⟨by omega, ?_⟩
                refine (k_ConcatAny (φ := φ) (L := [l.take i.toNat, [x], l.drop i.toNat]) (by simp [vX, List.map_take, List.map_drop, hex]) (by simp [catX]; omega) (by simp)).then fun r hr => ?_
                subst hr
                have he : tupleM 10 (.tup l) (.int i) x m = done (.tup (l.take i.toNat ++ x :: l.drop i.toNat)) m := by simp [tupleM, show ¬ i < 0 by omega, show ¬ (l.length : Int) < i by omega]
                rw [he]
                unfold vX
                simp -implicitDefEqProofs (maxSteps := 2000000) (disch := omega) [-getElem?_pos]
                exact ⟨_, _, WeakR.refl _ _ _, φ, ψ, by simp [done, resW, encW, celW, encWs_eq, catX], (Aft.refl h).add _⟩

            · rw [show tupleM 10 (.tup l) (.int i) x m = stuckM m by simp [tupleM, show (l.length : Int) < i by omega]]
              simp -implicitDefEqProofs (maxSteps := 2000000) (disch := omega) [-getElem?_pos]
              refine (k_Stuck (h.add _)).mono fun r σ2 ⟨φ2, ψ2, hr, hA⟩ => ?_
              replace hr : r = .tup [.v zW, .v (.bool false)] := hr
              subst hr
              have h0 : σ2.objs[σ.objs.length ]? = some _ := hA.loc h (j := 0) rfl
              have hl := (List.getElem?_eq_some_iff.1 h0).1
              unfold zW
              simp -implicitDefEqProofs (maxSteps := 2000000) (disch := omega) [-getElem?_pos, h0, hl, List.getElem?_set_self]
              exact ⟨_, _, WeakR.refl _ _ _, φ2, ψ2, rfl, (hA.back h).put _ (by omega) h0 (by omega)⟩

          · rw [show tupleM 10 (.tup l) (.int i) x m = stuckM m by simp [tupleM, show i < 0 by omega]]
            simp -implicitDefEqProofs (maxSteps := 2000000) (disch := omega) [-getElem?_pos]
            refine (k_Stuck (h.add _)).mono fun r σ2 ⟨φ2, ψ2, hr, hA⟩ => ?_
            replace hr : r = .tup [.v zW, .v (.bool false)] := hr
            subst hr
            have h0 : σ2.objs[σ.objs.length ]? = some _ := hA.loc h (j := 0) rfl
            have hl := (List.getElem?_eq_some_iff.1 h0).1
            unfold zW
            simp -implicitDefEqProofs (maxSteps := 2000000) (disch := omega) [-getElem?_pos, h0, hl, List.getElem?_set_self]
            exact ⟨_, _, WeakR.refl _ _ _, φ2, ψ2, rfl, (hA.back h).put _ (by omega) h0 (by omega)⟩

        · rw [hst fun e => h1 e.2]
          simp -implicitDefEqProofs (maxSteps := 2000000) (disch := omega) [-getElem?_pos]
          refine (k_Stuck (h.add _)).mono fun r σ2 ⟨φ2, ψ2, hr, hA⟩ => ?_
          replace hr : r = .tup [.v zW, .v (.bool false)] := hr
          subst hr
          have h0 : σ2.objs[σ.objs.length ]? = some _ := hA.loc h (j := 0) rfl
          have hl := (List.getElem?_eq_some_iff.1 h0).1
          unfold zW
          simp -implicitDefEqProofs (maxSteps := 2000000) (disch := omega) [-getElem?_pos, h0, hl, List.getElem?_set_self]
          exact ⟨_, _, WeakR.refl _ _ _, φ2, ψ2, rfl, (hA.back h).put _ (by omega) h0 (by omega)⟩

      · rw [hst fun e => h4 e.1]
        simp -implicitDefEqProofs (maxSteps := 2000000) (disch := omega) [-getElem?_pos]
        refine (k_Stuck (h.add _)).mono fun r σ2 ⟨φ2, ψ2, hr, hA⟩ => ?_
        replace hr : r = .tup [.v zW, .v (.bool false)] := hr
        subst hr
        have h0 : σ2.objs[σ.objs.length ]? = some _ := hA.loc h (j := 0) rfl
        have hl := (List.getElem?_eq_some_iff.1 h0).1
        unfold zW
        simp -implicitDefEqProofs (maxSteps := 2000000) (disch := omega) [-getElem?_pos, h0, hl, List.getElem?_set_self]
        exact ⟨_, _, WeakR.refl _ _ _, φ2, ψ2, rfl, (hA.back h).put _ (by omega) h0 (by omega)⟩


    · skip
      refine .mk (fun h4 => ?_) fun h4 => ?_
      · simp -implicitDefEqProofs (maxSteps := 2000000) (disch := omega) [-getElem?_pos]
        refine .mk (fun h1 => ?_) fun h1 => ?_
        · obtain ⟨l, rfl⟩ := kind4 h4
          obtain ⟨i, rfl⟩ := kind1 h1
          simp only [celW, encWs_eq] at hca hcb
          cases hca
          cases hcb
          obtain ⟨hl, hv⟩ := ha
          simp -implicitDefEqProofs (maxSteps := 2000000) (disch := omega) [-getElem?_pos]
          refine .mk (fun g0 => ?_) fun g0 => ?_
          · simp -implicitDefEqProofs (maxSteps := 2000000) (disch := omega) [-getElem?_pos]
            refine .mk (fun g1 => ?_) fun g1 => ?_
            · simp -implicitDefEqProofs (maxSteps := 2000000) (disch := omega) [-getElem?_pos]
              refine .mk (fun g2 => ?_) fun g2 => ?_
              · subst g2
                simp -implicitDefEqProofs (maxSteps := 2000000) (disch := omega) [-getElem?_pos]
                repeat refine ⟨by omega, ?_⟩
                refine (k_ConcatAny (φ := φ) (L := [l.take (l.length : Int).toNat, [x], l.drop (l.length : Int).toNat]) (by simp [vX, List.map_take, List.map_drop, hex]) (by simp [catX]; omega) (by simp)).then fun r hr => ?_
                subst hr
                have he : tupleM 10 (.tup l) (.int (l.length : Int)) x m = done (.tup (l.take (l.length : Int).toNat ++ x :: l.drop (l.length : Int).toNat)) m := by simp [tupleM, show ¬ (l.length : Int) < 0 by omega]
                rw [he]
                unfold vX
                simp -implicitDefEqProofs (maxSteps := 2000000) (disch := omega) [-getElem?_pos]
                exact ⟨_, _, WeakR.refl _ _ _, φ, ψ, by simp [done, resW, encW, celW, encWs_eq, catX], (Aft.refl h).add _⟩

              · simp -implicitDefEqProofs (maxSteps := 2000000) (disch := omega) [-getElem?_pos]
                repeat refine ⟨by omega, ?_⟩
                refine (k_ConcatAny (φ := φ) (L := [l.take i.toNat, [x], l.drop i.toNat]) (by simp [vX, List.map_take, List.map_drop, hex]) (by simp [catX]; omega) (by simp)).then fun r hr => ?_
                subst hr
                have he : tupleM 10 (.tup l) (.int i) x m = done (.tup (l.take i.toNat ++ x :: l.drop i.toNat)) m := by simp [tupleM, show ¬ i < 0 by omega, show ¬ (l.length : Int) < i by omega]
                rw [he]
                unfold vX
                simp -implicitDefEqProofs (maxSteps := 2000000) (disch := omega) [-getElem?_pos]
                exact ⟨_, _, WeakR.refl _ _ _, φ, ψ, by simp [done, resW, encW, celW, encWs_eq, catX], (Aft.refl h).add _⟩

            · rw [show tupleM 10 (.tup l) (.int i) x m = stuckM m by simp [tupleM, show (l.length : Int) < i by omega]]
              simp -implicitDefEqProofs (maxSteps := 2000000) (disch := omega) [-getElem?_pos]
              refine (k_Stuck (h.add _)).mono fun r σ2 ⟨φ2, ψ2, hr, hA⟩ => ?_
              replace hr : r = .tup [.v zW, .v (.bool false)] := hr
              subst hr
              have h0 : σ2.objs[σ.objs.length ]? = some _ := hA.loc h (j := 0) rfl
              have hl := (List.getElem?_eq_some_iff.1 h0).1
              unfold zW
              simp -implicitDefEqProofs (maxSteps := 2000000) (disch := omega) [-getElem?_pos, h0, hl, List.getElem?_set_self]
              exact ⟨_, _, WeakR.refl _ _ _, φ2, ψ2, rfl, (hA.back h).put _ (by omega) h0 (by omega)⟩

          · rw [show tupleM 10 (.tup l) (.int i) x m = stuckM m by simp [tupleM, show i < 0 by omega]]
            simp -implicitDefEqProofs (maxSteps := 2000000) (disch := omega) [-getElem?_pos]
            refine (k_Stuck (h.add _)).mono fun r σ2 ⟨φ2, ψ2, hr, hA⟩ => ?_
            replace hr : r = .tup [.v zW, .v (.bool false)] := hr
            subst hr
            have h0 : σ2.objs[σ.objs.length ]? = some _ := hA.loc h (j := 0) rfl
            have hl := (List.getElem?_eq_some_iff.1 h0).1
            unfold zW
            simp -implicitDefEqProofs (maxSteps := 2000000) (disch := omega) [-getElem?_pos, h0, hl, List.getElem?_set_self]
            exact ⟨_, _, WeakR.refl _ _ _, φ2, ψ2, rfl, (hA.back h).put _ (by omega) h0 (by omega)⟩

        · rw [hst fun e => h1 e.2]
          simp -implicitDefEqProofs (maxSteps := 2000000) (disch := omega) [-getElem?_pos]
          refine (k_Stuck (h.add _)).mono fun r σ2 ⟨φ2, ψ2, hr, hA⟩ => ?_
          replace hr : r = .tup [.v zW, .v (.bool false)] := hr
          subst hr
          have h0 : σ2.objs[σ.objs.length ]? = some _ := hA.loc h (j := 0) rfl
          have hl := (List.getElem?_eq_some_iff.1 h0).1
          unfold zW
          simp -implicitDefEqProofs (maxSteps := 2000000) (disch := omega) [-getElem?_pos, h0, hl, List.getElem?_set_self]
          exact ⟨_, _, WeakR.refl _ _ _, φ2, ψ2, rfl, (hA.back h).put _ (by omega) h0 (by omega)⟩

      · rw [hst fun e => h4 e.1]
        simp -implicitDefEqProofs (maxSteps := 2000000) (disch := omega) [-getElem?_pos]
        refine (k_Stuck (h.add _)).mono fun r σ2 ⟨φ2, ψ2, hr, hA⟩ => ?_
        replace hr : r = .tup [.v zW, .v (.bool false)] := hr
        subst hr
        have h0 : σ2.objs[σ.objs.length ]? = some _ := hA.loc h (j := 0) rfl
        have hl := (List.getElem?_eq_some_iff.1 h0).1
        unfold zW
        simp -implicitDefEqProofs (maxSteps := 2000000) (disch := omega) [-getElem?_pos, h0, hl, List.getElem?_set_self]
        exact ⟨_, _, WeakR.refl _ _ _, φ2, ψ2, rfl, (hA.back h).put _ (by omega) h0 (by omega)⟩


  · skip
    refine acalls_fit Tryd.func82 (by kernel_rfl) c82 rfl (by simp [a82]) fun hf => ?_
    clear hf
    simp -implicitDefEqProofs (maxSteps := 2000000) (disch := omega) [-getElem?_pos, a82]
    refine ⟨?_, ?_⟩
    · skip
      refine .mk (fun h4 => ?_) fun h4 => ?_
      · simp -implicitDefEqProofs (maxSteps := 2000000) (disch := omega) [-getElem?_pos]
        refine .mk (fun h1 => ?_) fun h1 => ?_
        · obtain ⟨l, rfl⟩ := kind4 h4
          obtain ⟨i, rfl⟩ := kind1 h1
          simp only [celW, encWs_eq] at hca hcb
          cases hca
          cases hcb
          obtain ⟨hl, hv⟩ := ha
          simp -implicitDefEqProofs (maxSteps := 2000000) (disch := omega) [-getElem?_pos]
          refine .mk (fun g0 => ?_) fun g0 => ?_
          · simp -implicitDefEqProofs (maxSteps := 2000000) (disch := omega) [-getElem?_pos]
            refine .mk (fun g1 => ?_) fun g1 => ?_
            · simp -implicitDefEqProofs (maxSteps := 2000000) (disch := omega) [-getElem?_pos]
              refine .mk (fun g2 => ?_) fun g2 => ?_
              · rw [show tupleM 12 (.tup l) (.int i) x m = stuckM m by simp [tupleM, show ¬ i < 0 by omega, g2]]
                simp -implicitDefEqProofs (maxSteps := 2000000) (disch := omega) [-getElem?_pos]
                refine (k_Stuck (h.add _)).mono fun r σ2 ⟨φ2, ψ2, hr, hA⟩ => ?_
                replace hr : r = .tup [.v zW, .v (.bool false)] := hr
                subst hr
                have h0 : σ2.objs[σ.objs.length ]? = some _ := hA.loc h (j := 0) rfl
                have hl := (List.getElem?_eq_some_iff.1 h0).1
                unfold zW
                simp -implicitDefEqProofs (maxSteps := 2000000) (disch := omega) [-getElem?_pos, h0, hl, List.getElem?_set_self]
                exact ⟨_, _, WeakR.refl _ _ _, φ2, ψ2, rfl, (hA.back h).put _ (by omega) h0 (by omega)⟩

              · simp -implicitDefEqProofs (maxSteps := 2000000) (disch := omega) [-getElem?_pos]
                repeat refine ⟨by omega, ?_⟩
                refine (k_ConcatAny (φ := φ) (L := [l.take i.toNat, [x], l.drop (i.toNat + 1)]) (by rw [show (i + 1).toNat = i.toNat + 1 by omega]; simp [vX, List.map_take, List.map_drop, hex]) (by simp [catX]; omega) (by simp)).then fun r hr => ?_
                subst hr
                have he : tupleM 12 (.tup l) (.int i) x m = done (.tup (l.take i.toNat ++ x :: l.drop (i.toNat + 1))) m := by simp [tupleM, show ¬ i < 0 by omega, show ¬ (l.length : Int) < i by omega, g2]
                rw [he]
                unfold vX
                simp -implicitDefEqProofs (maxSteps := 2000000) (disch := omega) [-getElem?_pos]
                exact ⟨_, _, WeakR.refl _ _ _, φ, ψ, by simp [done, resW, encW, celW, encWs_eq, catX], (Aft.refl h).add _⟩

            · rw [show tupleM 12 (.tup l) (.int i) x m = stuckM m by simp [tupleM, show (l.length : Int) < i by omega]]
              simp -implicitDefEqProofs (maxSteps := 2000000) (disch := omega) [-getElem?_pos]
              refine (k_Stuck (h.add _)).mono fun r σ2 ⟨φ2, ψ2, hr, hA⟩ => ?_
              replace hr : r = .tup [.v zW, .v (.bool false)] := hr
              subst hr
              have h0 : σ2.objs[σ.objs.length ]? = some _ := hA.loc h (j := 0) rfl
              have hl := (List.getElem?_eq_some_iff.1 h0).1
              unfold zW
              simp -implicitDefEqProofs (maxSteps := 2000000) (disch := omega) [-getElem?_pos, h0, hl, List.getElem?_set_self]
              exact ⟨_, _, WeakR.refl _ _ _, φ2, ψ2, rfl, (hA.back h).put _ (by omega) h0 (by omega)⟩

          · rw [show tupleM 12 (.tup l) (.int i) x m = stuckM m by simp [tupleM, show i < 0 by omega]]
            simp -implicitDefEqProofs (maxSteps := 2000000) (disch := omega) [-getElem?_pos]
            refine (k_Stuck (h.add _)).mono fun r σ2 ⟨φ2, ψ2, hr, hA⟩ => ?_
            replace hr : r = .tup [.v zW, .v (.bool false)] := hr
            subst hr
            have h0 : σ2.objs[σ.objs.length ]? = some _ := hA.loc h (j := 0) rfl
            have hl := (List.getElem?_eq_some_iff.1 h0).1
            unfold zW
            simp -implicitDefEqProofs (maxSteps := 2000000) (disch := omega) [-getElem?_pos, h0, hl, List.getElem?_set_self]
            exact ⟨_, _, WeakR.refl _ _ _, φ2, ψ2, rfl, (hA.back h).put _ (by omega) h0 (by omega)⟩

        · rw [hst fun e => h1 e.2]
          simp -implicitDefEqProofs (maxSteps := 2000000) (disch := omega) [-getElem?_pos]
          refine (k_Stuck (h.add _)).mono fun r σ2 ⟨φ2, ψ2, hr, hA⟩ => ?_
          replace hr : r = .tup [.v zW, .v (.bool false)] := hr
          subst hr
          have h0 : σ2.objs[σ.objs.length ]? = some _ := hA.loc h (j := 0) rfl
          have hl := (List.getElem?_eq_some_iff.1 h0).1
          unfold zW
          simp -implicitDefEqProofs (maxSteps := 2000000) (disch := omega) [-getElem?_pos, h0, hl, List.getElem?_set_self]
          exact ⟨_, _, WeakR.refl _ _ _, φ2, ψ2, rfl, (hA.back h).put _ (by omega) h0 (by omega)⟩

      · rw [hst fun e => h4 e.1]
        simp -implicitDefEqProofs (maxSteps := 2000000) (disch := omega) [-getElem?_pos]
        refine (k_Stuck (h.add _)).mono fun r σ2 ⟨φ2, ψ2, hr, hA⟩ => ?_
        replace hr : r = .tup [.v zW, .v (.bool false)] := hr
        subst hr
        have h0 : σ2.objs[σ.objs.length ]? = some _ := hA.loc h (j := 0) rfl
        have hl := (List.getElem?_eq_some_iff.1 h0).1
        unfold zW
        simp -implicitDefEqProofs (maxSteps := 2000000) (disch := omega) [-getElem?_pos, h0, hl, List.getElem?_set_self]
        exact ⟨_, _, WeakR.refl _ _ _, φ2, ψ2, rfl, (hA.back h).put _ (by omega) h0 (by omega)⟩


    · skip
      refine .mk (fun h4 => ?_) fun h4 => ?_
      · simp -implicitDefEqProofs (maxSteps := 2000000) (disch := omega) [-getElem?_pos]
        refine .mk (fun h1 => ?_) fun h1 => ?_
        · obtain ⟨l, rfl⟩ := kind4 h4
          obtain ⟨i, rfl⟩ := kind1 h1
          simp only [celW, encWs_eq] at hca hcb
          cases hca
          cases hcb
          obtain ⟨hl, hv⟩ := ha
          simp -implicitDefEqProofs (maxSteps := 2000000) (disch := omega) [-getElem?_pos]
          refine .mk (fun g0 => ?_) fun g0 => ?_
          · simp -implicitDefEqProofs (maxSteps := 2000000) (disch := omega) [-getElem?_pos]
            refine .mk (fun g1 => ?_) fun g1 => ?_
            · simp -implicitDefEqProofs (maxSteps := 2000000) (disch := omega) [-getElem?_pos]
              refine .mk (fun g2 => ?_) fun g2 => ?_
              · rw [show tupleM 12 (.tup l) (.int i) x m = stuckM m by simp [tupleM, show ¬ i < 0 by omega, g2]]
                simp -implicitDefEqProofs (maxSteps := 2000000) (disch := omega) [-getElem?_pos]
                refine (k_Stuck (h.add _)).mono fun r σ2 ⟨φ2, ψ2, hr, hA⟩ => ?_
                replace hr : r = .tup [.v zW, .v (.bool false)] := hr
                subst hr
                have h0 : σ2.objs[σ.objs.length ]? = some _ := hA.loc h (j := 0) rfl
                have hl := (List.getElem?_eq_some_iff.1 h0).1
                unfold zW
                simp -implicitDefEqProofs (maxSteps := 2000000) (disch := omega) [-getElem?_pos, h0, hl, List.getElem?_set_self]
                exact ⟨_, _, WeakR.refl _ _ _, φ2, ψ2, rfl, (hA.back h).put _ (by omega) h0 (by omega)⟩

              · simp -implicitDefEqProofs (maxSteps := 2000000) (disch := omega) [-getElem?_pos]
                repeat refine ⟨by omega, ?_⟩
                refine (k_ConcatAny (φ := φ) (L := [l.take i.toNat, [x], l.drop (i.toNat + 1)]) (by rw [show (i + 1).toNat = i.toNat + 1 by omega]; simp [vX, List.map_take, List.map_drop, hex]) (by simp [catX]; omega) (by simp)).then fun r hr => ?_
                subst hr
                have he : tupleM 12 (.tup l) (.int i) x m = done (.tup (l.take i.toNat ++ x :: l.drop (i.toNat + 1))) m := by simp [tupleM, show ¬ i < 0 by omega, show ¬ (l.length : Int) < i by omega, g2]
                rw [he]
                unfold vX
                simp -implicitDefEqProofs (maxSteps := 2000000) (disch := omega) [-getElem?_pos]
                exact ⟨_, _, WeakR.refl _ _ _, φ, ψ, by simp [done, resW, encW, celW, encWs_eq, catX], (Aft.refl h).add _⟩

            · rw [show tupleM 12 (.tup l) (.int i) x m = stuckM m by simp [tupleM, show (l.length : Int) < i by omega]]
              simp -implicitDefEqProofs (maxSteps := 2000000) (disch := omega) [-getElem?_pos]
              refine (k_Stuck (h.add _)).mono fun r σ2 ⟨φ2, ψ2, hr, hA⟩ => ?_
              replace hr : r = .tup [.v zW, .v (.bool false)] := hr
              subst hr
              have h0 : σ2.objs[σ.objs.length ]? = some _ := hA.loc h (j := 0) rfl
              have hl := (List.getElem?_eq_some_iff.1 h0).1
              unfold zW
              simp -implicitDefEqProofs (maxSteps := 2000000) (disch := omega) [-getElem?_pos, h0, hl, List.getElem?_set_self]
              exact ⟨_, _, WeakR.refl _ _ _, φ2, ψ2, rfl, (hA.back h).put _ (by omega) h0 (by omega)⟩

          · rw [show tupleM 12 (.tup l) (.int i) x m = stuckM m by simp [tupleM, show i < 0 by omega]]
            simp -implicitDefEqProofs (maxSteps := 2000000) (disch := omega) [-getElem?_pos]
            refine (k_Stuck (h.add _)).mono fun r σ2 ⟨φ2, ψ2, hr, hA⟩ => ?_
            replace hr : r = .tup [.v zW, .v (.bool false)] := hr
            subst hr
            have h0 : σ2.objs[σ.objs.length ]? = some _ := hA.loc h (j := 0) rfl
            have hl := (List.getElem?_eq_some_iff.1 h0).1
            unfold zW
            simp -implicitDefEqProofs (maxSteps := 2000000) (disch := omega) [-getElem?_pos, h0, hl, List.getElem?_set_self]
            exact ⟨_, _, WeakR.refl _ _ _, φ2, ψ2, rfl, (hA.back h).put _ (by omega) h0 (by omega)⟩

        · rw [hst fun e => h1 e.2]
          simp -implicitDefEqProofs (maxSteps := 2000000) (disch := omega) [-getElem?_pos]
          refine (k_Stuck (h.add _)).mono fun r σ2 ⟨φ2, ψ2, hr, hA⟩ => ?_
          replace hr : r = .tup [.v zW, .v (.bool false)] := hr
          subst hr
          have h0 : σ2.objs[σ.objs.length ]? = some _ := hA.loc h (j := 0) rfl
          have hl := (List.getElem?_eq_some_iff.1 h0).1
          unfold zW
          simp -implicitDefEqProofs (maxSteps := 2000000) (disch := omega) [-getElem?_pos, h0, hl, List.getElem?_set_self]
          exact ⟨_, _, WeakR.refl _ _ _, φ2, ψ2, rfl, (hA.back h).put _ (by omega) h0 (by omega)⟩

      · rw [hst fun e => h4 e.1]
        simp -implicitDefEqProofs (maxSteps := 2000000) (disch := omega) [-getElem?_pos]
        refine (k_Stuck (h.add _)).mono fun r σ2 ⟨φ2, ψ2, hr, hA⟩ => ?_
        replace hr : r = .tup [.v zW, .v (.bool false)] := hr
        subst hr
        have h0 : σ2.objs[σ.objs.length ]? = some _ := hA.loc h (j := 0) rfl
        have hl := (List.getElem?_eq_some_iff.1 h0).1
        unfold zW
        simp -implicitDefEqProofs (maxSteps := 2000000) (disch := omega) [-getElem?_pos, h0, hl, List.getElem?_set_self]
        exact ⟨_, _, WeakR.refl _ _ _, φ2, ψ2, rfl, (hA.back h).put _ (by omega) h0 (by omega)⟩


end Go.Proofs.YtbifjffjibnjjaaDoor

/-
  strconv.FormatInt, laid at this program: written by the kit's tool lay-plain.mjs, in plain words.
-/
namespace Go.Proofs.YtbifjffjibnjjaaDoor
open Go.Shelf
def fmtLays_ren : Go.Shelf.Ren := ⟨fun | 173 => 63 | 246 => 91 | 283 => 106 | 284 => 107 | 285 => 108 | 286 => 109 | 129 => 122 | 317 => 126 | 318 => 127 | 319 => 128 | 320 => 129 | 337 => 136 | 338 => 137 | n => n, fun | 2 => 2 | 3 => 3 | 9 => 9 | 4 => 4 | 171 => 144 | 0 => 0 | 53 => 145 | 37 => 69 | 5 => 5 | 173 => 148 | 212 => 167 | 51 => 161 | 20 => 20 | 213 => 168 | 46 => 134 | 232 => 179 | 233 => 180 | n => n, fun | 17 => 0 | 18 => 1 | 19 => 2 | n => n⟩
theorem fmtLays : Go.Proofs.LaysM.n173 Tryd.prog fmtLays_ren := {
  mixed := by kernel_rfl
  f129 := Tryd.func122.trans (congrArg some (by kernel_rfl))
  f173 := Tryd.func63.trans (congrArg some (by kernel_rfl))
  f246 := Tryd.func91.trans (congrArg some (by kernel_rfl))
  f283 := Tryd.func106.trans (congrArg some (by kernel_rfl))
  f284 := Tryd.func107.trans (congrArg some (by kernel_rfl))
  f285 := Tryd.func108.trans (congrArg some (by kernel_rfl))
  f286 := Tryd.func109.trans (congrArg some (by kernel_rfl))
  f317 := Tryd.func126.trans (congrArg some (by kernel_rfl))
  f318 := Tryd.func127.trans (congrArg some (by kernel_rfl))
  f319 := Tryd.func128.trans (congrArg some (by kernel_rfl))
  f320 := Tryd.func129.trans (congrArg some (by kernel_rfl))
  f337 := Tryd.func136.trans (congrArg some (by kernel_rfl))
  f338 := Tryd.func137.trans (congrArg some (by kernel_rfl))
  t0 := Tryd.underlying0
  a0 := Tryd.isAgg0
  z0 := Tryd.sizeOf0
  v0 := Tryd.zeroValue0
  t2 := Tryd.underlying2
  a2 := Tryd.isAgg2
  z2 := Tryd.sizeOf2
  v2 := Tryd.zeroValue2
  t3 := Tryd.underlying3
  a3 := Tryd.isAgg3
  z3 := Tryd.sizeOf3
  v3 := Tryd.zeroValue3
  t4 := Tryd.underlying4
  a4 := Tryd.isAgg4
  z4 := Tryd.sizeOf4
  v4 := Tryd.zeroValue4
  t5 := Tryd.underlying5
  a5 := Tryd.isAgg5
  z5 := Tryd.sizeOf5
  v5 := Tryd.zeroValue5
  t9 := Tryd.underlying9
  a9 := Tryd.isAgg9
  z9 := Tryd.sizeOf9
  v9 := Tryd.zeroValue9
  t20 := Tryd.underlying20
  a20 := Tryd.isAgg20
  z20 := Tryd.sizeOf20
  v20 := Tryd.zeroValue20
  t37 := Tryd.underlying69
  a37 := Tryd.isAgg69
  z37 := Tryd.sizeOf69
  v37 := Tryd.zeroValue69
  t46 := Tryd.underlying134
  a46 := Tryd.isAgg134
  z46 := Tryd.sizeOf134
  v46 := Tryd.zeroValue134
  t51 := Tryd.underlying161
  a51 := Tryd.isAgg161
  z51 := Tryd.sizeOf161
  v51 := Tryd.zeroValue161
  t53 := Tryd.underlying145
  a53 := Tryd.isAgg145
  z53 := Tryd.sizeOf145
  v53 := Tryd.zeroValue145
  t171 := Tryd.underlying144
  a171 := Tryd.isAgg144
  z171 := Tryd.sizeOf144
  v171 := Tryd.zeroValue144
  t173 := Tryd.underlying148
  a173 := Tryd.isAgg148
  z173 := Tryd.sizeOf148
  v173 := Tryd.zeroValue148
  t212 := Tryd.underlying167
  a212 := Tryd.isAgg167
  z212 := Tryd.sizeOf167
  v212 := Tryd.zeroValue167
  t213 := Tryd.underlying168
  a213 := Tryd.isAgg168
  z213 := Tryd.sizeOf168
  t232 := Tryd.underlying179
  a232 := Tryd.isAgg179
  z232 := Tryd.sizeOf179
  v232 := Tryd.zeroValue179
  t233 := Tryd.underlying180
  a233 := Tryd.isAgg180
  z233 := Tryd.sizeOf180
  v233 := Tryd.zeroValue180
  g17 := by kernel_rfl
  g18 := by kernel_rfl
  g19 := by kernel_rfl
  i0 := by kernel_rfl
  i2 := by kernel_rfl
  i3 := by kernel_rfl
  i4 := by kernel_rfl
  i5 := by kernel_rfl
  i9 := by kernel_rfl
  i20 := by kernel_rfl
  i37 := by kernel_rfl
  i46 := by kernel_rfl
  i51 := by kernel_rfl
  i53 := by kernel_rfl
  i171 := by kernel_rfl
  i173 := by kernel_rfl
  i212 := by kernel_rfl
  i232 := by kernel_rfl
  i233 := by kernel_rfl
  m17 := by kernel_rfl
  m18 := by kernel_rfl
  m19 := by kernel_rfl }
end Go.Proofs.YtbifjffjibnjjaaDoor

/-
  Core expressions, walked: numbers as text; what parts come to, in order. (Own work.)
-/
set_option linter.unusedVariables false
set_option linter.unusedSimpArgs false
set_option maxHeartbeats 1000000
namespace Go.Proofs.YtbifjffjibnjjaaDoor
open Go Go.Abs

theorem grown_inv {σ : Sg} {m : Gh} {w : World} (h : Go.Abs.Inv σ m w) (k : Nat) (os : Array Obj) : Go.Abs.Inv σ m (Go.Sort.grow (w.drewN k) os) ∧ Ext m w m (Go.Sort.grow (w.drewN k) os) := by
  have hb : ∀ c, c < w.heap.size → (Go.Sort.grow (w.drewN k) os).heap[c]? = w.heap[c]? := fun c hc => Array.getElem?_append_left hc
  have e : Ext m w m (Go.Sort.grow (w.drewN k) os) :=
    ⟨rfl, rfl, rfl, by show w.heap.size ≤ (w.heap ++ os).size; simp, fun _ _ h => .inl h, fun _ tk h => ⟨tk, h, rfl, Nat.le_refl _, fun _ => rfl⟩, fun c off f => ⟨cell?_of_heap (hb c f.1), f.2⟩, fun c hc hn => ⟨hb c hc, hn⟩⟩
  refine ⟨⟨h.lobj, h.ltok, h.nodup, fun o ob c ho hc => (h.ob o ob c ho hc).mono e (hb c (h.lt_obj (Gh.mem_objb.2 (List.mem_of_getElem? hc)))), h.gone, fun tk htk => ?_, h.glob.mono e⟩, e⟩
  obtain ⟨h1, h2, h3, h4⟩ := h.tk tk htk
  refine ⟨h1, h2, h3, fun c hc => ?_⟩
  obtain ⟨us, ty, h5, h6⟩ := h4 c hc
  exact ⟨us, ty, (hb c (Array.getElem?_eq_some_iff.1 h5).1).trans h5, h6⟩
theorem tab_is {σ : Sg} {m : Gh} {w : World} (h : Inv σ m w) : Lib.TabIs Tryd.prog w "internal/strconv.uint64pow10" .u64 Lib.pow10Tab := by
  obtain ⟨⟨cs, ty, fr, hh, rfl⟩, _⟩ := h.glob _ List.mem_cons_self
  unfold Lib.TabIs World.var?
  rw [show Tryd.prog.globalNamed "internal/strconv.uint64pow10" = some 0 by kernel_rfl]
  simp only [Option.bind_some]
  rw [hh]
  rfl
theorem k_Fmt {n : Int} {σ : Sg} : ACalls Tryd.prog 63 [.v (.int .i64 n), .v (.int .i64 10)] σ fun r σ' => (r = .v (.str (Lib.itoa n)) ∧ (Lib.itoa n).length ≤ 21) ∧ σ' = σ := by
  refine ⟨⟨_, Tryd.func63, by kernel_rfl, by kernel_rfl⟩, fun m w us hI hl hr => ?_⟩
  match us, hl with
  | [u, u2], _ =>
    have h0 := (hr 0 _ _ rfl rfl).v_inv
    have h2 := (hr 1 _ _ rfl rfl).v_inv
    cases h2
    cases h0 with
    | int _ _ hn =>
        have hn1 : -9223372036854775808 ≤ n := hn.1
        have hn2 : n ≤ 9223372036854775807 := hn.2
        refine (Go.Proofs.Any.strconv_FormatInt_10 fmtLays n hn1 hn2 w (tab_is hI)).mono fun e w' ⟨he, k, os, hw⟩ => ?_
        subst hw
        obtain ⟨hI', hX⟩ := grown_inv hI k os
        have hlen := Lib.itoa_length_le n hn1 hn2
        exact ⟨_, _, σ, m, he, ⟨⟨rfl, hlen⟩, rfl⟩, hI', hX, .v _ _ (.str _ (by unfold maxLen; omega))⟩

theorem allM_app (R : Rec) (env : En) : ∀ (a b : List Co) (m : Ms), allM R env (a ++ b) m = (allM R env a m).bind fun vs m1 => (allM R env b m1).bind fun ws m2 => done (vs ++ ws) m2
  | [], b, m => by
    simp only [List.nil_append, allM, done, Rs.bind]
    rcases allM R env b m with ⟨_ | ws, m2⟩ <;> rfl
  | x :: a, b, m => by
    simp only [List.cons_append, allM]
    rcases R x env m with ⟨_ | v, m1⟩
    · rfl
    · simp only [Rs.bind]
      rw [allM_app R env a b m1]
      rcases allM R env a m1 with ⟨_ | vs, m2⟩
      · rfl
      · simp only [Rs.bind, done]
        rcases allM R env b m2 with ⟨_ | ws, m3⟩ <;> rfl
/-- What is known of a machine, and of what stands for it. -/
structure Okm (mo tt : Nat) (φ ψ : Nat → Nat) (m : Ms) (L : Nat) (σ : Sg) : Prop where
  sto : Sto mo tt φ ψ m σ
  ok : okM L m
  lo : 2000 ≤ L
  hi : L + m.fuel ≤ 4000000
/-- What evaluators do. -/
def EvCt (mo tt g : Nat) : Prop := ∀ (e : Co) (env : En) (m : Ms) (φ ψ : Nat → Nat) (σ : Sg) (L : Nat), Okm mo tt φ ψ m L σ → okC L e → okE m.st.length L env → m.fuel < g →
    ACalls Tryd.prog 31 [.ptr mo 0, .v (encC e), .v (encN φ env)] σ (Outc mo tt φ ψ m σ (evM g e env m))
/-- What parts come to. -/
def resA (φ : Nat → Nat) : Option (List Vl) → D
  | some vs => .tup [.v (.sl (some 6) false (vs.map (encW φ))), .v (.bool true)]
  | none => .tup [.v .snil, .v (.bool false)]
def Outa (mo tt : Nat) (φ ψ : Nat → Nat) (m : Ms) (σ : Sg) (rs : Rs (List Vl)) (r : D) (σ' : Sg) : Prop := ∃ φ' ψ', r = resA φ' rs.v ∧ Aft mo tt φ ψ m σ φ' ψ' rs.m σ'
theorem Aft.tadd {mo tt : Nat} {φ ψ φ' ψ' : Nat → Nat} {m m' : Ms} {σ σ' : Sg} (h : Aft mo tt φ ψ m σ φ' ψ' m' σ') (n : Nat) : Aft mo tt φ ψ m σ φ' ψ' m' (σ'.tadd n) := by
  have htl := (List.getElem?_eq_some_iff.1 h.sto.tok).1
  refine ⟨h.sto.mono (fun _ _ => rfl) (List.getElem?_append_left htl), h.fe, h.pe, h.new, h.objs, h.keep, ?_, fun t ht hne => ?_⟩
  · simp only [Sg.tadd, List.length_append]
    exact Nat.le_trans h.toks (Nat.le_add_right _ _)
  · exact (List.getElem?_append_left (Nat.lt_of_lt_of_le ht h.toks)).trans (h.ktok t ht hne)
theorem Aft.tset {mo tt : Nat} {φ ψ φ' ψ' : Nat → Nat} {m m' : Ms} {σ σ' : Sg} (h : Aft mo tt φ ψ m σ φ' ψ' m' σ') {T : Nat} (n : Nat) (hT : σ.toks.length ≤ T) (hne : tt ≠ T) : Aft mo tt φ ψ m σ φ' ψ' m' ⟨σ'.objs, σ'.toks.set T n⟩ := by
  refine ⟨h.sto.mono (fun _ _ => rfl) (List.getElem?_set_ne (Ne.symm hne)), h.fe, h.pe, h.new, h.objs, h.keep, ?_, fun t ht hn => ?_⟩
  · simp only [List.length_set]
    exact h.toks
  · exact (List.getElem?_set_ne (by omega)).trans (h.ktok t ht hn)
structure AllS where
  i : Nat
  vs : List Vl
  m : Ms
  φ : Nat → Nat
  ψ : Nat → Nat
  τ : Sg
structure AllI (mo tt g : Nat) (φ ψ : Nat → Nat) (m : Ms) (L : Nat) (env : En) (l : List Co) (σ : Sg) (x : AllS) : Prop where
  i : x.i ≤ l.length
  eq : allM (evM g) env (l.take x.i) m = ⟨some x.vs, x.m⟩
  aft : Aft mo tt φ ψ m σ x.φ x.ψ x.m x.τ
  tok : x.τ.toks[σ.toks.length]? = some x.vs.length
  fuel : x.m.fuel ≤ m.fuel
  st : m.st.length ≤ x.m.st.length
  ok : okM (L + (m.fuel - x.m.fuel)) x.m
  vs : okVs x.m.st.length (L + (m.fuel - x.m.fuel)) x.vs
theorem weakR_le {B : Sg} {r r' : D} {σ : Sg} (h : D.Le r r') : WeakR B r σ r' σ := fun m0 m w0 w u _ hX hI hR => ⟨m, hI, h m w u hR, hX⟩
theorem k_All {mo tt g : Nat} {φ ψ : Nat → Nat} {m : Ms} {L : Nat} {env : En} {l : List Co} {σ : Sg} (hR : EvCt mo tt g) (h : Okm mo tt φ ψ m L σ) (hl : ∀ x ∈ l, okC L x) (hll : l.length ≤ L) (he : okE m.st.length L env) (hf0 : m.fuel < g) :
    ACalls Tryd.prog 53 [.ptr mo 0, .v (.sl (some 6) false (l.map encC)), .v (encN φ env)] σ (Outa mo tt φ ψ m σ (allM (evM g) env l m)) := by
  have hml := h.sto.mlt
  have htl := (List.getElem?_eq_some_iff.1 h.sto.tok).1
  have hhi := h.hi
  have hlo := h.lo
  refine acalls_fit Tryd.func53 (by kernel_rfl) c53 rfl (by simp [a53]) fun hf => ?_
  clear hf
  simp -implicitDefEqProofs (maxSteps := 2000000) (disch := omega) [-getElem?_pos, a53]
  refine W_loop (α := AllS) ⟨0, [], m, φ, ψ, σ.tadd 0⟩ (fun x => l.length - x.i) (fun x => ⟨[(0, .ptr mo 0), (2, .v (encN φ env)), (8, .tsl σ.toks.length (some 6) (x.vs.map (encW x.φ))), (13, .v (.sl (some 6) false (l.map encC))), (14, .v (.int .i64 l.length)), (15, .v (.int .i64 x.i))], x.τ⟩) (fun x => AllI mo tt g φ ψ m L env l σ x)
    (.tok (i := 8) (sh := some 6) (by simp) (by simp)) ⟨by simp, rfl, (Aft.refl h.sto).tadd 0, by simp [Sg.tadd], Nat.le_refl _, Nat.le_refl _, h.ok.mono (by omega), trivial⟩ fun x hx => ?_
  have hxi := hx.i
  simp -implicitDefEqProofs (maxSteps := 2000000) (disch := omega) [-getElem?_pos]
  refine .mk (fun hi => ?_) fun hi => ?_
  · obtain ⟨e, hie⟩ : ∃ e, l[x.i]? = some e := ⟨_, List.getElem?_eq_getElem hi⟩
    have heo := hl e (List.mem_of_getElem? hie)
    obtain ⟨c0, c1, c2, c3, c4, c5, hco⟩ := list6 (show (coV e).length = 6 by cases e; rfl)
    have hec : encC e = .agg [c0, c1, c2, c3, c4, c5] := by rw [encC_coV, hco]
    have hfu := hx.fuel
    have hxs := hx.aft.sto
    have hev := hR e env x.m x.φ x.ψ ⟨x.τ.objs ++ [.cells [.v c0, .v c1, .v c2, .v c3, .v c4, .v c5]], x.τ.toks⟩ (L + (m.fuel - x.m.fuel)) ⟨hxs.add _, hx.ok, by omega, by omega⟩ (heo.mono (by omega)) (he.mono hx.st (by omega)) (by omega)
    have hok := ok_ev 2000 (Nat.le_refl _) g x.m.fuel e env x.m (L + (m.fuel - x.m.fuel)) (by omega) (heo.mono (by omega)) (he.mono hx.st (by omega)) hx.ok (Nat.le_refl _)
    have happ := allM_app (evM g) env (l.take x.i) [e] m
    have hl2 : l = l.take x.i ++ e :: l.drop (x.i + 1) := by rw [← drop_cons hie, List.take_append_drop]
    have hall : allM (evM g) env l m = (allM (evM g) env (l.take x.i) m).bind fun vs m1 => (allM (evM g) env (e :: l.drop (x.i + 1)) m1).bind fun ws m2 => done (vs ++ ws) m2 := by
      conv => lhs; rw [hl2]
      exact allM_app _ _ _ _ _
    rw [hx.eq] at hall
    rw [← show l.take (x.i + 1) = l.take x.i ++ [e] by rw [List.take_add_one, hie]; rfl, hx.eq] at happ
    rw [encN_ext hx.aft.fe he, hec] at hev
    simp -implicitDefEqProofs (maxSteps := 2000000) (disch := omega) [-getElem?_pos, hie, hec]
    refine ⟨hi, hev.mono fun r σ2 ⟨φ2, ψ2, hr, hA⟩ => ?_⟩
    have hA2 := hA.back hxs
    generalize hrs : evM g e env x.m = rs at hev hok hr hA hA2
    obtain ⟨v, m2⟩ := rs
    have hof := hok.fuel
    have hos := hok.st
    have hoo := hok.ok
    have hov := hok.v
    dsimp only at hr hA hA2 hof hos hoo hov
    cases v with
    | none =>
      subst hr
      unfold resW zW
      simp -implicitDefEqProofs (maxSteps := 2000000) (disch := omega) [-getElem?_pos]
      refine ⟨_, _, WeakR.refl _ _ _, φ2, ψ2, ?_, ?_⟩
      · rw [hall]
        simp [allM, Rs.bind, hrs, resA]
      · rw [hall]
        simp only [allM, Rs.bind, hrs]
        exact (hx.aft.trans hA2 hx.st).add _
    | some v =>
      subst hr
      obtain ⟨d0, d1, d2, d3, d4, d5, hcv⟩ := list6 (celW_len (φ := φ2) v)
      have hvv : encW φ2 v = .agg [d0, d1, d2, d3, d4, d5] := by unfold encW; rw [hcv]
      have ht2 : σ2.toks[σ.toks.length]? = some x.vs.length := (hA.ktok _ (List.getElem?_eq_some_iff.1 hx.tok).1 (by omega)).trans hx.tok
      rw [show resW φ2 (some v) = .tup [.v (encW φ2 v), .v (.bool true)] from rfl, hvv]
      simp -implicitDefEqProofs (maxSteps := 2000000) (disch := omega) [-getElem?_pos, ht2]
      have hvl : x.vs.length = x.i := by
        have := (ok_all (ok_ev 2000 (Nat.le_refl _) g m.fuel) env (l.take x.i) m L hlo (fun y hy => hl y (List.mem_of_mem_take hy)) he h.ok (Nat.le_refl _)).v x.vs (by rw [hx.eq])
        rw [this.2, List.length_take]
        omega
      refine ⟨one6 (hcv ▸ celW_one (φ := φ2) v), by omega, ?_⟩
      refine ⟨⟨x.i + 1, x.vs ++ [v], m2, φ2, ψ2, ⟨σ2.objs ++ [.cells [.v d0, .v d1, .v d2, .v d3, .v d4, .v d5]], σ2.toks.set σ.toks.length (x.vs.length + 1)⟩⟩, ⟨by dsimp only; omega, ?_, ?_, ?_, by dsimp only; omega, by have := hx.st; dsimp only; omega, ?_, ?_⟩, by dsimp only; omega, .eq (by simp [hvv]; exact fun a ha => (encW_ext hA2.fe (okVs_iff.1 hx.vs a ha)).symm)⟩
      · rw [happ]
        simp [allM, Rs.bind, hrs, done]
      · exact ((hx.aft.trans hA2 hx.st).add _).tset _ (Nat.le_refl _) (by omega)
      · have := (List.getElem?_eq_some_iff.1 ht2).1
        dsimp only
        rw [List.getElem?_set_self this]
        simp
      · dsimp only
        exact hoo.mono (by omega)
      · dsimp only
        refine okVs_iff.2 fun w hw => ?_
        rcases List.mem_append.1 hw with hw | hw
        · exact (okVs_iff.1 hx.vs w hw).mono hos (by omega)
        · simp only [List.mem_singleton] at hw
          subst hw
          exact (hov _ rfl).mono (Nat.le_refl _) (by omega)
  · simp -implicitDefEqProofs (maxSteps := 2000000) (disch := omega) [-getElem?_pos]
    have hxe := hx.eq
    rw [List.take_of_length_le (l := l) (by omega)] at hxe
    rw [hxe]
    exact ⟨_, _, weakR_le (.tup2 .tsl (.refl _)), x.φ, x.ψ, rfl, hx.aft⟩
end Go.Proofs.YtbifjffjibnjjaaDoor

/-
  Core expressions, walked: one part, in a slice that may be written to. (Own work.)
-/
set_option linter.unusedVariables false
set_option linter.unusedSimpArgs false
set_option maxHeartbeats 1000000
namespace Go.Proofs.YtbifjffjibnjjaaDoor
open Go Go.Abs

/-- One value in a slice of its own. -/
def One1 (mo tt : Nat) (φ ψ : Nat → Nat) (m : Ms) (σ : Sg) (rs : Rs Vl) (d : D) (σ' : Sg) : Prop := ∃ φ' ψ' v o c rest, rs.v = some v ∧ d = .msl o 0 1 (some 6) (some c) ∧ σ.objs.length ≤ o ∧ σ'.objs[o]? = some (.cells ((celW φ' v).map .v ++ rest)) ∧ Aft mo tt φ ψ m σ φ' ψ' rs.m σ'
def Outm (mo tt : Nat) (φ ψ : Nat → Nat) (m : Ms) (σ : Sg) (rs : Rs Vl) (r : D) (σ' : Sg) : Prop :=
  (rs.v = none ∧ r = .tup [.v .snil, .v (.bool false)] ∧ ∃ φ' ψ', Aft mo tt φ ψ m σ φ' ψ' rs.m σ') ∨ ∃ d, r = .tup [d, .v (.bool true)] ∧ One1 mo tt φ ψ m σ rs d σ'
structure AllM where
  i : Nat
  d : D
  τ : Sg
theorem k_AllM {mo tt g : Nat} {φ ψ : Nat → Nat} {m : Ms} {L : Nat} {env : En} {e : Co} {σ : Sg} (hR : EvCt mo tt g) (h : Okm mo tt φ ψ m L σ) (hl : okC L e) (he : okE m.st.length L env) (hf0 : m.fuel < g) :
    ACalls Tryd.prog 53 [.ptr mo 0, .v (.sl (some 6) false [encC e]), .v (encN φ env)] σ (Outm mo tt φ ψ m σ (evM g e env m)) := by
  have hml := h.sto.mlt
  have hS := h.sto
  obtain ⟨c0, c1, c2, c3, c4, c5, hco⟩ := list6 (show (coV e).length = 6 by cases e; rfl)
  have hec : encC e = .agg [c0, c1, c2, c3, c4, c5] := by rw [encC_coV, hco]
  have hev := hR e env m φ ψ ⟨σ.objs ++ [.cells [.v c0, .v c1, .v c2, .v c3, .v c4, .v c5]], σ.toks⟩ L ⟨hS.add _, h.ok, h.lo, h.hi⟩ hl he hf0
  rw [hec] at hev ⊢
  generalize evM g e env m = rs at hev ⊢
  refine acalls_fit Tryd.func53 (by kernel_rfl) c53M rfl (by simp [a53M]) fun hf => ?_
  clear hf
  simp -implicitDefEqProofs (maxSteps := 2000000) (disch := omega) [-getElem?_pos, a53M]
  refine W_loop (α := AllM) ⟨0, .v .snil, σ⟩ (fun x => 1 - x.i) (fun x => ⟨[(0, .ptr mo 0), (2, .v (encN φ env)), (8, x.d), (13, .v (.sl (some 6) false [.agg [c0, c1, c2, c3, c4, c5]])), (14, .v (.int .i64 1)), (15, .v (.int .i64 x.i))], x.τ⟩) (fun x => x = ⟨0, .v .snil, σ⟩ ∨ x.i = 1 ∧ One1 mo tt φ ψ m σ rs x.d x.τ)
    (.eq (by simp)) (.inl rfl) fun x hx => ?_
  rcases hx with rfl | ⟨hi, hx⟩
  · simp -implicitDefEqProofs (maxSteps := 2000000) (disch := omega) [-getElem?_pos]
    refine hev.mono fun r σ2 ⟨φ2, ψ2, hr, hA⟩ => ?_
    have hA2 := hA.back hS
    obtain ⟨v, m2⟩ := rs
    dsimp only at hr hA hA2
    cases v with
    | none =>
      subst hr
      unfold resW zW
      simp -implicitDefEqProofs (maxSteps := 2000000) (disch := omega) [-getElem?_pos]
      exact ⟨_, _, WeakR.refl _ _ _, .inl ⟨rfl, rfl, φ2, ψ2, hA2.add _⟩⟩
    | some v =>
      subst hr
      obtain ⟨d0, d1, d2, d3, d4, d5, hcv⟩ := list6 (celW_len (φ := φ2) v)
      have hvv : encW φ2 v = .agg [d0, d1, d2, d3, d4, d5] := by unfold encW; rw [hcv]
      rw [show resW φ2 (some v) = .tup [.v (encW φ2 v), .v (.bool true)] from rfl, hvv]
      simp -implicitDefEqProofs (maxSteps := 2000000) (disch := omega) [-getElem?_pos]
      refine ⟨one6 (hcv ▸ celW_one (φ := φ2) v), fun c hc1 hc2 => ?_⟩
      refine ⟨⟨1, .msl (σ2.objs.length + 1) 0 1 (some 6) (some c), ⟨σ2.objs ++ [.cells [.v d0, .v d1, .v d2, .v d3, .v d4, .v d5], .cells ([.v d0, .v d1, .v d2, .v d3, .v d4, .v d5] ++ List.replicate ((c - 1) * 6) .junk)], σ2.toks⟩⟩,
        .inr ⟨rfl, φ2, ψ2, v, σ2.objs.length + 1, c, List.replicate ((c - 1) * 6) .junk, rfl, rfl, by have := hA2.objs; omega, by simp [hcv], hA2.add _⟩, by dsimp only; omega, .eq2 (by simp [V.flat]) (by simp)⟩
  · obtain ⟨i, d, τ⟩ := x
    dsimp only at hi hx ⊢
    subst hi
    simp -implicitDefEqProofs (maxSteps := 2000000) (disch := omega) [-getElem?_pos]
    exact ⟨_, _, WeakR.refl _ _ _, .inr ⟨_, rfl, hx⟩⟩
end Go.Proofs.YtbifjffjibnjjaaDoor

/-
  Core expressions, walked: what a function comes to. (Own work.)
-/
set_option linter.unusedVariables false
set_option linter.unusedSimpArgs false
set_option maxHeartbeats 1000000
namespace Go.Proofs.YtbifjffjibnjjaaDoor
open Go Go.Abs

theorem resW_cells (φ : Nat → Nat) (o : Option Vl) : ∃ x0 x1 x2 x3 x4 x5 b, resW φ o = .tup [.v (.agg [x0, x1, x2, x3, x4, x5]), .v (.bool b)] := by
  cases o with
  | none => exact ⟨_, _, _, _, _, _, _, rfl⟩
  | some v =>
    obtain ⟨d0, d1, d2, d3, d4, d5, hcv⟩ := list6 (celW_len (φ := φ) v)
    refine ⟨d0, d1, d2, d3, d4, d5, true, ?_⟩
    simp only [resW, encW, hcv]
theorem encN_one {φ : Nat → Nat} (e : En) : (encN φ e).one = true := by cases e <;> simp [encN, V.one]
theorem encN_cells {φ : Nat → Nat} (e : En) : (encN φ e).cells = [encN φ e] := by cases e <;> simp [encN, V.cells]
theorem kind3 {v : Vl} (h : kindW v = 3) : ∃ rc self param part env, v = .fn rc self param part env := by cases v <;> simp [kindW] at h; exact ⟨_, _, _, _, _, rfl⟩
theorem apply_stuck {R : Rec} {f v : Vl} {m : Ms} (h : ¬ kindW f = 3) : applyM R [f, v] m = stuckM m := by
  unfold applyM
  split
  · rename_i heq
    cases heq
    exact absurd rfl h
  · rfl
theorem k_Apply {mo tt g : Nat} {φ ψ : Nat → Nat} {m : Ms} {L : Nat} {f v : Vl} {σ : Sg} (hR : EvCt mo tt g) (h : Okm mo tt φ ψ m L σ) (hf : okV m.st.length L f) (hv : okV m.st.length L v) (hf0 : m.fuel < g) :
    ACalls Tryd.prog 81 [.ptr mo 0, .v (.sl (some 6) false ([f, v].map (encW φ)))] σ (Outc mo tt φ ψ m σ (applyM (evM g) [f, v] m)) := by
  have hS := h.sto
  have hml := hS.mlt
  obtain ⟨a1, a2, a3, a4, a5, hca⟩ := celW_kind (φ := φ) f
  obtain ⟨b0, b1, b2, b3, b4, b5, hcb⟩ := list6 (celW_len (φ := φ) v)
  have hea : encW φ f = .agg [.int .i64 (kindW f), a1, a2, a3, a4, a5] := by unfold encW; rw [hca]
  have heb : encW φ v = .agg [b0, b1, b2, b3, b4, b5] := by unfold encW; rw [hcb]
  have hx : [V.agg [.int .i64 (kindW f), a1, a2, a3, a4, a5], V.agg [b0, b1, b2, b3, b4, b5]] = [f, v].map (encW φ) := by simp [hea, heb]
  have k1 := fun (x : Int) (fl : Bool) (σ : Sg) => k_Are (ks := [x]) (f := fl) (σ := σ) hx (by simp) (by simp)
  simp only [areW, Bool.and_true, List.map_cons, List.map_nil] at k1
  simp only [List.map_cons, List.map_nil]
  rw [hea, heb]
  have hfn : kindW f = 3 → ACalls Tryd.prog 81 [.ptr mo 0, .v (.sl (some 6) false [V.agg [.int .i64 (kindW f), a1, a2, a3, a4, a5], V.agg [b0, b1, b2, b3, b4, b5]])] σ (Outc mo tt φ ψ m σ (applyM (evM g) [f, v] m)) := by
    intro hk
    obtain ⟨rc, self, param, part, env, rfl⟩ := kind3 hk
    obtain ⟨pk, pn, ps, pt, pns, pl⟩ := part
    simp only [celW] at hca
    cases hca
    simp only [coV, List.cons_append, List.nil_append] at *
    have hev := fun (env' : En) (he : okE m.st.length L env') (xs : List Ob) => hR (.mk pk pn ps pt pns pl) env' m φ ψ ⟨σ.objs ++ xs, σ.toks⟩ L ⟨hS.add _, h.ok, h.lo, h.hi⟩ hf.1 he hf0
    have hen := fun (e : En) => show encN φ (.cons param v e) = .box (some 8) (.agg [.str param, b0, b1, b2, b3, b4, b5, encN φ e]) 0 by simp [encN, hcb]
    rw [encC_mk] at hev
    clear hx hea
    refine acalls_fit Tryd.func81 (by kernel_rfl) c81K rfl (by simp [a81K]) fun hfit => ?_
    clear hfit
    simp -implicitDefEqProofs (maxSteps := 2000000) (disch := omega) [-getElem?_pos, a81K]

    refine (k1 3 _ _).then fun r hr => ?_
    subst hr
    simp -implicitDefEqProofs (maxSteps := 2000000) (disch := omega) [-getElem?_pos, hk]
    have heo : okE m.st.length L env := hf.2
    have hnc := encN_cells (φ := φ) env
    have hno := encN_one (φ := φ) env
    simp only [V.cells] at hnc
    simp only [V.one] at hno
    refine .mk (fun hrc => ?_) fun hrc => ?_
    · subst hrc
      have e2 := hev (.cons param v (.cons self (.fn true self param (.mk pk pn ps pt pns pl) env) env)) ⟨hv, hf, heo⟩ [.cells [.v (.int .i64 0), .v (.int .i64 0), .v (.str []), .v .snil, .v .pnil, .v .pnil]]
      simp only [encN, hcb, celW, coV, List.cons_append, List.nil_append] at e2
      rw [show applyM (evM g) [.fn true self param (.mk pk pn ps pt pns pl) env, v] m = evM g (.mk pk pn ps pt pns pl) (.cons param v (.cons self (.fn true self param (.mk pk pn ps pt pns pl) env) env)) m from rfl]
      simp -implicitDefEqProofs (maxSteps := 2000000) (disch := omega) [-getElem?_pos, hnc, hno]
      refine ⟨one6 (hcb ▸ celW_one (φ := φ) v), ?_⟩
      refine (e2).mono fun r σ2 ⟨φ2, ψ2, hr, hA⟩ => ?_
      have h0 : σ2.objs[σ.objs.length ]? = some _ := hA.loc hS (j := 0) rfl
      have hl := (List.getElem?_eq_some_iff.1 h0).1
      obtain ⟨x0, x1, x2, x3, x4, x5, b0, hr2⟩ := resW_cells φ2 (evM g (.mk pk pn ps pt pns pl) (.cons param v (.cons self (.fn true self param (.mk pk pn ps pt pns pl) env) env)) m).v
      subst hr
      rw [hr2]
      simp -implicitDefEqProofs (maxSteps := 2000000) (disch := omega) [-getElem?_pos, h0, hl, List.getElem?_set_self]
      exact ⟨_, _, WeakR.refl _ _ _, φ2, ψ2, hr2.symm, (hA.back hS).put _ (by omega) h0 (by omega)⟩

    · have hrc2 : rc = false := by simpa using hrc
      subst hrc2
      have e2 := hev (.cons param v env) ⟨hv, heo⟩ [.cells [.v (.int .i64 0), .v (.int .i64 0), .v (.str []), .v .snil, .v .pnil, .v .pnil]]
      simp only [encN, hcb, celW, coV, List.cons_append, List.nil_append] at e2
      rw [show applyM (evM g) [.fn false self param (.mk pk pn ps pt pns pl) env, v] m = evM g (.mk pk pn ps pt pns pl) (.cons param v env) m from rfl]
      simp -implicitDefEqProofs (maxSteps := 2000000) (disch := omega) [-getElem?_pos, hnc, hno]
      refine ⟨one6 (hcb ▸ celW_one (φ := φ) v), ?_⟩
      refine (e2).mono fun r σ2 ⟨φ2, ψ2, hr, hA⟩ => ?_
      have h0 : σ2.objs[σ.objs.length ]? = some _ := hA.loc hS (j := 0) rfl
      have hl := (List.getElem?_eq_some_iff.1 h0).1
      obtain ⟨x0, x1, x2, x3, x4, x5, b0, hr2⟩ := resW_cells φ2 (evM g (.mk pk pn ps pt pns pl) (.cons param v env) m).v
      subst hr
      rw [hr2]
      simp -implicitDefEqProofs (maxSteps := 2000000) (disch := omega) [-getElem?_pos, h0, hl, List.getElem?_set_self]
      exact ⟨_, _, WeakR.refl _ _ _, φ2, ψ2, hr2.symm, (hA.back hS).put _ (by omega) h0 (by omega)⟩

  by_cases hk : kindW f = 3
  · exact hfn hk
  clear hfn
  rw [apply_stuck hk]
  refine acalls_fit Tryd.func81 (by kernel_rfl) c81K rfl (by simp [a81K]) fun hfit => ?_
  clear hfit
  simp -implicitDefEqProofs (maxSteps := 2000000) (disch := omega) [-getElem?_pos, a81K]

  refine (k1 3 _ _).then fun r hr => ?_
  subst hr
  simp -implicitDefEqProofs (maxSteps := 2000000) (disch := omega) [-getElem?_pos, hk]
  refine (k_Stuck (hS.add _)).mono fun r σ2 ⟨φ2, ψ2, hr, hA⟩ => ?_
  have h0 : σ2.objs[σ.objs.length ]? = some _ := hA.loc hS (j := 0) rfl
  have hl := (List.getElem?_eq_some_iff.1 h0).1
  obtain ⟨x0, x1, x2, x3, x4, x5, b0, hr2⟩ := resW_cells φ2 (stuckM (α := Vl) m).v
  subst hr
  rw [hr2]
  simp -implicitDefEqProofs (maxSteps := 2000000) (disch := omega) [-getElem?_pos, h0, hl, List.getElem?_set_self]
  exact ⟨_, _, WeakR.refl _ _ _, φ2, ψ2, hr2.symm, (hA.back hS).put _ (by omega) h0 (by omega)⟩

end Go.Proofs.YtbifjffjibnjjaaDoor

/-
  Core expressions, walked: what an expression comes to, by what its parts come to. (Own work.)
-/
set_option linter.unusedVariables false
set_option linter.unusedSimpArgs false
set_option maxHeartbeats 1000000
namespace Go.Proofs.YtbifjffjibnjjaaDoor
open Go Go.Abs

theorem k_Do5 {mo tt g : Nat} {φ ψ : Nat → Nat} {m : Ms} {L : Nat} {n : Int} {s t : Str} {ns : List Str} {l : List Co} {f v : Vl} {σ : Sg} (hR : EvCt mo tt g) (h : Okm mo tt φ ψ m L σ) (hf : okV m.st.length L f) (hv : okV m.st.length L v) (hf0 : m.fuel < g) :
    ACalls Tryd.prog 54 [.ptr mo 0, .v (.agg [.int .i64 5, .int .i64 n, .str s, .str t, .sl none false (ns.map .str), .sl (some 6) false (l.map encC)]), .v (.sl (some 6) false ([f, v].map (encW φ)))] σ (Outc mo tt φ ψ m σ (doM (evM g) 5 s [f, v] m)) := by
  have hS := h.sto
  have hml := hS.mlt
  rw [show doM (evM g) 5 s [f, v] m = applyM (evM g) [f, v] m from rfl]
  refine acalls_fit Tryd.func54 (by kernel_rfl) c54M rfl (by simp [a54M]) fun hfit => ?_
  clear hfit
  simp -implicitDefEqProofs (maxSteps := 2000000) (disch := omega) [-getElem?_pos, a54M]

  refine (k_Apply hR ⟨hS.add _, h.ok, h.lo, h.hi⟩ hf hv hf0).mono fun r σ2 ⟨φ2, ψ2, hr, hA⟩ => ?_
  have h0 : σ2.objs[σ.objs.length + 1]? = some _ := hA.loc hS (j := 1) rfl
  have hl := (List.getElem?_eq_some_iff.1 h0).1
  obtain ⟨x0, x1, x2, x3, x4, x5, b0, hr2⟩ := resW_cells φ2 (applyM (evM g) [f, v] m).v
  subst hr
  rw [hr2]
  simp -implicitDefEqProofs (maxSteps := 2000000) (disch := omega) [-getElem?_pos, h0, hl, List.getElem?_set_self]
  exact ⟨_, _, WeakR.refl _ _ _, φ2, ψ2, hr2.symm, (hA.back hS).put _ (by omega) h0 (by omega)⟩

theorem k_Do8 {mo tt g : Nat} {φ ψ : Nat → Nat} {m : Ms} {L : Nat} {n : Int} {s t : Str} {ns : List Str} {l : List Co} {vs : List Vl} {σ : Sg} (hR : EvCt mo tt g) (h : Okm mo tt φ ψ m L σ) (hf0 : m.fuel < g) :
    ACalls Tryd.prog 54 [.ptr mo 0, .v (.agg [.int .i64 8, .int .i64 n, .str s, .str t, .sl none false (ns.map .str), .sl (some 6) false (l.map encC)]), .v (.sl (some 6) false (vs.map (encW φ)))] σ (Outc mo tt φ ψ m σ (doM (evM g) 8 s vs m)) := by
  have hS := h.sto
  have hml := hS.mlt
  rw [show doM (evM g) 8 s vs m = done (.tup vs) m from rfl]
  refine acalls_fit Tryd.func54 (by kernel_rfl) c54M rfl (by simp [a54M]) fun hfit => ?_
  clear hfit
  simp -implicitDefEqProofs (maxSteps := 2000000) (disch := omega) [-getElem?_pos, a54M]

  exact ⟨_, _, WeakR.refl _ _ _, φ, ψ, by simp [done, resW, encW, celW, encWs_eq], (Aft.refl hS).add _⟩
theorem k_Do9 {mo tt g : Nat} {φ ψ : Nat → Nat} {m : Ms} {L : Nat} {n : Int} {s t : Str} {ns : List Str} {l : List Co} {a b : Vl} {σ : Sg} (hR : EvCt mo tt g) (h : Okm mo tt φ ψ m L σ) (ha : okV m.st.length L a) (hb : okV m.st.length L b) (hf0 : m.fuel < g) :
    ACalls Tryd.prog 54 [.ptr mo 0, .v (.agg [.int .i64 9, .int .i64 n, .str s, .str t, .sl none false (ns.map .str), .sl (some 6) false (l.map encC)]), .v (.sl (some 6) false ([a, b].map (encW φ)))] σ (Outc mo tt φ ψ m σ (doM (evM g) 9 s [a, b] m)) := by
  have hS := h.sto
  have hml := hS.mlt
  rw [show doM (evM g) 9 s [a, b] m = tupleM 9 a b zVl m from rfl]
  have hhi := h.hi
  refine acalls_fit Tryd.func54 (by kernel_rfl) c54M rfl (by simp [a54M]) fun hfit => ?_
  clear hfit
  simp -implicitDefEqProofs (maxSteps := 2000000) (disch := omega) [-getElem?_pos, a54M]

  refine (k_Tuple2 (.inl rfl) (hS.add _) ha (by omega)).mono fun r σ2 ⟨φ2, ψ2, hr, hA⟩ => ?_
  have h0 : σ2.objs[σ.objs.length + 1]? = some _ := hA.loc hS (j := 1) rfl
  have hl := (List.getElem?_eq_some_iff.1 h0).1
  obtain ⟨x0, x1, x2, x3, x4, x5, b0, hr2⟩ := resW_cells φ2 (tupleM 9 a b zVl m).v
  subst hr
  rw [hr2]
  simp -implicitDefEqProofs (maxSteps := 2000000) (disch := omega) [-getElem?_pos, h0, hl, List.getElem?_set_self]
  exact ⟨_, _, WeakR.refl _ _ _, φ2, ψ2, hr2.symm, (hA.back hS).put _ (by omega) h0 (by omega)⟩

theorem k_Do11 {mo tt g : Nat} {φ ψ : Nat → Nat} {m : Ms} {L : Nat} {n : Int} {s t : Str} {ns : List Str} {l : List Co} {a b : Vl} {σ : Sg} (hR : EvCt mo tt g) (h : Okm mo tt φ ψ m L σ) (ha : okV m.st.length L a) (hb : okV m.st.length L b) (hf0 : m.fuel < g) :
    ACalls Tryd.prog 54 [.ptr mo 0, .v (.agg [.int .i64 11, .int .i64 n, .str s, .str t, .sl none false (ns.map .str), .sl (some 6) false (l.map encC)]), .v (.sl (some 6) false ([a, b].map (encW φ)))] σ (Outc mo tt φ ψ m σ (doM (evM g) 11 s [a, b] m)) := by
  have hS := h.sto
  have hml := hS.mlt
  rw [show doM (evM g) 11 s [a, b] m = tupleM 11 a b zVl m from rfl]
  have hhi := h.hi
  refine acalls_fit Tryd.func54 (by kernel_rfl) c54M rfl (by simp [a54M]) fun hfit => ?_
  clear hfit
  simp -implicitDefEqProofs (maxSteps := 2000000) (disch := omega) [-getElem?_pos, a54M]

  refine (k_Tuple2 (.inr rfl) (hS.add _) ha (by omega)).mono fun r σ2 ⟨φ2, ψ2, hr, hA⟩ => ?_
  have h0 : σ2.objs[σ.objs.length + 1]? = some _ := hA.loc hS (j := 1) rfl
  have hl := (List.getElem?_eq_some_iff.1 h0).1
  obtain ⟨x0, x1, x2, x3, x4, x5, b0, hr2⟩ := resW_cells φ2 (tupleM 11 a b zVl m).v
  subst hr
  rw [hr2]
  simp -implicitDefEqProofs (maxSteps := 2000000) (disch := omega) [-getElem?_pos, h0, hl, List.getElem?_set_self]
  exact ⟨_, _, WeakR.refl _ _ _, φ2, ψ2, hr2.symm, (hA.back hS).put _ (by omega) h0 (by omega)⟩

theorem k_Do10 {mo tt g : Nat} {φ ψ : Nat → Nat} {m : Ms} {L : Nat} {n : Int} {s t : Str} {ns : List Str} {l : List Co} {a b c : Vl} {σ : Sg} (hR : EvCt mo tt g) (h : Okm mo tt φ ψ m L σ) (hc : okV m.st.length L c) (hf0 : m.fuel < g) :
    ACalls Tryd.prog 54 [.ptr mo 0, .v (.agg [.int .i64 10, .int .i64 n, .str s, .str t, .sl none false (ns.map .str), .sl (some 6) false (l.map encC)]), .v (.sl (some 6) false ([a, b, c].map (encW φ)))] σ (Outc mo tt φ ψ m σ (doM (evM g) 10 s [a, b, c] m)) := by
  have hS := h.sto
  have hml := hS.mlt
  rw [show doM (evM g) 10 s [a, b, c] m = tupleM 10 c b a m from rfl]
  have hhi := h.hi
  refine acalls_fit Tryd.func54 (by kernel_rfl) c54M rfl (by simp [a54M]) fun hfit => ?_
  clear hfit
  simp -implicitDefEqProofs (maxSteps := 2000000) (disch := omega) [-getElem?_pos, a54M]

  refine (k_Tuple3 (.inl rfl) (hS.add _) hc (by omega)).mono fun r σ2 ⟨φ2, ψ2, hr, hA⟩ => ?_
  have h0 : σ2.objs[σ.objs.length + 1]? = some _ := hA.loc hS (j := 1) rfl
  have hl := (List.getElem?_eq_some_iff.1 h0).1
  obtain ⟨x0, x1, x2, x3, x4, x5, b0, hr2⟩ := resW_cells φ2 (tupleM 10 c b a m).v
  subst hr
  rw [hr2]
  simp -implicitDefEqProofs (maxSteps := 2000000) (disch := omega) [-getElem?_pos, h0, hl, List.getElem?_set_self]
  exact ⟨_, _, WeakR.refl _ _ _, φ2, ψ2, hr2.symm, (hA.back hS).put _ (by omega) h0 (by omega)⟩

theorem k_Do12 {mo tt g : Nat} {φ ψ : Nat → Nat} {m : Ms} {L : Nat} {n : Int} {s t : Str} {ns : List Str} {l : List Co} {a b c : Vl} {σ : Sg} (hR : EvCt mo tt g) (h : Okm mo tt φ ψ m L σ) (hc : okV m.st.length L c) (hf0 : m.fuel < g) :
    ACalls Tryd.prog 54 [.ptr mo 0, .v (.agg [.int .i64 12, .int .i64 n, .str s, .str t, .sl none false (ns.map .str), .sl (some 6) false (l.map encC)]), .v (.sl (some 6) false ([a, b, c].map (encW φ)))] σ (Outc mo tt φ ψ m σ (doM (evM g) 12 s [a, b, c] m)) := by
  have hS := h.sto
  have hml := hS.mlt
  rw [show doM (evM g) 12 s [a, b, c] m = tupleM 12 c b a m from rfl]
  have hhi := h.hi
  refine acalls_fit Tryd.func54 (by kernel_rfl) c54M rfl (by simp [a54M]) fun hfit => ?_
  clear hfit
  simp -implicitDefEqProofs (maxSteps := 2000000) (disch := omega) [-getElem?_pos, a54M]

  refine (k_Tuple3 (.inr rfl) (hS.add _) hc (by omega)).mono fun r σ2 ⟨φ2, ψ2, hr, hA⟩ => ?_
  have h0 : σ2.objs[σ.objs.length + 1]? = some _ := hA.loc hS (j := 1) rfl
  have hl := (List.getElem?_eq_some_iff.1 h0).1
  obtain ⟨x0, x1, x2, x3, x4, x5, b0, hr2⟩ := resW_cells φ2 (tupleM 12 c b a m).v
  subst hr
  rw [hr2]
  simp -implicitDefEqProofs (maxSteps := 2000000) (disch := omega) [-getElem?_pos, h0, hl, List.getElem?_set_self]
  exact ⟨_, _, WeakR.refl _ _ _, φ2, ψ2, hr2.symm, (hA.back hS).put _ (by omega) h0 (by omega)⟩

theorem k_Do13 {mo tt g : Nat} {φ ψ : Nat → Nat} {m : Ms} {L : Nat} {n : Int} {s t : Str} {ns : List Str} {l : List Co} {a b : Vl} {σ : Sg} (hR : EvCt mo tt g) (h : Okm mo tt φ ψ m L σ) (hf0 : m.fuel < g) :
    ACalls Tryd.prog 54 [.ptr mo 0, .v (.agg [.int .i64 13, .int .i64 n, .str s, .str t, .sl none false (ns.map .str), .sl (some 6) false (l.map encC)]), .v (.sl (some 6) false ([a, b].map (encW φ)))] σ (Outc mo tt φ ψ m σ (doM (evM g) 13 s [a, b] m)) := by
  have hS := h.sto
  have hml := hS.mlt
  obtain ⟨a0, a1, a2, a3, a4, a5, hca⟩ := list6 (celW_len (φ := φ) a)
  have hea : encW φ a = .agg [a0, a1, a2, a3, a4, a5] := by unfold encW; rw [hca]
  obtain ⟨b1, b2, b3, b4, b5, hcb⟩ := celW_kind (φ := φ) b
  have heb : encW φ b = .agg [.int .i64 (kindW b), b1, b2, b3, b4, b5] := by unfold encW; rw [hcb]
  have hx : [V.agg [.int .i64 (kindW b), b1, b2, b3, b4, b5]] = [b].map (encW φ) := by simp [heb]
  have k1 := fun (k : Int) (fl : Bool) (σ : Sg) => k_Are (ks := [k]) (f := fl) (σ := σ) hx (by simp) (by simp)
  simp only [areW, Bool.and_true, List.map_cons, List.map_nil] at k1
  simp only [List.map_cons, List.map_nil]
  rw [hea, heb]
  refine acalls_fit Tryd.func54 (by kernel_rfl) c54M rfl (by simp [a54M]) fun hfit => ?_
  clear hfit
  simp -implicitDefEqProofs (maxSteps := 2000000) (disch := omega) [-getElem?_pos, a54M]

  refine (k1 1 _ _).then fun r hr => ?_
  subst hr
  by_cases hk : kindW b = 1
  · obtain ⟨x, rfl⟩ := kind1 hk
    simp only [celW] at hcb
    cases hcb
    rw [show doM (evM g) 13 s [a, .int x] m = done (.tag x a) m from rfl]
    simp -implicitDefEqProofs (maxSteps := 2000000) (disch := omega) [-getElem?_pos, hk]
    exact ⟨_, _, WeakR.refl _ _ _, φ, ψ, by simp [done, resW, encW, celW, hca], (Aft.refl hS).add _⟩
  · rw [show doM (evM g) 13 s [a, b] m = stuckM m by cases b <;> first | rfl | exact absurd rfl hk]
    simp -implicitDefEqProofs (maxSteps := 2000000) (disch := omega) [-getElem?_pos, hk]
    refine (k_Stuck (hS.add _)).mono fun r σ2 ⟨φ2, ψ2, hr, hA⟩ => ?_
    have h0 : σ2.objs[σ.objs.length + 1]? = some _ := hA.loc hS (j := 1) rfl
    have hl := (List.getElem?_eq_some_iff.1 h0).1
    obtain ⟨x0, x1, x2, x3, x4, x5, b0, hr2⟩ := resW_cells φ2 (stuckM (α := Vl) m).v
    subst hr
    rw [hr2]
    simp -implicitDefEqProofs (maxSteps := 2000000) (disch := omega) [-getElem?_pos, h0, hl, List.getElem?_set_self]
    exact ⟨_, _, WeakR.refl _ _ _, φ2, ψ2, hr2.symm, (hA.back hS).put _ (by omega) h0 (by omega)⟩

theorem k_Do16 {mo tt g : Nat} {φ ψ : Nat → Nat} {m : Ms} {L : Nat} {n : Int} {s t : Str} {ns : List Str} {l : List Co} {a b : Vl} {σ : Sg} (hR : EvCt mo tt g) (h : Okm mo tt φ ψ m L σ) (ha : okV m.st.length L a) (hb : okV m.st.length L b) (hf0 : m.fuel < g) :
    ACalls Tryd.prog 54 [.ptr mo 0, .v (.agg [.int .i64 16, .int .i64 n, .str s, .str t, .sl none false (ns.map .str), .sl (some 6) false (l.map encC)]), .v (.sl (some 6) false ([a, b].map (encW φ)))] σ (Outc mo tt φ ψ m σ (doM (evM g) 16 s [a, b] m)) := by
  have hS := h.sto
  have hml := hS.mlt
  obtain ⟨a0, a1, a2, a3, a4, a5, hca⟩ := list6 (celW_len (φ := φ) a)
  have hea : encW φ a = .agg [a0, a1, a2, a3, a4, a5] := by unfold encW; rw [hca]
  obtain ⟨b0, b1, b2, b3, b4, b5, hcb⟩ := list6 (celW_len (φ := φ) b)
  have heb : encW φ b = .agg [b0, b1, b2, b3, b4, b5] := by unfold encW; rw [hcb]
  have hhi := h.hi
  have kop := fun xs : List Ob => k_Op (s := s) (hS.add xs) ha hb (by omega)
  rw [hea, heb] at kop
  simp only [List.map_cons, List.map_nil]
  rw [hea, heb, show doM (evM g) 16 s [a, b] m = opM s a b m from rfl]
  refine acalls_fit Tryd.func54 (by kernel_rfl) c54M rfl (by simp [a54M]) fun hfit => ?_
  clear hfit
  simp -implicitDefEqProofs (maxSteps := 2000000) (disch := omega) [-getElem?_pos, a54M]

  refine (kop _).mono fun r σ2 ⟨φ2, ψ2, hr, hA⟩ => ?_
  have h0 : σ2.objs[σ.objs.length + 1]? = some _ := hA.loc hS (j := 1) rfl
  have hl := (List.getElem?_eq_some_iff.1 h0).1
  obtain ⟨x0, x1, x2, x3, x4, x5, b0, hr2⟩ := resW_cells φ2 (opM s a b m).v
  subst hr
  rw [hr2]
  simp -implicitDefEqProofs (maxSteps := 2000000) (disch := omega) [-getElem?_pos, h0, hl, List.getElem?_set_self]
  exact ⟨_, _, WeakR.refl _ _ _, φ2, ψ2, hr2.symm, (hA.back hS).put _ (by omega) h0 (by omega)⟩

theorem kind6 {v : Vl} (h : kindW v = 6) : ∃ i, v = .ref i := by cases v <;> simp [kindW] at h; exact ⟨_, rfl⟩
theorem k_Do18 {mo tt g : Nat} {φ ψ : Nat → Nat} {m : Ms} {L : Nat} {n : Int} {s t : Str} {ns : List Str} {l : List Co} {a : Vl} {σ : Sg} (hR : EvCt mo tt g) (h : Okm mo tt φ ψ m L σ) (ha : okV m.st.length L a) (hf0 : m.fuel < g) :
    ACalls Tryd.prog 54 [.ptr mo 0, .v (.agg [.int .i64 18, .int .i64 n, .str s, .str t, .sl none false (ns.map .str), .sl (some 6) false (l.map encC)]), .v (.sl (some 6) false ([a].map (encW φ)))] σ (Outc mo tt φ ψ m σ (doM (evM g) 18 s [a] m)) := by
  have hS := h.sto
  have hml := hS.mlt
  obtain ⟨a1, a2, a3, a4, a5, hca⟩ := celW_kind (φ := φ) a
  have hea : encW φ a = .agg [.int .i64 (kindW a), a1, a2, a3, a4, a5] := by unfold encW; rw [hca]
  have hx : [V.agg [.int .i64 (kindW a), a1, a2, a3, a4, a5]] = [a].map (encW φ) := by simp [hea]
  have k1 := fun (k : Int) (fl : Bool) (σ : Sg) => k_Are (ks := [k]) (f := fl) (σ := σ) hx (by simp) (by simp)
  simp only [areW, Bool.and_true, List.map_cons, List.map_nil] at k1
  simp only [List.map_cons, List.map_nil]
  rw [hea]
  refine acalls_fit Tryd.func54 (by kernel_rfl) c54M rfl (by simp [a54M]) fun hfit => ?_
  clear hfit
  simp -implicitDefEqProofs (maxSteps := 2000000) (disch := omega) [-getElem?_pos, a54M]

  refine (k1 6 _ _).then fun r hr => ?_
  subst hr
  by_cases hk : kindW a = 6
  · obtain ⟨i, rfl⟩ := kind6 hk
    simp only [celW] at hca
    cases hca
    obtain ⟨v, hv⟩ : ∃ v, m.st[i]? = some v := ⟨_, List.getElem?_eq_getElem ha⟩
    obtain ⟨rest, hrest⟩ := hS.st i v hv
    rw [show doM (evM g) 18 s [.ref i] m = done v m by simp [doM, hv]]
    obtain ⟨v0, v1, v2, v3, v4, v5, hcv⟩ := list6 (celW_len (φ := φ) v)
    rw [hcv] at hrest
    simp -implicitDefEqProofs (maxSteps := 2000000) (disch := omega) [-getElem?_pos, hk]
    refine .mk (o := ψ i) ((List.getElem?_append_left (List.getElem?_eq_some_iff.1 hrest).1).trans hrest) ?_
    simp -implicitDefEqProofs (maxSteps := 2000000) (disch := omega) [-getElem?_pos]
    exact ⟨_, _, WeakR.refl _ _ _, φ, ψ, by simp [done, resW, encW, hcv], (Aft.refl hS).add _⟩
  · rw [show doM (evM g) 18 s [a] m = stuckM m by cases a <;> first | rfl | exact absurd rfl hk]
    simp -implicitDefEqProofs (maxSteps := 2000000) (disch := omega) [-getElem?_pos, hk]
    refine (k_Stuck (hS.add _)).mono fun r σ2 ⟨φ2, ψ2, hr, hA⟩ => ?_
    have h0 : σ2.objs[σ.objs.length + 1]? = some _ := hA.loc hS (j := 1) rfl
    have hl := (List.getElem?_eq_some_iff.1 h0).1
    obtain ⟨x0, x1, x2, x3, x4, x5, b0, hr2⟩ := resW_cells φ2 (stuckM (α := Vl) m).v
    subst hr
    rw [hr2]
    simp -implicitDefEqProofs (maxSteps := 2000000) (disch := omega) [-getElem?_pos, h0, hl, List.getElem?_set_self]
    exact ⟨_, _, WeakR.refl _ _ _, φ2, ψ2, hr2.symm, (hA.back hS).put _ (by omega) h0 (by omega)⟩

theorem k_Do21 {mo tt g : Nat} {φ ψ : Nat → Nat} {m : Ms} {L : Nat} {n : Int} {s t : Str} {ns : List Str} {l : List Co} {a : Vl} {σ : Sg} (hR : EvCt mo tt g) (h : Okm mo tt φ ψ m L σ) (hf0 : m.fuel < g) :
    ACalls Tryd.prog 54 [.ptr mo 0, .v (.agg [.int .i64 21, .int .i64 n, .str s, .str t, .sl none false (ns.map .str), .sl (some 6) false (l.map encC)]), .v (.sl (some 6) false ([a].map (encW φ)))] σ (Outc mo tt φ ψ m σ (doM (evM g) 21 s [a] m)) := by
  have hS := h.sto
  have hml := hS.mlt
  obtain ⟨a1, a2, a3, a4, a5, hca⟩ := celW_kind (φ := φ) a
  have hea : encW φ a = .agg [.int .i64 (kindW a), a1, a2, a3, a4, a5] := by unfold encW; rw [hca]
  have hx : [V.agg [.int .i64 (kindW a), a1, a2, a3, a4, a5]] = [a].map (encW φ) := by simp [hea]
  have k1 := fun (k : Int) (fl : Bool) (σ : Sg) => k_Are (ks := [k]) (f := fl) (σ := σ) hx (by simp) (by simp)
  simp only [areW, Bool.and_true, List.map_cons, List.map_nil] at k1
  simp only [List.map_cons, List.map_nil]
  rw [hea]
  refine acalls_fit Tryd.func54 (by kernel_rfl) c54M rfl (by simp [a54M]) fun hfit => ?_
  clear hfit
  simp -implicitDefEqProofs (maxSteps := 2000000) (disch := omega) [-getElem?_pos, a54M]

  refine (k1 1 _ _).then fun r hr => ?_
  subst hr
  by_cases hk : kindW a = 1
  · obtain ⟨x, rfl⟩ := kind1 hk
    simp only [celW] at hca
    cases hca
    rw [show doM (evM g) 21 s [.int x] m = done (.text (Lib.itoa x)) m from rfl]
    simp -implicitDefEqProofs (maxSteps := 2000000) (disch := omega) [-getElem?_pos, hk]
    refine k_Fmt.then fun r hr => ?_
    obtain ⟨rfl, hlen⟩ := hr
    simp -implicitDefEqProofs (maxSteps := 2000000) (disch := omega) [-getElem?_pos]
    exact ⟨_, _, WeakR.refl _ _ _, φ, ψ, by simp [done, resW, encW, celW, encWs_eq], (Aft.refl hS).add _⟩
  · rw [show doM (evM g) 21 s [a] m = stuckM m by cases a <;> first | rfl | exact absurd rfl hk]
    simp -implicitDefEqProofs (maxSteps := 2000000) (disch := omega) [-getElem?_pos, hk]
    refine (k_Stuck (hS.add _)).mono fun r σ2 ⟨φ2, ψ2, hr, hA⟩ => ?_
    have h0 : σ2.objs[σ.objs.length + 1]? = some _ := hA.loc hS (j := 1) rfl
    have hl := (List.getElem?_eq_some_iff.1 h0).1
    obtain ⟨x0, x1, x2, x3, x4, x5, b0, hr2⟩ := resW_cells φ2 (stuckM (α := Vl) m).v
    subst hr
    rw [hr2]
    simp -implicitDefEqProofs (maxSteps := 2000000) (disch := omega) [-getElem?_pos, h0, hl, List.getElem?_set_self]
    exact ⟨_, _, WeakR.refl _ _ _, φ2, ψ2, hr2.symm, (hA.back hS).put _ (by omega) h0 (by omega)⟩

end Go.Proofs.YtbifjffjibnjjaaDoor

/-
  Core expressions, walked: references, printing, reading. (Own work.)
-/
set_option linter.unusedVariables false
set_option linter.unusedSimpArgs false
set_option maxHeartbeats 1000000
namespace Go.Proofs.YtbifjffjibnjjaaDoor
open Go Go.Abs

theorem unit_le {φ : Nat → Nat} : D.Le (.v (.agg [.int .i64 4, .int .i64 0, .str [], .snil, .pnil, .pnil])) (.v (encW φ (.tup []))) := by
  unfold encW
  simp only [celW, encWs]
  refine VLe.d (VLe.agg ⟨.refl _, .refl _, .refl _, .snil, .refl _, .refl _, trivial⟩ ?_)
  intro c hc
  simp only [List.mem_cons, List.not_mem_nil, or_false] at hc
  rcases hc with rfl | rfl | rfl | rfl | rfl | rfl <;> rfl
/-- What a reference points to is set. -/
theorem Sto.setL {mo tt : Nat} {φ ψ : Nat → Nat} {m : Ms} {σ : Sg} {i : Nat} {w : Vl} {rest : List D} (h : Sto mo tt φ ψ m σ) (hi : i < m.st.length) : Aft mo tt φ ψ m σ φ ψ { m with st := m.st.set i w } ⟨σ.objs.set (ψ i) (.known (φ i) ((celW φ w).map .v ++ rest)), σ.toks⟩ := by
  have hne : ψ i ≠ mo := h.ne hi h.mach
  refine ⟨⟨?_, h.tok, fun k v hk => ?_, fun a b ha hb => h.inj a b (by simpa using ha) (by simpa using hb)⟩, fun _ _ => rfl, fun _ _ => rfl, fun k h1 h2 => by simp only [List.length_set] at h2; omega, by simp, fun j hj hm hk => ?_, Nat.le_refl _, fun _ _ _ => rfl⟩
  · rw [List.getElem?_set_ne hne]; exact h.mach
  · by_cases hki : k = i
    · subst hki
      rw [List.getElem?_set_self hi] at hk
      cases hk
      exact ⟨rest, List.getElem?_set_self (h.lt hi)⟩
    · rw [List.getElem?_set_ne (Ne.symm hki)] at hk
      obtain ⟨r, hr⟩ := h.st k v hk
      have hkl := (List.getElem?_eq_some_iff.1 hk).1
      exact ⟨r, by rw [List.getElem?_set_ne (fun e => hki (h.inj _ _ hi hkl e).symm)]; exact hr⟩
  · show (σ.objs.set (ψ i) _)[j]? = _
    rw [List.getElem?_set_ne (fun e => hk i hi e)]
/-- Something is printed. -/
theorem Sto.say {mo tt : Nat} {φ ψ : Nat → Nat} {m : Ms} {σ : Sg} {x : Str} (h : Sto mo tt φ ψ m σ) : Aft mo tt φ ψ m σ φ ψ { m with tr := m.tr ++ [x] } ⟨σ.objs.set mo (machOb tt { m with tr := m.tr ++ [x] }), σ.toks.set tt (m.tr.length + 1)⟩ := by
  have htl := (List.getElem?_eq_some_iff.1 h.tok).1
  refine ⟨⟨List.getElem?_set_self h.mlt, by simp [htl], fun k v hk => ?_, h.inj⟩, fun _ _ => rfl, fun _ _ => rfl, fun k h1 h2 => absurd h1 (Nat.not_le_of_lt h2), by simp, fun i hi hm hk => ?_, by simp, fun t ht hn => ?_⟩
  · obtain ⟨rest, hr⟩ := h.st k v hk
    exact ⟨rest, by rw [List.getElem?_set_ne (Ne.symm (h.ne (List.getElem?_eq_some_iff.1 hk).1 h.mach))]; exact hr⟩
  · show (σ.objs.set mo _)[i]? = _
    rw [List.getElem?_set_ne (Ne.symm hm)]
  · show (σ.toks.set tt _)[t]? = _
    rw [List.getElem?_set_ne (Ne.symm hn)]
theorem k_Do19 {mo tt g : Nat} {φ ψ : Nat → Nat} {m : Ms} {L : Nat} {n : Int} {s t : Str} {ns : List Str} {l : List Co} {a b : Vl} {σ : Sg} (hR : EvCt mo tt g) (h : Okm mo tt φ ψ m L σ) (ha : okV m.st.length L a) (hf0 : m.fuel < g) :
    ACalls Tryd.prog 54 [.ptr mo 0, .v (.agg [.int .i64 19, .int .i64 n, .str s, .str t, .sl none false (ns.map .str), .sl (some 6) false (l.map encC)]), .v (.sl (some 6) false ([a, b].map (encW φ)))] σ (Outc mo tt φ ψ m σ (doM (evM g) 19 s [a, b] m)) := by
  have hS := h.sto
  have hml := hS.mlt
  obtain ⟨a1, a2, a3, a4, a5, hca⟩ := celW_kind (φ := φ) a
  have hea : encW φ a = .agg [.int .i64 (kindW a), a1, a2, a3, a4, a5] := by unfold encW; rw [hca]
  obtain ⟨b0, b1, b2, b3, b4, b5, hcb⟩ := list6 (celW_len (φ := φ) b)
  have heb : encW φ b = .agg [b0, b1, b2, b3, b4, b5] := by unfold encW; rw [hcb]
  have hx : [V.agg [.int .i64 (kindW a), a1, a2, a3, a4, a5], V.agg [b0, b1, b2, b3, b4, b5]] = [a, b].map (encW φ) := by simp [hea, heb]
  have k1 := fun (k : Int) (fl : Bool) (σ : Sg) => k_Are (ks := [k]) (f := fl) (σ := σ) hx (by simp) (by simp)
  simp only [areW, Bool.and_true, List.map_cons, List.map_nil] at k1
  simp only [List.map_cons, List.map_nil]
  rw [hea, heb]
  refine acalls_fit Tryd.func54 (by kernel_rfl) c54M rfl (by simp [a54M]) fun hfit => ?_
  clear hfit
  simp -implicitDefEqProofs (maxSteps := 2000000) (disch := omega) [-getElem?_pos, a54M]

  refine (k1 6 _ _).then fun r hr => ?_
  subst hr
  by_cases hk : kindW a = 6
  · obtain ⟨i, rfl⟩ := kind6 hk
    simp only [celW] at hca
    cases hca
    obtain ⟨v, hv⟩ : ∃ v, m.st[i]? = some v := ⟨_, List.getElem?_eq_getElem ha⟩
    obtain ⟨rest, hrest⟩ := hS.st i v hv
    rw [show doM (evM g) 19 s [.ref i, b] m = done (.tup []) { m with st := m.st.set i b } from rfl]
    obtain ⟨v0, v1, v2, v3, v4, v5, hcv⟩ := list6 (celW_len (φ := φ) v)
    rw [hcv] at hrest
    have hlt := (List.getElem?_eq_some_iff.1 hrest).1
    simp -implicitDefEqProofs (maxSteps := 2000000) (disch := omega) [-getElem?_pos, hk]
    refine .mk (o := ψ i) ((List.getElem?_append_left hlt).trans hrest) ?_
    simp -implicitDefEqProofs (maxSteps := 2000000) (disch := omega) [-getElem?_pos, putAt, List.set_append_left]
    have hset := hS.setL (w := b) (rest := rest) ha
    rw [hcb] at hset
    refine ⟨_, _, weakR_le (.tup2 unit_le (.refl _)), φ, ψ, rfl, ?_⟩
    have := hset.add [Ob.cells [D.v (V.int .i64 19), D.v (V.int .i64 n), D.v (V.str s), D.v (V.str t), D.v (V.sl none false (ns.map .str)), D.v (V.sl (some 6) false (l.map encC))], Ob.cells [D.v (V.int .i64 4), D.v (V.int .i64 0), D.v (V.str []), D.v V.snil, D.v V.pnil, D.v V.pnil]]
    simpa [done] using this
  · rw [show doM (evM g) 19 s [a, b] m = stuckM m by cases a <;> first | rfl | exact absurd rfl hk]
    simp -implicitDefEqProofs (maxSteps := 2000000) (disch := omega) [-getElem?_pos, hk]
    refine (k_Stuck (hS.add _)).mono fun r σ2 ⟨φ2, ψ2, hr, hA⟩ => ?_
    have h0 : σ2.objs[σ.objs.length + 1]? = some _ := hA.loc hS (j := 1) rfl
    have hl := (List.getElem?_eq_some_iff.1 h0).1
    obtain ⟨x0, x1, x2, x3, x4, x5, b0, hr2⟩ := resW_cells φ2 (stuckM (α := Vl) m).v
    subst hr
    rw [hr2]
    simp -implicitDefEqProofs (maxSteps := 2000000) (disch := omega) [-getElem?_pos, h0, hl, List.getElem?_set_self]
    exact ⟨_, _, WeakR.refl _ _ _, φ2, ψ2, hr2.symm, (hA.back hS).put _ (by omega) h0 (by omega)⟩

theorem k_Do20 {mo tt g : Nat} {φ ψ : Nat → Nat} {m : Ms} {L : Nat} {n : Int} {s t : Str} {ns : List Str} {l : List Co} {a : Vl} {σ : Sg} (hR : EvCt mo tt g) (h : Okm mo tt φ ψ m L σ) (hf0 : m.fuel < g) :
    ACalls Tryd.prog 54 [.ptr mo 0, .v (.agg [.int .i64 20, .int .i64 n, .str s, .str t, .sl none false (ns.map .str), .sl (some 6) false (l.map encC)]), .v (.sl (some 6) false ([a].map (encW φ)))] σ (Outc mo tt φ ψ m σ (doM (evM g) 20 s [a] m)) := by
  have hS := h.sto
  have hml := hS.mlt
  obtain ⟨a1, a2, a3, a4, a5, hca⟩ := celW_kind (φ := φ) a
  have hea : encW φ a = .agg [.int .i64 (kindW a), a1, a2, a3, a4, a5] := by unfold encW; rw [hca]
  have hx : [V.agg [.int .i64 (kindW a), a1, a2, a3, a4, a5]] = [a].map (encW φ) := by simp [hea]
  have k1 := fun (k : Int) (fl : Bool) (σ : Sg) => k_Are (ks := [k]) (f := fl) (σ := σ) hx (by simp) (by simp)
  simp only [areW, Bool.and_true, List.map_cons, List.map_nil] at k1
  have hm := hS.mach
  have htk := hS.tok
  have htr := h.ok.tr
  have hhi := h.hi
  unfold machOb at hm
  simp only [List.map_cons, List.map_nil]
  rw [hea]
  refine acalls_fit Tryd.func54 (by kernel_rfl) c54M rfl (by simp [a54M]) fun hfit => ?_
  clear hfit
  simp -implicitDefEqProofs (maxSteps := 2000000) (disch := omega) [-getElem?_pos, a54M]

  refine (k1 2 _ _).then fun r hr => ?_
  subst hr
  by_cases hk : kindW a = 2
  · obtain ⟨x, rfl⟩ := kind2 hk
    simp only [celW] at hca
    cases hca
    rw [show doM (evM g) 20 s [.text x] m = done (.tup []) { m with tr := m.tr ++ [x] } from rfl]
    simp -implicitDefEqProofs (maxSteps := 2000000) (disch := omega) [-getElem?_pos, hk, List.getElem?_append_left, List.set_append_left, hm, htk, hml]
    refine ⟨by omega, ?_⟩
    refine ⟨_, _, weakR_le (.tup2 unit_le (.refl _)), φ, ψ, rfl, ?_⟩
    have := (hS.say (x := x)).add [Ob.cells [D.v (V.int .i64 20), D.v (V.int .i64 n), D.v (V.str s), D.v (V.str t), D.v (V.sl none false (ns.map .str)), D.v (V.sl (some 6) false (l.map encC))], Ob.cells [D.v (V.int .i64 4), D.v (V.int .i64 0), D.v (V.str []), D.v V.snil, D.v V.pnil, D.v V.pnil]]
    simpa [done, machOb] using this
  · rw [show doM (evM g) 20 s [a] m = stuckM m by cases a <;> first | rfl | exact absurd rfl hk]
    simp -implicitDefEqProofs (maxSteps := 2000000) (disch := omega) [-getElem?_pos, hk]
    refine (k_Stuck (hS.add _)).mono fun r σ2 ⟨φ2, ψ2, hr, hA⟩ => ?_
    have h0 : σ2.objs[σ.objs.length + 1]? = some _ := hA.loc hS (j := 1) rfl
    have hl := (List.getElem?_eq_some_iff.1 h0).1
    obtain ⟨x0, x1, x2, x3, x4, x5, b0, hr2⟩ := resW_cells φ2 (stuckM (α := Vl) m).v
    subst hr
    rw [hr2]
    simp -implicitDefEqProofs (maxSteps := 2000000) (disch := omega) [-getElem?_pos, h0, hl, List.getElem?_set_self]
    exact ⟨_, _, WeakR.refl _ _ _, φ2, ψ2, hr2.symm, (hA.back hS).put _ (by omega) h0 (by omega)⟩

theorem k_Do22 {mo tt g : Nat} {φ ψ : Nat → Nat} {m : Ms} {L : Nat} {n : Int} {s t : Str} {ns : List Str} {l : List Co} {σ : Sg} (hR : EvCt mo tt g) (h : Okm mo tt φ ψ m L σ) (hf0 : m.fuel < g) :
    ACalls Tryd.prog 54 [.ptr mo 0, .v (.agg [.int .i64 22, .int .i64 n, .str s, .str t, .sl none false (ns.map .str), .sl (some 6) false (l.map encC)]), .v (.sl (some 6) false ([].map (encW φ)))] σ (Outc mo tt φ ψ m σ (doM (evM g) 22 s [] m)) := by
  have hS := h.sto
  have hml := hS.mlt
  have hm := hS.mach
  unfold machOb at hm
  simp only [List.map_nil]
  rw [show doM (evM g) 22 s [] m = readM m from rfl]
  refine acalls_fit Tryd.func54 (by kernel_rfl) c54M rfl (by simp [a54M]) fun hfit => ?_
  clear hfit
  simp -implicitDefEqProofs (maxSteps := 2000000) (disch := omega) [-getElem?_pos, a54M]

  simp -implicitDefEqProofs (maxSteps := 2000000) (disch := omega) [-getElem?_pos, List.getElem?_append_left, List.set_append_left, hm, hml]
  refine .mk (fun hin => ?_) fun hin => ?_
  · rw [show readM m = endM 9 3 m by unfold readM; rw [hin]]
    simp -implicitDefEqProofs (maxSteps := 2000000) (disch := omega) [-getElem?_pos]
    refine (k_End (hS.add _)).mono fun r σ2 ⟨φ2, ψ2, hr, hA⟩ => ?_
    have h0 : σ2.objs[σ.objs.length + 1]? = some _ := hA.loc hS (j := 1) rfl
    have hl := (List.getElem?_eq_some_iff.1 h0).1
    obtain ⟨x0, x1, x2, x3, x4, x5, b0, hr2⟩ := resW_cells φ2 (endM (α := Vl) 9 3 m).v
    subst hr
    rw [hr2]
    simp -implicitDefEqProofs (maxSteps := 2000000) (disch := omega) [-getElem?_pos, h0, hl, List.getElem?_set_self]
    exact ⟨_, _, WeakR.refl _ _ _, φ2, ψ2, hr2.symm, (hA.back hS).put _ (by omega) h0 (by omega)⟩

  · obtain ⟨x, r, hxr⟩ : ∃ x r, m.inp = x :: r := by
      cases h3 : m.inp with
      | nil => exact absurd h3 hin
      | cons x r => exact ⟨x, r, rfl⟩
    rw [hxr] at hm
    have hset := hS.setM (m' := { m with inp := r }) rfl rfl
    simp -implicitDefEqProofs (maxSteps := 2000000) (disch := omega) [-getElem?_pos, hxr, List.getElem?_append_left, List.set_append_left, hm, hml]
    refine ⟨by omega, ?_⟩
    refine .mk (fun h2 => ?_) fun h2 => ?_
    · rw [show readM m = endM 9 2 { m with inp := r } by unfold readM; rw [hxr]; simp; omega]
      simp -implicitDefEqProofs (maxSteps := 2000000) (disch := omega) [-getElem?_pos]
      refine (k_End (hset.sto.add _)).mono fun r' σ2 ⟨φ2, ψ2, hr, hA⟩ => ?_
      replace hr : r' = .tup [.v zW, .v (.bool false)] := hr
      subst hr
      have h0 := hA.loc hset.sto (j := 1) rfl
      simp only [List.length_set] at h0
      have hl := (List.getElem?_eq_some_iff.1 h0).1
      unfold zW
      simp -implicitDefEqProofs (maxSteps := 2000000) (disch := omega) [-getElem?_pos, h0, hl, List.getElem?_set_self]
      exact ⟨_, _, WeakR.refl _ _ _, φ2, ψ2, rfl, (hset.trans (hA.back hset.sto) (Nat.le_refl _)).put _ (by omega) h0 (by omega)⟩
    · rw [show readM m = done (.text x) { m with inp := r } by unfold readM; rw [hxr]; simp; omega]
      simp -implicitDefEqProofs (maxSteps := 2000000) (disch := omega) [-getElem?_pos]
      refine ⟨_, _, WeakR.refl _ _ _, φ, ψ, by simp [done, resW, encW, celW], ?_⟩
      have := hset.add [Ob.cells [D.v (V.int .i64 22), D.v (V.int .i64 n), D.v (V.str s), D.v (V.str t), D.v (V.sl none false (ns.map .str)), D.v (V.sl (some 6) false (l.map encC))], Ob.cells [D.v (V.int .i64 2), D.v (V.int .i64 0), D.v (V.str x), D.v V.snil, D.v V.pnil, D.v V.pnil]]
      simpa [done, machOb] using this
end Go.Proofs.YtbifjffjibnjjaaDoor

/-
  Core expressions, walked: a new reference. (Own work.)
-/
set_option linter.unusedVariables false
set_option linter.unusedSimpArgs false
set_option maxHeartbeats 1000000
namespace Go.Proofs.YtbifjffjibnjjaaDoor
open Go Go.Abs

def upd1 (φ : Nat → Nat) (n b : Nat) (k : Nat) : Nat := if k = n then b else φ k
theorem upd1_lt {φ : Nat → Nat} {n b k : Nat} (h : k < n) : upd1 φ n b k = φ k := if_neg (by omega)
theorem upd1_self {φ : Nat → Nat} {n b : Nat} : upd1 φ n b n = b := if_pos rfl
/-- A slice's only value gets a reference. -/
theorem Aft.ref {mo tt : Nat} {φb ψb φ ψ : Nat → Nat} {mb m : Ms} {L o b : Nat} {v : Vl} {rest : List D} {σb σ : Sg} (hB : Aft mo tt φb ψb mb σb φ ψ m σ) (hst : mb.st.length ≤ m.st.length) (hok : okM L m) (hv : okV m.st.length L v) (ob : σb.objs.length ≤ o) (hm : mo ≠ o) (ho : σ.objs[o]? = some (.cells ((celW φ v).map .v ++ rest))) :
    Aft mo tt φb ψb mb σb (upd1 φ m.st.length b) (upd1 ψ m.st.length o) { m with st := m.st ++ [v] } ⟨σ.objs.set o (.known b ((celW φ v).map .v ++ rest)), σ.toks⟩ := by
  have hol := (List.getElem?_eq_some_iff.1 ho).1
  have hS := hB.sto
  have hx : ∀ w, okV m.st.length L w → celW (upd1 φ m.st.length b) w = celW φ w := fun w hw => celW_ext (fun k hk => upd1_lt hk) hw
  refine ⟨⟨?_, hS.tok, fun k w hk => ?_, fun i j hi hj he => ?_⟩, fun k hk => (upd1_lt (by omega)).trans (hB.fe k hk), fun k hk => (upd1_lt (by omega)).trans (hB.pe k hk), fun k h1 h2 => ?_, by simpa using hB.objs, fun i hi hmi hk => ?_, hB.toks, hB.ktok⟩
  · rw [List.getElem?_set_ne (Ne.symm hm)]; exact hS.mach
  · by_cases hkn : k = m.st.length
    · subst hkn
      rw [List.getElem?_append_right (Nat.le_refl _), Nat.sub_self] at hk
      cases hk
      rw [upd1_self, upd1_self, hx _ hv]
      exact ⟨rest, List.getElem?_set_self hol⟩
    · have hlt : k < m.st.length := by
        have := (List.getElem?_eq_some_iff.1 hk).1
        simp only [List.length_append, List.length_singleton] at this
        omega
      rw [List.getElem?_append_left hlt] at hk
      obtain ⟨r, hr⟩ := hS.st k w hk
      rw [upd1_lt hlt, upd1_lt hlt, hx _ (hok.st w (List.mem_of_getElem? hk))]
      exact ⟨r, by rw [List.getElem?_set_ne (Ne.symm (hS.ne hlt ho))]; exact hr⟩
  · simp only [List.length_append, List.length_singleton] at hi hj
    by_cases h1 : i = m.st.length <;> by_cases h2 : j = m.st.length
    · omega
    · rw [h1, upd1_self, upd1_lt (by omega)] at he
      exact absurd he.symm (hS.ne (by omega) ho)
    · rw [h2, upd1_self, upd1_lt (by omega)] at he
      exact absurd he (hS.ne (by omega) ho)
    · rw [upd1_lt (by omega), upd1_lt (by omega)] at he
      exact hS.inj i j (by omega) (by omega) he
  · simp only [List.length_append, List.length_singleton] at h2
    by_cases hkn : k = m.st.length
    · rw [hkn, upd1_self]; exact ob
    · rw [upd1_lt (by omega)]; exact hB.new k h1 (by omega)
  · show (σ.objs.set o _)[i]? = _
    rw [List.getElem?_set_ne (by omega)]
    exact hB.keep i hi hmi hk
theorem k_Do17 {mo tt g : Nat} {φb ψb φ ψ : Nat → Nat} {mb m : Ms} {L o c : Nat} {v : Vl} {rest : List D} {n : Int} {s t : Str} {ns : List Str} {l : List Co} {σb σ : Sg} (hB : Aft mo tt φb ψb mb σb φ ψ m σ) (hst : mb.st.length ≤ m.st.length) (hok : okM L m) (hv : okV m.st.length L v) (hmb : mo < σb.objs.length) (ob : σb.objs.length ≤ o) (ho : σ.objs[o]? = some (.cells ((celW φ v).map .v ++ rest))) :
    ACalls Tryd.prog 54 [.ptr mo 0, .v (.agg [.int .i64 17, .int .i64 n, .str s, .str t, .sl none false (ns.map .str), .sl (some 6) false (l.map encC)]), .msl o 0 1 (some 6) (some c)] σ (Outc mo tt φb ψb mb σb (doM (evM g) 17 s [v] m)) := by
  have hol := (List.getElem?_eq_some_iff.1 ho).1
  have hml := hB.sto.mlt
  obtain ⟨v0, v1, v2, v3, v4, v5, hcv⟩ := list6 (celW_len (φ := φ) v)
  have hr := fun b => hB.ref (b := b) hst hok hv ob (by omega) ho
  rw [hcv] at ho hr
  rw [show doM (evM g) 17 s [v] m = done (.ref m.st.length) { m with st := m.st ++ [v] } from rfl]
  refine acalls_fit Tryd.func54 (by kernel_rfl) c54M rfl (by simp [a54M]) fun hfit => ?_
  clear hfit
  simp -implicitDefEqProofs (maxSteps := 2000000) (disch := omega) [-getElem?_pos, a54M]

  simp -implicitDefEqProofs (maxSteps := 2000000) (disch := omega) [-getElem?_pos, List.getElem?_append_left, List.set_append_left, ho, hol]
  intro b
  refine ⟨_, _, WeakR.refl _ _ _, upd1 φ m.st.length b, upd1 ψ m.st.length o, by simp [done, resW, encW, celW, upd1_self], ?_⟩
  have := (hr b).add [Ob.cells [D.v (V.int .i64 17), D.v (V.int .i64 n), D.v (V.str s), D.v (V.str t), D.v (V.sl none false (ns.map .str)), D.v (V.sl (some 6) false (l.map encC))], Ob.cells [D.v (V.int .i64 6), D.v (V.int .i64 0), D.v (V.str []), D.v V.snil, D.v V.pnil, D.v (V.adr b 0)]]
  simpa [done] using this
end Go.Proofs.YtbifjffjibnjjaaDoor

/-
  Core expressions, walked: what a choice comes to. (Own work.)
-/
set_option linter.unusedVariables false
set_option linter.unusedSimpArgs false
set_option maxHeartbeats 1000000
namespace Go.Proofs.YtbifjffjibnjjaaDoor
open Go Go.Abs

/-- After a part: what is known of the machine. -/
theorem Okm.after {mo tt g : Nat} {φ ψ φ2 ψ2 : Nat → Nat} {m : Ms} {L : Nat} {env : En} {e : Co} {σ σ2 : Sg} (h : Okm mo tt φ ψ m L σ) (he : okC L e) (hen : okE m.st.length L env) (hA : Aft mo tt φ ψ m σ φ2 ψ2 (evM g e env m).m σ2) :
    (evM g e env m).m.fuel ≤ m.fuel ∧ m.st.length ≤ (evM g e env m).m.st.length ∧ (∀ v, (evM g e env m).v = some v → okV (evM g e env m).m.st.length (L + (m.fuel - (evM g e env m).m.fuel)) v) ∧
    okE (evM g e env m).m.st.length (L + (m.fuel - (evM g e env m).m.fuel)) env ∧ Okm mo tt φ2 ψ2 (evM g e env m).m (L + (m.fuel - (evM g e env m).m.fuel)) σ2 := by
  have hok := ok_ev 2000 (Nat.le_refl _) g m.fuel e env m L h.lo he hen h.ok (Nat.le_refl _)
  have h1 := hok.fuel
  have h2 := h.hi
  have h3 := h.lo
  exact ⟨hok.fuel, hok.st, hok.v, hen.mono hok.st (by omega), hA.sto, hok.ok, by omega, by omega⟩
theorem Aft.kept {mo tt i : Nat} {φ ψ φ' ψ' : Nat → Nat} {m m' : Ms} {σ σ' : Sg} {cs : List D} (h : Aft mo tt φ ψ m σ φ' ψ' m' σ') (hS : Sto mo tt φ ψ m σ) (hi : σ.objs[i]? = some (.cells cs)) (hm : i ≠ mo) : σ'.objs[i]? = some (.cells cs) :=
  (h.keep i (List.getElem?_eq_some_iff.1 hi).1 hm fun k hk => hS.ne hk hi).trans hi
theorem choose_stuck {R : Rec} {env : En} {a b c : Co} {m : Ms} {v : Vl} {m2 : Ms} (h : R a env m = ⟨some v, m2⟩) (hk : ¬ kindW v = 1) : chooseM R env a b c m = stuckM m2 := by
  unfold chooseM
  rw [h]
  simp only [Rs.bind]
  cases v <;> first | rfl | exact absurd rfl hk
theorem k_Choose {mo tt g : Nat} {φ ψ : Nat → Nat} {m : Ms} {L : Nat} {env : En} {n : Int} {s t : Str} {ns : List Str} {a b c : Co} {σ : Sg} (hR : EvCt mo tt g) (h : Okm mo tt φ ψ m L σ) (ha : okC L a) (hb : okC L b) (hc : okC L c) (hen : okE m.st.length L env) (hf0 : m.fuel < g) :
    ACalls Tryd.prog 51 [.ptr mo 0, .v (.agg [.int .i64 15, .int .i64 n, .str s, .str t, .sl none false (ns.map .str), .sl (some 6) false ([a, b, c].map encC)]), .v (encN φ env)] σ (Outc mo tt φ ψ m σ (chooseM (evM g) env a b c m)) := by
  have hS := h.sto
  have hml := hS.mlt
  obtain ⟨a0, a1, a2, a3, a4, a5, hca⟩ := list6 (show (coV a).length = 6 by cases a; rfl)
  obtain ⟨b0, b1, b2, b3, b4, b5, hcb⟩ := list6 (show (coV b).length = 6 by cases b; rfl)
  obtain ⟨c0, c1, c2, c3, c4, c5, hcc⟩ := list6 (show (coV c).length = 6 by cases c; rfl)
  have hea : encC a = .agg [a0, a1, a2, a3, a4, a5] := by rw [encC_coV, hca]
  have heb : encC b = .agg [b0, b1, b2, b3, b4, b5] := by rw [encC_coV, hcb]
  have hec : encC c = .agg [c0, c1, c2, c3, c4, c5] := by rw [encC_coV, hcc]
  have hev := fun xs : List Ob => hR a env m φ ψ ⟨σ.objs ++ xs, σ.toks⟩ L ⟨hS.add _, h.ok, h.lo, h.hi⟩ ha hen hf0
  simp only [List.map_cons, List.map_nil]
  rw [hea] at hev ⊢
  rw [heb, hec]
  refine acalls_fit Tryd.func51 (by kernel_rfl) c51 rfl (by simp [a51]) fun hf => ?_
  clear hf
  simp -implicitDefEqProofs (maxSteps := 2000000) (disch := omega) [-getElem?_pos, a51]
  refine (hev _).mono fun r σ2 ⟨φ2, ψ2, hr, hA⟩ => ?_
  have hA2 := hA.back hS
  obtain ⟨hf2, hs2, hv2, he2, hO2⟩ := h.after ha hen hA2
  generalize hrs : evM g a env m = rs at hr hA hA2 hf2 hs2 hv2 he2 hO2
  obtain ⟨v, m2⟩ := rs
  dsimp only at hr hA hA2 hf2 hs2 hv2 he2 hO2
  have h0 : σ2.objs[σ.objs.length]? = some _ := hA.loc hS (j := 0) rfl
  have h1 : σ2.objs[σ.objs.length + 1]? = some _ := hA.loc hS (j := 1) rfl
  have hl0 := (List.getElem?_eq_some_iff.1 h0).1
  have hl1 := (List.getElem?_eq_some_iff.1 h1).1
  cases v with
  | none =>
    subst hr
    unfold resW zW
    rw [show chooseM (evM g) env a b c m = ⟨none, m2⟩ by unfold chooseM; rw [hrs]; rfl]
    simp -implicitDefEqProofs (maxSteps := 2000000) (disch := omega) [-getElem?_pos, h0, h1, hl1, List.getElem?_append_left, List.set_append_left]
    exact ⟨_, _, WeakR.refl _ _ _, φ2, ψ2, rfl, (hA2.put _ (by omega) h1 (by omega)).add _⟩
  | some v =>
    subst hr
    obtain ⟨v1, v2, v3, v4, v5, hcv⟩ := celW_kind (φ := φ2) v
    have hvv : encW φ2 v = .agg [.int .i64 (kindW v), v1, v2, v3, v4, v5] := by unfold encW; rw [hcv]
    rw [show resW φ2 (some v) = .tup [.v (encW φ2 v), .v (.bool true)] from rfl, hvv]
    have hen2 := encN_ext (fun k hk => hA2.fe k hk) hen
    simp -implicitDefEqProofs (maxSteps := 2000000) (disch := omega) [-getElem?_pos, h0, h1, hl1]
    refine .mk (fun hk => ?_) fun hk => ?_
    · obtain ⟨x, rfl⟩ := kind1 hk
      simp only [celW] at hcv
      cases hcv
      simp -implicitDefEqProofs (maxSteps := 2000000) (disch := omega) [-getElem?_pos, h0, h1, hl1]
      refine .mk (fun hx => ?_) fun hx => ?_
      · have hc2 := fun xs : List Ob => hR c env m2 φ2 ψ2 ⟨σ2.objs ++ xs, σ2.toks⟩ _ ⟨hO2.sto.add xs, hO2.ok, hO2.lo, hO2.hi⟩ (hc.mono (by omega)) he2 (by omega)
        rw [hec, hen2] at hc2
        rw [show chooseM (evM g) env a b c m = evM g c env m2 by unfold chooseM; rw [hrs]; simp [Rs.bind, hx]]
        simp -implicitDefEqProofs (maxSteps := 2000000) (disch := omega) [-getElem?_pos, h0, h1, hl1, List.getElem?_append_left]
        refine (hc2 _).mono fun r σ3 ⟨φ3, ψ3, hr3, hA3⟩ => ?_
        have hA3b := hA3.back hO2.sto
        have h13 := hA3b.kept hO2.sto h1 (by omega)
        have hl13 := (List.getElem?_eq_some_iff.1 h13).1
        obtain ⟨x0, x1, x2, x3, x4, x5, w0, hr2⟩ := resW_cells φ3 (evM g c env m2).v
        subst hr3
        rw [hr2]
        simp -implicitDefEqProofs (maxSteps := 2000000) (disch := omega) [-getElem?_pos, h13, hl13, List.getElem?_set_self]
        exact ⟨_, _, WeakR.refl _ _ _, φ3, ψ3, hr2.symm, (hA2.trans hA3b hs2).put _ (by omega) h13 (by omega)⟩

      · have hc2 := fun xs : List Ob => hR b env m2 φ2 ψ2 ⟨σ2.objs ++ xs, σ2.toks⟩ _ ⟨hO2.sto.add xs, hO2.ok, hO2.lo, hO2.hi⟩ (hb.mono (by omega)) he2 (by omega)
        rw [heb, hen2] at hc2
        rw [show chooseM (evM g) env a b c m = evM g b env m2 by unfold chooseM; rw [hrs]; simp [Rs.bind, hx]]
        simp -implicitDefEqProofs (maxSteps := 2000000) (disch := omega) [-getElem?_pos, h0, h1, hl1, List.getElem?_append_left]
        refine (hc2 _).mono fun r σ3 ⟨φ3, ψ3, hr3, hA3⟩ => ?_
        have hA3b := hA3.back hO2.sto
        have h13 := hA3b.kept hO2.sto h1 (by omega)
        have hl13 := (List.getElem?_eq_some_iff.1 h13).1
        obtain ⟨x0, x1, x2, x3, x4, x5, w0, hr2⟩ := resW_cells φ3 (evM g b env m2).v
        subst hr3
        rw [hr2]
        simp -implicitDefEqProofs (maxSteps := 2000000) (disch := omega) [-getElem?_pos, h13, hl13, List.getElem?_set_self]
        exact ⟨_, _, WeakR.refl _ _ _, φ3, ψ3, hr2.symm, (hA2.trans hA3b hs2).put _ (by omega) h13 (by omega)⟩

    · rw [choose_stuck hrs hk]
      simp -implicitDefEqProofs (maxSteps := 2000000) (disch := omega) [-getElem?_pos, h0, h1, hl1]
      refine (k_Stuck (hO2.sto.add _)).mono fun r σ3 ⟨φ3, ψ3, hr3, hA3⟩ => ?_
      have hA3b := hA3.back hO2.sto
      have h13 := hA3b.kept hO2.sto h1 (by omega)
      have hl13 := (List.getElem?_eq_some_iff.1 h13).1
      obtain ⟨x0, x1, x2, x3, x4, x5, w0, hr2⟩ := resW_cells φ3 (stuckM (α := Vl) m2).v
      subst hr3
      rw [hr2]
      simp -implicitDefEqProofs (maxSteps := 2000000) (disch := omega) [-getElem?_pos, h13, hl13, List.getElem?_set_self]
      exact ⟨_, _, WeakR.refl _ _ _, φ3, ψ3, hr2.symm, (hA2.trans hA3b hs2).put _ (by omega) h13 (by omega)⟩

end Go.Proofs.YtbifjffjibnjjaaDoor

/-
  Core expressions, walked: cases. (Own work.)
-/
set_option linter.unusedVariables false
set_option linter.unusedSimpArgs false
set_option maxHeartbeats 2000000
namespace Go.Proofs.YtbifjffjibnjjaaDoor
open Go Go.Abs

theorem kind5 {v : Vl} (h : kindW v = 5) : ∃ n w, v = .tag n w := by cases v <;> simp [kindW] at h; exact ⟨_, _, rfl⟩
theorem cases_stuck {R : Rec} {env : En} {t : Str} {ns : List Str} {l : List Co} {m : Ms} {v : Vl} {m2 : Ms} (h : R (prt l 0) env m = ⟨some v, m2⟩) (hk : ¬ kindW v = 5) : casesM R env t ns l m = stuckM m2 := by
  unfold casesM
  rw [h]
  simp only [Rs.bind]
  cases v <;> first | rfl | exact absurd rfl hk
theorem arms_stuck {R : Rec} {env : En} {l : List Co} {t : Str} {n : Int} {w : Vl} {x : Str} {ns : List Str} {i : Nat} {below : Int} {m m2 : Ms} {v : Vl} (h : R (prt l (1 + 2 * i)) env m = ⟨some v, m2⟩) (hk : ¬ kindW v = 1) : armsM R env l t n w (x :: ns) i below m = stuckM m2 := by
  rw [armsM, h]
  simp only [Rs.bind]
  cases v <;> first | rfl | exact absurd rfl hk
structure CaS where
  i : Nat
  below : Nat
  m : Ms
  φ : Nat → Nat
  ψ : Nat → Nat
  τ : Sg
structure CaI (mo tt g : Nat) (φ2 ψ2 : Nat → Nat) (m2 : Ms) (σb : Sg) (L : Nat) (env : En) (l : List Co) (t : Str) (n : Int) (w : Vl) (ns : List Str) (x : CaS) : Prop where
  i : x.i ≤ ns.length
  b : x.below ≤ x.i
  eq : armsM (evM g) env l t n w ns 0 0 m2 = armsM (evM g) env l t n w (ns.drop x.i) x.i x.below x.m
  aft : Aft mo tt φ2 ψ2 m2 σb x.φ x.ψ x.m x.τ
  fuel : x.m.fuel ≤ m2.fuel
  st : m2.st.length ≤ x.m.st.length
  ok : okM (L + (m2.fuel - x.m.fuel)) x.m
theorem k_Cases {mo tt g : Nat} {φ ψ : Nat → Nat} {m : Ms} {L : Nat} {env : En} {n : Int} {s t : Str} {ns : List Str} {l : List Co} {σ : Sg} (hR : EvCt mo tt g) (h : Okm mo tt φ ψ m L σ) (hc : okC L (.mk 14 n s t ns l)) (hlen : l.length = 1 + 2 * ns.length + (if t = [] then 0 else 1)) (hen : okE m.st.length L env) (hf0 : m.fuel < g) :
    ACalls Tryd.prog 52 [.ptr mo 0, .v (.agg [.int .i64 14, .int .i64 n, .str s, .str t, .sl none false (ns.map .str), .sl (some 6) false (l.map encC)]), .v (encN φ env)] σ (Outc mo tt φ ψ m σ (casesM (evM g) env t ns l m)) := by
  have hS := h.sto
  have hml := hS.mlt
  have hhi := h.hi
  have hnl : ns.length ≤ 4000001 := by
    have := hc.num.2.2
    omega
  have hpr := fun i => hc.prt i
  obtain ⟨a, ha⟩ : ∃ a, l[0]? = some a := ⟨_, List.getElem?_eq_getElem (by omega)⟩
  have hpa : prt l 0 = a := by unfold prt; rw [ha]; rfl
  obtain ⟨a0, a1, a2, a3, a4, a5, hca⟩ := list6 (show (coV a).length = 6 by cases a; rfl)
  have hea : encC a = .agg [a0, a1, a2, a3, a4, a5] := by rw [encC_coV, hca]
  have hok0 := hpr 0
  rw [hpa] at hok0
  have hev := fun xs : List Ob => hR a env m φ ψ ⟨σ.objs ++ xs, σ.toks⟩ L ⟨hS.add _, h.ok, h.lo, h.hi⟩ hok0 hen hf0
  rw [hea] at hev
  refine acalls_fit Tryd.func52 (by kernel_rfl) c52K rfl (by simp [a52K]) fun hfit => ?_
  clear hfit
  simp -implicitDefEqProofs (maxSteps := 2000000) (disch := omega) [-getElem?_pos, a52K]

  simp -implicitDefEqProofs (maxSteps := 2000000) (disch := omega) [-getElem?_pos, ha, hea]
  refine ⟨by omega, ?_⟩
  refine (hev _).mono fun r σ2 ⟨φ2, ψ2, hr, hA⟩ => ?_
  have hA2 := hA.back hS
  obtain ⟨hf2, hs2, hv2, he2, hO2⟩ := h.after hok0 hen hA2
  generalize hrs : evM g a env m = rs at hr hA hA2 hf2 hs2 hv2 he2 hO2
  obtain ⟨v, m2⟩ := rs
  dsimp only at hr hA hA2 hf2 hs2 hv2 he2 hO2
  have h0 : σ2.objs[σ.objs.length]? = some _ := hA.loc hS (j := 0) rfl
  have h1 : σ2.objs[σ.objs.length + 1]? = some _ := hA.loc hS (j := 1) rfl
  have hl0 := (List.getElem?_eq_some_iff.1 h0).1
  have hl1 := (List.getElem?_eq_some_iff.1 h1).1
  have hol := hA2.objs
  cases v with
  | none =>
    subst hr
    unfold resW zW
    rw [show casesM (evM g) env t ns l m = ⟨none, m2⟩ by unfold casesM; rw [hpa, hrs]; rfl]
    simp -implicitDefEqProofs (maxSteps := 2000000) (disch := omega) [-getElem?_pos, h0, h1, hl1, List.getElem?_append_left, List.set_append_left]
    exact ⟨_, _, WeakR.refl _ _ _, φ2, ψ2, rfl, (hA2.put _ (by omega) h1 (by omega)).add _⟩
  | some v =>
    subst hr
    obtain ⟨v1, v2, v3, v4, v5, hcv⟩ := celW_kind (φ := φ2) v
    have hvv : encW φ2 v = .agg [.int .i64 (kindW v), v1, v2, v3, v4, v5] := by unfold encW; rw [hcv]
    rw [show resW φ2 (some v) = .tup [.v (encW φ2 v), .v (.bool true)] from rfl, hvv]
    have hen2 := encN_ext (fun k hk => hA2.fe k hk) hen
    simp -implicitDefEqProofs (maxSteps := 2000000) (disch := omega) [-getElem?_pos, h0, h1, hl1]
    refine .mk (fun hk => ?_) fun hk => ?_
    · obtain ⟨tn, w, rfl⟩ := kind5 hk
      simp only [celW] at hcv
      cases hcv
      simp -implicitDefEqProofs (maxSteps := 2000000) (disch := omega) [-getElem?_pos, h0, h1, hl1, List.getElem?_append_left]
      have hkt : kindW (.tag tn w) = 5 := rfl
      simp only [hkt]
      have hAb := hA2.add [Ob.cells [D.v (V.int .i64 5), D.v (V.int .i64 tn), D.v (V.str []), D.v (V.sl (some 6) false [.agg (celW φ2 w)]), D.v V.pnil, D.v V.pnil]]
      have hSb := hAb.sto
      have hvt : okV m2.st.length (L + (m.fuel - m2.fuel)) (.tag tn w) := hv2 _ rfl
      have hvw : okV m2.st.length (L + (m.fuel - m2.fuel)) w := by simpa only [okV] using hvt
      have hcs : casesM (evM g) env t ns l m = armsM (evM g) env l t tn w ns 0 0 m2 := by unfold casesM; rw [hpa, hrs]; rfl
      rw [hcs]
      obtain ⟨w0, w1, w2, w3, w4, w5, hcw⟩ := list6 (celW_len (φ := φ2) w)
      have b0 := (List.getElem?_append_left (l₂ := [Ob.cells [D.v (V.int .i64 5), D.v (V.int .i64 tn), D.v (V.str []), D.v (V.sl (some 6) false [.agg (celW φ2 w)]), D.v V.pnil, D.v V.pnil]]) hl0).trans h0
      have b1 := (List.getElem?_append_left (l₂ := [Ob.cells [D.v (V.int .i64 5), D.v (V.int .i64 tn), D.v (V.str []), D.v (V.sl (some 6) false [.agg (celW φ2 w)]), D.v V.pnil, D.v V.pnil]]) hl1).trans h1
      have b8 : (σ2.objs ++ [Ob.cells [D.v (V.int .i64 5), D.v (V.int .i64 tn), D.v (V.str []), D.v (V.sl (some 6) false [.agg (celW φ2 w)]), D.v V.pnil, D.v V.pnil]])[σ2.objs.length]? = some (Ob.cells [D.v (V.int .i64 5), D.v (V.int .i64 tn), D.v (V.str []), D.v (V.sl (some 6) false [.agg (celW φ2 w)]), D.v V.pnil, D.v V.pnil]) := by
        rw [List.getElem?_append_right (Nat.le_refl _), Nat.sub_self]
        rfl
      refine W_loop (α := CaS) ⟨0, 0, m2, φ2, ψ2, ⟨σ2.objs ++ [Ob.cells [D.v (V.int .i64 5), D.v (V.int .i64 tn), D.v (V.str []), D.v (V.sl (some 6) false [.agg (celW φ2 w)]), D.v V.pnil, D.v V.pnil]], σ2.toks⟩⟩ (fun x => ns.length - x.i) (fun x => ⟨[(0, .ptr mo 0), (2, .v (encN φ env)), (4, .ptr σ.objs.length 0), (6, .ptr (σ.objs.length + 1) 0), (7, .v (.bool false)), (8, .ptr σ2.objs.length 0), (10, .v (.int .i64 x.below)), (36, .v (.sl none false (ns.map .str))), (37, .v (.int .i64 ns.length)), (38, .v (.int .i64 x.i))], x.τ⟩)
        (fun x => CaI mo tt g φ2 ψ2 m2 ⟨σ2.objs ++ [Ob.cells [D.v (V.int .i64 5), D.v (V.int .i64 tn), D.v (V.str []), D.v (V.sl (some 6) false [.agg (celW φ2 w)]), D.v V.pnil, D.v V.pnil]], σ2.toks⟩ (L + (m.fuel - m2.fuel)) env l t tn w ns x)
        (.eq2 (by simp) (by simp)) ⟨Nat.zero_le _, Nat.le_refl _, by simp, Aft.refl hSb, Nat.le_refl _, Nat.le_refl _, hO2.ok.mono (by omega)⟩ fun x hx => ?_
      have hxi := hx.i
      have hxb := hx.b
      have hxf := hx.fuel
      have hAx := hAb.trans hx.aft hs2
      have g0 := hx.aft.kept hSb b0 (by omega)
      have g1 := hx.aft.kept hSb b1 (by omega)
      have g8 := hx.aft.kept hSb b8 (by omega)
      have hg0 := (List.getElem?_eq_some_iff.1 g0).1
      have hg1 := (List.getElem?_eq_some_iff.1 g1).1
      have hg8 := (List.getElem?_eq_some_iff.1 g8).1
      rw [hcw] at g8
      have hSx := hx.aft.sto
      have hox := hO2.hi
      have hlx := hO2.lo
      have hex := encN_ext (φ := φ) (φ' := x.φ) (fun k hk => hAx.fe k hk) hen
      have hst := hx.st
      have hOx : Okm mo tt x.φ x.ψ x.m (L + (m.fuel - m2.fuel) + (m2.fuel - x.m.fuel)) x.τ := ⟨hSx, hx.ok, by omega, by omega⟩
      have henx : okE x.m.st.length (L + (m.fuel - m2.fuel) + (m2.fuel - x.m.fuel)) env := he2.mono hst (by omega)
      have hwx : celW x.φ w = [w0, w1, w2, w3, w4, w5] := by rw [celW_ext (fun k hk => hx.aft.fe k hk) hvw, hcw]
      simp -implicitDefEqProofs (maxSteps := 2000000) (disch := omega) [-getElem?_pos]
      refine .mk (fun hi => ?_) fun hi => ?_
      · obtain ⟨nm, hnm⟩ : ∃ nm, ns[x.i]? = some nm := ⟨_, List.getElem?_eq_getElem hi⟩
        obtain ⟨p, hp⟩ : ∃ p, l[1 + 2 * x.i]? = some p := ⟨_, List.getElem?_eq_getElem (by omega)⟩
        have hpp : prt l (1 + 2 * x.i) = p := by unfold prt; rw [hp]; rfl
        have hokp := hpr (1 + 2 * x.i)
        rw [hpp] at hokp
        obtain ⟨p0, p1, p2, p3, p4, p5, hcp⟩ := list6 (show (coV p).length = 6 by cases p; rfl)
        have hep : encC p = .agg [p0, p1, p2, p3, p4, p5] := by rw [encC_coV, hcp]
        have hep2 := hR p env x.m x.φ x.ψ x.τ _ hOx (hokp.mono (by omega)) henx (by omega)
        rw [hep, hex] at hep2
        have hdn := drop_cons hnm
        have heq := hx.eq
        rw [hdn] at heq
        have hidx : ((1 : Int) + 2 * (x.i : Int)).toNat = 1 + 2 * x.i := by omega
        simp -implicitDefEqProofs (maxSteps := 2000000) (disch := omega) [-getElem?_pos, hnm, g0, hidx, hp, hep]
        refine ⟨by omega, ?_⟩
        repeat refine ⟨by omega, ?_⟩
        refine hep2.mono fun r σ3 ⟨φ3, ψ3, hr3, hA3⟩ => ?_
        obtain ⟨hf3, hs3, hv3, he3, hO3⟩ := hOx.after (hokp.mono (by omega)) henx hA3
        generalize hrs3 : evM g p env x.m = rs at hr3 hA3 hf3 hs3 hv3 he3 hO3
        obtain ⟨u, m3⟩ := rs
        dsimp only at hr3 hA3 hf3 hs3 hv3 he3 hO3
        have hA3s := hAx.trans hA3 (Nat.le_trans hs2 hst)
        have f0 := hA3.kept hSx g0 (by omega)
        have f1 := hA3.kept hSx g1 (by omega)
        have f8 := hA3.kept hSx g8 (by omega)
        have hf0l := (List.getElem?_eq_some_iff.1 f0).1
        have hf1l := (List.getElem?_eq_some_iff.1 f1).1
        have hf8l := (List.getElem?_eq_some_iff.1 f8).1
        cases u with
        | none =>
          subst hr3
          unfold resW zW
          rw [heq, show armsM (evM g) env l t tn w (nm :: ns.drop (x.i + 1)) x.i x.below x.m = ⟨none, m3⟩ by rw [armsM, hpp, hrs3]; rfl]
          simp -implicitDefEqProofs (maxSteps := 2000000) (disch := omega) [-getElem?_pos, f1, hf1l, List.getElem?_append_left, List.set_append_left]
          exact ⟨_, _, WeakR.refl _ _ _, φ3, ψ3, rfl, (hA3s.put _ (by omega) f1 (by omega)).add _⟩
        | some u =>
          subst hr3
          obtain ⟨u1, u2, u3, u4, u5, hcu⟩ := celW_kind (φ := φ3) u
          have huu : encW φ3 u = .agg [.int .i64 (kindW u), u1, u2, u3, u4, u5] := by unfold encW; rw [hcu]
          rw [show resW φ3 (some u) = .tup [.v (encW φ3 u), .v (.bool true)] from rfl, huu]
          simp -implicitDefEqProofs (maxSteps := 2000000) (disch := omega) [-getElem?_pos, f1, hf1l, List.getElem?_append_left]
          refine .mk (fun hk1 => ?_) fun hk1 => ?_
          · obtain ⟨z, rfl⟩ := kind1 hk1
            simp only [celW] at hcu
            cases hcu
            simp -implicitDefEqProofs (maxSteps := 2000000) (disch := omega) [-getElem?_pos, f1, hf1l, f8, hf8l, List.getElem?_append_left]
            refine .mk (fun hz => ?_) fun hz => ?_
            · subst hz
              obtain ⟨q, hq⟩ : ∃ q, l[2 + 2 * x.i]? = some q := ⟨_, List.getElem?_eq_getElem (by omega)⟩
              have hpq : prt l (2 + 2 * x.i) = q := by unfold prt; rw [hq]; rfl
              have hokq := hpr (2 + 2 * x.i)
              rw [hpq] at hokq
              obtain ⟨q0, q1, q2, q3, q4, q5, hcq⟩ := list6 (show (coV q).length = 6 by cases q; rfl)
              have heq2 : encC q = .agg [q0, q1, q2, q3, q4, q5] := by rw [encC_coV, hcq]
              have hcw3 : celW φ3 w = [w0, w1, w2, w3, w4, w5] := by rw [celW_ext (fun k hk => hA3.fe k hk) (hvw.mono hst (Nat.le_add_right _ (m2.fuel - x.m.fuel))), hwx]
              have hev4 := fun xs : List Ob => hR q (.cons nm w env) m3 φ3 ψ3 ⟨σ3.objs ++ xs, σ3.toks⟩ _ ⟨hO3.sto.add xs, hO3.ok, hO3.lo, hO3.hi⟩ (hokq.mono (by omega)) ⟨hvw.mono (by omega) (by omega), he3⟩ (by omega)
              have henc : encN φ3 (.cons nm w env) = .box (some 8) (.agg [.str nm, w0, w1, w2, w3, w4, w5, encN φ env]) 0 := by
                simp only [encN, hcw3, List.cons_append, List.nil_append]
                rw [encN_ext (φ := φ) (φ' := φ3) (fun k hk => hA3s.fe k hk) hen]
              rw [heq2, henc] at hev4
              rw [heq, show armsM (evM g) env l t z w (nm :: ns.drop (x.i + 1)) x.i x.below x.m = evM g q (.cons nm w env) m3 by rw [armsM, hpp, hrs3]; simp [Rs.bind, hpq]]
              have hidx2 : ((2 : Int) + 2 * (x.i : Int)).toNat = 2 + 2 * x.i := by omega
              have hnc := encN_cells (φ := φ) env
              have hno := encN_one (φ := φ) env
              simp only [V.cells] at hnc
              simp only [V.one] at hno
              simp -implicitDefEqProofs (maxSteps := 2000000) (disch := omega) [-getElem?_pos, f0, hf0l, f8, hf8l, List.getElem?_append_left, hidx2, hq, heq2, hnc, hno]
              refine ⟨by omega, by omega, one6 (hcw ▸ celW_one (φ := φ2) w), ?_⟩
              refine (hev4 _).mono fun r σ4 ⟨φ4, ψ4, hr4, hA4⟩ => ?_
              have hA4b := hA4.back hO3.sto
              have h14 := hA4b.kept hO3.sto f1 (by omega)
              have hl14 := (List.getElem?_eq_some_iff.1 h14).1
              obtain ⟨y0, y1, y2, y3, y4, y5, w9, hr5⟩ := resW_cells φ4 (evM g q (.cons nm w env) m3).v
              subst hr4
              rw [hr5]
              simp -implicitDefEqProofs (maxSteps := 2000000) (disch := omega) [-getElem?_pos, h14, hl14, List.getElem?_set_self]
              exact ⟨_, _, WeakR.refl _ _ _, φ4, ψ4, hr5.symm, (hA3s.trans hA4b (by omega)).put _ (by omega) h14 (by omega)⟩

            · simp -implicitDefEqProofs (maxSteps := 2000000) (disch := omega) [-getElem?_pos, f8, hf8l, List.getElem?_append_left]
              refine .mk (fun hlt => ?_) fun hlt => ?_
              · simp -implicitDefEqProofs (maxSteps := 2000000) (disch := omega) [-getElem?_pos]
                refine ⟨⟨x.i + 1, x.below + 1, m3, φ3, ψ3, ⟨σ3.objs ++ [.cells [.v (.int .i64 (kindW (Vl.int z))), .v (.int .i64 z), .v (.str []), .v .snil, .v .pnil, .v .pnil]], σ3.toks⟩⟩, ⟨by dsimp only; omega, by dsimp only; omega, ?_, (hx.aft.trans hA3 hst).add _, by dsimp only; omega, by dsimp only; omega, hO3.ok.mono (by dsimp only; omega)⟩, by dsimp only; omega, .eq (by simp)⟩
                rw [heq, armsM, hpp, hrs3]
                simp [Rs.bind, hz, hlt]
              · simp -implicitDefEqProofs (maxSteps := 2000000) (disch := omega) [-getElem?_pos]
                refine ⟨⟨x.i + 1, x.below, m3, φ3, ψ3, ⟨σ3.objs ++ [.cells [.v (.int .i64 (kindW (Vl.int z))), .v (.int .i64 z), .v (.str []), .v .snil, .v .pnil, .v .pnil]], σ3.toks⟩⟩, ⟨by dsimp only; omega, by dsimp only; omega, ?_, (hx.aft.trans hA3 hst).add _, by dsimp only; omega, by dsimp only; omega, hO3.ok.mono (by dsimp only; omega)⟩, by dsimp only; omega, .eq (by simp)⟩
                rw [heq, armsM, hpp, hrs3]
                simp [Rs.bind, hz, hlt]
          · rw [heq, arms_stuck (hpp ▸ hrs3) hk1]
            simp -implicitDefEqProofs (maxSteps := 2000000) (disch := omega) [-getElem?_pos]
            refine (k_Stuck (hO3.sto.add _)).mono fun r σ4 ⟨φ4, ψ4, hr4, hA4⟩ => ?_
            have hA4b := hA4.back hO3.sto
            have h14 := hA4b.kept hO3.sto f1 (by omega)
            have hl14 := (List.getElem?_eq_some_iff.1 h14).1
            obtain ⟨y0, y1, y2, y3, y4, y5, w9, hr5⟩ := resW_cells φ4 (stuckM (α := Vl) m3).v
            subst hr4
            rw [hr5]
            simp -implicitDefEqProofs (maxSteps := 2000000) (disch := omega) [-getElem?_pos, h14, hl14, List.getElem?_set_self]
            exact ⟨_, _, WeakR.refl _ _ _, φ4, ψ4, hr5.symm, (hA3s.trans hA4b (by omega)).put _ (by omega) h14 (by omega)⟩

      · have hie : x.i = ns.length := by omega
        have heq := hx.eq
        rw [hie, List.drop_length] at heq
        rw [heq]
        simp -implicitDefEqProofs (maxSteps := 2000000) (disch := omega) [-getElem?_pos, g0]
        refine .mk (fun ht => ?_) fun ht => ?_
        · rw [show armsM (evM g) env l t tn w [] ns.length x.below x.m = stuckM x.m by rw [armsM, if_pos ht]]
          simp -implicitDefEqProofs (maxSteps := 2000000) (disch := omega) [-getElem?_pos]
          refine (k_Stuck hSx).mono fun r σ4 ⟨φ4, ψ4, hr4, hA4⟩ => ?_
          have hA4b := hA4
          have h14 := hA4b.kept hSx g1 (by omega)
          have hl14 := (List.getElem?_eq_some_iff.1 h14).1
          obtain ⟨y0, y1, y2, y3, y4, y5, w9, hr5⟩ := resW_cells φ4 (stuckM (α := Vl) x.m).v
          subst hr4
          rw [hr5]
          simp -implicitDefEqProofs (maxSteps := 2000000) (disch := omega) [-getElem?_pos, h14, hl14, List.getElem?_set_self]
          exact ⟨_, _, WeakR.refl _ _ _, φ4, ψ4, hr5.symm, (hAx.trans hA4b (by omega)).put _ (by omega) h14 (by omega)⟩

        · have hll : l.length = 2 + 2 * ns.length := by rw [hlen, if_neg ht]; omega
          obtain ⟨q, hq⟩ : ∃ q, l[l.length - 1]? = some q := ⟨_, List.getElem?_eq_getElem (by omega)⟩
          have hpq : prt l (l.length - 1) = q := by unfold prt; rw [hq]; rfl
          have hokq := hpr (l.length - 1)
          rw [hpq] at hokq
          obtain ⟨q0, q1, q2, q3, q4, q5, hcq⟩ := list6 (show (coV q).length = 6 by cases q; rfl)
          have heq2 : encC q = .agg [q0, q1, q2, q3, q4, q5] := by rw [encC_coV, hcq]
          have hAs := hAx.put (.cells [.v (.int .i64 5), .v (.int .i64 (IntKind.i64.wrap (tn - x.below))), .v (.str []), .v (.sl (some 6) false [.agg [w0, w1, w2, w3, w4, w5]]), .v .pnil, .v .pnil]) (by omega) g8 (by omega)
          have hev4 := hR q (.cons t (.tag (IntKind.i64.wrap (tn - x.below)) w) env) x.m x.φ x.ψ _ _ ⟨hAs.sto, hOx.ok, hOx.lo, hOx.hi⟩ (hokq.mono (by omega)) ⟨hvw.mono hst (by omega), henx⟩ (by omega)
          have henc : encN x.φ (.cons t (.tag (IntKind.i64.wrap (tn - x.below)) w) env) = .box (some 8) (.agg [.str t, .int .i64 5, .int .i64 (IntKind.i64.wrap (tn - x.below)), .str [], .sl (some 6) false [.agg [w0, w1, w2, w3, w4, w5]], .pnil, .pnil, encN φ env]) 0 := by
            simp only [encN, celW, hwx, List.cons_append, List.nil_append, hex]
          rw [heq2, henc] at hev4
          rw [show armsM (evM g) env l t tn w [] ns.length x.below x.m = evM g q (.cons t (.tag (IntKind.i64.wrap (tn - x.below)) w) env) x.m by rw [armsM, if_neg ht, hpq]]
          have hidx3 : ((l.length : Int) - 1).toNat = l.length - 1 := by omega
          have hnc := encN_cells (φ := φ) env
          have hno := encN_one (φ := φ) env
          simp only [V.cells] at hnc
          simp only [V.one] at hno
          have i0 : (x.τ.objs.set σ2.objs.length (.cells [.v (.int .i64 5), .v (.int .i64 (IntKind.i64.wrap (tn - x.below))), .v (.str []), .v (.sl (some 6) false [.agg [w0, w1, w2, w3, w4, w5]]), .v .pnil, .v .pnil]))[σ.objs.length]? = _ := (List.getElem?_set_ne (by omega)).trans g0
          have i1 : (x.τ.objs.set σ2.objs.length (.cells [.v (.int .i64 5), .v (.int .i64 (IntKind.i64.wrap (tn - x.below))), .v (.str []), .v (.sl (some 6) false [.agg [w0, w1, w2, w3, w4, w5]]), .v .pnil, .v .pnil]))[σ.objs.length + 1]? = _ := (List.getElem?_set_ne (by omega)).trans g1
          simp -implicitDefEqProofs (maxSteps := 2000000) (disch := omega) [-getElem?_pos, g8, hg8, g0, g1, i0, i1, List.getElem?_set_self, hidx3, hq, heq2, hnc, hno]
          repeat refine ⟨by omega, ?_⟩
          refine (hev4).mono fun r σ4 ⟨φ4, ψ4, hr4, hA4⟩ => ?_
          have hA4b := hA4
          have h14 := hA4b.kept hAs.sto i1 (by omega)
          have hl14 := (List.getElem?_eq_some_iff.1 h14).1
          obtain ⟨y0, y1, y2, y3, y4, y5, w9, hr5⟩ := resW_cells φ4 (evM g q (.cons t (.tag (IntKind.i64.wrap (tn - x.below)) w) env) x.m).v
          subst hr4
          rw [hr5]
          simp -implicitDefEqProofs (maxSteps := 2000000) (disch := omega) [-getElem?_pos, h14, hl14, List.getElem?_set_self]
          exact ⟨_, _, WeakR.refl _ _ _, φ4, ψ4, hr5.symm, (hAs.trans hA4b (by omega)).put _ (by omega) h14 (by omega)⟩

    · rw [cases_stuck (hpa ▸ hrs) hk]
      simp -implicitDefEqProofs (maxSteps := 2000000) (disch := omega) [-getElem?_pos, h0, h1, hl1]
      refine (k_Stuck (hO2.sto.add _)).mono fun r σ3 ⟨φ3, ψ3, hr3, hA3⟩ => ?_
      have hA3b := hA3.back hO2.sto
      have h13 := hA3b.kept hO2.sto h1 (by omega)
      have hl13 := (List.getElem?_eq_some_iff.1 h13).1
      obtain ⟨x0, x1, x2, x3, x4, x5, w0, hr2⟩ := resW_cells φ3 (stuckM (α := Vl) m2).v
      subst hr3
      rw [hr2]
      simp -implicitDefEqProofs (maxSteps := 2000000) (disch := omega) [-getElem?_pos, h13, hl13, List.getElem?_set_self]
      exact ⟨_, _, WeakR.refl _ _ _, φ3, ψ3, hr2.symm, (hA2.trans hA3b hs2).put _ (by omega) h13 (by omega)⟩

end Go.Proofs.YtbifjffjibnjjaaDoor
