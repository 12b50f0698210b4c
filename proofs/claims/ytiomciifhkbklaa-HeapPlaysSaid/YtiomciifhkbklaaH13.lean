/-
  A heap, walked: a walk from a word. (Own work.)
-/
import Derived.Test.YtiomciifhkbklaaH12
set_option linter.unusedVariables false
set_option linter.unusedSimpArgs false
set_option maxHeartbeats 1000000
namespace Go.Proofs.Ytiomciifhkbklaa
open Go Go.Abs

theorem walkO_word {os : List Ho} {far : Nat} {v : Int} : walkO os far ⟨false, v⟩ = [0, v] := by unfold walkO; simp
theorem walkO_none {os : List Ho} {far : Nat} {v : Int} (h : idxAt os v = none) : walkO os far ⟨true, v⟩ = [-1] := by unfold walkO; simp [h]
theorem walkO_zero {os : List Ho} {v : Int} {i : Nat} {o : Ho} (h : idxAt os v = some i) (ho : os[i]? = some o) : walkO os 0 ⟨true, v⟩ = [1, o.k, o.l.length] := by unfold walkO; simp [h, ho]
theorem walkO_succ {os : List Ho} {far : Nat} {v : Int} {i : Nat} {o : Ho} (h : idxAt os v = some i) (ho : os[i]? = some o) : walkO os (far + 1) ⟨true, v⟩ = [1, o.k, o.l.length] ++ (o.l.take 4).flatMap (walkO os far) := by
  conv => lhs; unfold walkO
  simp [h, ho]
structure WSt where
  i : Nat
theorem k_Walk {hp oL oH : Nat} {half runs : Int} {os : List Ho} {dl dh : D} (ok : OkO os) : ∀ (far : Nat) (w : Wd) (σ : Sg), far ≤ 6 → Hp σ hp oL oH half os runs dl dh →
    ACalls Try.prog 12 [.ptr hp 0, .v (wv w), .v (.int .i64 far)] σ fun r σ' => r = .v (walkV os far w) ∧ σ' = σ := by
  intro far
  induction far with
  | zero =>
    intro w σ _ h
    obtain ⟨p, v⟩ := w
    have hob := fun (xs : List Ob) => k_Object (place := v) (h.on (σ' := ⟨σ.objs ++ xs, σ.toks⟩) on_app) ok
    unfold walkV
    refine acalls_fit Try.func12 (by kernel_rfl) c12 rfl (by simp [a12]) fun hf => ?_
    clear hf
    cases p with
    | false =>
      rw [walkO_word]
      simp -implicitDefEqProofs (maxSteps := 2000000) (disch := omega) [-getElem?_pos, a12]
      exact .fin _ ⟨rfl, rfl⟩ .lax
    | true =>
      cases hi : idxAt os v with
      | none =>
        rw [walkO_none hi]
        rw [objR_none hi] at hob
        simp -implicitDefEqProofs (maxSteps := 2000000) (disch := omega) [-getElem?_pos, a12]
        refine (hob _).then fun r hr => ?_
        subst hr
        simp -implicitDefEqProofs (maxSteps := 2000000) (disch := omega) [-getElem?_pos]
        exact .fin _ ⟨rfl, rfl⟩ .lax
      | some i =>
        obtain ⟨o, ho⟩ : ∃ o, os[i]? = some o := ⟨_, List.getElem?_eq_getElem (idxAt_iff.1 hi).1⟩
        rw [walkO_zero hi ho]
        rw [objR_some hi ho] at hob
        simp -implicitDefEqProofs (maxSteps := 2000000) (disch := omega) [-getElem?_pos, a12]
        refine (hob _).then fun r hr => ?_
        subst hr
        simp -implicitDefEqProofs (maxSteps := 2000000) (disch := omega) [-getElem?_pos]
        exact .fin _ ⟨rfl, rfl⟩ .lax
  | succ far ih =>
    intro w σ hfar h
    obtain ⟨p, v⟩ := w
    have hob := fun (xs : List Ob) => k_Object (place := v) (h.on (σ' := ⟨σ.objs ++ xs, σ.toks⟩) on_app) ok
    have hwl := walk_len os (far + 1) ⟨p, v⟩
    have hpw : 5 ^ (far + 1) ≤ 5 ^ 6 := Nat.pow_le_pow_right (by decide) (by omega)
    have hfz : ¬ ((far : Int) + 1 = 0) := by omega
    unfold walkV
    refine acalls_fit Try.func12 (by kernel_rfl) c12 rfl (by simp [a12]) fun hf => ?_
    clear hf
    cases p with
    | false =>
      rw [walkO_word]
      simp -implicitDefEqProofs (maxSteps := 2000000) (disch := omega) [-getElem?_pos, a12]
      exact .fin _ ⟨rfl, rfl⟩ .lax
    | true =>
      cases hi : idxAt os v with
      | none =>
        rw [walkO_none hi]
        rw [objR_none hi] at hob
        simp -implicitDefEqProofs (maxSteps := 2000000) (disch := omega) [-getElem?_pos, a12]
        refine (hob _).then fun r hr => ?_
        subst hr
        simp -implicitDefEqProofs (maxSteps := 2000000) (disch := omega) [-getElem?_pos]
        exact .fin _ ⟨rfl, rfl⟩ .lax
      | some i =>
        obtain ⟨o, ho⟩ : ∃ o, os[i]? = some o := ⟨_, List.getElem?_eq_getElem (idxAt_iff.1 hi).1⟩
        rw [walkO_succ hi ho] at hwl ⊢
        rw [objR_some hi ho] at hob
        have hks := ok.k o (List.mem_of_getElem? ho)
        simp -implicitDefEqProofs (maxSteps := 2000000) (disch := omega) [-getElem?_pos, a12]
        refine (hob _).then fun r hr => ?_
        subst hr
        simp -implicitDefEqProofs (maxSteps := 2000000) (disch := omega) [-getElem?_pos, hfz]
        obtain ⟨cw, hcw⟩ : ∃ cw, cw = Ob.cells [D.v (V.bool true), D.v (V.int .i64 v)] := ⟨_, rfl⟩
        rw [← hcw]
        have hF : ∀ j, ([1, o.k, (o.l.length : Int)] ++ (o.l.take j).flatMap (walkO os far)).length ≤ 3 + j * (3 * 5 ^ far) := fun j => by
          have key : ∀ l : List Wd, (l.flatMap (walkO os far)).length ≤ l.length * (3 * 5 ^ far) := by
            intro l
            induction l with
            | nil => simp
            | cons x l ih2 =>
              rw [List.flatMap_cons, List.length_append, List.length_cons, Nat.add_mul]
              have := walk_len os far x
              omega
          have h1 := key (o.l.take j)
          have h2 : (o.l.take j).length * (3 * 5 ^ far) ≤ j * (3 * 5 ^ far) := Nat.mul_le_mul_right _ (by rw [List.length_take]; omega)
          rw [List.length_append]
          simp only [List.length_cons, List.length_nil]
          omega
        obtain ⟨OUT, hOUT⟩ : ∃ OUT : Nat → List V, OUT = fun j => ([1, o.k, (o.l.length : Int)] ++ (o.l.take j).flatMap (walkO os far)).map (V.int .i64) := ⟨_, rfl⟩
        have hO0 : OUT 0 = [V.int .i64 1, V.int .i64 o.k, V.int .i64 o.l.length] := by rw [hOUT]; simp
        have hOl : ∀ j, (OUT j).length ≤ 3 + j * (3 * 5 ^ far) := fun j => by rw [hOUT]; dsimp only; rw [List.length_map]; exact hF j
        have hOs : ∀ (j : Nat) w, o.l[j]? = some w → OUT (j + 1) = OUT j ++ (walkO os far w).map (V.int .i64) := fun j w hw => by
          rw [hOUT]
          dsimp only
          rw [List.take_add_one, hw, List.flatMap_append, ← List.append_assoc, List.map_append]
          simp
        have hO4 : ∀ j, j ≤ 4 → (o.l.length ≤ j ∨ 4 ≤ j) → OUT j = ([1, o.k, (o.l.length : Int)] ++ (o.l.take 4).flatMap (walkO os far)).map (V.int .i64) := fun j h1 h2 => by
          rw [hOUT]
          dsimp only
          rcases h2 with h2 | h2
          · rw [List.take_of_length_le h2, List.take_of_length_le (l := o.l) (by omega)]
          · rw [show j = 4 by omega]
        have hpf : 5 ^ far ≤ 5 ^ 6 := Nat.pow_le_pow_right (by decide) (by omega)
        generalize hE : ([1, o.k, (o.l.length : Int)] ++ (o.l.take 4).flatMap (walkO os far)).map (V.int .i64) = E at hO4
        have hE' : V.int .i64 1 :: V.int .i64 o.k :: V.int .i64 o.l.length :: (List.flatMap (walkO os far) (List.take 4 o.l)).map (V.int .i64) = E := by rw [← hE]; simp
        rw [hE', ← hO0]
        have hfm : (far : Int) + 1 - 1 = far := by omega
        refine W_loop (α := Nat) 0 (fun j => 4 - j) (fun j => ⟨[(0, .ptr hp 0), (2, .v (.int .i64 ((far : Int) + 1))), (8, .v (.sl (some 2) false (o.l.map wv))), (10, .tsl σ.toks.length none (OUT j)), (11, .v (.int .i64 j))], ⟨σ.objs ++ [cw], σ.toks ++ [(OUT j).length]⟩⟩)
          (fun j => j ≤ 4 ∧ j ≤ o.l.length) (.tokF (i := 10) (sh := none) (by simp) (by simp) (by rw [hO0]; show 3 ≤ maxLen; decide)) ⟨by omega, by omega⟩ fun j ⟨hj4, hjl⟩ => ?_
        have hjo := hOl j
        have hjm : j * (3 * 5 ^ far) ≤ 4 * (3 * 5 ^ far) := Nat.mul_le_mul_right _ hj4
        by_cases h1 : j < o.l.length
        · by_cases h2 : j < 4
          · obtain ⟨w, hw⟩ : ∃ w, o.l[j]? = some w := ⟨_, List.getElem?_eq_getElem h1⟩
            have hih := fun (ts : List Nat) => ih w ⟨σ.objs ++ [cw], σ.toks ++ ts⟩ (by omega) (h.on on_app)
            have hos := hOs j w hw
            have hwl2 := walk_len os far w
            unfold walkV at hih
            have h2i : (j : Int) < 4 := by omega
            simp -implicitDefEqProofs (maxSteps := 2000000) (disch := omega) [-getElem?_pos, h1, h2i, hfm]
            intro w' hw'
            rw [hw] at hw'
            cases hw'
            refine (hih _).then fun r hr => ?_
            subst hr
            simp -implicitDefEqProofs (maxSteps := 2000000) (disch := omega) [-getElem?_pos]
            refine ⟨by omega, j + 1, ⟨by omega, by omega⟩, by dsimp only; omega, .eq2 (by simp [hos]) (by simp [hos])⟩
          · have h2i : ¬ (j : Int) < 4 := by omega
            simp -implicitDefEqProofs (maxSteps := 2000000) (disch := omega) [-getElem?_pos, h1, h2i]
            rw [hO4 j hj4 (.inr (by omega))]
            exact .fin _ ⟨rfl, rfl⟩ .tsl
        · simp -implicitDefEqProofs (maxSteps := 2000000) (disch := omega) [-getElem?_pos, h1]
          rw [hO4 j hj4 (.inl (by omega))]
          exact .fin _ ⟨rfl, rfl⟩ .tsl
end Go.Proofs.Ytiomciifhkbklaa
