/-
  Expressions: which may be: the document's own, fine, May. (Own work.)
-/
import Derived.Test.YtpdeaekmgljeaaaGreatDoorM10
import Derived.Lib.Join
import Derived.Shelf.Strings.OnBuilder
import Derived.Shelf.Strconv.Itoa4
import Derived.Test.YtpdeaekmgljeaaaGreatDoorChecked
import Derived.Lib.ItoaLen
set_option linter.unusedVariables false
set_option linter.unusedSimpArgs false
namespace Go.Proofs.YtpdeaekmgljeaaaGreatDoor
open Go Go.Abs

theorem nsz_mem {l : List Str} {s : Str} (h : s ∈ l) : s.length + 1 ≤ nsz l := by
  induction l with
  | nil => cases h
  | cons x l ih =>
    simp only [nsz]
    rcases List.mem_cons.1 h with rfl | h
    · omega
    · have := ih h; omega
structure AIn (l : List Str) (k : Int) (i : Nat) : Prop where
  hi : i ≤ l.length
  ha : ∀ (j : Nat) a, j < i → l[j]? = some a → isL a k = true
  hr : ∀ (j : Nat) a b, j + 1 < i → l[j]? = some a → l[j + 1]? = some b → a < b
theorem k_RAll {l : List Str} {k : Int} {σ : Sg} (hk : k = 1 ∨ k = 3) (hs : nsz l ≤ 1048576) : ACalls Tryz.prog 95 [.v (vS l), .v (.int .i64 k)] σ fun r σ' => r = .v (.bool ((l.all fun s => isL s k) && (riseL l && decide (l.length ≤ 30)))) ∧ σ' = σ := by
  have hln := nsz_len l
  refine acalls_fit Tryz.func95 (by kernel_rfl) c95 rfl (by simp [a95]) fun hf => ?_
  clear hf
  simp -implicitDefEqProofs (maxSteps := 2000000) (disch := omega) [-getElem?_pos, a95]
  refine W_loop (α := Nat) 0 (fun i => l.length - i) (fun i => ⟨[(0, .v (vS l)), (1, .v (.int .i64 k)), (5, .v (.int .i64 i))], σ⟩) (fun i => AIn l k i)
    (.eq (by simp)) ⟨Nat.zero_le _, fun j a h => by omega, fun j a b h => by omega⟩ fun i ⟨hi, ha, hr⟩ => ?_
  simp -implicitDefEqProofs (maxSteps := 2000000) (disch := omega) [-getElem?_pos]
  refine .mk (fun h => ?_) fun h => ?_
  · obtain ⟨x, hx⟩ : ∃ x, l[i]? = some x := ⟨l[i], List.getElem?_eq_getElem h⟩
    have hxl := nsz_mem (List.mem_of_getElem? hx)
    simp -implicitDefEqProofs (maxSteps := 2000000) (disch := omega) [-getElem?_pos, hx]
    refine ⟨h, ?_⟩
    refine (k_RIs (by omega) hk).then fun r hr1 => ?_
    subst hr1
    cases hI : isL x k with
    | false =>
      simp -implicitDefEqProofs (maxSteps := 2000000) (disch := omega) [-getElem?_pos, hx]
      have hB : (l.all fun s => isL s k) = false := by
        cases hb : l.all fun s => isL s k with
        | false => rfl
        | true =>
          have h2 := List.all_eq_true.1 hb x (List.mem_of_getElem? hx)
          rw [hI] at h2
          cases h2
      exact .fin (.v (.bool false)) ⟨by rw [hB]; rfl, rfl⟩ (.refl _)
    | true =>
      have ha' : ∀ (j : Nat) a, j < i + 1 → l[j]? = some a → isL a k = true := fun j a hj hja => by
        by_cases hji : j < i
        · exact ha j a hji hja
        · have : j = i := by omega
          subst this
          rw [hx] at hja
          cases hja
          exact hI
      simp -implicitDefEqProofs (maxSteps := 2000000) (disch := omega) [-getElem?_pos, hx]
      refine .mk (fun h0 => ?_) fun h0 => ?_
      · obtain ⟨y, hy⟩ : ∃ y, l[i - 1]? = some y := ⟨l[i - 1], List.getElem?_eq_getElem (by omega)⟩
        have ei : ((i : Int) - 1).toNat = i - 1 := by omega
        simp -implicitDefEqProofs (maxSteps := 2000000) (disch := omega) [-getElem?_pos, hx, ei, hy]
        refine ⟨by omega, by omega, by omega, ?_⟩
        simp -implicitDefEqProofs (maxSteps := 2000000) (disch := omega) [-getElem?_pos, hx, less_eq]
        refine .mk (fun hq => ?_) fun hq => ?_
        · simp -implicitDefEqProofs (maxSteps := 2000000) (disch := omega) [-getElem?_pos]
          refine ⟨i + 1, ⟨by omega, ha', fun j a b hj hja hjb => ?_⟩, by dsimp only; omega, .eq (by simp)⟩
          by_cases hji : j + 1 < i
          · exact hr j a b hji hja hjb
          · have : j = i - 1 := by omega
            subst this
            rw [hy] at hja
            rw [show i - 1 + 1 = i by omega, hx] at hjb
            cases hja
            cases hjb
            exact hq
        · simp -implicitDefEqProofs (maxSteps := 2000000) (disch := omega) [-getElem?_pos]
          have hR : riseL l = false := by
            cases hb : riseL l with
            | false => rfl
            | true => exact absurd ((riseL_iff l).1 hb (i - 1) y x hy (by rw [show i - 1 + 1 = i by omega]; exact hx)) hq
          exact .fin (.v (.bool false)) ⟨by rw [hR]; simp, rfl⟩ (.refl _)
      · simp -implicitDefEqProofs (maxSteps := 2000000) (disch := omega) [-getElem?_pos, hx]
        exact ⟨i + 1, ⟨by omega, ha', fun j a b hj => by omega⟩, by dsimp only; omega, .eq (by simp)⟩
  · simp -implicitDefEqProofs (maxSteps := 2000000) (disch := omega) [-getElem?_pos]
    have hR : riseL l = true := (riseL_iff l).2 fun j a b hja hjb => hr j a b (by have := (List.getElem?_eq_some_iff.1 hjb).1; omega) hja hjb
    have hA : (l.all fun s => isL s k) = true := List.all_eq_true.2 fun s hs => by
      obtain ⟨j, hj⟩ := List.mem_iff_getElem?.1 hs
      exact ha j s (by have := (List.getElem?_eq_some_iff.1 hj).1; omega) hj
    refine .fin _ ⟨?_, rfl⟩ (.refl _)
    rw [hR, hA, Bool.true_and, Bool.true_and]
    congr 2
    simp
    omega
end Go.Proofs.YtpdeaekmgljeaaaGreatDoor

/-
  Expressions: which may be: the document's own, fine, May. (Own work.)
-/
set_option linter.unusedVariables false
set_option linter.unusedSimpArgs false
namespace Go.Proofs.YtpdeaekmgljeaaaGreatDoor
open Go Go.Abs

structure MSt2 where
  i : Nat
  m : Bool
theorem k_ROwn {e : Ex} {σ : Sg} (he : csz e ≤ 1048576) : ACalls Tryz.prog 60 [.v (encE e)] σ fun r σ' => r = .v (.bool (ownB e)) ∧ σ' = σ := by
  cases e with
  | mk k p n s t ls ns l =>
  have hB : ownB (.mk k p n s t ls ns l) = if (l.length : Int) ≠ partsN k ls.length (decide (t ≠ [])) ∨ n < 0 ∨ (0 < n ∧ k ≠ 1) ∨ textB k s = false then false
    else if k = 8 then (ls.all fun s => isL s 1) && (riseL ls && decide (ls.length ≤ 30)) && decide (ns.length = 0) && decide (t = [])
    else if k = 14 then (ls.all fun s => isL s 3) && (riseL ls && decide (ls.length ≤ 30)) && decide (ns.length = ls.length) && (ns.all fun s => isL s 1) && (decide (t = []) || isL t 1) && decide (1 < l.length)
    else if k = 7 then isL t 1 && decide (ls.length + ns.length = 0)
    else decide (t = []) && decide (ls.length + ns.length = 0) := rfl
  simp only [csz] at he
  have hn1 := nsz_len ls
  have hn2 := nsz_len ns
  have hll := cszL_len l
  generalize ownB (.mk k p n s t ls ns l) = B at hB ⊢
  have kp := fun o σ => k_RParts (k := k) (labels := ls.length) (o := o) (σ := σ) (by omega) (by omega)
  have kt := fun σ => k_REText (k := k) (p := p) (n := n) (s := s) (t := t) (ls := ls) (ns := ns) (l := l) (σ := σ) (by omega)
  have ka1 := fun σ => k_RAll (l := ls) (k := 1) (σ := σ) (.inl rfl) (by omega)
  have ka3 := fun σ => k_RAll (l := ls) (k := 3) (σ := σ) (.inr rfl) (by omega)
  have ki := fun σ => k_RIs (s := t) (k := 1) (σ := σ) (by omega) (.inl rfl)
  rw [encE_mk] at kt ⊢
  have hte : (!List.isEmpty t) = decide (t ≠ []) := by cases t <;> simp
  have hte2 : List.isEmpty t = decide (t = []) := by cases t <;> simp
  refine acalls_fit Tryz.func60 (by kernel_rfl) c60 rfl (by simp [a60]) fun hf => ?_
  clear hf
  rw [← hte] at hB
  simp -implicitDefEqProofs (maxSteps := 2000000) (disch := omega) [-getElem?_pos, a60]
  refine (kt _).then fun r hr => ?_
  subst hr
  simp -implicitDefEqProofs (maxSteps := 2000000) (disch := omega) [-getElem?_pos]
  refine (kp _ _).then fun r hr => ?_
  subst hr
  obtain ⟨P, hP⟩ : ∃ P, P = partsN k ls.length (!List.isEmpty t) := ⟨_, rfl⟩
  rw [← hP] at hB ⊢
  by_cases h1 : (l.length : Int) = P
  rotate_left
  · rw [if_pos (.inl h1)] at hB
    simp -implicitDefEqProofs (maxSteps := 2000000) (disch := omega) [-getElem?_pos, h1]
    exact .fin (.v (.bool false)) ⟨by rw [hB], rfl⟩ (.refl _)
  by_cases h2 : n < 0
  · rw [if_pos (.inr (.inl h2))] at hB
    simp -implicitDefEqProofs (maxSteps := 2000000) (disch := omega) [-getElem?_pos, h1, h2]
    exact .fin (.v (.bool false)) ⟨by rw [hB], rfl⟩ (.refl _)
  by_cases h3 : 0 < n
  · have h30 : ¬ n = 0 := by omega
    by_cases h4 : k = 1
    rotate_left
    · rw [if_pos (.inr (.inr (.inl ⟨h3, h4⟩)))] at hB
      simp -implicitDefEqProofs (maxSteps := 2000000) (disch := omega) [-getElem?_pos, h1, h2, h30, h4]
      exact .fin (.v (.bool false)) ⟨by rw [hB], rfl⟩ (.refl _)
    subst h4
    cases hT : textB 1 s with
    | false =>
      rw [if_pos (.inr (.inr (.inr hT)))] at hB
      simp -implicitDefEqProofs (maxSteps := 2000000) (disch := omega) [-getElem?_pos, h1, h2, h30, hT]
      exact .fin (.v (.bool false)) ⟨by rw [hB], rfl⟩ (.refl _)
    | true =>
      rw [if_neg (by simp [h1, h2, hT]), if_neg (by decide), if_neg (by decide), if_neg (by decide)] at hB
      simp -implicitDefEqProofs (maxSteps := 2000000) (disch := omega) [-getElem?_pos, h1, h2, h30, hT]
      refine .mk (fun hl0 => ?_) fun hl0 => ?_
      rotate_left
      · simp -implicitDefEqProofs (maxSteps := 2000000) (disch := omega) [-getElem?_pos, hl0]
        exact .fin (.v (.bool false)) ⟨by rw [hB]; have : ¬ ls.length = 0 := fun h => hl0 (List.length_eq_zero_iff.1 h); simp [hl0], rfl⟩ (.refl _)
      subst hl0
      by_cases hn0 : ns = []
      rotate_left
      · have hp : 0 < ns.length := List.length_pos_iff.2 hn0
        simp -implicitDefEqProofs (maxSteps := 2000000) (disch := omega) [-getElem?_pos, hn0, hp]
        exact .fin (.v (.bool false)) ⟨by rw [hB]; simp [hn0], rfl⟩ (.refl _)
      subst hn0
      simp -implicitDefEqProofs (maxSteps := 2000000) (disch := omega) [-getElem?_pos]
      exact .fin (.v (.bool (List.isEmpty t))) ⟨by rw [hB, hte2]; simp, rfl⟩ (.refl _)
  · have h30 : n = 0 := by omega
    subst h30
    cases hT : textB k s with
    | false =>
      rw [if_pos (.inr (.inr (.inr hT)))] at hB
      simp -implicitDefEqProofs (maxSteps := 2000000) (disch := omega) [-getElem?_pos, h1, hT]
      exact .fin (.v (.bool false)) ⟨by rw [hB], rfl⟩ (.refl _)
    | true =>
      rw [if_neg (by simp [h1, hT])] at hB
      by_cases h8 : k = 8
      · rw [if_pos h8] at hB
        subst h8
        simp -implicitDefEqProofs (maxSteps := 2000000) (disch := omega) [-getElem?_pos, h1, hT]
        refine (ka1 _).then fun r hr => ?_
        subst hr
        cases hX : (ls.all fun s => isL s 1) && (riseL ls && decide (ls.length ≤ 30)) with
        | false =>
          rw [hX] at hB
          simp -implicitDefEqProofs (maxSteps := 2000000) (disch := omega) [-getElem?_pos]
          exact .fin (.v (.bool false)) ⟨by rw [hB]; simp, rfl⟩ (.refl _)
        | true =>
          rw [hX] at hB
          simp -implicitDefEqProofs (maxSteps := 2000000) (disch := omega) [-getElem?_pos]
          refine .mk (fun hn0 => ?_) fun hn0 => ?_
          · simp -implicitDefEqProofs (maxSteps := 2000000) (disch := omega) [-getElem?_pos, hn0]
            exact .fin (.v (.bool (List.isEmpty t))) ⟨by rw [hB, hte2]; simp [hn0], rfl⟩ (.refl _)
          · simp -implicitDefEqProofs (maxSteps := 2000000) (disch := omega) [-getElem?_pos, hn0]
            exact .fin (.v (.bool false)) ⟨by rw [hB]; simp [hn0], rfl⟩ (.refl _)
      rw [if_neg h8] at hB
      by_cases h14 : k = 14
      · rw [if_pos h14] at hB
        subst h14
        simp -implicitDefEqProofs (maxSteps := 2000000) (disch := omega) [-getElem?_pos, h1, hT]
        refine W_loop (α := Nat) 0 (fun i => ns.length - i) (fun i => ⟨[(1, .ptr σ.objs.length 0), (4, .v (.int .i64 i))], ⟨σ.objs ++ [obE (.mk 14 p 0 s t ls ns l)], σ.toks⟩⟩) (fun i => i ≤ ns.length ∧ ∀ (j : Nat) a, j < i → ns[j]? = some a → isL a 1 = true) (.eq2 (by simp [obE_mk]) (by simp)) ⟨Nat.zero_le _, fun j a h => by omega⟩ fun i ⟨hi, ha⟩ => ?_
        simp -implicitDefEqProofs (maxSteps := 2000000) (disch := omega) [-getElem?_pos, obE_mk]
        refine .mk (fun h => ?_) fun h => ?_
        · obtain ⟨x, hx⟩ : ∃ x, ns[i]? = some x := ⟨ns[i], List.getElem?_eq_getElem h⟩
          have hxl := nsz_mem (List.mem_of_getElem? hx)
          simp -implicitDefEqProofs (maxSteps := 2000000) (disch := omega) [-getElem?_pos, hx, obE_mk]
          refine ⟨h, ?_⟩
          refine (k_RIs (by omega) (.inl rfl)).then fun r hr1 => ?_
          subst hr1
          cases hI : isL x 1 with
          | false =>
            have hA : (ns.all fun s => isL s 1) = false := by
              cases hb : ns.all fun s => isL s 1 with
              | false => rfl
              | true =>
                have h2 := List.all_eq_true.1 hb x (List.mem_of_getElem? hx)
                rw [hI] at h2
                cases h2
            rw [hA] at hB
            simp -implicitDefEqProofs (maxSteps := 2000000) (disch := omega) [-getElem?_pos]
            exact .fin (.v (.bool false)) ⟨by rw [hB]; simp, rfl⟩ (.refl _)
          | true =>
            simp -implicitDefEqProofs (maxSteps := 2000000) (disch := omega) [-getElem?_pos]
            refine ⟨i + 1, ⟨h, fun j a hj hja => ?_⟩, by dsimp only; omega, .eq2 (by simp [obE_mk]) (by simp)⟩
            by_cases hji : j < i
            · exact ha j a hji hja
            · have : j = i := by omega
              subst this
              rw [hx] at hja
              cases hja
              exact hI
        · have hA : (ns.all fun s => isL s 1) = true := List.all_eq_true.2 fun s hs => by
            obtain ⟨j, hj⟩ := List.mem_iff_getElem?.1 hs
            exact ha j s (by have := (List.getElem?_eq_some_iff.1 hj).1; omega) hj
          rw [hA] at hB
          simp -implicitDefEqProofs (maxSteps := 2000000) (disch := omega) [-getElem?_pos, obE_mk]
          refine (ka3 _).then fun r hr => ?_
          subst hr
          cases hX : (ls.all fun s => isL s 3) && (riseL ls && decide (ls.length ≤ 30)) with
          | false =>
            rw [hX] at hB
            simp -implicitDefEqProofs (maxSteps := 2000000) (disch := omega) [-getElem?_pos]
            exact .fin (.v (.bool false)) ⟨by rw [hB]; simp, rfl⟩ (.refl _)
          | true =>
            rw [hX] at hB
            simp -implicitDefEqProofs (maxSteps := 2000000) (disch := omega) [-getElem?_pos]
            refine .mk (fun he1 => ?_) fun he1 => ?_
            rotate_left
            · simp -implicitDefEqProofs (maxSteps := 2000000) (disch := omega) [-getElem?_pos, he1]
              exact .fin (.v (.bool false)) ⟨by rw [hB]; have : ¬ ns.length = ls.length := fun h => he1 (by rw [h]); simp [this], rfl⟩ (.refl _)
            have he2 : ns.length = ls.length := by omega
            simp -implicitDefEqProofs (maxSteps := 2000000) (disch := omega) [-getElem?_pos, he1]
            refine .mk (fun hl1 => ?_) fun hl1 => ?_
            rotate_left
            · simp -implicitDefEqProofs (maxSteps := 2000000) (disch := omega) [-getElem?_pos, hl1]
              exact .fin (.v (.bool false)) ⟨by rw [hB, decide_eq_false (by omega : ¬ 1 < l.length)]; simp, rfl⟩ (.refl _)
            simp -implicitDefEqProofs (maxSteps := 2000000) (disch := omega) [-getElem?_pos, hl1]
            refine .mk (fun ht => ?_) fun ht => ?_
            · simp -implicitDefEqProofs (maxSteps := 2000000) (disch := omega) [-getElem?_pos, ht]
              exact .fin (.v (.bool true)) ⟨by rw [hB, decide_eq_true (by omega : 1 < l.length)]; simp [ht, he2], rfl⟩ (.refl _)
            · simp -implicitDefEqProofs (maxSteps := 2000000) (disch := omega) [-getElem?_pos, ht]
              refine (ki _).then fun r hr => ?_
              subst hr
              simp -implicitDefEqProofs (maxSteps := 2000000) (disch := omega) [-getElem?_pos]
              exact .fin (.v (.bool (isL t 1))) ⟨by rw [hB, decide_eq_true (by omega : 1 < l.length)]; simp [ht, he2], rfl⟩ (.refl _)
      rw [if_neg h14] at hB
      by_cases h7 : k = 7
      · rw [if_pos h7] at hB
        subst h7
        simp -implicitDefEqProofs (maxSteps := 2000000) (disch := omega) [-getElem?_pos, h1, hT]
        refine .mk (fun hl0 => ?_) fun hl0 => ?_
        rotate_left
        · simp -implicitDefEqProofs (maxSteps := 2000000) (disch := omega) [-getElem?_pos, hl0]
          exact .fin (.v (.bool false)) ⟨by rw [hB]; have : ¬ ls.length = 0 := fun h => hl0 (List.length_eq_zero_iff.1 h); simp [hl0], rfl⟩ (.refl _)
        subst hl0
        by_cases hn0 : ns = []
        rotate_left
        · have hp : 0 < ns.length := List.length_pos_iff.2 hn0
          simp -implicitDefEqProofs (maxSteps := 2000000) (disch := omega) [-getElem?_pos, hn0, hp]
          exact .fin (.v (.bool false)) ⟨by rw [hB]; simp [hn0], rfl⟩ (.refl _)
        subst hn0
        simp -implicitDefEqProofs (maxSteps := 2000000) (disch := omega) [-getElem?_pos]
        refine (ki _).then fun r hr => ?_
        subst hr
        simp -implicitDefEqProofs (maxSteps := 2000000) (disch := omega) [-getElem?_pos]
        exact .fin (.v (.bool (isL t 1))) ⟨by rw [hB]; simp, rfl⟩ (.refl _)
      rw [if_neg h7] at hB
      simp -implicitDefEqProofs (maxSteps := 2000000) (disch := omega) [-getElem?_pos, h1, hT, h8, h14]
      refine .mk (fun hl0 => ?_) fun hl0 => ?_
      rotate_left
      · simp -implicitDefEqProofs (maxSteps := 2000000) (disch := omega) [-getElem?_pos, hl0]
        exact .fin (.v (.bool false)) ⟨by rw [hB]; have : ¬ ls.length = 0 := fun h => hl0 (List.length_eq_zero_iff.1 h); simp [hl0], rfl⟩ (.refl _)
      subst hl0
      by_cases hn0 : ns = []
      rotate_left
      · have hp : 0 < ns.length := List.length_pos_iff.2 hn0
        simp -implicitDefEqProofs (maxSteps := 2000000) (disch := omega) [-getElem?_pos, hn0, hp]
        exact .fin (.v (.bool false)) ⟨by rw [hB]; simp [hn0], rfl⟩ (.refl _)
      subst hn0
      simp -implicitDefEqProofs (maxSteps := 2000000) (disch := omega) [-getElem?_pos, h7]
      exact .fin (.v (.bool (List.isEmpty t))) ⟨by rw [hB, hte2]; simp, rfl⟩ (.refl _)
theorem k_RFine (e : Ex) : ∀ {σ : Sg}, csz e ≤ 1048576 → ACalls Tryz.prog 34 [.v (encE e)] σ fun r σ' => r = .v (.bool (fineB e)) ∧ σ' = σ := by
  refine Ex.ind (P := fun e => ∀ {σ : Sg}, csz e ≤ 1048576 → ACalls Tryz.prog 34 [.v (encE e)] σ fun r σ' => r = .v (.bool (fineB e)) ∧ σ' = σ) (fun k p n s t ls ns l ih => ?_) e
  intro σ he
  have ko := fun σ => k_ROwn (e := .mk k p n s t ls ns l) (σ := σ) he
  have hB : fineB (.mk k p n s t ls ns l) = (ownB (.mk k p n s t ls ns l) && fineLB l) := by rw [fineB]
  generalize fineB (.mk k p n s t ls ns l) = B at hB ⊢
  generalize ownB (.mk k p n s t ls ns l) = O at hB ko
  have hsz : ∀ x ∈ l, csz x ≤ 1048576 := fun x hx => by
    have := cszL_mem hx
    simp only [csz] at he
    omega
  have hll : l.length ≤ 1048576 := by
    have := cszL_len l
    simp only [csz] at he
    omega
  rw [encE_mk] at ko ⊢
  refine acalls_fit Tryz.func34 (by kernel_rfl) c34 rfl (by simp [a34]) fun hf => ?_
  clear hf
  simp -implicitDefEqProofs (maxSteps := 2000000) (disch := omega) [-getElem?_pos, a34]
  refine (ko _).then fun r hr => ?_
  subst hr
  simp -implicitDefEqProofs (maxSteps := 2000000) (disch := omega) [-getElem?_pos]
  refine W_loop (α := MSt2) ⟨0, O⟩ (fun z => l.length - z.i) (fun z => ⟨[(1, .ptr σ.objs.length 0), (3, .v (.bool z.m)), (4, .v (.int .i64 z.i))], ⟨σ.objs ++ [obE (.mk k p n s t ls ns l)], σ.toks⟩⟩) (fun z => z.i ≤ l.length ∧ B = (z.m && fineLB (l.drop z.i))) (.eq2 (by simp [obE_mk]) (by simp)) ⟨Nat.zero_le _, by simpa using hB⟩ fun ⟨i, m⟩ ⟨hi, hm⟩ => ?_
  dsimp only at hi hm ⊢
  simp -implicitDefEqProofs (maxSteps := 2000000) (disch := omega) [-getElem?_pos, obE_mk]
  refine .mk (fun h => ?_) fun h => ?_
  · obtain ⟨x, hx⟩ : ∃ x, l[i]? = some x := ⟨l[i], List.getElem?_eq_getElem h⟩
    rw [drop_cons hx, fineLB] at hm
    cases m with
    | false =>
      simp -implicitDefEqProofs (maxSteps := 2000000) (disch := omega) [-getElem?_pos, obE_mk]
      exact .fin (.v (.bool false)) ⟨by rw [hm]; rfl, rfl⟩ (.refl _)
    | true =>
      simp -implicitDefEqProofs (maxSteps := 2000000) (disch := omega) [-getElem?_pos, hx, obE_mk]
      refine ⟨h, ?_⟩
      refine (ih x (List.mem_of_getElem? hx) (hsz x (List.mem_of_getElem? hx))).then fun r hr => ?_
      subst hr
      simp -implicitDefEqProofs (maxSteps := 2000000) (disch := omega) [-getElem?_pos]
      exact ⟨⟨i + 1, fineB x⟩, ⟨h, by rw [hm]; simp⟩, by dsimp only; omega, .eq2 (by simp [obE_mk]) (by simp)⟩
  · rw [List.drop_eq_nil_of_le (by omega)] at hm
    simp -implicitDefEqProofs (maxSteps := 2000000) (disch := omega) [-getElem?_pos]
    exact .fin (.v (.bool m)) ⟨by rw [hm]; simp [fineLB], rfl⟩ (.refl _)
theorem k_RMay {e : Ex} {σ : Sg} (he : csz e ≤ 1048576) : ACalls Tryz.prog 11 [.v (encE e)] σ fun r σ' => r = .v (.bool (mayB e)) ∧ σ' = σ := by
  have kd := fun σ => k_RDepth e (σ := σ) he
  have kn := fun σ => k_RNodes e (σ := σ) he
  have kf := fun σ => k_RFine e (σ := σ) he
  have hB : mayB e = (decide (dep e ≤ 60) && (decide (nds e ≤ 1500) && fineB e)) := rfl
  generalize mayB e = B at hB ⊢
  generalize fineB e = F at hB kf
  generalize dep e = d at hB kd
  generalize nds e = m at hB kn
  cases e with
  | mk k p n s t ls ns l =>
  rw [encE_mk] at kd kn kf ⊢
  refine acalls_fit Tryz.func11 (by kernel_rfl) c11 rfl (by simp [a11]) fun hf => ?_
  clear hf
  simp -implicitDefEqProofs (maxSteps := 2000000) (disch := omega) [-getElem?_pos, a11]
  refine (kd _).then fun r hr => ?_
  subst hr
  simp -implicitDefEqProofs (maxSteps := 2000000) (disch := omega) [-getElem?_pos]
  refine .mk (fun h1 => ?_) fun h1 => ?_
  rotate_left
  · simp -implicitDefEqProofs (maxSteps := 2000000) (disch := omega) [-getElem?_pos]
    exact .fin (.v (.bool false)) ⟨by rw [hB]; simp; intros; omega, rfl⟩ (.refl _)
  simp -implicitDefEqProofs (maxSteps := 2000000) (disch := omega) [-getElem?_pos]
  refine (kn _).then fun r hr => ?_
  subst hr
  simp -implicitDefEqProofs (maxSteps := 2000000) (disch := omega) [-getElem?_pos]
  refine .mk (fun h2 => ?_) fun h2 => ?_
  rotate_left
  · simp -implicitDefEqProofs (maxSteps := 2000000) (disch := omega) [-getElem?_pos]
    exact .fin (.v (.bool false)) ⟨by rw [hB]; simp; intros; omega, rfl⟩ (.refl _)
  simp -implicitDefEqProofs (maxSteps := 2000000) (disch := omega) [-getElem?_pos]
  refine (kf _).then fun r hr => ?_
  subst hr
  simp -implicitDefEqProofs (maxSteps := 2000000) (disch := omega) [-getElem?_pos]
  exact .fin (.v (.bool F)) ⟨by rw [hB, decide_eq_true (by omega : d ≤ 60), decide_eq_true (by omega : m ≤ 1500)]; simp, rfl⟩ (.refl _)
end Go.Proofs.YtpdeaekmgljeaaaGreatDoor

/-
  strconv.FormatInt and strings.Join, laid at this program: written by the kit's tool lay-plain.mjs, in plain words.
-/
namespace Go.Proofs.YtpdeaekmgljeaaaGreatDoor
open Go.Shelf
def fmtLays_ren : Go.Shelf.Ren := ⟨fun | 173 => 35 | 246 => 61 | 283 => 97 | 284 => 98 | 285 => 99 | 286 => 100 | 129 => 137 | 317 => 136 | 318 => 138 | 319 => 139 | 320 => 140 | 337 => 175 | 338 => 176 | n => n, fun | 2 => 2 | 3 => 3 | 9 => 9 | 4 => 4 | 171 => 136 | 0 => 0 | 53 => 137 | 37 => 48 | 5 => 5 | 173 => 140 | 212 => 186 | 51 => 187 | 20 => 20 | 213 => 188 | 46 => 164 | 232 => 235 | 233 => 236 | n => n, fun | 17 => 1 | 18 => 3 | 19 => 4 | n => n⟩
theorem fmtLays : Go.Proofs.LaysM.n173 Tryz.prog fmtLays_ren := {
  mixed := by kernel_rfl
  f129 := Tryz.func137.trans (congrArg some (by kernel_rfl))
  f173 := Tryz.func35.trans (congrArg some (by kernel_rfl))
  f246 := Tryz.func61.trans (congrArg some (by kernel_rfl))
  f283 := Tryz.func97.trans (congrArg some (by kernel_rfl))
  f284 := Tryz.func98.trans (congrArg some (by kernel_rfl))
  f285 := Tryz.func99.trans (congrArg some (by kernel_rfl))
  f286 := Tryz.func100.trans (congrArg some (by kernel_rfl))
  f317 := Tryz.func136.trans (congrArg some (by kernel_rfl))
  f318 := Tryz.func138.trans (congrArg some (by kernel_rfl))
  f319 := Tryz.func139.trans (congrArg some (by kernel_rfl))
  f320 := Tryz.func140.trans (congrArg some (by kernel_rfl))
  f337 := Tryz.func175.trans (congrArg some (by kernel_rfl))
  f338 := Tryz.func176.trans (congrArg some (by kernel_rfl))
  t0 := Tryz.underlying0
  a0 := Tryz.isAgg0
  z0 := Tryz.sizeOf0
  v0 := Tryz.zeroValue0
  t2 := Tryz.underlying2
  a2 := Tryz.isAgg2
  z2 := Tryz.sizeOf2
  v2 := Tryz.zeroValue2
  t3 := Tryz.underlying3
  a3 := Tryz.isAgg3
  z3 := Tryz.sizeOf3
  v3 := Tryz.zeroValue3
  t4 := Tryz.underlying4
  a4 := Tryz.isAgg4
  z4 := Tryz.sizeOf4
  v4 := Tryz.zeroValue4
  t5 := Tryz.underlying5
  a5 := Tryz.isAgg5
  z5 := Tryz.sizeOf5
  v5 := Tryz.zeroValue5
  t9 := Tryz.underlying9
  a9 := Tryz.isAgg9
  z9 := Tryz.sizeOf9
  v9 := Tryz.zeroValue9
  t20 := Tryz.underlying20
  a20 := Tryz.isAgg20
  z20 := Tryz.sizeOf20
  v20 := Tryz.zeroValue20
  t37 := Tryz.underlying48
  a37 := Tryz.isAgg48
  z37 := Tryz.sizeOf48
  v37 := Tryz.zeroValue48
  t46 := Tryz.underlying164
  a46 := Tryz.isAgg164
  z46 := Tryz.sizeOf164
  v46 := Tryz.zeroValue164
  t51 := Tryz.underlying187
  a51 := Tryz.isAgg187
  z51 := Tryz.sizeOf187
  v51 := Tryz.zeroValue187
  t53 := Tryz.underlying137
  a53 := Tryz.isAgg137
  z53 := Tryz.sizeOf137
  v53 := Tryz.zeroValue137
  t171 := Tryz.underlying136
  a171 := Tryz.isAgg136
  z171 := Tryz.sizeOf136
  v171 := Tryz.zeroValue136
  t173 := Tryz.underlying140
  a173 := Tryz.isAgg140
  z173 := Tryz.sizeOf140
  v173 := Tryz.zeroValue140
  t212 := Tryz.underlying186
  a212 := Tryz.isAgg186
  z212 := Tryz.sizeOf186
  v212 := Tryz.zeroValue186
  t213 := Tryz.underlying188
  a213 := Tryz.isAgg188
  z213 := Tryz.sizeOf188
  t232 := Tryz.underlying235
  a232 := Tryz.isAgg235
  z232 := Tryz.sizeOf235
  v232 := Tryz.zeroValue235
  t233 := Tryz.underlying236
  a233 := Tryz.isAgg236
  z233 := Tryz.sizeOf236
  v233 := Tryz.zeroValue236
  g17 := by kernel_rfl
  g18 := by kernel_rfl
  g19 := by kernel_rfl
  i0 := by kernel_rfl
  i2 := by kernel_rfl
  i3 := by kernel_rfl
  i4 := by kernel_rfl
  i5 := by kernel_rfl
  i9 := by kernel_rfl
  i20 := by kernel_rfl
  i37 := by kernel_rfl
  i46 := by kernel_rfl
  i51 := by kernel_rfl
  i53 := by kernel_rfl
  i171 := by kernel_rfl
  i173 := by kernel_rfl
  i212 := by kernel_rfl
  i232 := by kernel_rfl
  i233 := by kernel_rfl
  m17 := by kernel_rfl
  m18 := by kernel_rfl
  m19 := by kernel_rfl }
def joinLays_ren : Go.Shelf.Ren := ⟨fun | 156 => 57 | 165 => 90 | 166 => 91 | 169 => 92 | 240 => 132 | 241 => 133 | 276 => 167 | 277 => 168 | n => n, fun | 31 => 22 | 9 => 9 | 3 => 3 | 4 => 4 | 0 => 0 | 20 => 20 | 72 => 129 | 76 => 130 | 70 => 127 | 37 => 48 | 75 => 29 | 127 => 180 | 164 => 90 | 5 => 5 | 80 => 132 | n => n, fun | n => n⟩
theorem joinLays : Go.Proofs.Lays.n156 Tryz.prog joinLays_ren := {
  mixed := by kernel_rfl
  f156 := Tryz.func57.trans (congrArg some (by kernel_rfl))
  f165 := Tryz.func90.trans (congrArg some (by kernel_rfl))
  f166 := Tryz.func91.trans (congrArg some (by kernel_rfl))
  f169 := Tryz.func92.trans (congrArg some (by kernel_rfl))
  f240 := Tryz.func132.trans (congrArg some (by kernel_rfl))
  f241 := Tryz.func133.trans (congrArg some (by kernel_rfl))
  f276 := Tryz.func167.trans (congrArg some (by kernel_rfl))
  f277 := Tryz.func168.trans (congrArg some (by kernel_rfl))
  t0 := Tryz.underlying0
  a0 := Tryz.isAgg0
  z0 := Tryz.sizeOf0
  v0 := Tryz.zeroValue0
  t3 := Tryz.underlying3
  a3 := Tryz.isAgg3
  z3 := Tryz.sizeOf3
  v3 := Tryz.zeroValue3
  t4 := Tryz.underlying4
  a4 := Tryz.isAgg4
  z4 := Tryz.sizeOf4
  v4 := Tryz.zeroValue4
  t9 := Tryz.underlying9
  a9 := Tryz.isAgg9
  z9 := Tryz.sizeOf9
  v9 := Tryz.zeroValue9
  t20 := Tryz.underlying20
  a20 := Tryz.isAgg20
  z20 := Tryz.sizeOf20
  v20 := Tryz.zeroValue20
  t31 := Tryz.underlying22
  a31 := Tryz.isAgg22
  z31 := Tryz.sizeOf22
  v31 := Tryz.zeroValue22
  t37 := Tryz.underlying48
  a37 := Tryz.isAgg48
  z37 := Tryz.sizeOf48
  v37 := Tryz.zeroValue48
  t70 := Tryz.underlying127
  a70 := Tryz.isAgg127
  z70 := Tryz.sizeOf127
  v70 := Tryz.zeroValue127
  t72 := Tryz.underlying129
  a72 := Tryz.isAgg129
  z72 := Tryz.sizeOf129
  v72 := Tryz.zeroValue129
  t75 := Tryz.underlying29
  a75 := Tryz.isAgg29
  z75 := Tryz.sizeOf29
  v75 := Tryz.zeroValue29
  t76 := Tryz.underlying130
  a76 := Tryz.isAgg130
  z76 := Tryz.sizeOf130
  v76 := Tryz.zeroValue130
  t127 := Tryz.underlying180
  a127 := Tryz.isAgg180
  z127 := Tryz.sizeOf180
  v127 := Tryz.zeroValue180
  t164 := Tryz.underlying90
  a164 := Tryz.isAgg90
  z164 := Tryz.sizeOf90
  v164 := Tryz.zeroValue90 }
theorem joinExtra : Builder.Extra Tryz.prog joinLays_ren := {
  sizeBuilder := by kernel_rfl
  liesBuilder := by kernel_rfl
  t5 := Tryz.underlying5
  a5 := Tryz.isAgg5
  z5 := Tryz.sizeOf5
  v5 := Tryz.zeroValue5
  infoByte := by kernel_rfl
  cellsByte := by kernel_rfl
  sizeByte := by kernel_rfl
  neB5 := by decide }
end Go.Proofs.YtpdeaekmgljeaaaGreatDoor

/-
  Expressions as text: numbers as text; texts joined. (Own work.)
-/
set_option linter.unusedVariables false
set_option linter.unusedSimpArgs false
namespace Go.Proofs.YtpdeaekmgljeaaaGreatDoor
open Go Go.Abs Go.RowKit

theorem grown_inv {σ : Sg} {m : Gh} {w : World} (h : Go.Abs.Inv σ m w) (k : Nat) (os : Array Obj) : Go.Abs.Inv σ m (Go.Sort.grow (w.drewN k) os) ∧ Ext m w m (Go.Sort.grow (w.drewN k) os) := by
  have hb : ∀ c, c < w.heap.size → (Go.Sort.grow (w.drewN k) os).heap[c]? = w.heap[c]? := fun c hc => Array.getElem?_append_left hc
  have e : Ext m w m (Go.Sort.grow (w.drewN k) os) :=
    ⟨rfl, rfl, rfl, by show w.heap.size ≤ (w.heap ++ os).size; simp, fun _ _ h => .inl h, fun _ tk h => ⟨tk, h, rfl, Nat.le_refl _, fun _ => rfl⟩, fun c off f => ⟨cell?_of_heap (hb c f.1), f.2⟩, fun c hc hn => ⟨hb c hc, hn⟩⟩
  refine ⟨⟨h.lobj, h.ltok, h.nodup, fun o ob c ho hc => (h.ob o ob c ho hc).mono e (hb c (h.lt_obj (Gh.mem_objb.2 (List.mem_of_getElem? hc)))), h.gone, fun tk htk => ?_, h.glob.mono e⟩, e⟩
  obtain ⟨h1, h2, h3, h4⟩ := h.tk tk htk
  refine ⟨h1, h2, h3, fun c hc => ?_⟩
  obtain ⟨us, ty, h5, h6⟩ := h4 c hc
  exact ⟨us, ty, (hb c (Array.getElem?_eq_some_iff.1 h5).1).trans h5, h6⟩
theorem tab_is {σ : Sg} {m : Gh} {w : World} (h : Inv σ m w) : Lib.TabIs Tryz.prog w "internal/strconv.uint64pow10" .u64 Lib.pow10Tab := by
  obtain ⟨⟨cs, ty, fr, hh, rfl⟩, _⟩ := h.glob _ List.mem_cons_self
  unfold Lib.TabIs World.var?
  rw [show Tryz.prog.globalNamed "internal/strconv.uint64pow10" = some 1 by kernel_rfl]
  simp only [Option.bind_some]
  rw [hh]
  rfl
theorem k_Fmt {n : Int} {σ : Sg} : ACalls Tryz.prog 35 [.v (.int .i64 n), .v (.int .i64 10)] σ fun r σ' => (r = .v (.str (Lib.itoa n)) ∧ (Lib.itoa n).length ≤ 21) ∧ σ' = σ := by
  refine ⟨⟨_, Tryz.func35, by kernel_rfl, by kernel_rfl⟩, fun m w us hI hl hr => ?_⟩
  match us, hl with
  | [u, u2], _ =>
    have h0 := (hr 0 _ _ rfl rfl).v_inv
    have h2 := (hr 1 _ _ rfl rfl).v_inv
    cases h2
    cases h0 with
    | int _ _ hn =>
        have hn1 : -9223372036854775808 ≤ n := hn.1
        have hn2 : n ≤ 9223372036854775807 := hn.2
        refine (Go.Proofs.Any.strconv_FormatInt_10 fmtLays n hn1 hn2 w (tab_is hI)).mono fun e w' ⟨he, k, os, hw⟩ => ?_
        subst hw
        obtain ⟨hI', hX⟩ := grown_inv hI k os
        have hlen := Lib.itoa_length_le n hn1 hn2
        exact ⟨_, _, σ, m, he, ⟨⟨rfl, hlen⟩, rfl⟩, hI', hX, .v _ _ (.str _ (by unfold maxLen; omega))⟩
theorem k_Join {L : List Str} {sep : Str} {σ : Sg} (hn : L.length ≤ 1048576) (hj : (Lib.join L sep).length ≤ 100000000) : ACalls Tryz.prog 57 [.v (vS L), .v (.str sep)] σ fun r σ' => r = .v (.str (Lib.join L sep)) ∧ σ' = σ := by
  refine ⟨⟨_, Tryz.func57, by kernel_rfl, by kernel_rfl⟩, fun m w us hI hl hr => ?_⟩
  match us, hl with
  | [u1, u2], _ =>
    have g1 := (hr 0 _ _ rfl rfl).v_inv
    have g2 := (hr 1 _ _ rfl rfl).v_inv
    clear hr
    cases g2 with
    | str _ hsep =>
    obtain ⟨a, cap, rfl, hc1, hc2, _, _, _, hor⟩ := g1.sl_inv
    clear g1
    rw [List.length_map] at hc1 ⊢
    cases L with
    | nil =>
      refine (Go.Proofs.Any.strings_Join_none joinLays joinExtra a cap ⟨sep.toArray⟩ w).mono fun e w' ⟨he, hw⟩ => ?_
      subst hw
      exact ⟨_, _, σ, m, he, ⟨rfl, rfl⟩, hI, .refl _ _, .v _ _ (.str [] (by simp [maxLen]))⟩
    | cons x L0 =>
    rcases hor with ⟨h, _⟩ | ⟨b, off, us, rfl, hcell, hrep⟩
    · simp at h
    obtain ⟨L, hL⟩ : ∃ L, L = x :: L0 := ⟨_, rfl⟩
    rw [← hL] at hn hj hc1 hcell hrep ⊢
    rw [flat_str] at hrep
    rw [List.length_map] at hcell
    have hpos : 0 < L.length := by rw [hL]; simp
    have hb : b < w.heap.size := (hcell 0 (by simpa [shn] using hpos)).2.1
    have hmap : (L.map fun s : Str => (⟨s.toArray⟩ : ByteArray)).map (·.data.toList) = L := by
      rw [List.map_map]
      have : ((fun x : ByteArray => x.data.toList) ∘ fun s : Str => (⟨s.toArray⟩ : ByteArray)) = id := by
        funext s; simp
      rw [this, List.map_id]
    have hcs : ∀ (j : Nat) y, (L.map fun s : Str => (⟨s.toArray⟩ : ByteArray))[j]? = some y → w.cell? ⟨b, off + j, none⟩ = some (.string y) := by
      intro j y hy
      rw [List.getElem?_map] at hy
      cases hx : L[j]? with
      | none => rw [hx] at hy; cases hy
      | some z =>
        rw [hx] at hy
        cases hy
        have hj := (List.getElem?_eq_some_iff.1 hx).1
        have h3 := hrep j (.str z) (by rw [List.getElem?_map, hx]; rfl)
        have h4 := (hcell j (by simpa [shn] using hj)).1
        rw [h4]
        generalize us j = u at h3
        cases h3
        rfl
    have hlen : (L.map fun s : Str => (⟨s.toArray⟩ : ByteArray)).length = L.length := List.length_map _
    have h := Go.Proofs.Any.strings_Join joinLays joinExtra b off cap (L.map fun s : Str => (⟨s.toArray⟩ : ByteArray)) ⟨sep.toArray⟩ w hcs hb (by rw [hlen]; omega) (by rw [hlen]; exact hc1) (by rw [hmap]; show (Lib.join L sep.toArray.toList).length ≤ _; simp only []; omega)
    rw [hlen, hmap] at h
    refine h.mono fun e w' ⟨he, hw⟩ => ?_
    obtain ⟨hI', hX⟩ := Inv.below hI hw
    exact ⟨_, _, σ, m, he, ⟨rfl, rfl⟩, hI', hX, .v _ _ (.str _ (by unfold maxLen; omega))⟩
end Go.Proofs.YtpdeaekmgljeaaaGreatDoor

/-
  Expressions as text, plainly; how long. (Own work.)
-/
set_option linter.unusedVariables false
set_option linter.unusedSimpArgs false
namespace Go.Proofs.YtpdeaekmgljeaaaGreatDoor
open Go Go.Abs

def items : List Str → List Str → List Str
  | s :: ls, x :: xs => (s ++ [32, 61, 32] ++ x) :: items ls xs
  | _, _ => []
theorem join_snoc (sep x : Str) : ∀ L : List Str, Lib.join (L ++ [x]) sep = if L = [] then x else Lib.join L sep ++ sep ++ x
  | [] => by simp [Lib.join_one]
  | y :: L => by
    rw [List.cons_append, Lib.join_cons, Lib.join_cons]
    simp [Lib.joinTail]
theorem items_len : ∀ (ls xs : List Str), ls.length = xs.length → (items ls xs).length = xs.length
  | [], [], _ => rfl
  | [], _ :: _, h => by simp at h
  | _ :: _, [], h => by simp at h
  | s :: ls, x :: xs, h => by simp [items, items_len ls xs (by simpa using h)]
theorem items_get : ∀ (ls xs : List Str) (i : Nat) (s x : Str), ls[i]? = some s → xs[i]? = some x → (items ls xs)[i]? = some (s ++ [32, 61, 32] ++ x)
  | [], _, i, s, x, h, _ => by simp at h
  | _ :: _, [], i, s, x, _, h => by simp at h
  | a :: ls, b :: xs, 0, s, x, h1, h2 => by simp at h1 h2; subst h1 h2; simp [items]
  | a :: ls, b :: xs, i + 1, s, x, h1, h2 => by
    have := items_get ls xs i s x (by simpa using h1) (by simpa using h2)
    simpa [items] using this
def lenL : List Str → Nat
  | [] => 0
  | x :: l => x.length + lenL l
theorem getD_lenL : ∀ (l : List Str) (i : Nat), (l.getD i []).length ≤ lenL l
  | [], i => by simp
  | x :: l, 0 => by simp [lenL]
  | x :: l, i + 1 => by
    have := getD_lenL l i
    simp only [lenL, List.getD_cons_succ]
    omega
theorem join_len (sep : Str) : ∀ L : List Str, (Lib.join L sep).length ≤ lenL L + L.length * sep.length
  | [] => by simp [Lib.join_nil]
  | x :: L => by
    have : ∀ L : List Str, (Lib.joinTail sep L).length = lenL L + L.length * sep.length := by
      intro L
      induction L with
      | nil => simp [Lib.joinTail, lenL]
      | cons y L ih =>
        simp only [Lib.joinTail, List.map_cons, List.flatten_cons, List.length_append, lenL, List.length_cons, Nat.succ_mul] at ih ⊢
        omega
    rw [Lib.join_cons, List.length_append, this]
    simp only [lenL, List.length_cons, Nat.succ_mul]
    omega
theorem items_lenL : ∀ (ls xs : List Str), lenL (items ls xs) + 2 * (items ls xs).length ≤ lenL xs + 5 * nsz ls
  | [], [] => by simp [items, lenL]
  | [], _ :: _ => by simp [items, lenL]
  | _ :: _, [] => by simp [items, lenL]
  | s :: ls, x :: xs => by
    have := items_lenL ls xs
    simp only [items, lenL, List.length_cons, List.length_append, List.length_nil, nsz]
    omega
def joinTo (ls xs : List Str) (i : Nat) : Str := Lib.join ((items ls xs).take i) [44, 32]
theorem joinTo_zero (ls xs : List Str) : joinTo ls xs 0 = [] := rfl
theorem joinTo_step {ls xs : List Str} {i : Nat} {s x : Str} (h1 : ls[i]? = some s) (h2 : xs[i]? = some x) : joinTo ls xs (i + 1) = if i = 0 then s ++ [32, 61, 32] ++ x else joinTo ls xs i ++ [44, 32] ++ (s ++ [32, 61, 32] ++ x) := by
  have h3 := items_get ls xs i s x h1 h2
  have h4 := (List.getElem?_eq_some_iff.1 h3).1
  unfold joinTo
  rw [List.take_add_one, h3]
  simp only [Option.toList_some]
  rw [join_snoc]
  by_cases hi : i = 0
  · subst hi; simp
  · rw [if_neg hi, if_neg]
    intro h
    have := congrArg List.length h
    rw [List.length_take, List.length_nil] at this
    omega
theorem lenL_take : ∀ (L : List Str) (i : Nat), lenL (L.take i) ≤ lenL L
  | [], i => by simp [lenL]
  | x :: L, 0 => by simp [lenL]
  | x :: L, i + 1 => by have := lenL_take L i; simp only [List.take_succ_cons, lenL]; omega
theorem joinTo_len (ls xs : List Str) (i : Nat) : (joinTo ls xs i).length ≤ lenL xs + 5 * nsz ls := by
  have h1 := join_len [44, 32] ((items ls xs).take i)
  have h2 := lenL_take (items ls xs) i
  have h3 := items_lenL ls xs
  have h4 : ((items ls xs).take i).length ≤ (items ls xs).length := by simp; omega
  simp only [List.length_cons, List.length_nil] at h1
  unfold joinTo
  omega
theorem joinTo_all {ls xs : List Str} {i : Nat} (h : (items ls xs).length ≤ i) : joinTo ls xs i = Lib.join (items ls xs) [44, 32] := by
  unfold joinTo
  rw [List.take_of_length_le h]
def itemsO (ls xs : List Str) (i : Nat) : List V := ((items ls xs).take i).map .str
theorem itemsO_zero (ls xs : List Str) : itemsO ls xs 0 = [] := rfl
theorem itemsO_step {ls xs : List Str} {i : Nat} {s x : Str} (h1 : ls[i]? = some s) (h2 : xs[i]? = some x) : itemsO ls xs i ++ [.str (s ++ [32, 61, 32] ++ x)] = itemsO ls xs (i + 1) := by
  unfold itemsO
  rw [List.take_add_one, items_get ls xs i s x h1 h2]
  simp
theorem itemsO_all {ls xs : List Str} (h : ls.length = xs.length) {i : Nat} (hi : xs.length ≤ i) : itemsO ls xs i = (items ls xs).map .str := by
  unfold itemsO
  rw [List.take_of_length_le (by rw [items_len ls xs h]; omega)]
theorem itemsO_len {ls xs : List Str} (h : ls.length = xs.length) {i : Nat} (hi : i ≤ xs.length) : (itemsO ls xs i).length = i := by
  unfold itemsO
  rw [List.length_map, List.length_take, items_len ls xs h]
  omega
/-- Is a kind's text one by itself? -/
def soleK (k : Int) : Bool := k == 1 || (k == 2 || (k == 3 || (k == 8 || (k == 10 || (k == 12 || k == 22)))))
def smallT (q : Int × Str) : Str := if soleK q.1 = true then q.2 else [40] ++ q.2 ++ [41]
def armL : List Str → List Str → List Str → List Str
  | a :: ls, n :: ns, x :: xs => ([32, 124, 32] ++ a ++ [32] ++ n ++ [32, 45, 62, 32] ++ x) :: armL ls ns xs
  | _, _, _ => []
def txQ (q : List (Int × Str)) (i : Nat) : Str := (q.map (·.2)).getD i []
def smQ (q : List (Int × Str)) (i : Nat) : Str := match q[i]? with
  | some x => smallT x
  | none => []
def elseT (t : Str) (x : Str) : Str := if t = [] then [] else [32, 124, 32] ++ t ++ [32, 45, 62, 32] ++ x
def headK (k : Int) (s : Str) : Str := if k = 17 then [114, 101, 102, 32] else if k = 20 then [112, 114, 105, 110, 116, 32] else if k = 21 then [115, 104, 111, 119, 32] else if k = 18 then [33] else s ++ [32]
def showK (k n : Int) (s t : Str) (ls ns : List Str) (q : List (Int × Str)) : Str :=
  if k = 1 then Lib.itoa n
  else if k = 2 then (quoteE s).getD []
  else if k = 3 then s
  else if k = 4 then [102, 110, 32] ++ s ++ [32, 45, 62, 32] ++ txQ q 0
  else if k = 5 then smQ q 0 ++ [32] ++ smQ q 1
  else if k = 6 then [108, 101, 116, 32] ++ s ++ [32, 61, 32] ++ txQ q 0 ++ [32, 105, 110, 32] ++ txQ q 1
  else if k = 7 then [108, 101, 116, 32, 114, 101, 99, 32] ++ s ++ [32] ++ t ++ [32, 61, 32] ++ txQ q 0 ++ [32, 105, 110, 32] ++ txQ q 1
  else if k = 8 then [123] ++ Lib.join (items ls (q.map (·.2))) [44, 32] ++ [125]
  else if k = 9 then smQ q 0 ++ [46] ++ s
  else if k = 10 then [123] ++ s ++ [32, 61, 32] ++ txQ q 0 ++ [32, 124, 32] ++ txQ q 1 ++ [125]
  else if k = 11 then smQ q 0 ++ [92] ++ s
  else if k = 12 then [123] ++ smQ q 1 ++ [32, 119, 105, 116, 104, 32] ++ s ++ [32, 61, 32] ++ txQ q 0 ++ [125]
  else if k = 14 then [109, 97, 116, 99, 104, 32] ++ txQ q 0 ++ [32, 119, 105, 116, 104] ++ (armL ls ns ((q.map (·.2)).drop 1)).flatten ++ elseT t (txQ q (ls.length + 1)) ++ [32, 101, 110, 100]
  else if k = 15 then [105, 102, 32] ++ txQ q 0 ++ [32, 116, 104, 101, 110, 32] ++ txQ q 1 ++ [32, 101, 108, 115, 101, 32] ++ txQ q 2
  else if k = 16 then smQ q 0 ++ [32] ++ s ++ [32] ++ smQ q 1
  else if k = 19 then smQ q 0 ++ [32, 58, 61, 32] ++ smQ q 1
  else if k = 22 then [114, 101, 97, 100]
  else headK k s ++ smQ q 0
def kdE : Ex → Int
  | .mk k _ _ _ _ _ _ _ => k
mutual
def showL : Ex → Str
  | .mk k _ n s t ls ns l => showK k n s t ls ns (showQ l)
def showQ : List Ex → List (Int × Str)
  | [] => []
  | x :: l => (kdE x, showL x) :: showQ l
end
theorem showQ_eq : ∀ l, showQ l = l.map fun x => (kdE x, showL x)
  | [] => by simp [showQ]
  | x :: l => by simp [showQ, showQ_eq l]
theorem showQ_get {l : List Ex} {i : Nat} {x : Ex} (h : l[i]? = some x) : (showQ l)[i]? = some (kdE x, showL x) := by
  rw [showQ_eq, List.getElem?_map, h]; rfl
theorem txQ_get {l : List Ex} {i : Nat} {x : Ex} (h : l[i]? = some x) : txQ (showQ l) i = showL x := by
  unfold txQ
  rw [List.getD_eq_getElem?_getD, List.getElem?_map, showQ_get h]; rfl
theorem smQ_get {l : List Ex} {i : Nat} {x : Ex} (h : l[i]? = some x) : smQ (showQ l) i = smallT (kdE x, showL x) := by
  unfold smQ
  rw [showQ_get h]
/-- How long. -/
def lenQ (q : List (Int × Str)) : Nat := lenL (q.map (·.2))
theorem small_len (q : Int × Str) : (smallT q).length ≤ q.2.length + 2 := by
  unfold smallT
  split <;> simp
theorem smQ_len0 (q : List (Int × Str)) (i : Nat) : (smQ q i).length ≤ (txQ q i).length + 2 := by
  unfold smQ txQ
  rw [List.getD_eq_getElem?_getD, List.getElem?_map]
  cases q[i]? with
  | none => simp
  | some x => exact small_len x
theorem tx3 (q : List (Int × Str)) : (txQ q 0).length + (txQ q 1).length + (txQ q 2).length ≤ lenQ q := by
  unfold txQ lenQ
  generalize q.map (·.2) = L
  match L with
  | [] => simp
  | [a] => simp [lenL]
  | [a, b] => simp [lenL]
  | a :: b :: c :: l => simp [lenL]; omega
theorem arm_len : ∀ (ls ns ys : List Str), (armL ls ns ys).flatten.length + (ys.getD ls.length []).length ≤ lenL ys + 8 * nsz ls + nsz ns
  | [], ns, ys => by
    have := getD_lenL ys 0
    simp only [armL, List.flatten_nil, List.length_nil, nsz]
    omega
  | a :: ls, [], ys => by
    have := getD_lenL ys (ls.length + 1)
    simp only [armL, List.flatten_nil, List.length_nil, List.length_cons, nsz]
    omega
  | a :: ls, n :: ns, [] => by simp [armL]
  | a :: ls, n :: ns, x :: xs => by
    have := arm_len ls ns xs
    simp only [armL, List.flatten_cons, List.length_append, List.length_cons, List.length_nil, List.getD_cons_succ, nsz, lenL]
    omega
theorem qB_len {c : UInt8} {s : Str} (h : qB c = some s) : s.length ≤ 2 := by
  unfold qB at h
  split at h
  · cases h; simp
  · split at h
    · cases h
    · split at h <;> (cases h; simp)
theorem qL_len : ∀ (t acc s : Str), qL t acc = some s → s.length ≤ acc.length + 2 * t.length + 1
  | [], acc, s, h => by
    have := Option.some.inj h
    subst this
    simp
  | c :: t, acc, s, h => by
    rw [qL] at h
    cases hc : qB c with
    | none => rw [hc] at h; cases h
    | some r =>
      rw [hc] at h
      have h1 := qL_len t _ s h
      have h2 := qB_len hc
      simp only [List.length_append, List.length_cons] at h1 ⊢
      omega
theorem quote_len {s : Str} : ((quoteE s).getD []).length ≤ 2 * s.length + 2 := by
  unfold quoteE
  split
  · simp
  · cases h : qL s [34] with
    | none => simp
    | some r =>
      have := qL_len s [34] r h
      simp only [List.length_cons, List.length_nil] at this
      simp only [Option.getD_some]
      omega
theorem ite_len {p : Prop} [Decidable p] {a b : Str} {N : Nat} (ha : a.length ≤ N) (hb : b.length ≤ N) : (if p then a else b).length ≤ N := by
  split
  · exact ha
  · exact hb
theorem headK_len (k : Int) (s : Str) : (headK k s).length ≤ s.length + 6 := by
  unfold headK
  repeat' apply ite_len
  all_goals simp only [List.length_append, List.length_cons, List.length_nil]; omega
theorem elseT_len (t x : Str) : (elseT t x).length ≤ t.length + x.length + 7 := by
  unfold elseT
  apply ite_len
  · simp
  · simp only [List.length_append, List.length_cons, List.length_nil]; omega
theorem showK_len {k n : Int} {s t : Str} {ls ns : List Str} {q : List (Int × Str)} (hn : -9223372036854775808 ≤ n) (hn2 : n ≤ 9223372036854775807) : (showK k n s t ls ns q).length ≤ lenQ q + 8 * nsz ls + 8 * nsz ns + 2 * s.length + t.length + 40 := by
  have h3 := tx3 q
  have s0 := smQ_len0 q 0
  have s1 := smQ_len0 q 1
  have hi := Lib.itoa_length_le n hn hn2
  have hq := quote_len (s := s)
  have hj := join_len [44, 32] (items ls (q.map (·.2)))
  have hj2 := items_lenL ls (q.map (·.2))
  simp only [List.length_cons, List.length_nil] at hj
  have hQ : lenL (q.map (·.2)) = lenQ q := rfl
  have ha : (txQ q 0).length + (armL ls ns ((q.map (·.2)).drop 1)).flatten.length + (txQ q (ls.length + 1)).length ≤ lenQ q + 8 * nsz ls + nsz ns := by
    unfold txQ lenQ
    cases q.map (·.2) with
    | nil =>
      have := arm_len ls ns []
      simpa using this
    | cons x l =>
      have := arm_len ls ns l
      simp only [List.drop_succ_cons, List.drop_zero, List.getD_cons_succ, List.getD_cons_zero, lenL]
      omega
  have hh := headK_len k s
  have he := elseT_len t (txQ q (ls.length + 1))
  unfold showK
  generalize Lib.itoa n = I at hi ⊢
  repeat' apply ite_len
  all_goals (try simp only [List.length_append, List.length_cons, List.length_nil]); omega
/- Integers within their range. -/
mutual
def intsE : Ex → Prop
  | .mk _ _ n _ _ _ _ l => (-9223372036854775808 ≤ n ∧ n ≤ 9223372036854775807) ∧ intsL l
def intsL : List Ex → Prop
  | [] => True
  | x :: l => intsE x ∧ intsL l
end
theorem show_len (e : Ex) : intsE e → (showL e).length ≤ 8 * csz e := by
  refine Ex.ind (P := fun e => intsE e → (showL e).length ≤ 8 * csz e) (fun k p n s t ls ns l ih hi => ?_) e
  rw [intsE] at hi
  have h1 := showK_len (k := k) (s := s) (t := t) (ls := ls) (ns := ns) (q := showQ l) hi.1.1 hi.1.2
  have h2 : lenQ (showQ l) ≤ 8 * cszL l := by
    replace hi := hi.2
    clear h1
    induction l with
    | nil => simp [lenQ, showQ, lenL]
    | cons x l ihl =>
      rw [intsL] at hi
      have g1 := ih x (by simp) hi.1
      have g2 := ihl (fun y hy => ih y (by simp [hy])) hi.2
      simp only [lenQ, showQ, List.map_cons, lenL, cszL] at g2 ⊢
      omega
  simp only [showL, csz]
  omega
end Go.Proofs.YtpdeaekmgljeaaaGreatDoor

/-
  The bodies of functions, in the small language: printed by program, proved by the kernel's computing. (Own work.)
-/
namespace Go.Proofs.YtpdeaekmgljeaaaGreatDoor
open Go Go.Abs

/- bushel/bushellaw06.ShowTells -/
def a3 : AFun := ⟨44, [.tmp 2], (.seq (.reg [1, 2] [⟨(some 1), none, .box (.t 0)⟩,
       ⟨(some 2), none, .mv (.c (.bool false))⟩])
  (.seq (.reg [3] [⟨(some 8), none, .call (.c (.fn 8)) []⟩,
       ⟨(some 3), none, .mv (.t 8)⟩])
  (.seq (.reg [4] [⟨(some 9), none, .load (some 8) (.t 1)⟩,
       ⟨(some 10), none, .call (.c (.fn 9)) [(.t 9)]⟩,
       ⟨(some 4), none, .mv (.t 10)⟩])
  (.seq (.seq (.reg [12] [⟨(some 11), none, .mv (.t 4)⟩,
        ⟨(some 12), none, .un .not (.t 11)⟩])
   (.cond (.t 12) (.seq (.reg [2] [⟨(some 13), none, .mv (.t 3)⟩,
          ⟨(some 2), none, .mv (.t 13)⟩])
     .ret)
   .skip))
  (.seq (.reg [5, 6] [⟨(some 15), none, .load (some 8) (.t 1)⟩,
       ⟨(some 16), none, .call (.c (.fn 10)) [(.t 15)]⟩,
       ⟨(some 14), none, .mv (.t 16)⟩,
       ⟨(some 17), none, .extract (.t 14) 0⟩,
       ⟨(some 18), none, .extract (.t 14) 1⟩,
       ⟨(some 5), none, .mv (.t 17)⟩,
       ⟨(some 6), none, .mv (.t 18)⟩])
  (.seq (.reg [7] [⟨(some 19), none, .load (some 8) (.t 1)⟩,
       ⟨(some 20), none, .call (.c (.fn 11)) [(.t 19)]⟩,
       ⟨(some 7), none, .mv (.t 20)⟩])
  (.seq (.seq (.reg [22] [⟨(some 21), none, .mv (.t 7)⟩,
        ⟨(some 22), none, .un .not (.t 21)⟩])
   (.cond (.t 22) (.seq (.reg [2] [⟨(some 23), none, .mv (.t 3)⟩,
          ⟨(some 24), none, .mv (.t 23)⟩,
          ⟨(some 25), (some (24, true)), .mv (.t 6)⟩,
          ⟨(some 26), (some (24, true)), .mkif 32 (.c (.int .i64 1))⟩,
          ⟨(some 27), (some (24, true)), .bin .eql .ifc false (.t 25) (.t 26)⟩,
          ⟨(some 28), none, .pick (.t 24) (.t 27) (.c (.bool false))⟩,
          ⟨(some 29), none, .mv (.t 28)⟩,
          ⟨(some 30), (some (29, true)), .mv (.t 5)⟩,
          ⟨(some 31), (some (29, true)), .bin .eql .other true (.t 30) (.c (.str []))⟩,
          ⟨(some 32), none, .pick (.t 29) (.t 31) (.c (.bool false))⟩,
          ⟨(some 2), none, .mv (.t 32)⟩])
     .ret)
   .skip))
  (.seq (.reg [2] [⟨(some 33), none, .mv (.t 3)⟩,
       ⟨(some 34), none, .mv (.t 33)⟩,
       ⟨(some 35), (some (34, true)), .mv (.t 6)⟩,
       ⟨(some 36), (some (34, true)), .bin .eql .ifc true (.t 35) (.c .inil)⟩,
       ⟨(some 37), none, .pick (.t 34) (.t 36) (.c (.bool false))⟩,
       ⟨(some 38), none, .mv (.t 37)⟩,
       ⟨(some 39), (some (38, true)), .mv (.t 5)⟩,
       ⟨(some 40), (some (38, true)), .load (some 8) (.t 1)⟩,
       ⟨(some 41), (some (38, true)), .call (.c (.fn 12)) [(.t 40)]⟩,
       ⟨(some 42), (some (38, true)), .bin .eql .other false (.t 39) (.t 41)⟩,
       ⟨(some 43), none, .pick (.t 38) (.t 42) (.c (.bool false))⟩,
       ⟨(some 2), none, .mv (.t 43)⟩])
  .ret))))))))⟩
theorem c3 : compF Tryz.prog [0, 1, 2, 3, 4, 5, 6, 7, 12, 22] Tryz.f3 = some a3 := by kernel_rfl

/- bushel/bushellaw06.up -/
def a8 : AFun := ⟨36, [.tmp 0], (.seq (.reg [0] [⟨(some 0), none, .mv (.c (.bool false))⟩])
  (.seq (.reg [1] [⟨(some 7), none, .build [(.int .i64 0), (.int .i64 0), (.int .i64 0), (.str []), (.str []), .snil, .snil, .snil] [(0, 1, (.c (.int .i64 3))), (3, 1, (.c (.str [102])))]⟩,
       ⟨(some 1), none, .alloc [(.int .i64 0), (.int .i64 0), (.int .i64 0), (.str []), (.str []), .snil, .snil, .snil]⟩,
       ⟨none, none, .store 8 (.t 1) (.t 7)⟩])
  (.seq (.reg [2] [⟨(some 8), none, .build [(.int .i64 0), (.int .i64 0), (.int .i64 0), (.str []), (.str []), .snil, .snil, .snil] [(0, 1, (.c (.int .i64 3))), (3, 1, (.c (.str [103])))]⟩,
       ⟨(some 9), none, .build [(.int .i64 0), (.int .i64 0), (.int .i64 0), (.str []), (.str []), .snil, .snil, .snil] [(0, 1, (.c (.int .i64 3))), (3, 1, (.c (.str [120])))]⟩,
       ⟨(some 10), none, .mksl (some 8) [(.t 8), (.t 9)]⟩,
       ⟨(some 11), none, .build [(.int .i64 0), (.int .i64 0), (.int .i64 0), (.str []), (.str []), .snil, .snil, .snil] [(0, 1, (.c (.int .i64 5))), (7, 1, (.t 10))]⟩,
       ⟨(some 2), none, .alloc [(.int .i64 0), (.int .i64 0), (.int .i64 0), (.str []), (.str []), .snil, .snil, .snil]⟩,
       ⟨none, none, .store 8 (.t 2) (.t 11)⟩])
  (.seq (.reg [3, 4] [⟨(some 13), none, .load (some 8) (.t 1)⟩,
       ⟨(some 14), none, .load (some 8) (.t 2)⟩,
       ⟨(some 15), none, .mksl (some 8) [(.t 13), (.t 14)]⟩,
       ⟨(some 16), none, .build [(.int .i64 0), (.int .i64 0), (.int .i64 0), (.str []), (.str []), .snil, .snil, .snil] [(0, 1, (.c (.int .i64 5))), (7, 1, (.t 15))]⟩,
       ⟨(some 17), none, .call (.c (.fn 10)) [(.t 16)]⟩,
       ⟨(some 12), none, .mv (.t 17)⟩,
       ⟨(some 18), none, .extract (.t 12) 0⟩,
       ⟨(some 19), none, .extract (.t 12) 1⟩,
       ⟨(some 3), none, .mv (.t 18)⟩,
       ⟨(some 4), none, .mv (.t 19)⟩])
  (.seq (.reg [6] [⟨(some 21), none, .build [(.int .i64 0), (.int .i64 0), (.int .i64 0), (.str []), (.str []), .snil, .snil, .snil] []⟩,
       ⟨(some 22), none, .call (.c (.fn 10)) [(.t 21)]⟩,
       ⟨(some 20), none, .mv (.t 22)⟩,
       ⟨(some 23), none, .extract (.t 20) 0⟩,
       ⟨(some 24), none, .extract (.t 20) 1⟩,
       ⟨(some 5), none, .mv (.t 23)⟩,
       ⟨(some 6), none, .mv (.t 24)⟩])
  (.seq (.reg [0] [⟨(some 25), none, .mv (.t 4)⟩,
       ⟨(some 26), none, .bin .eql .ifc true (.t 25) (.c .inil)⟩,
       ⟨(some 27), none, .mv (.t 26)⟩,
       ⟨(some 28), (some (27, true)), .mv (.t 3)⟩,
       ⟨(some 29), (some (27, true)), .bin .eql .other true (.t 28) (.c (.str [102, 32, 40, 103, 32, 120, 41]))⟩,
       ⟨(some 30), none, .pick (.t 27) (.t 29) (.c (.bool false))⟩,
       ⟨(some 31), none, .mv (.t 30)⟩,
       ⟨(some 32), (some (31, true)), .mv (.t 6)⟩,
       ⟨(some 33), (some (31, true)), .mkif 32 (.c (.int .i64 1))⟩,
       ⟨(some 34), (some (31, true)), .bin .eql .ifc false (.t 32) (.t 33)⟩,
       ⟨(some 35), none, .pick (.t 31) (.t 34) (.c (.bool false))⟩,
       ⟨(some 0), none, .mv (.t 35)⟩])
  .ret))))))⟩
theorem c8 : compF Tryz.prog [0, 1, 2, 3, 4, 6] Tryz.f8 = some a8 := by kernel_rfl

/- bushel/show.Text -/
def a10 : AFun := ⟨10, [.tmp 2, .tmp 3], (.seq (.reg [1, 2, 3] [⟨(some 1), none, .box (.t 0)⟩,
       ⟨(some 2), none, .mv (.c (.str []))⟩,
       ⟨(some 3), none, .mv (.c .inil)⟩])
  (.seq (.seq (.reg [6] [⟨(some 4), none, .load (some 8) (.t 1)⟩,
        ⟨(some 5), none, .call (.c (.fn 23)) [(.t 4)]⟩,
        ⟨(some 6), none, .un .not (.t 5)⟩])
   (.cond (.t 6) (.seq (.reg [2, 3] [⟨(some 7), none, .mkif 32 (.c (.int .i64 1))⟩,
          ⟨(some 2), none, .mv (.c (.str []))⟩,
          ⟨(some 3), none, .mv (.t 7)⟩])
     .ret)
   .skip))
  (.seq (.reg [2, 3] [⟨(some 8), none, .load (some 8) (.t 1)⟩,
       ⟨(some 9), none, .call (.c (.fn 31)) [(.t 8)]⟩,
       ⟨(some 2), none, .mv (.t 9)⟩,
       ⟨(some 3), none, .mv (.c .inil)⟩])
  .ret)))⟩
theorem c10 : compF Tryz.prog [0, 1, 2, 3, 6] Tryz.f10 = some a10 := by kernel_rfl

/- bushel/show.text -/
def a31 : AFun := ⟨255, [.tmp 2], (.seq (.reg [1, 2] [⟨(some 1), none, .box (.t 0)⟩,
       ⟨(some 2), none, .mv (.c (.str []))⟩])
  (.seq (.seq (.reg [9] [⟨(some 8), none, .faddr 0 (.t 1)⟩,
        ⟨(some 9), none, .load none (.t 8)⟩])
   (.block 0 (.seq (.reg [10] [⟨(some 11), none, .bin .eql .other true (.t 9) (.c (.int .i64 1))⟩,
         ⟨(some 10), none, .mv (.t 11)⟩])
    (.cond (.t 10) (.seq (.reg [2] [⟨(some 12), none, .faddr 2 (.t 1)⟩,
           ⟨(some 13), none, .load none (.t 12)⟩,
           ⟨(some 14), none, .call (.c (.fn 35)) [(.t 13), (.c (.int .i64 10))]⟩,
           ⟨(some 2), none, .mv (.t 14)⟩])
      .ret)
    (.seq (.reg [15] [⟨(some 16), none, .bin .eql .other true (.t 9) (.c (.int .i64 2))⟩,
         ⟨(some 15), none, .mv (.t 16)⟩])
    (.cond (.t 15) (.seq (.reg [3, 4] [⟨(some 18), none, .faddr 3 (.t 1)⟩,
           ⟨(some 19), none, .load none (.t 18)⟩,
           ⟨(some 20), none, .call (.c (.fn 55)) [(.t 19)]⟩,
           ⟨(some 17), none, .mv (.t 20)⟩,
           ⟨(some 21), none, .extract (.t 17) 0⟩,
           ⟨(some 22), none, .extract (.t 17) 1⟩,
           ⟨(some 3), none, .mv (.t 21)⟩,
           ⟨(some 4), none, .mv (.t 22)⟩])
      (.seq (.seq (.reg [24] [⟨(some 23), none, .mv (.t 4)⟩,
            ⟨(some 24), none, .bin .neq .ifc true (.t 23) (.c .inil)⟩])
       (.cond (.t 24) (.seq (.reg [2] [⟨(some 2), none, .mv (.c (.str []))⟩])
         .ret)
       .skip))
      (.seq (.reg [2] [⟨(some 25), none, .mv (.t 3)⟩,
           ⟨(some 2), none, .mv (.t 25)⟩])
      .ret)))
    (.seq (.reg [26] [⟨(some 27), none, .bin .eql .other true (.t 9) (.c (.int .i64 3))⟩,
         ⟨(some 26), none, .mv (.t 27)⟩])
    (.cond (.t 26) (.seq (.reg [2] [⟨(some 28), none, .faddr 3 (.t 1)⟩,
           ⟨(some 29), none, .load none (.t 28)⟩,
           ⟨(some 2), none, .mv (.t 29)⟩])
      .ret)
    (.seq (.reg [30] [⟨(some 31), none, .bin .eql .other true (.t 9) (.c (.int .i64 4))⟩,
         ⟨(some 30), none, .mv (.t 31)⟩])
    (.cond (.t 30) (.seq (.any [2] [(⟨(some 32), none, .faddr 3 (.t 1)⟩, true),
           (⟨(some 33), none, .load none (.t 32)⟩, true),
           (⟨(some 34), none, .bin .add .other true (.c (.str [102, 110, 32])) (.t 33)⟩, true),
           (⟨(some 35), none, .bin .add .other true (.t 34) (.c (.str [32, 45, 62, 32]))⟩, true),
           (⟨(some 36), none, .faddr 7 (.t 1)⟩, false),
           (⟨(some 37), none, .load none (.t 36)⟩, false),
           (⟨(some 38), none, .iaddr (some 8) (.t 37) (.c (.int .i64 0))⟩, false),
           (⟨(some 39), none, .load (some 8) (.t 38)⟩, false),
           (⟨(some 40), none, .call (.c (.fn 31)) [(.t 39)]⟩, false),
           (⟨(some 41), none, .bin .add .other false (.t 35) (.t 40)⟩, true),
           (⟨(some 2), none, .mv (.t 41)⟩, true)])
      .ret)
    (.seq (.reg [42] [⟨(some 43), none, .bin .eql .other true (.t 9) (.c (.int .i64 5))⟩,
         ⟨(some 42), none, .mv (.t 43)⟩])
    (.cond (.t 42) (.seq (.any [2] [(⟨(some 44), none, .faddr 7 (.t 1)⟩, true),
           (⟨(some 45), none, .load none (.t 44)⟩, true),
           (⟨(some 46), none, .iaddr (some 8) (.t 45) (.c (.int .i64 0))⟩, true),
           (⟨(some 47), none, .load (some 8) (.t 46)⟩, true),
           (⟨(some 50), none, .faddr 7 (.t 1)⟩, false),
           (⟨(some 51), none, .load none (.t 50)⟩, false),
           (⟨(some 52), none, .iaddr (some 8) (.t 51) (.c (.int .i64 1))⟩, false),
           (⟨(some 53), none, .load (some 8) (.t 52)⟩, false),
           (⟨(some 48), none, .call (.c (.fn 56)) [(.t 47)]⟩, false),
           (⟨(some 49), none, .bin .add .other true (.t 48) (.c (.str [32]))⟩, false),
           (⟨(some 54), none, .call (.c (.fn 56)) [(.t 53)]⟩, false),
           (⟨(some 55), none, .bin .add .other false (.t 49) (.t 54)⟩, true),
           (⟨(some 2), none, .mv (.t 55)⟩, true)])
      .ret)
    (.seq (.reg [56] [⟨(some 57), none, .bin .eql .other true (.t 9) (.c (.int .i64 6))⟩,
         ⟨(some 56), none, .mv (.t 57)⟩])
    (.cond (.t 56) (.seq (.any [2] [(⟨(some 58), none, .faddr 3 (.t 1)⟩, true),
           (⟨(some 59), none, .load none (.t 58)⟩, true),
           (⟨(some 60), none, .bin .add .other true (.c (.str [108, 101, 116, 32])) (.t 59)⟩, true),
           (⟨(some 61), none, .bin .add .other true (.t 60) (.c (.str [32, 61, 32]))⟩, true),
           (⟨(some 62), none, .faddr 7 (.t 1)⟩, false),
           (⟨(some 63), none, .load none (.t 62)⟩, false),
           (⟨(some 64), none, .iaddr (some 8) (.t 63) (.c (.int .i64 0))⟩, false),
           (⟨(some 65), none, .load (some 8) (.t 64)⟩, false),
           (⟨(some 69), none, .faddr 7 (.t 1)⟩, false),
           (⟨(some 70), none, .load none (.t 69)⟩, false),
           (⟨(some 71), none, .iaddr (some 8) (.t 70) (.c (.int .i64 1))⟩, false),
           (⟨(some 72), none, .load (some 8) (.t 71)⟩, false),
           (⟨(some 66), none, .call (.c (.fn 31)) [(.t 65)]⟩, false),
           (⟨(some 67), none, .bin .add .other false (.t 61) (.t 66)⟩, false),
           (⟨(some 68), none, .bin .add .other true (.t 67) (.c (.str [32, 105, 110, 32]))⟩, false),
           (⟨(some 73), none, .call (.c (.fn 31)) [(.t 72)]⟩, false),
           (⟨(some 74), none, .bin .add .other false (.t 68) (.t 73)⟩, true),
           (⟨(some 2), none, .mv (.t 74)⟩, true)])
      .ret)
    (.seq (.reg [75] [⟨(some 76), none, .bin .eql .other true (.t 9) (.c (.int .i64 7))⟩,
         ⟨(some 75), none, .mv (.t 76)⟩])
    (.cond (.t 75) (.seq (.any [2] [(⟨(some 77), none, .faddr 3 (.t 1)⟩, true),
           (⟨(some 78), none, .load none (.t 77)⟩, true),
           (⟨(some 79), none, .bin .add .other true (.c (.str [108, 101, 116, 32, 114, 101, 99, 32])) (.t 78)⟩, true),
           (⟨(some 80), none, .bin .add .other true (.t 79) (.c (.str [32]))⟩, true),
           (⟨(some 81), none, .faddr 4 (.t 1)⟩, false),
           (⟨(some 82), none, .load none (.t 81)⟩, false),
           (⟨(some 83), none, .bin .add .other false (.t 80) (.t 82)⟩, true),
           (⟨(some 84), none, .bin .add .other true (.t 83) (.c (.str [32, 61, 32]))⟩, true),
           (⟨(some 85), none, .faddr 7 (.t 1)⟩, false),
           (⟨(some 86), none, .load none (.t 85)⟩, false),
           (⟨(some 87), none, .iaddr (some 8) (.t 86) (.c (.int .i64 0))⟩, false),
           (⟨(some 88), none, .load (some 8) (.t 87)⟩, false),
           (⟨(some 92), none, .faddr 7 (.t 1)⟩, false),
           (⟨(some 93), none, .load none (.t 92)⟩, false),
           (⟨(some 94), none, .iaddr (some 8) (.t 93) (.c (.int .i64 1))⟩, false),
           (⟨(some 95), none, .load (some 8) (.t 94)⟩, false),
           (⟨(some 89), none, .call (.c (.fn 31)) [(.t 88)]⟩, false),
           (⟨(some 90), none, .bin .add .other false (.t 84) (.t 89)⟩, false),
           (⟨(some 91), none, .bin .add .other true (.t 90) (.c (.str [32, 105, 110, 32]))⟩, false),
           (⟨(some 96), none, .call (.c (.fn 31)) [(.t 95)]⟩, false),
           (⟨(some 97), none, .bin .add .other false (.t 91) (.t 96)⟩, true),
           (⟨(some 2), none, .mv (.t 97)⟩, true)])
      .ret)
    (.seq (.reg [98] [⟨(some 99), none, .bin .eql .other true (.t 9) (.c (.int .i64 8))⟩,
         ⟨(some 98), none, .mv (.t 99)⟩])
    (.cond (.t 98) (.seq (.reg [5] [⟨(some 5), none, .mv (.c .snil)⟩])
      (.seq (.seq (.reg [101, 102, 103] [⟨(some 100), none, .faddr 5 (.t 1)⟩,
            ⟨(some 101), none, .load none (.t 100)⟩,
            ⟨(some 102), none, .len .sl (.t 101)⟩,
            ⟨(some 103), none, .mv (.c (.int .i64 0))⟩])
       (.block 1 (.loop (.seq (.reg [104] [⟨(some 104), none, .bin .lss .other false (.t 103) (.t 102)⟩])
         (.seq (.cond (.t 104) .skip
          (.exit 1))
         (.seq (.block 2 (.seq (.reg [6, 7] [⟨(some 105), none, .mv (.t 103)⟩,
                ⟨(some 106), none, .iaddr none (.t 101) (.t 103)⟩,
                ⟨(some 107), none, .load none (.t 106)⟩,
                ⟨(some 6), none, .mv (.t 105)⟩,
                ⟨(some 7), none, .mv (.t 107)⟩])
           (.reg [5] [⟨(some 108), none, .mv (.t 5)⟩,
               ⟨(some 109), none, .mv (.t 7)⟩,
               ⟨(some 110), none, .bin .add .other true (.t 109) (.c (.str [32, 61, 32]))⟩,
               ⟨(some 111), none, .faddr 7 (.t 1)⟩,
               ⟨(some 112), none, .load none (.t 111)⟩,
               ⟨(some 113), none, .mv (.t 6)⟩,
               ⟨(some 114), none, .iaddr (some 8) (.t 112) (.t 113)⟩,
               ⟨(some 115), none, .load (some 8) (.t 114)⟩,
               ⟨(some 116), none, .call (.c (.fn 31)) [(.t 115)]⟩,
               ⟨(some 117), none, .bin .add .other false (.t 110) (.t 116)⟩,
               ⟨(some 118), none, .mksl none [(.t 117)]⟩,
               ⟨(some 119), none, .append none 16 (.t 108) (.t 118)⟩,
               ⟨(some 5), none, .mv (.t 119)⟩])))
         (.reg [103] [⟨(some 120), none, .bin .add .other true (.t 103) (.c (.int .i64 1))⟩,
             ⟨(some 103), none, .mv (.t 120)⟩])))))))
      (.seq (.reg [2] [⟨(some 121), none, .mv (.t 5)⟩,
           ⟨(some 122), none, .call (.c (.fn 57)) [(.t 121), (.c (.str [44, 32]))]⟩,
           ⟨(some 123), none, .bin .add .other true (.c (.str [123])) (.t 122)⟩,
           ⟨(some 124), none, .bin .add .other true (.t 123) (.c (.str [125]))⟩,
           ⟨(some 2), none, .mv (.t 124)⟩])
      .ret)))
    (.seq (.reg [125] [⟨(some 126), none, .bin .eql .other true (.t 9) (.c (.int .i64 9))⟩,
         ⟨(some 125), none, .mv (.t 126)⟩])
    (.cond (.t 125) (.seq (.any [2] [(⟨(some 127), none, .faddr 7 (.t 1)⟩, true),
           (⟨(some 128), none, .load none (.t 127)⟩, true),
           (⟨(some 129), none, .iaddr (some 8) (.t 128) (.c (.int .i64 0))⟩, true),
           (⟨(some 130), none, .load (some 8) (.t 129)⟩, true),
           (⟨(some 133), none, .faddr 3 (.t 1)⟩, false),
           (⟨(some 134), none, .load none (.t 133)⟩, false),
           (⟨(some 131), none, .call (.c (.fn 56)) [(.t 130)]⟩, false),
           (⟨(some 132), none, .bin .add .other true (.t 131) (.c (.str [46]))⟩, false),
           (⟨(some 135), none, .bin .add .other false (.t 132) (.t 134)⟩, true),
           (⟨(some 2), none, .mv (.t 135)⟩, true)])
      .ret)
    (.seq (.reg [136] [⟨(some 137), none, .bin .eql .other true (.t 9) (.c (.int .i64 10))⟩,
         ⟨(some 136), none, .mv (.t 137)⟩])
    (.cond (.t 136) (.seq (.any [2] [(⟨(some 138), none, .faddr 3 (.t 1)⟩, true),
           (⟨(some 139), none, .load none (.t 138)⟩, true),
           (⟨(some 140), none, .bin .add .other true (.c (.str [123])) (.t 139)⟩, true),
           (⟨(some 141), none, .bin .add .other true (.t 140) (.c (.str [32, 61, 32]))⟩, true),
           (⟨(some 142), none, .faddr 7 (.t 1)⟩, false),
           (⟨(some 143), none, .load none (.t 142)⟩, false),
           (⟨(some 144), none, .iaddr (some 8) (.t 143) (.c (.int .i64 0))⟩, false),
           (⟨(some 145), none, .load (some 8) (.t 144)⟩, false),
           (⟨(some 149), none, .faddr 7 (.t 1)⟩, false),
           (⟨(some 150), none, .load none (.t 149)⟩, false),
           (⟨(some 151), none, .iaddr (some 8) (.t 150) (.c (.int .i64 1))⟩, false),
           (⟨(some 152), none, .load (some 8) (.t 151)⟩, false),
           (⟨(some 146), none, .call (.c (.fn 31)) [(.t 145)]⟩, false),
           (⟨(some 147), none, .bin .add .other false (.t 141) (.t 146)⟩, false),
           (⟨(some 148), none, .bin .add .other true (.t 147) (.c (.str [32, 124, 32]))⟩, false),
           (⟨(some 153), none, .call (.c (.fn 31)) [(.t 152)]⟩, false),
           (⟨(some 154), none, .bin .add .other false (.t 148) (.t 153)⟩, true),
           (⟨(some 155), none, .bin .add .other true (.t 154) (.c (.str [125]))⟩, true),
           (⟨(some 2), none, .mv (.t 155)⟩, true)])
      .ret)
    (.seq (.reg [156] [⟨(some 157), none, .bin .eql .other true (.t 9) (.c (.int .i64 11))⟩,
         ⟨(some 156), none, .mv (.t 157)⟩])
    (.cond (.t 156) (.seq (.any [2] [(⟨(some 158), none, .faddr 7 (.t 1)⟩, true),
           (⟨(some 159), none, .load none (.t 158)⟩, true),
           (⟨(some 160), none, .iaddr (some 8) (.t 159) (.c (.int .i64 0))⟩, true),
           (⟨(some 161), none, .load (some 8) (.t 160)⟩, true),
           (⟨(some 164), none, .faddr 3 (.t 1)⟩, false),
           (⟨(some 165), none, .load none (.t 164)⟩, false),
           (⟨(some 162), none, .call (.c (.fn 56)) [(.t 161)]⟩, false),
           (⟨(some 163), none, .bin .add .other true (.t 162) (.c (.str [92]))⟩, false),
           (⟨(some 166), none, .bin .add .other false (.t 163) (.t 165)⟩, true),
           (⟨(some 2), none, .mv (.t 166)⟩, true)])
      .ret)
    (.seq (.reg [167] [⟨(some 168), none, .bin .eql .other true (.t 9) (.c (.int .i64 12))⟩,
         ⟨(some 167), none, .mv (.t 168)⟩])
    (.cond (.t 167) (.seq (.any [2] [(⟨(some 169), none, .faddr 7 (.t 1)⟩, true),
           (⟨(some 170), none, .load none (.t 169)⟩, true),
           (⟨(some 171), none, .iaddr (some 8) (.t 170) (.c (.int .i64 1))⟩, true),
           (⟨(some 172), none, .load (some 8) (.t 171)⟩, true),
           (⟨(some 176), none, .faddr 3 (.t 1)⟩, false),
           (⟨(some 177), none, .load none (.t 176)⟩, false),
           (⟨(some 180), none, .faddr 7 (.t 1)⟩, false),
           (⟨(some 181), none, .load none (.t 180)⟩, false),
           (⟨(some 182), none, .iaddr (some 8) (.t 181) (.c (.int .i64 0))⟩, false),
           (⟨(some 183), none, .load (some 8) (.t 182)⟩, false),
           (⟨(some 173), none, .call (.c (.fn 56)) [(.t 172)]⟩, false),
           (⟨(some 174), none, .bin .add .other true (.c (.str [123])) (.t 173)⟩, false),
           (⟨(some 175), none, .bin .add .other true (.t 174) (.c (.str [32, 119, 105, 116, 104, 32]))⟩, false),
           (⟨(some 178), none, .bin .add .other false (.t 175) (.t 177)⟩, false),
           (⟨(some 179), none, .bin .add .other true (.t 178) (.c (.str [32, 61, 32]))⟩, false),
           (⟨(some 184), none, .call (.c (.fn 31)) [(.t 183)]⟩, false),
           (⟨(some 185), none, .bin .add .other false (.t 179) (.t 184)⟩, true),
           (⟨(some 186), none, .bin .add .other true (.t 185) (.c (.str [125]))⟩, true),
           (⟨(some 2), none, .mv (.t 186)⟩, true)])
      .ret)
    (.seq (.reg [187] [⟨(some 188), none, .bin .eql .other true (.t 9) (.c (.int .i64 14))⟩,
         ⟨(some 187), none, .mv (.t 188)⟩])
    (.cond (.t 187) (.seq (.reg [2] [⟨(some 189), none, .load (some 8) (.t 1)⟩,
           ⟨(some 190), none, .call (.c (.fn 58)) [(.t 189)]⟩,
           ⟨(some 2), none, .mv (.t 190)⟩])
      .ret)
    (.seq (.reg [191] [⟨(some 192), none, .bin .eql .other true (.t 9) (.c (.int .i64 15))⟩,
         ⟨(some 191), none, .mv (.t 192)⟩])
    (.cond (.t 191) (.seq (.any [2] [(⟨(some 193), none, .faddr 7 (.t 1)⟩, true),
           (⟨(some 194), none, .load none (.t 193)⟩, true),
           (⟨(some 195), none, .iaddr (some 8) (.t 194) (.c (.int .i64 0))⟩, true),
           (⟨(some 196), none, .load (some 8) (.t 195)⟩, true),
           (⟨(some 200), none, .faddr 7 (.t 1)⟩, false),
           (⟨(some 201), none, .load none (.t 200)⟩, false),
           (⟨(some 202), none, .iaddr (some 8) (.t 201) (.c (.int .i64 1))⟩, false),
           (⟨(some 203), none, .load (some 8) (.t 202)⟩, false),
           (⟨(some 207), none, .faddr 7 (.t 1)⟩, false),
           (⟨(some 208), none, .load none (.t 207)⟩, false),
           (⟨(some 209), none, .iaddr (some 8) (.t 208) (.c (.int .i64 2))⟩, false),
           (⟨(some 210), none, .load (some 8) (.t 209)⟩, false),
           (⟨(some 197), none, .call (.c (.fn 31)) [(.t 196)]⟩, false),
           (⟨(some 198), none, .bin .add .other true (.c (.str [105, 102, 32])) (.t 197)⟩, false),
           (⟨(some 199), none, .bin .add .other true (.t 198) (.c (.str [32, 116, 104, 101, 110, 32]))⟩, false),
           (⟨(some 204), none, .call (.c (.fn 31)) [(.t 203)]⟩, false),
           (⟨(some 205), none, .bin .add .other false (.t 199) (.t 204)⟩, false),
           (⟨(some 206), none, .bin .add .other true (.t 205) (.c (.str [32, 101, 108, 115, 101, 32]))⟩, false),
           (⟨(some 211), none, .call (.c (.fn 31)) [(.t 210)]⟩, false),
           (⟨(some 212), none, .bin .add .other false (.t 206) (.t 211)⟩, true),
           (⟨(some 2), none, .mv (.t 212)⟩, true)])
      .ret)
    (.seq (.reg [213] [⟨(some 214), none, .bin .eql .other true (.t 9) (.c (.int .i64 16))⟩,
         ⟨(some 213), none, .mv (.t 214)⟩])
    (.cond (.t 213) (.seq (.any [2] [(⟨(some 215), none, .faddr 7 (.t 1)⟩, true),
           (⟨(some 216), none, .load none (.t 215)⟩, true),
           (⟨(some 217), none, .iaddr (some 8) (.t 216) (.c (.int .i64 0))⟩, true),
           (⟨(some 218), none, .load (some 8) (.t 217)⟩, true),
           (⟨(some 221), none, .faddr 3 (.t 1)⟩, false),
           (⟨(some 222), none, .load none (.t 221)⟩, false),
           (⟨(some 225), none, .faddr 7 (.t 1)⟩, false),
           (⟨(some 226), none, .load none (.t 225)⟩, false),
           (⟨(some 227), none, .iaddr (some 8) (.t 226) (.c (.int .i64 1))⟩, false),
           (⟨(some 228), none, .load (some 8) (.t 227)⟩, false),
           (⟨(some 219), none, .call (.c (.fn 56)) [(.t 218)]⟩, false),
           (⟨(some 220), none, .bin .add .other true (.t 219) (.c (.str [32]))⟩, false),
           (⟨(some 223), none, .bin .add .other false (.t 220) (.t 222)⟩, false),
           (⟨(some 224), none, .bin .add .other true (.t 223) (.c (.str [32]))⟩, false),
           (⟨(some 229), none, .call (.c (.fn 56)) [(.t 228)]⟩, false),
           (⟨(some 230), none, .bin .add .other false (.t 224) (.t 229)⟩, true),
           (⟨(some 2), none, .mv (.t 230)⟩, true)])
      .ret)
    (.seq (.reg [231] [⟨(some 232), none, .bin .eql .other true (.t 9) (.c (.int .i64 19))⟩,
         ⟨(some 231), none, .mv (.t 232)⟩])
    (.cond (.t 231) (.seq (.any [2] [(⟨(some 233), none, .faddr 7 (.t 1)⟩, true),
           (⟨(some 234), none, .load none (.t 233)⟩, true),
           (⟨(some 235), none, .iaddr (some 8) (.t 234) (.c (.int .i64 0))⟩, true),
           (⟨(some 236), none, .load (some 8) (.t 235)⟩, true),
           (⟨(some 239), none, .faddr 7 (.t 1)⟩, false),
           (⟨(some 240), none, .load none (.t 239)⟩, false),
           (⟨(some 241), none, .iaddr (some 8) (.t 240) (.c (.int .i64 1))⟩, false),
           (⟨(some 242), none, .load (some 8) (.t 241)⟩, false),
           (⟨(some 237), none, .call (.c (.fn 56)) [(.t 236)]⟩, false),
           (⟨(some 238), none, .bin .add .other true (.t 237) (.c (.str [32, 58, 61, 32]))⟩, false),
           (⟨(some 243), none, .call (.c (.fn 56)) [(.t 242)]⟩, false),
           (⟨(some 244), none, .bin .add .other false (.t 238) (.t 243)⟩, true),
           (⟨(some 2), none, .mv (.t 244)⟩, true)])
      .ret)
    (.seq (.reg [245] [⟨(some 246), none, .bin .eql .other true (.t 9) (.c (.int .i64 22))⟩,
         ⟨(some 245), none, .mv (.t 246)⟩])
    (.cond (.t 245) (.seq (.reg [2] [⟨(some 2), none, .mv (.c (.str [114, 101, 97, 100]))⟩])
      .ret)
    .skip))))))))))))))))))))))))))))))))))))
  (.seq (.any [2] [(⟨(some 247), none, .load (some 8) (.t 1)⟩, true),
       (⟨(some 249), none, .faddr 7 (.t 1)⟩, false),
       (⟨(some 250), none, .load none (.t 249)⟩, false),
       (⟨(some 251), none, .iaddr (some 8) (.t 250) (.c (.int .i64 0))⟩, false),
       (⟨(some 252), none, .load (some 8) (.t 251)⟩, false),
       (⟨(some 248), none, .call (.c (.fn 59)) [(.t 247)]⟩, false),
       (⟨(some 253), none, .call (.c (.fn 56)) [(.t 252)]⟩, true),
       (⟨(some 254), none, .bin .add .other false (.t 248) (.t 253)⟩, true),
       (⟨(some 2), none, .mv (.t 254)⟩, true)])
  .ret)))⟩
theorem c31 : compF Tryz.prog [0, 1, 2, 3, 4, 5, 6, 7, 9, 10, 15, 24, 26, 30, 42, 56, 75, 98, 101, 102, 103, 104, 125, 136, 156, 167, 187, 191, 213, 231, 245] Tryz.f31 = some a31 := by kernel_rfl

/- bushel/show.small -/
def a56 : AFun := ⟨19, [.tmp 2], (.seq (.reg [1, 2] [⟨(some 1), none, .box (.t 0)⟩,
       ⟨(some 2), none, .mv (.c (.str []))⟩])
  (.seq (.seq (.reg [4] [⟨(some 3), none, .faddr 0 (.t 1)⟩,
        ⟨(some 4), none, .load none (.t 3)⟩])
   (.block 0 (.seq (.seq (.reg [5] [⟨(some 6), none, .bin .eql .other true (.t 4) (.c (.int .i64 1))⟩,
          ⟨(some 5), none, .mv (.t 6)⟩])
     (.cond (.t 5) .skip
     (.seq (.reg [5] [⟨(some 7), none, .bin .eql .other true (.t 4) (.c (.int .i64 2))⟩,
          ⟨(some 5), none, .mv (.t 7)⟩])
     (.cond (.t 5) .skip
     (.seq (.reg [5] [⟨(some 8), none, .bin .eql .other true (.t 4) (.c (.int .i64 3))⟩,
          ⟨(some 5), none, .mv (.t 8)⟩])
     (.cond (.t 5) .skip
     (.seq (.reg [5] [⟨(some 9), none, .bin .eql .other true (.t 4) (.c (.int .i64 8))⟩,
          ⟨(some 5), none, .mv (.t 9)⟩])
     (.cond (.t 5) .skip
     (.seq (.reg [5] [⟨(some 10), none, .bin .eql .other true (.t 4) (.c (.int .i64 10))⟩,
          ⟨(some 5), none, .mv (.t 10)⟩])
     (.cond (.t 5) .skip
     (.seq (.reg [5] [⟨(some 11), none, .bin .eql .other true (.t 4) (.c (.int .i64 12))⟩,
          ⟨(some 5), none, .mv (.t 11)⟩])
     (.cond (.t 5) .skip
     (.reg [5] [⟨(some 12), none, .bin .eql .other true (.t 4) (.c (.int .i64 22))⟩,
         ⟨(some 5), none, .mv (.t 12)⟩])))))))))))))
    (.cond (.t 5) (.seq (.reg [2] [⟨(some 13), none, .load (some 8) (.t 1)⟩,
           ⟨(some 14), none, .call (.c (.fn 31)) [(.t 13)]⟩,
           ⟨(some 2), none, .mv (.t 14)⟩])
      .ret)
    .skip))))
  (.seq (.reg [2] [⟨(some 15), none, .load (some 8) (.t 1)⟩,
       ⟨(some 16), none, .call (.c (.fn 31)) [(.t 15)]⟩,
       ⟨(some 17), none, .bin .add .other true (.c (.str [40])) (.t 16)⟩,
       ⟨(some 18), none, .bin .add .other true (.t 17) (.c (.str [41]))⟩,
       ⟨(some 2), none, .mv (.t 18)⟩])
  .ret)))⟩
theorem c56 : compF Tryz.prog [0, 1, 2, 4, 5] Tryz.f56 = some a56 := by kernel_rfl

/- bushel/show.match -/
def a58 : AFun := ⟨63, [.tmp 2], (.seq (.reg [1, 2] [⟨(some 1), none, .box (.t 0)⟩,
       ⟨(some 2), none, .mv (.c (.str []))⟩])
  (.seq (.reg [3] [⟨(some 6), none, .faddr 7 (.t 1)⟩,
       ⟨(some 7), none, .load none (.t 6)⟩,
       ⟨(some 8), none, .iaddr (some 8) (.t 7) (.c (.int .i64 0))⟩,
       ⟨(some 9), none, .load (some 8) (.t 8)⟩,
       ⟨(some 10), none, .call (.c (.fn 31)) [(.t 9)]⟩,
       ⟨(some 11), none, .bin .add .other true (.c (.str [109, 97, 116, 99, 104, 32])) (.t 10)⟩,
       ⟨(some 12), none, .bin .add .other true (.t 11) (.c (.str [32, 119, 105, 116, 104]))⟩,
       ⟨(some 3), none, .mv (.t 12)⟩])
  (.seq (.seq (.reg [14, 15, 16] [⟨(some 13), none, .faddr 5 (.t 1)⟩,
        ⟨(some 14), none, .load none (.t 13)⟩,
        ⟨(some 15), none, .len .sl (.t 14)⟩,
        ⟨(some 16), none, .mv (.c (.int .i64 0))⟩])
   (.block 0 (.loop (.seq (.reg [17] [⟨(some 17), none, .bin .lss .other false (.t 16) (.t 15)⟩])
     (.seq (.cond (.t 17) .skip
      (.exit 0))
     (.seq (.block 1 (.seq (.reg [4, 5] [⟨(some 18), none, .mv (.t 16)⟩,
            ⟨(some 19), none, .iaddr none (.t 14) (.t 16)⟩,
            ⟨(some 20), none, .load none (.t 19)⟩,
            ⟨(some 4), none, .mv (.t 18)⟩,
            ⟨(some 5), none, .mv (.t 20)⟩])
       (.any [3] [(⟨(some 21), none, .mv (.t 3)⟩, true),
           (⟨(some 22), none, .mv (.t 5)⟩, false),
           (⟨(some 23), none, .bin .add .other true (.c (.str [32, 124, 32])) (.t 22)⟩, false),
           (⟨(some 24), none, .bin .add .other true (.t 23) (.c (.str [32]))⟩, false),
           (⟨(some 25), none, .faddr 6 (.t 1)⟩, false),
           (⟨(some 26), none, .load none (.t 25)⟩, false),
           (⟨(some 27), none, .mv (.t 4)⟩, false),
           (⟨(some 28), none, .iaddr none (.t 26) (.t 27)⟩, false),
           (⟨(some 29), none, .load none (.t 28)⟩, false),
           (⟨(some 30), none, .bin .add .other false (.t 24) (.t 29)⟩, false),
           (⟨(some 31), none, .bin .add .other true (.t 30) (.c (.str [32, 45, 62, 32]))⟩, false),
           (⟨(some 32), none, .faddr 7 (.t 1)⟩, false),
           (⟨(some 33), none, .load none (.t 32)⟩, false),
           (⟨(some 34), none, .mv (.t 4)⟩, false),
           (⟨(some 35), none, .bin .add .other true (.t 34) (.c (.int .i64 1))⟩, false),
           (⟨(some 36), none, .iaddr (some 8) (.t 33) (.t 35)⟩, false),
           (⟨(some 37), none, .load (some 8) (.t 36)⟩, false),
           (⟨(some 38), none, .call (.c (.fn 31)) [(.t 37)]⟩, false),
           (⟨(some 39), none, .bin .add .other false (.t 31) (.t 38)⟩, false),
           (⟨(some 40), none, .bin .add .other false (.t 21) (.t 39)⟩, true),
           (⟨(some 3), none, .mv (.t 40)⟩, true)])))
     (.reg [16] [⟨(some 41), none, .bin .add .other true (.t 16) (.c (.int .i64 1))⟩,
         ⟨(some 16), none, .mv (.t 41)⟩])))))))
  (.seq (.seq (.reg [44] [⟨(some 42), none, .faddr 4 (.t 1)⟩,
        ⟨(some 43), none, .load none (.t 42)⟩,
        ⟨(some 44), none, .bin .neq .other true (.t 43) (.c (.str []))⟩])
   (.cond (.t 44) (.any [3] [(⟨(some 45), none, .mv (.t 3)⟩, true),
         (⟨(some 46), none, .faddr 4 (.t 1)⟩, false),
         (⟨(some 47), none, .load none (.t 46)⟩, false),
         (⟨(some 48), none, .bin .add .other true (.c (.str [32, 124, 32])) (.t 47)⟩, false),
         (⟨(some 49), none, .bin .add .other true (.t 48) (.c (.str [32, 45, 62, 32]))⟩, false),
         (⟨(some 50), none, .faddr 7 (.t 1)⟩, false),
         (⟨(some 51), none, .load none (.t 50)⟩, false),
         (⟨(some 52), none, .faddr 7 (.t 1)⟩, false),
         (⟨(some 53), none, .load none (.t 52)⟩, false),
         (⟨(some 54), none, .len .sl (.t 53)⟩, false),
         (⟨(some 55), none, .bin .sub .other true (.t 54) (.c (.int .i64 1))⟩, false),
         (⟨(some 56), none, .iaddr (some 8) (.t 51) (.t 55)⟩, false),
         (⟨(some 57), none, .load (some 8) (.t 56)⟩, false),
         (⟨(some 58), none, .call (.c (.fn 31)) [(.t 57)]⟩, false),
         (⟨(some 59), none, .bin .add .other false (.t 49) (.t 58)⟩, false),
         (⟨(some 60), none, .bin .add .other false (.t 45) (.t 59)⟩, true),
         (⟨(some 3), none, .mv (.t 60)⟩, true)])
   .skip))
  (.seq (.reg [2] [⟨(some 61), none, .mv (.t 3)⟩,
       ⟨(some 62), none, .bin .add .other true (.t 61) (.c (.str [32, 101, 110, 100]))⟩,
       ⟨(some 2), none, .mv (.t 62)⟩])
  .ret)))))⟩
theorem c58 : compF Tryz.prog [0, 1, 2, 3, 4, 5, 14, 15, 16, 17, 44] Tryz.f58 = some a58 := by kernel_rfl

/- bushel/show.head -/
def a59 : AFun := ⟨16, [.tmp 2], (.seq (.reg [1, 2] [⟨(some 1), none, .box (.t 0)⟩,
       ⟨(some 2), none, .mv (.c (.str []))⟩])
  (.seq (.seq (.reg [4] [⟨(some 3), none, .faddr 0 (.t 1)⟩,
        ⟨(some 4), none, .load none (.t 3)⟩])
   (.block 0 (.seq (.reg [5] [⟨(some 6), none, .bin .eql .other true (.t 4) (.c (.int .i64 17))⟩,
         ⟨(some 5), none, .mv (.t 6)⟩])
    (.cond (.t 5) (.seq (.reg [2] [⟨(some 2), none, .mv (.c (.str [114, 101, 102, 32]))⟩])
      .ret)
    (.seq (.reg [7] [⟨(some 8), none, .bin .eql .other true (.t 4) (.c (.int .i64 20))⟩,
         ⟨(some 7), none, .mv (.t 8)⟩])
    (.cond (.t 7) (.seq (.reg [2] [⟨(some 2), none, .mv (.c (.str [112, 114, 105, 110, 116, 32]))⟩])
      .ret)
    (.seq (.reg [9] [⟨(some 10), none, .bin .eql .other true (.t 4) (.c (.int .i64 21))⟩,
         ⟨(some 9), none, .mv (.t 10)⟩])
    (.cond (.t 9) (.seq (.reg [2] [⟨(some 2), none, .mv (.c (.str [115, 104, 111, 119, 32]))⟩])
      .ret)
    (.seq (.reg [11] [⟨(some 12), none, .bin .eql .other true (.t 4) (.c (.int .i64 18))⟩,
         ⟨(some 11), none, .mv (.t 12)⟩])
    (.cond (.t 11) (.seq (.reg [2] [⟨(some 2), none, .mv (.c (.str [33]))⟩])
      .ret)
    .skip))))))))))
  (.seq (.reg [2] [⟨(some 13), none, .faddr 3 (.t 1)⟩,
       ⟨(some 14), none, .load none (.t 13)⟩,
       ⟨(some 15), none, .bin .add .other true (.t 14) (.c (.str [32]))⟩,
       ⟨(some 2), none, .mv (.t 15)⟩])
  .ret)))⟩
theorem c59 : compF Tryz.prog [0, 1, 2, 4, 5, 7, 9, 11] Tryz.f59 = some a59 := by kernel_rfl

end Go.Proofs.YtpdeaekmgljeaaaGreatDoor

/-
  Expressions as text: in brackets, where one isn't one by itself; what stands ahead. (Own work.)
-/
set_option linter.unusedVariables false
set_option linter.unusedSimpArgs false
namespace Go.Proofs.YtpdeaekmgljeaaaGreatDoor
open Go Go.Abs

theorem k_Small {e : Ex} {T : Str} {σ : Sg} (hT : T.length ≤ 100000000) (h : ∀ σ, ACalls Tryz.prog 31 [.v (encE e)] σ fun r σ' => r = .v (.str T) ∧ σ' = σ) : ACalls Tryz.prog 56 [.v (encE e)] σ fun r σ' => r = .v (.str (smallT (kdE e, T))) ∧ σ' = σ := by
  cases e with
  | mk k p n s t ls ns l =>
  rw [encE_mk] at h ⊢
  have hE : kdE (.mk k p n s t ls ns l) = k := rfl
  rw [hE]
  refine acalls_fit Tryz.func56 (by kernel_rfl) c56 rfl (by simp [a56]) fun hf => ?_
  clear hf
  unfold smallT soleK
  by_cases h1 : k = 1 ∨ k = 2 ∨ k = 3 ∨ k = 8 ∨ k = 10 ∨ k = 12 ∨ k = 22
  · rcases h1 with rfl | rfl | rfl | rfl | rfl | rfl | rfl
    all_goals
      simp -implicitDefEqProofs (maxSteps := 2000000) (disch := omega) [-getElem?_pos, a56]
      refine (h _).then fun r hr => ?_
      subst hr
      simp -implicitDefEqProofs (maxSteps := 2000000) (disch := omega) [-getElem?_pos]
      exact .fin _ ⟨rfl, rfl⟩ (by simp)
  · simp only [not_or] at h1
    obtain ⟨h1, h2, h3, h4, h5, h6, h7⟩ := h1
    simp -implicitDefEqProofs (maxSteps := 2000000) (disch := omega) [-getElem?_pos, a56, h1, h2, h3, h4, h5, h6, h7]
    refine (h _).then fun r hr => ?_
    subst hr
    simp -implicitDefEqProofs (maxSteps := 2000000) (disch := omega) [-getElem?_pos]
    refine ⟨by omega, by omega, ?_⟩
    exact .fin (.v (.str ([40] ++ T ++ [41]))) ⟨by simp [h1, h2, h3, h4, h5, h6, h7], rfl⟩ (.refl _)
theorem k_SP {e : Ex} {T : Str} {σ : Sg} (hT : T.length ≤ 100000000) (h : ∀ σ, ACalls Tryz.prog 12 [.v (encE e)] σ fun r σ' => r = .v (.str T) ∧ σ' = σ) : ACalls Tryz.prog 37 [.v (encE e)] σ fun r σ' => r = .v (.str (smallT (kdE e, T))) ∧ σ' = σ := by
  cases e with
  | mk k p n s t ls ns l =>
  rw [encE_mk] at h ⊢
  have hE : kdE (.mk k p n s t ls ns l) = k := rfl
  rw [hE]
  refine acalls_fit Tryz.func37 (by kernel_rfl) c37 rfl (by simp [a37]) fun hf => ?_
  clear hf
  unfold smallT soleK
  by_cases h1 : k = 1 ∨ k = 2 ∨ k = 3 ∨ k = 8 ∨ k = 10 ∨ k = 12 ∨ k = 22
  · rcases h1 with rfl | rfl | rfl | rfl | rfl | rfl | rfl
    all_goals
      simp -implicitDefEqProofs (maxSteps := 2000000) (disch := omega) [-getElem?_pos, a37]
      refine (h _).then fun r hr => ?_
      subst hr
      simp -implicitDefEqProofs (maxSteps := 2000000) (disch := omega) [-getElem?_pos]
      exact .fin _ ⟨rfl, rfl⟩ (by simp)
  · simp only [not_or] at h1
    obtain ⟨h1, h2, h3, h4, h5, h6, h7⟩ := h1
    simp -implicitDefEqProofs (maxSteps := 2000000) (disch := omega) [-getElem?_pos, a37, h1, h2, h3, h4, h5, h6, h7]
    refine (h _).then fun r hr => ?_
    subst hr
    simp -implicitDefEqProofs (maxSteps := 2000000) (disch := omega) [-getElem?_pos]
    refine ⟨by omega, by omega, ?_⟩
    exact .fin (.v (.str ([40] ++ T ++ [41]))) ⟨by simp [h1, h2, h3, h4, h5, h6, h7], rfl⟩ (.refl _)
theorem k_Head {k p n : Int} {s t : Str} {ls ns : List Str} {l : List Ex} {σ : Sg} (hs : s.length ≤ 1048576) : ACalls Tryz.prog 59 [.v (encE (.mk k p n s t ls ns l))] σ fun r σ' => r = .v (.str (headK k s)) ∧ σ' = σ := by
  rw [encE_mk]
  refine acalls_fit Tryz.func59 (by kernel_rfl) c59 rfl (by simp [a59]) fun hf => ?_
  clear hf
  by_cases h1 : k = 17 ∨ k = 20 ∨ k = 21 ∨ k = 18
  · rcases h1 with rfl | rfl | rfl | rfl
    all_goals
      simp -implicitDefEqProofs (maxSteps := 2000000) (disch := omega) [-getElem?_pos, a59]
      exact .fin _ ⟨rfl, rfl⟩ (.refl _)
  · simp only [not_or] at h1
    obtain ⟨h1, h2, h3, h4⟩ := h1
    simp -implicitDefEqProofs (maxSteps := 2000000) (disch := omega) [-getElem?_pos, a59, h1, h2, h3, h4]
    refine ⟨by omega, ?_⟩
    exact .fin (.v (.str (s ++ [32]))) ⟨by simp [headK, h1, h2, h3, h4], rfl⟩ (.refl _)
end Go.Proofs.YtpdeaekmgljeaaaGreatDoor

/-
  Expressions as text: a match's arms, a record's fields. (Own work.)
-/
set_option linter.unusedVariables false
set_option linter.unusedSimpArgs false
namespace Go.Proofs.YtpdeaekmgljeaaaGreatDoor
open Go Go.Abs

theorem armL_len : ∀ (ls ns ys : List Str), ns.length = ls.length → ls.length ≤ ys.length → (armL ls ns ys).length = ls.length
  | [], ns, ys, _, _ => rfl
  | a :: ls, [], ys, h, _ => by simp at h
  | a :: ls, n :: ns, [], _, h => by simp at h
  | a :: ls, n :: ns, x :: xs, h1, h2 => by simp [armL, armL_len ls ns xs (by simpa using h1) (by simpa using h2)]
theorem armL_get : ∀ (ls ns ys : List Str) (i : Nat) (a n x : Str), ls[i]? = some a → ns[i]? = some n → ys[i]? = some x → (armL ls ns ys)[i]? = some ([32, 124, 32] ++ a ++ [32] ++ n ++ [32, 45, 62, 32] ++ x)
  | [], _, _, i, a, n, x, h, _, _ => by simp at h
  | _ :: _, [], _, i, a, n, x, _, h, _ => by simp at h
  | _ :: _, _ :: _, [], i, a, n, x, _, _, h => by simp at h
  | a :: ls, b :: ns, c :: xs, 0, s, n, x, h1, h2, h3 => by simp at h1 h2 h3; subst h1 h2 h3; simp [armL]
  | a :: ls, b :: ns, c :: xs, i + 1, s, n, x, h1, h2, h3 => by
    have := armL_get ls ns xs i s n x (by simpa using h1) (by simpa using h2) (by simpa using h3)
    simpa [armL] using this
/-- The first arms. -/
def armTo (ls ns ys : List Str) (i : Nat) : Str := ((armL ls ns ys).take i).flatten
theorem armTo_zero (ls ns ys : List Str) : armTo ls ns ys 0 = [] := rfl
theorem armTo_step {ls ns ys : List Str} {i : Nat} {a n x : Str} (h1 : ls[i]? = some a) (h2 : ns[i]? = some n) (h3 : ys[i]? = some x) : armTo ls ns ys (i + 1) = armTo ls ns ys i ++ ([32, 124, 32] ++ a ++ [32] ++ n ++ [32, 45, 62, 32] ++ x) := by
  unfold armTo
  rw [List.take_add_one, armL_get ls ns ys i a n x h1 h2 h3]
  simp
theorem flat_take : ∀ (L : List Str) (i : Nat), (L.take i).flatten.length ≤ L.flatten.length
  | [], i => by simp
  | x :: L, 0 => by simp
  | x :: L, i + 1 => by
    have := flat_take L i
    simp only [List.take_succ_cons, List.flatten_cons, List.length_append]
    omega
theorem armTo_all {ls ns ys : List Str} {i : Nat} (h : (armL ls ns ys).length ≤ i) : armTo ls ns ys i = (armL ls ns ys).flatten := by
  unfold armTo
  rw [List.take_of_length_le h]
theorem lenL_show {l : List Ex} (h : ∀ x ∈ l, (showL x).length ≤ 8 * csz x) : lenL ((showQ l).map (·.2)) ≤ 8 * cszL l := by
  induction l with
  | nil => simp [lenL, showQ]
  | cons x l ih =>
    have h1 := h x (by simp)
    have h2 := ih fun y hy => h y (by simp [hy])
    simp only [showQ, List.map_cons, lenL, cszL]
    omega
theorem k_Match {k p n : Int} {s t : Str} {ls ns : List Str} {l : List Ex} {σ : Sg} (he : csz (.mk k p n s t ls ns l) ≤ 1048576) (hns : ns.length = ls.length) (hl : l.length = ls.length + 1 + (if t = [] then 0 else 1))
    (hsh : ∀ x ∈ l, (showL x).length ≤ 8 * csz x)
    (ih : ∀ x ∈ l, ∀ σ, ACalls Tryz.prog 31 [.v (encE x)] σ fun r σ' => r = .v (.str (showL x)) ∧ σ' = σ) :
    ACalls Tryz.prog 58 [.v (encE (.mk k p n s t ls ns l))] σ fun r σ' => r = .v (.str (showK 14 n s t ls ns (showQ l))) ∧ σ' = σ := by
  simp only [csz] at he
  have hl1 := cszL_len l
  have hn1 := nsz_len ls
  have hLL := lenL_show hsh
  rw [encE_mk]
  obtain ⟨x0, hx0⟩ : ∃ x, l[0]? = some x := ⟨_, List.getElem?_eq_getElem (by omega)⟩
  have hb0 := hsh x0 (List.mem_of_getElem? hx0)
  have hc0 := cszL_mem (List.mem_of_getElem? hx0)
  have ht0 := txQ_get hx0
  have hab := arm_len ls ns (((showQ l).map (·.2)).drop 1)
  have hdr : lenL (((showQ l).map (·.2)).drop 1) ≤ lenL ((showQ l).map (·.2)) := by
    cases (showQ l).map (·.2) with
    | nil => simp
    | cons x q => simp [lenL]
  have hyl : (((showQ l).map (·.2)).drop 1).length = l.length - 1 := by rw [List.length_drop, List.length_map, showQ_eq, List.length_map]
  have hget : ∀ i x, l[i + 1]? = some x → (((showQ l).map (·.2)).drop 1)[i]? = some (showL x) := fun i x hx => by
    rw [List.getElem?_drop, List.getElem?_map, Nat.add_comm 1 i, showQ_get hx]; rfl
  obtain ⟨ys, hys⟩ : ∃ ys, ys = ((showQ l).map (·.2)).drop 1 := ⟨_, rfl⟩
  have hK : showK 14 n s t ls ns (showQ l) = [109, 97, 116, 99, 104, 32] ++ showL x0 ++ [32, 119, 105, 116, 104] ++ (armL ls ns ys).flatten ++ elseT t (txQ (showQ l) (ls.length + 1)) ++ [32, 101, 110, 100] := by rw [hys, ← ht0]; rfl
  rw [hK]
  rw [← hys] at hab hdr hyl hget
  clear hK hys ht0
  refine acalls_fit Tryz.func58 (by kernel_rfl) c58 rfl (by simp [a58]) fun hf => ?_
  clear hf
  simp -implicitDefEqProofs (maxSteps := 2000000) (disch := omega) [-getElem?_pos, a58]
  refine ⟨by omega, fun x hx => ?_⟩
  obtain rfl : x0 = x := Option.some.inj (hx0.symm.trans hx)
  refine (ih x0 (List.mem_of_getElem? hx0) _).then fun r hr => ?_
  subst hr
  obtain ⟨T0, hT0⟩ : ∃ T0, T0 = showL x0 := ⟨_, rfl⟩
  rw [← hT0] at hb0 ⊢
  simp -implicitDefEqProofs (maxSteps := 2000000) (disch := omega) [-getElem?_pos]
  refine ⟨by omega, by omega, ?_⟩
  refine W_loop (α := Nat) 0 (fun i => ls.length - i) (fun i => ⟨[(1, .ptr σ.objs.length 0), (2, .v (.str [])), (3, .v (.str ([109, 97, 116, 99, 104, 32] ++ T0 ++ [32, 119, 105, 116, 104] ++ armTo ls ns ys i))), (14, .v (.sl none false (ls.map .str))), (15, .v (.int .i64 ls.length)), (16, .v (.int .i64 i))], ⟨σ.objs ++ [.cells [.v (.int .i64 k), .v (.int .i64 p), .v (.int .i64 n), .v (.str s), .v (.str t), .v (.sl none false (ls.map .str)), .v (.sl none false (ns.map .str)), .v (.sl (some 8) false (l.map encE))]], σ.toks⟩⟩)
    (fun i => i ≤ ls.length) (.eq (by simp [armTo_zero])) (by omega) fun i hi => ?_
  have hft := flat_take (armL ls ns ys) i
  simp -implicitDefEqProofs (maxSteps := 2000000) (disch := omega) [-getElem?_pos]
  refine .mk (fun h => ?_) fun h => ?_
  · simp -implicitDefEqProofs (maxSteps := 2000000) (disch := omega) [-getElem?_pos]
    refine ⟨by omega, fun a ha => ?_⟩
    have ha1 := nsz_mem (List.mem_of_getElem? ha)
    refine ⟨by omega, by omega, by omega, fun b hb => ?_⟩
    have hb1 := nsz_mem (List.mem_of_getElem? hb)
    refine ⟨by omega, by omega, by omega, by omega, fun x hx1 => ?_⟩
    have hx2 := hsh x (List.mem_of_getElem? hx1)
    have hx3 := cszL_mem (List.mem_of_getElem? hx1)
    have hst := armTo_step ha hb (hget i x hx1)
    refine (ih x (List.mem_of_getElem? hx1) _).then fun r hr => ?_
    subst hr
    generalize showL x = X at *
    simp only [List.append_assoc, List.cons_append, List.nil_append] at hst
    have hft' : (armTo ls ns ys i).length ≤ (armL ls ns ys).flatten.length := hft
    simp -implicitDefEqProofs (maxSteps := 2000000) (disch := omega) [-getElem?_pos]
    exact ⟨by omega, by omega, i + 1, by omega, by dsimp only; omega, .eq (by simp [hst])⟩
  · obtain rfl : i = ls.length := by omega
    rw [armTo_all (by rw [armL_len ls ns ys hns (by split at hl <;> omega)]; omega)]
    clear hft
    generalize (armL ls ns ys).flatten = A at *
    by_cases ht : t = []
    · subst ht
      simp -implicitDefEqProofs (maxSteps := 2000000) (disch := omega) [-getElem?_pos]
      exact ⟨by omega, .fin _ ⟨by simp [elseT], rfl⟩ (.refl _)⟩
    · have hl2 : l.length = ls.length + 1 + 1 := by simpa [ht] using hl
      have hlc : l.length - 1 = ls.length + 1 := by omega
      simp -implicitDefEqProofs (maxSteps := 2000000) (disch := omega) [-getElem?_pos, ht]
      refine ⟨by omega, by omega, by omega, by omega, fun x hx1 => ?_⟩
      rw [hlc] at hx1
      have hx2 := hsh x (List.mem_of_getElem? hx1)
      have hx3 := cszL_mem (List.mem_of_getElem? hx1)
      have htx := txQ_get hx1
      refine (ih x (List.mem_of_getElem? hx1) _).then fun r hr => ?_
      subst hr
      rw [htx]
      generalize showL x = X at *
      simp -implicitDefEqProofs (maxSteps := 2000000) (disch := omega) [-getElem?_pos]
      refine ⟨by omega, by omega, by omega, ?_⟩
      exact .fin _ ⟨by simp [elseT, ht], rfl⟩ (.refl _)
end Go.Proofs.YtpdeaekmgljeaaaGreatDoor

/-
  Expressions as text: the document's words for a match's arms, a record's fields. (Own work.)
-/
set_option linter.unusedVariables false
set_option linter.unusedSimpArgs false
namespace Go.Proofs.YtpdeaekmgljeaaaGreatDoor
open Go Go.Abs

theorem k_Arms {k p n : Int} {s t : Str} {ls ns : List Str} {l : List Ex} {σ : Sg} (he : csz (.mk k p n s t ls ns l) ≤ 1048576) (hns : ns.length = ls.length) (hl : l.length = ls.length + 1 + (if t = [] then 0 else 1))
    (hsh : ∀ x ∈ l, (showL x).length ≤ 8 * csz x)
    (ih : ∀ x ∈ l, ∀ σ, ACalls Tryz.prog 12 [.v (encE x)] σ fun r σ' => r = .v (.str (showL x)) ∧ σ' = σ) :
    ACalls Tryz.prog 39 [.v (encE (.mk k p n s t ls ns l))] σ fun r σ' => r = .v (.str ((armL ls ns (((showQ l).map (·.2)).drop 1)).flatten ++ elseT t (txQ (showQ l) (ls.length + 1)))) ∧ σ' = σ := by
  simp only [csz] at he
  have hl1 := cszL_len l
  have hn1 := nsz_len ls
  have hLL := lenL_show hsh
  rw [encE_mk]
  have hab := arm_len ls ns (((showQ l).map (·.2)).drop 1)
  have hdr : lenL (((showQ l).map (·.2)).drop 1) ≤ lenL ((showQ l).map (·.2)) := by
    cases (showQ l).map (·.2) with
    | nil => simp
    | cons x q => simp [lenL]
  have hyl : (((showQ l).map (·.2)).drop 1).length = l.length - 1 := by rw [List.length_drop, List.length_map, showQ_eq, List.length_map]
  have hget : ∀ i x, l[i + 1]? = some x → (((showQ l).map (·.2)).drop 1)[i]? = some (showL x) := fun i x hx => by
    rw [List.getElem?_drop, List.getElem?_map, Nat.add_comm 1 i, showQ_get hx]; rfl
  obtain ⟨ys, hys⟩ : ∃ ys, ys = ((showQ l).map (·.2)).drop 1 := ⟨_, rfl⟩
  rw [← hys] at hab hdr hyl hget ⊢
  clear hys
  refine acalls_fit Tryz.func39 (by kernel_rfl) c39 rfl (by simp [a39]) fun hf => ?_
  clear hf
  simp -implicitDefEqProofs (maxSteps := 2000000) (disch := omega) [-getElem?_pos, a39]
  refine W_loop (α := Nat) 0 (fun i => ls.length - i) (fun i => ⟨[(1, .ptr σ.objs.length 0), (2, .v (.str [])), (3, .v (.str (armTo ls ns ys i))), (4, .v (.int .i64 i))], ⟨σ.objs ++ [.cells [.v (.int .i64 k), .v (.int .i64 p), .v (.int .i64 n), .v (.str s), .v (.str t), .v (.sl none false (ls.map .str)), .v (.sl none false (ns.map .str)), .v (.sl (some 8) false (l.map encE))]], σ.toks⟩⟩)
    (fun i => i ≤ ls.length) (.eq (by simp [armTo_zero])) (by omega) fun i hi => ?_
  have hft := flat_take (armL ls ns ys) i
  simp -implicitDefEqProofs (maxSteps := 2000000) (disch := omega) [-getElem?_pos]
  refine .mk (fun h => ?_) fun h => ?_
  · have hft' : (armTo ls ns ys i).length ≤ (armL ls ns ys).flatten.length := hft
    simp -implicitDefEqProofs (maxSteps := 2000000) (disch := omega) [-getElem?_pos]
    refine ⟨by omega, by omega, fun a ha => ?_⟩
    have ha1 := nsz_mem (List.mem_of_getElem? ha)
    refine ⟨by omega, by omega, by omega, fun b hb => ?_⟩
    have hb1 := nsz_mem (List.mem_of_getElem? hb)
    refine ⟨by omega, by omega, by omega, by omega, fun x hx1 => ?_⟩
    have hx2 := hsh x (List.mem_of_getElem? hx1)
    have hx3 := cszL_mem (List.mem_of_getElem? hx1)
    have hst := armTo_step ha hb (hget i x hx1)
    refine (ih x (List.mem_of_getElem? hx1) _).then fun r hr => ?_
    subst hr
    generalize showL x = X at *
    simp only [List.append_assoc, List.cons_append, List.nil_append] at hst
    simp -implicitDefEqProofs (maxSteps := 2000000) (disch := omega) [-getElem?_pos]
    exact ⟨by omega, i + 1, by omega, by dsimp only; omega, .eq (by simp [hst])⟩
  · obtain rfl : i = ls.length := by omega
    rw [armTo_all (by rw [armL_len ls ns ys hns (by split at hl <;> omega)]; omega)]
    clear hft
    generalize (armL ls ns ys).flatten = A at *
    by_cases ht : t = []
    · subst ht
      simp -implicitDefEqProofs (maxSteps := 2000000) (disch := omega) [-getElem?_pos]
      exact .fin _ ⟨by simp [elseT], rfl⟩ (.refl _)
    · have hl2 : l.length = ls.length + 1 + 1 := by simpa [ht] using hl
      have hlc : l.length - 1 = ls.length + 1 := by omega
      simp -implicitDefEqProofs (maxSteps := 2000000) (disch := omega) [-getElem?_pos, ht]
      refine ⟨by omega, by omega, by omega, by omega, by omega, fun x hx1 => ?_⟩
      rw [hlc] at hx1
      have hx2 := hsh x (List.mem_of_getElem? hx1)
      have hx3 := cszL_mem (List.mem_of_getElem? hx1)
      have htx := txQ_get hx1
      refine (ih x (List.mem_of_getElem? hx1) _).then fun r hr => ?_
      subst hr
      rw [htx]
      generalize showL x = X at *
      simp -implicitDefEqProofs (maxSteps := 2000000) (disch := omega) [-getElem?_pos]
      refine ⟨by omega, ?_⟩
      exact .fin _ ⟨by simp [elseT, ht], rfl⟩ (.refl _)
theorem k_Fields {k p n : Int} {s t : Str} {ls ns : List Str} {l : List Ex} {σ : Sg} (he : csz (.mk k p n s t ls ns l) ≤ 1048576) (hl : l.length = ls.length)
    (hsh : ∀ x ∈ l, (showL x).length ≤ 8 * csz x)
    (ih : ∀ x ∈ l, ∀ σ, ACalls Tryz.prog 12 [.v (encE x)] σ fun r σ' => r = .v (.str (showL x)) ∧ σ' = σ) :
    ACalls Tryz.prog 38 [.v (encE (.mk k p n s t ls ns l))] σ fun r σ' => r = .v (.str (Lib.join (items ls ((showQ l).map (·.2))) [44, 32])) ∧ σ' = σ := by
  simp only [csz] at he
  have hl1 := cszL_len l
  have hn1 := nsz_len ls
  have hLL := lenL_show hsh
  rw [encE_mk]
  have hyl : ((showQ l).map (·.2)).length = l.length := by rw [List.length_map, showQ_eq, List.length_map]
  have hget : ∀ i x, l[i]? = some x → ((showQ l).map (·.2))[i]? = some (showL x) := fun i x hx => by
    rw [List.getElem?_map, showQ_get hx]; rfl
  obtain ⟨ys, hys⟩ : ∃ ys, ys = (showQ l).map (·.2) := ⟨_, rfl⟩
  rw [← hys] at hyl hget hLL ⊢
  clear hys
  refine acalls_fit Tryz.func38 (by kernel_rfl) c38 rfl (by simp [a38]) fun hf => ?_
  clear hf
  simp -implicitDefEqProofs (maxSteps := 2000000) (disch := omega) [-getElem?_pos, a38]
  refine W_loop (α := Nat) 0 (fun i => ls.length - i) (fun i => ⟨[(1, .ptr σ.objs.length 0), (2, .v (.str [])), (3, .v (.str (joinTo ls ys i))), (4, .v (.int .i64 i))], ⟨σ.objs ++ [.cells [.v (.int .i64 k), .v (.int .i64 p), .v (.int .i64 n), .v (.str s), .v (.str t), .v (.sl none false (ls.map .str)), .v (.sl none false (ns.map .str)), .v (.sl (some 8) false (l.map encE))]], σ.toks⟩⟩)
    (fun i => i ≤ ls.length) (.eq (by simp [joinTo_zero])) (by omega) fun i hi => ?_
  have hjl := joinTo_len ls ys i
  simp -implicitDefEqProofs (maxSteps := 2000000) (disch := omega) [-getElem?_pos]
  refine .mk (fun h => ?_) fun h => ?_
  · by_cases h0 : 0 < i
    · simp -implicitDefEqProofs (maxSteps := 2000000) (disch := omega) [-getElem?_pos, h0]
      refine ⟨by omega, by omega, fun a ha => ?_⟩
      have ha1 := nsz_mem (List.mem_of_getElem? ha)
      refine ⟨by omega, by omega, by omega, fun x hx1 => ?_⟩
      have hx2 := hsh x (List.mem_of_getElem? hx1)
      have hx3 := cszL_mem (List.mem_of_getElem? hx1)
      have hst := joinTo_step ha (hget i x hx1)
      refine (ih x (List.mem_of_getElem? hx1) _).then fun r hr => ?_
      subst hr
      generalize showL x = X at *
      rw [if_neg (show ¬ i = 0 by omega)] at hst
      simp only [List.append_assoc, List.cons_append, List.nil_append] at hst
      simp -implicitDefEqProofs (maxSteps := 2000000) (disch := omega) [-getElem?_pos]
      exact ⟨by omega, i + 1, by omega, by dsimp only; omega, .eq (by simp [hst])⟩
    · obtain rfl : i = 0 := by omega
      rw [joinTo_zero] at *
      simp -implicitDefEqProofs (maxSteps := 2000000) (disch := omega) [-getElem?_pos]
      refine ⟨by omega, fun a ha => ?_⟩
      have ha1 := nsz_mem (List.mem_of_getElem? ha)
      refine ⟨by omega, by omega, by omega, fun x hx1 => ?_⟩
      have hx2 := hsh x (List.mem_of_getElem? hx1)
      have hx3 := cszL_mem (List.mem_of_getElem? hx1)
      have hst := joinTo_step ha (hget 0 x hx1)
      refine (ih x (List.mem_of_getElem? hx1) _).then fun r hr => ?_
      subst hr
      generalize showL x = X at *
      rw [if_pos rfl] at hst
      simp only [List.append_assoc, List.cons_append, List.nil_append] at hst
      simp -implicitDefEqProofs (maxSteps := 2000000) (disch := omega) [-getElem?_pos]
      exact ⟨by omega, 0 + 1, by omega, by dsimp only; omega, .eq (by simp [hst])⟩
  · obtain rfl : i = ls.length := by omega
    rw [joinTo_all (by rw [items_len ls ys (by omega)]; omega)]
    simp -implicitDefEqProofs (maxSteps := 2000000) (disch := omega) [-getElem?_pos]
    exact .fin _ ⟨rfl, rfl⟩ (.refl _)
end Go.Proofs.YtpdeaekmgljeaaaGreatDoor
