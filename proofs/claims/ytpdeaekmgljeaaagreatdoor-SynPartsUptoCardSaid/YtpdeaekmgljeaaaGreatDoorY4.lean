/-
  Expressions: which may be: the code's own words. (Own work.)
-/
import Derived.Test.YtpdeaekmgljeaaaGreatDoorY3
set_option linter.unusedVariables false
set_option linter.unusedSimpArgs false
namespace Go.Proofs.YtpdeaekmgljeaaaGreatDoor
open Go Go.Abs

/-- May an expression be, but for its parts? -/
def ownB : Ex → Bool
  | .mk k p n s t ls ns l =>
    if (l.length : Int) ≠ partsN k ls.length (decide (t ≠ [])) ∨ n < 0 ∨ (0 < n ∧ k ≠ 1) ∨ textB k s = false then false
    else if k = 8 then (ls.all fun s => isL s 1) && (riseL ls && decide (ls.length ≤ 30)) && decide (ns.length = 0) && decide (t = [])
    else if k = 14 then (ls.all fun s => isL s 3) && (riseL ls && decide (ls.length ≤ 30)) && decide (ns.length = ls.length) && (ns.all fun s => isL s 1) && (decide (t = []) || isL t 1) && decide (1 < l.length)
    else if k = 7 then isL t 1 && decide (ls.length + ns.length = 0)
    else decide (t = []) && decide (ls.length + ns.length = 0)
theorem k_Own {e : Ex} {σ : Sg} (he : csz e ≤ 1048576) : ACalls Tryz.prog 72 [.v (encE e)] σ fun r σ' => r = .v (.bool (ownB e)) ∧ σ' = σ := by
  cases e with
  | mk k p n s t ls ns l =>
  have hB : ownB (.mk k p n s t ls ns l) = if (l.length : Int) ≠ partsN k ls.length (decide (t ≠ [])) ∨ n < 0 ∨ (0 < n ∧ k ≠ 1) ∨ textB k s = false then false
    else if k = 8 then (ls.all fun s => isL s 1) && (riseL ls && decide (ls.length ≤ 30)) && decide (ns.length = 0) && decide (t = [])
    else if k = 14 then (ls.all fun s => isL s 3) && (riseL ls && decide (ls.length ≤ 30)) && decide (ns.length = ls.length) && (ns.all fun s => isL s 1) && (decide (t = []) || isL t 1) && decide (1 < l.length)
    else if k = 7 then isL t 1 && decide (ls.length + ns.length = 0)
    else decide (t = []) && decide (ls.length + ns.length = 0) := rfl
  simp only [csz] at he
  have hn1 := nsz_len ls
  have hn2 := nsz_len ns
  have hll := cszL_len l
  generalize ownB (.mk k p n s t ls ns l) = B at hB ⊢
  have kp := fun o σ => k_Parts (k := k) (labels := ls.length) (o := o) (σ := σ) (by omega) (by omega)
  have kt := fun σ => k_SText (k := k) (p := p) (n := n) (s := s) (t := t) (ls := ls) (ns := ns) (l := l) (σ := σ) (by omega)
  have ka := fun k σ => k_All (l := ls) (k := k) (σ := σ) (by omega)
  have kn := fun k σ => k_All (l := ns) (k := k) (σ := σ) (by omega)
  have kr := fun σ => k_Rises (l := ls) (σ := σ)
  have ki := fun k σ => k_Is (s := t) (k := k) (σ := σ) (by omega)
  rw [encE_mk] at kt ⊢
  have hte : (!List.isEmpty t) = decide (t ≠ []) := by cases t <;> simp
  have hte2 : List.isEmpty t = decide (t = []) := by cases t <;> simp
  have hz : ((ls.length : Int) + ns.length == 0) = decide (ls.length + ns.length = 0) := by rw [Bool.eq_iff_iff, beq_iff_eq, decide_eq_true_iff]; omega
  refine acalls_fit Tryz.func72 (by kernel_rfl) c72 rfl (by simp [a72]) fun hf => ?_
  clear hf
  rw [← hte] at hB
  simp -implicitDefEqProofs (maxSteps := 2000000) (disch := omega) [-getElem?_pos, a72]
  refine (kp _ _).then fun r hr => ?_
  subst hr
  obtain ⟨P, hP⟩ : ∃ P, P = partsN k ls.length (!List.isEmpty t) := ⟨_, rfl⟩
  rw [← hP] at hB ⊢
  by_cases h1 : (l.length : Int) = P
  rotate_left
  · rw [if_pos (.inl h1)] at hB
    simp -implicitDefEqProofs (maxSteps := 2000000) (disch := omega) [-getElem?_pos, h1]
    exact .fin (.v (.bool false)) ⟨by rw [hB], rfl⟩ (.refl _)
  by_cases h2 : n < 0
  · rw [if_pos (.inr (.inl h2))] at hB
    simp -implicitDefEqProofs (maxSteps := 2000000) (disch := omega) [-getElem?_pos, h1, h2]
    exact .fin (.v (.bool false)) ⟨by rw [hB], rfl⟩ (.refl _)
  by_cases h3 : 0 < n
  · by_cases h4 : k = 1
    rotate_left
    · rw [if_pos (.inr (.inr (.inl ⟨h3, h4⟩)))] at hB
      simp -implicitDefEqProofs (maxSteps := 2000000) (disch := omega) [-getElem?_pos, h1, h2, h3, h4]
      exact .fin (.v (.bool false)) ⟨by rw [hB], rfl⟩ (.refl _)
    subst h4
    simp -implicitDefEqProofs (maxSteps := 2000000) (disch := omega) [-getElem?_pos, h1, h2, h3]
    refine (kt _).then fun r hr => ?_
    subst hr
    cases hT : textB 1 s with
    | false =>
      rw [if_pos (.inr (.inr (.inr hT)))] at hB
      simp -implicitDefEqProofs (maxSteps := 2000000) (disch := omega) [-getElem?_pos]
      exact .fin (.v (.bool false)) ⟨by rw [hB], rfl⟩ (.refl _)
    | true =>
      rw [if_neg (by simp [h1, h2, hT]), if_neg (by decide), if_neg (by decide), if_neg (by decide)] at hB
      simp -implicitDefEqProofs (maxSteps := 2000000) (disch := omega) [-getElem?_pos]
      refine .mk (fun ht => ?_) fun ht => ?_
      · simp -implicitDefEqProofs (maxSteps := 2000000) (disch := omega) [-getElem?_pos, ht]
        exact .fin (.v (.bool ((ls.length : Int) + ns.length == 0))) ⟨by rw [hB, hz]; simp [ht], rfl⟩ (.refl _)
      · simp -implicitDefEqProofs (maxSteps := 2000000) (disch := omega) [-getElem?_pos, ht]
        exact .fin (.v (.bool false)) ⟨by rw [hB]; simp [ht], rfl⟩ (.refl _)
  · simp -implicitDefEqProofs (maxSteps := 2000000) (disch := omega) [-getElem?_pos, h1, h2, h3]
    refine (kt _).then fun r hr => ?_
    subst hr
    cases hT : textB k s with
    | false =>
      rw [if_pos (.inr (.inr (.inr hT)))] at hB
      simp -implicitDefEqProofs (maxSteps := 2000000) (disch := omega) [-getElem?_pos]
      exact .fin (.v (.bool false)) ⟨by rw [hB], rfl⟩ (.refl _)
    | true =>
      rw [if_neg (by simp [h1, h2, h3, hT])] at hB
      by_cases h8 : k = 8
      · rw [if_pos h8] at hB
        subst h8
        simp -implicitDefEqProofs (maxSteps := 2000000) (disch := omega) [-getElem?_pos]
        refine (ka 1 _).then fun r hr => ?_
        subst hr
        cases hc0 : ls.all fun s => isL s 1 with
        | false =>
          rw [hc0] at hB
          simp -implicitDefEqProofs (maxSteps := 2000000) (disch := omega) [-getElem?_pos]
          exact .fin (.v (.bool false)) ⟨by rw [hB]; simp, rfl⟩ (.refl _)
        | true =>
          rw [hc0] at hB
          simp -implicitDefEqProofs (maxSteps := 2000000) (disch := omega) [-getElem?_pos]
          refine (kr _).then fun r hr => ?_
          subst hr
          cases hc2 : riseL ls && decide (ls.length ≤ 30) with
          | false =>
            rw [hc2] at hB
            simp -implicitDefEqProofs (maxSteps := 2000000) (disch := omega) [-getElem?_pos]
            exact .fin (.v (.bool false)) ⟨by rw [hB]; simp, rfl⟩ (.refl _)
          | true =>
            rw [hc2] at hB
            simp -implicitDefEqProofs (maxSteps := 2000000) (disch := omega) [-getElem?_pos]
            refine .mk (fun hz1 => ?_) fun hz1 => ?_
            · simp -implicitDefEqProofs (maxSteps := 2000000) (disch := omega) [-getElem?_pos, hz1]
              exact .fin (.v (.bool (List.isEmpty t))) ⟨by rw [hB, hte2]; simp [hz1], rfl⟩ (.refl _)
            · simp -implicitDefEqProofs (maxSteps := 2000000) (disch := omega) [-getElem?_pos, hz1]
              exact .fin (.v (.bool false)) ⟨by rw [hB]; simp [hz1], rfl⟩ (.refl _)
      rw [if_neg h8] at hB
      by_cases h14 : k = 14
      · rw [if_pos h14] at hB
        subst h14
        simp -implicitDefEqProofs (maxSteps := 2000000) (disch := omega) [-getElem?_pos]
        refine (ka 3 _).then fun r hr => ?_
        subst hr
        cases hc0 : ls.all fun s => isL s 3 with
        | false =>
          rw [hc0] at hB
          simp -implicitDefEqProofs (maxSteps := 2000000) (disch := omega) [-getElem?_pos]
          exact .fin (.v (.bool false)) ⟨by rw [hB]; simp, rfl⟩ (.refl _)
        | true =>
          rw [hc0] at hB
          simp -implicitDefEqProofs (maxSteps := 2000000) (disch := omega) [-getElem?_pos]
          refine (kr _).then fun r hr => ?_
          subst hr
          cases hc2 : riseL ls && decide (ls.length ≤ 30) with
          | false =>
            rw [hc2] at hB
            simp -implicitDefEqProofs (maxSteps := 2000000) (disch := omega) [-getElem?_pos]
            exact .fin (.v (.bool false)) ⟨by rw [hB]; simp, rfl⟩ (.refl _)
          | true =>
            rw [hc2] at hB
            simp -implicitDefEqProofs (maxSteps := 2000000) (disch := omega) [-getElem?_pos]
            refine .mk (fun he1 => ?_) fun he1 => ?_
            rotate_left
            · simp -implicitDefEqProofs (maxSteps := 2000000) (disch := omega) [-getElem?_pos, he1]
              exact .fin (.v (.bool false)) ⟨by rw [hB]; have : ¬ ns.length = ls.length := fun h => he1 (by rw [h]); simp [this], rfl⟩ (.refl _)
            have he2 : ns.length = ls.length := by omega
            simp -implicitDefEqProofs (maxSteps := 2000000) (disch := omega) [-getElem?_pos, he1]
            refine (kn 1 _).then fun r hr => ?_
            subst hr
            cases hcn : ns.all fun s => isL s 1 with
            | false =>
              rw [hcn] at hB
              simp -implicitDefEqProofs (maxSteps := 2000000) (disch := omega) [-getElem?_pos]
              exact .fin (.v (.bool false)) ⟨by rw [hB]; simp, rfl⟩ (.refl _)
            | true =>
              rw [hcn] at hB
              simp -implicitDefEqProofs (maxSteps := 2000000) (disch := omega) [-getElem?_pos]
              refine .mk (fun ht => ?_) fun ht => ?_
              · simp -implicitDefEqProofs (maxSteps := 2000000) (disch := omega) [-getElem?_pos, ht]
                exact .fin (.v (.bool (decide (1 < (l.length : Int))))) ⟨by rw [hB]; simp [ht, he2]; omega, rfl⟩ (.refl _)
              · simp -implicitDefEqProofs (maxSteps := 2000000) (disch := omega) [-getElem?_pos, ht]
                refine (ki 1 _).then fun r hr => ?_
                subst hr
                cases hct : isL t 1 with
                | false =>
                  rw [hct] at hB
                  simp -implicitDefEqProofs (maxSteps := 2000000) (disch := omega) [-getElem?_pos]
                  exact .fin (.v (.bool false)) ⟨by rw [hB]; simp [ht], rfl⟩ (.refl _)
                | true =>
                  rw [hct] at hB
                  simp -implicitDefEqProofs (maxSteps := 2000000) (disch := omega) [-getElem?_pos]
                  exact .fin (.v (.bool (decide (1 < (l.length : Int))))) ⟨by rw [hB]; simp [he2]; omega, rfl⟩ (.refl _)
      rw [if_neg h14] at hB
      by_cases h7 : k = 7
      · rw [if_pos h7] at hB
        subst h7
        simp -implicitDefEqProofs (maxSteps := 2000000) (disch := omega) [-getElem?_pos]
        refine (ki 1 _).then fun r hr => ?_
        subst hr
        cases hc0 : isL t 1 with
        | false =>
          rw [hc0] at hB
          simp -implicitDefEqProofs (maxSteps := 2000000) (disch := omega) [-getElem?_pos]
          exact .fin (.v (.bool false)) ⟨by rw [hB]; simp, rfl⟩ (.refl _)
        | true =>
          rw [hc0] at hB
          simp -implicitDefEqProofs (maxSteps := 2000000) (disch := omega) [-getElem?_pos]
          exact .fin (.v (.bool ((ls.length : Int) + ns.length == 0))) ⟨by rw [hB, hz]; simp, rfl⟩ (.refl _)
      rw [if_neg h7] at hB
      simp -implicitDefEqProofs (maxSteps := 2000000) (disch := omega) [-getElem?_pos, h8, h14, h7]
      refine .mk (fun ht => ?_) fun ht => ?_
      · simp -implicitDefEqProofs (maxSteps := 2000000) (disch := omega) [-getElem?_pos, ht]
        exact .fin (.v (.bool ((ls.length : Int) + ns.length == 0))) ⟨by rw [hB, hz]; simp [ht], rfl⟩ (.refl _)
      · simp -implicitDefEqProofs (maxSteps := 2000000) (disch := omega) [-getElem?_pos, ht]
        exact .fin (.v (.bool false)) ⟨by rw [hB]; simp [ht], rfl⟩ (.refl _)
theorem k_IndexFuncEx {xs : List Ex} {f : Bool} {fd : D} {p : Ex → Bool} {σ : Sg} (hp : ∀ x ∈ xs, WCall Tryz.prog fd [.v (encE x)] σ fun r σ' => r = .v (.bool (p x)) ∧ σ' = σ) :
    ACalls Tryz.prog 111 [.v (.sl (some 8) f (xs.map encE)), fd] σ fun r σ' => r = .v (.int .i64 ((xs.findIdx? p).elim (-1) fun i => (i : Int))) ∧ σ' = σ := by
  refine acalls_fit Tryz.func111 (by kernel_rfl) c111 rfl (by simp [a111]) fun hf => ?_
  simp at hf
  simp -implicitDefEqProofs (maxSteps := 2000000) (disch := omega) [-getElem?_pos, a111]
  refine W_loop (α := Nat) 0 (fun i => xs.length - i) (fun i => ⟨[(0, .v (.sl (some 8) f (xs.map encE))), (1, fd), (7, .v (.int .i64 xs.length)), (8, .v (.int .i64 i))], σ⟩) (fun i => i ≤ xs.length ∧ xs.findIdx? p = ((xs.drop i).findIdx? p).map fun k => k + i)
    (.eq (by simp)) ⟨by omega, by simp⟩ fun i ⟨hi, he⟩ => ?_
  simp -implicitDefEqProofs (maxSteps := 2000000) (disch := omega) [-getElem?_pos]
  refine .mk (fun h => ?_) fun h => ?_
  · simp -implicitDefEqProofs (maxSteps := 2000000) (disch := omega) [-getElem?_pos]
    refine ⟨by omega, fun x hx => ?_⟩
    refine (hp x (List.mem_of_getElem? hx)).then fun r hr => ?_
    subst hr
    have hdc := drop_cons hx
    rw [hdc, List.findIdx?_cons] at he
    simp -implicitDefEqProofs (maxSteps := 2000000) (disch := omega) [-getElem?_pos]
    refine .mk (fun hq => ?_) fun hq => ?_
    · rw [if_pos hq] at he
      simp -implicitDefEqProofs (maxSteps := 2000000) (disch := omega) [-getElem?_pos]
      refine .fin _ ⟨?_, rfl⟩ (.refl _)
      rw [he]
      simp
    · rw [if_neg hq] at he
      simp -implicitDefEqProofs (maxSteps := 2000000) (disch := omega) [-getElem?_pos]
      refine ⟨i + 1, ⟨by omega, ?_⟩, by dsimp only; omega, .eq (by simp)⟩
      rw [he]
      simp only [Option.map_map]
      congr 1
      funext k
      simp only [Function.comp]
      omega
  · simp -implicitDefEqProofs (maxSteps := 2000000) (disch := omega) [-getElem?_pos]
    refine .fin _ ⟨?_, rfl⟩ (.refl _)
    rw [he, List.drop_eq_nil_of_le (by omega)]
    rfl
theorem k_ContainsFuncEx {xs : List Ex} {f : Bool} {fd : D} {p : Ex → Bool} {σ : Sg} (hp : ∀ x ∈ xs, WCall Tryz.prog fd [.v (encE x)] σ fun r σ' => r = .v (.bool (p x)) ∧ σ' = σ) :
    ACalls Tryz.prog 73 [.v (.sl (some 8) f (xs.map encE)), fd] σ fun r σ' => r = .v (.bool (xs.any p)) ∧ σ' = σ := by
  refine acalls_fit Tryz.func73 (by kernel_rfl) c73 rfl (by simp [a73]) fun hf => ?_
  simp -implicitDefEqProofs (maxSteps := 2000000) (disch := omega) [-getElem?_pos, a73]
  refine (k_IndexFuncEx hp).then fun r hr => ?_
  subst hr
  simp -implicitDefEqProofs (maxSteps := 2000000) (disch := omega) [-getElem?_pos]
  refine .fin _ ⟨?_, rfl⟩ (.refl _)
  congr 2
  cases h : xs.findIdx? p with
  | none =>
    have h2 := List.findIdx?_eq_none_iff.1 h
    simp
    exact fun x hx => by simpa using h2 x hx
  | some i =>
    have h2 := List.findIdx?_eq_some_iff_getElem.1 h
    obtain ⟨hlt, hq, _⟩ := h2
    simp
    exact ⟨_, List.getElem_mem hlt, hq⟩

mutual
def fineB : Ex → Bool
  | .mk k p n s t ls ns l => ownB (.mk k p n s t ls ns l) && fineLB l
def fineLB : List Ex → Bool
  | [] => true
  | x :: l => fineB x && fineLB l
end
theorem any_fine : ∀ l : List Ex, l.any (fun x => !fineB x) = !fineLB l
  | [] => rfl
  | x :: l => by rw [List.any_cons, any_fine l, fineLB, Bool.not_and]
theorem k_Fine1 {e : Ex} {σ : Sg} (hF : ∀ σ, ACalls Tryz.prog 47 [.v (encE e)] σ fun r σ' => r = .v (.bool (fineB e)) ∧ σ' = σ) : ACalls Tryz.prog 74 [.v (encE e)] σ fun r σ' => r = .v (.bool (!fineB e)) ∧ σ' = σ := by
  obtain ⟨b, hb⟩ : ∃ b, b = fineB e := ⟨_, rfl⟩
  rw [← hb] at hF ⊢
  cases e with
  | mk k p n s t ls ns l =>
  rw [encE_mk] at hF ⊢
  refine acalls_fit Tryz.func74 (by kernel_rfl) c74 rfl (by simp [a74]) fun hf => ?_
  clear hf
  simp -implicitDefEqProofs (maxSteps := 2000000) (disch := omega) [-getElem?_pos, a74]
  refine (hF _).then fun r hr => ?_
  subst hr
  simp -implicitDefEqProofs (maxSteps := 2000000) (disch := omega) [-getElem?_pos]
  exact .fin _ ⟨rfl, rfl⟩ (.refl _)
theorem k_Fine (e : Ex) : ∀ {σ : Sg}, csz e ≤ 1048576 → ACalls Tryz.prog 47 [.v (encE e)] σ fun r σ' => r = .v (.bool (fineB e)) ∧ σ' = σ := by
  refine Ex.ind (P := fun e => ∀ {σ : Sg}, csz e ≤ 1048576 → ACalls Tryz.prog 47 [.v (encE e)] σ fun r σ' => r = .v (.bool (fineB e)) ∧ σ' = σ) (fun k p n s t ls ns l ih => ?_) e
  intro σ he
  have ko := fun σ => k_Own (e := .mk k p n s t ls ns l) (σ := σ) he
  have hB : fineB (.mk k p n s t ls ns l) = (ownB (.mk k p n s t ls ns l) && fineLB l) := by rw [fineB]
  generalize fineB (.mk k p n s t ls ns l) = B at hB ⊢
  generalize ownB (.mk k p n s t ls ns l) = O at hB ko
  have hsz : ∀ x ∈ l, csz x ≤ 1048576 := fun x hx => by
    have := cszL_mem hx
    simp only [csz] at he
    omega
  have kc := fun σ => k_ContainsFuncEx (xs := l) (f := false) (fd := .v (.fn 74)) (p := fun x => !fineB x) (σ := σ) fun x hx => by
    rw [WCall_fn]
    exact k_Fine1 fun σ => ih x hx (hsz x hx)
  rw [encE_mk] at ko ⊢
  refine acalls_fit Tryz.func47 (by kernel_rfl) c47 rfl (by simp [a47]) fun hf => ?_
  clear hf
  simp -implicitDefEqProofs (maxSteps := 2000000) (disch := omega) [-getElem?_pos, a47]
  refine (ko _).then fun r hr => ?_
  subst hr
  cases O with
  | false =>
    simp -implicitDefEqProofs (maxSteps := 2000000) (disch := omega) [-getElem?_pos]
    exact .fin (.v (.bool false)) ⟨by rw [hB]; simp, rfl⟩ (.refl _)
  | true =>
    simp -implicitDefEqProofs (maxSteps := 2000000) (disch := omega) [-getElem?_pos]
    refine (kc _).then fun r hr => ?_
    rw [any_fine] at hr
    subst hr
    simp -implicitDefEqProofs (maxSteps := 2000000) (disch := omega) [-getElem?_pos]
    exact .fin (.v (.bool (fineLB l))) ⟨by rw [hB]; simp, rfl⟩ (by simp)
def mayB (e : Ex) : Bool := decide (dep e ≤ 60) && (decide (nds e ≤ 1500) && fineB e)
theorem k_May {e : Ex} {σ : Sg} (he : csz e ≤ 1048576) : ACalls Tryz.prog 23 [.v (encE e)] σ fun r σ' => r = .v (.bool (mayB e)) ∧ σ' = σ := by
  have kd := fun σ => k_Depth e (σ := σ) he
  have kn := fun σ => k_Nodes e (σ := σ) he
  have kf := fun σ => k_Fine e (σ := σ) he
  have hB : mayB e = (decide (dep e ≤ 60) && (decide (nds e ≤ 1500) && fineB e)) := rfl
  generalize mayB e = B at hB ⊢
  generalize fineB e = F at hB kf
  generalize dep e = d at hB kd
  generalize nds e = m at hB kn
  cases e with
  | mk k p n s t ls ns l =>
  rw [encE_mk] at kd kn kf ⊢
  refine acalls_fit Tryz.func23 (by kernel_rfl) c23 rfl (by simp [a23]) fun hf => ?_
  clear hf
  simp -implicitDefEqProofs (maxSteps := 2000000) (disch := omega) [-getElem?_pos, a23]
  refine (kd _).then fun r hr => ?_
  subst hr
  simp -implicitDefEqProofs (maxSteps := 2000000) (disch := omega) [-getElem?_pos]
  refine .mk (fun h1 => ?_) fun h1 => ?_
  rotate_left
  · simp -implicitDefEqProofs (maxSteps := 2000000) (disch := omega) [-getElem?_pos]
    exact .fin (.v (.bool false)) ⟨by rw [hB]; simp; intros; omega, rfl⟩ (.refl _)
  simp -implicitDefEqProofs (maxSteps := 2000000) (disch := omega) [-getElem?_pos]
  refine (kn _).then fun r hr => ?_
  subst hr
  simp -implicitDefEqProofs (maxSteps := 2000000) (disch := omega) [-getElem?_pos]
  refine .mk (fun h2 => ?_) fun h2 => ?_
  rotate_left
  · simp -implicitDefEqProofs (maxSteps := 2000000) (disch := omega) [-getElem?_pos]
    exact .fin (.v (.bool false)) ⟨by rw [hB]; simp; intros; omega, rfl⟩ (.refl _)
  simp -implicitDefEqProofs (maxSteps := 2000000) (disch := omega) [-getElem?_pos]
  refine (kf _).then fun r hr => ?_
  subst hr
  simp -implicitDefEqProofs (maxSteps := 2000000) (disch := omega) [-getElem?_pos]
  exact .fin (.v (.bool F)) ⟨by rw [hB, decide_eq_true (by omega : d ≤ 60), decide_eq_true (by omega : m ≤ 1500)]; simp, rfl⟩ (.refl _)
end Go.Proofs.YtpdeaekmgljeaaaGreatDoor
