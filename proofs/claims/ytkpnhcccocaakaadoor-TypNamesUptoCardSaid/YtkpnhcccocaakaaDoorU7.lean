/-
  Types: the document's example. (Own work.)
-/
import Derived.Test.YtkpnhcccocaakaaDoorU6
set_option linter.unusedVariables false
set_option linter.unusedSimpArgs false
namespace Go.Proofs.YtkpnhcccocaakaaDoor
open Go Go.Abs

theorem ACalls.weakS {P : Program} {f : Nat} {ds : List D} {σ σ2 : Sg} {R : D → Sg → Prop} (hW : ∀ m w, Inv σ m w → Inv σ2 m w) (h : ACalls P f ds σ2 R) : ACalls P f ds σ R :=
  ⟨h.1, fun m w us hI hl hr => h.2 m w us (hW m w hI) hl hr⟩
theorem map1_le {A : List Ob} {B : List Ob} {tk : List Nat} {k : V} {d d' : D} (hle : D.Le d d') : ∀ m w, Inv ⟨A ++ .map [(k, d)] :: B, tk⟩ m w → Inv ⟨A ++ .map [(k, d')] :: B, tk⟩ m w := by
  intro m w h
  have hlen : (A ++ Ob.map [(k, d')] :: B).length = (A ++ Ob.map [(k, d)] :: B).length := by simp
  refine ⟨h.lobj.trans hlen.symm, h.ltok, h.nodup, fun o ob b hi hc => ?_, fun o hi => ?_, h.tk, h.glob⟩
  · by_cases ho : o = A.length
    · subst ho
      have e1 : (A ++ Ob.map [(k, d)] :: B)[A.length]? = some (.map [(k, d)]) := by simp
      have h1 := h.ob A.length _ b e1 hc
      dsimp only at hi
      have e2 : (A ++ Ob.map [(k, d')] :: B)[A.length]? = some (.map [(k, d')]) := by simp
      rw [e2] at hi
      cases hi
      obtain ⟨ms, clock, q1, q2, q3, q4⟩ := h1
      refine ⟨ms, clock, q1, q2, fun i x e hx he => ?_, q4⟩
      match i with
      | 0 =>
        cases hx
        obtain ⟨r1, r2⟩ := q3 0 (k, d) e rfl he
        exact ⟨r1, hle _ _ _ r2⟩
      | j + 1 => simp at hx
    · refine h.ob o ob b ?_ hc
      dsimp only at hi ⊢
      rw [← hi]
      by_cases hlt : o < A.length
      · rw [List.getElem?_append_left hlt, List.getElem?_append_left hlt]
      · rw [List.getElem?_append_right (by omega), List.getElem?_append_right (by omega)]
        obtain ⟨j, hj⟩ : ∃ j, o - A.length = j + 1 := ⟨o - A.length - 1, by omega⟩
        rw [hj]
        rfl
  · have := h.gone o hi
    dsimp only at this ⊢
    by_cases ho : o = A.length
    · subst ho
      simp at this
    · rw [← this]
      by_cases hlt : o < A.length
      · rw [List.getElem?_append_left hlt, List.getElem?_append_left hlt]
      · rw [List.getElem?_append_right (by omega), List.getElem?_append_right (by omega)]
        obtain ⟨j, hj⟩ : ∃ j, o - A.length = j + 1 := ⟨o - A.length - 1, by omega⟩
        rw [hj]
        rfl
theorem map1_le1 {A : List Ob} {C : Ob} {B : List Ob} {tk : List Nat} {k : V} {d d' : D} (hle : D.Le d d') : ∀ m w, Inv ⟨A ++ C :: .map [(k, d)] :: B, tk⟩ m w → Inv ⟨A ++ C :: .map [(k, d')] :: B, tk⟩ m w := by
  intro m w h
  rw [List.append_cons] at h ⊢
  exact map1_le hle m w h
def iT : Tp := .mk 1 0 [] [] (-1)
@[reducible] def iV : V := .agg [.int .i64 1, .int .i64 0, .snil, .snil, .int .i64 (-1)]
def vT : Tp := .mk 7 7 [] [] (-1)
def uT : Tp := .mk 3 0 [vT, vT] [] (-1)
def upX : List NT := [⟨7, iT⟩]
theorem iV_le : D.Le (.v iV) (.v (encT iT)) := by
  rw [iT, encT_mk]
  exact VLe.d (.agg ⟨.refl _, .refl _, .snil, .snil, .refl _, trivial⟩ (by simp))
theorem zV_le : D.Le (.v zV) (.v (encT (.mk 0 0 [] [] 0))) := by
  rw [encT_mk]
  exact VLe.d (.agg ⟨.refl _, .refl _, .snil, .snil, .refl _, trivial⟩ (by simp))
theorem putU : putT upX [] uT = .mk 3 0 [iT, iT] [] (-1) := by kernel_rfl
theorem k_Up10 {σ : Sg} : ACalls Tryd.prog 5 [] σ fun r σ' => r = .v (.bool true) ∧ σ' = σ := by
  have cP := fun A r => k_Put uT (dX := .map (σ.objs.length + 1)) (dY := .v .mnil) (X := upX) (Y := []) (σ := ⟨σ.objs ++ A :: mT upX :: r, σ.toks⟩) (by decide) (.inr ⟨_, rfl, by simp⟩) (.inl ⟨rfl, rfl⟩)
    (fun e he => by simp only [upX, List.mem_singleton] at he; subst he; decide) (fun e he => by cases he) (fun n x h => by
      simp only [upX, getT] at h
      split at h
      · cases h; decide
      · cases h) (fun n x h => by cases h) (by decide) (fun n x h => by cases h)
  rw [putU] at cP
  have c1 := fun σ => k_Text uT (σ := σ) (by decide)
  have c2 := fun σ => k_Text (.mk 3 0 [iT, iT] [] (-1)) (σ := σ) (by decide)
  have t1 : txtOf uT = [39, 48, 32, 45, 62, 32, 39, 48] := by kernel_rfl
  have t2 : txtOf (.mk 3 0 [iT, iT] [] (-1)) = [105, 110, 116, 32, 45, 62, 32, 105, 110, 116] := by kernel_rfl
  rw [t1] at c1
  rw [t2] at c2
  have c3 := fun σ => k_May uT (σ := σ) (by decide)
  rw [show (fineS uT 0).1 = true by decide] at c3
  have c4 := fun σ => ACalls.arg1 (k_May (.mk 0 0 [] [] 0) (σ := σ) (by decide)) zV_le
  rw [show (fineS (.mk 0 0 [] [] 0) 0).1 = false by decide] at c4
  have cv := fun σ => k_Var (n := 7) (σ := σ)
  change ∀ σ, ACalls Tryd.prog _ _ σ (fun r σ' => r = .v (encT vT) ∧ σ' = σ) at cv
  have cf := fun σ => k_Fn (a := vT) (b := vT) (σ := σ)
  change ∀ σ, ACalls Tryd.prog _ [.v (encT vT), .v (encT vT)] σ (fun r σ' => r = .v (encT uT) ∧ σ' = σ) at cf
  rw [uT, encT_mk] at cP c1 c3 cf
  rw [encT_mk (l := [iT, iT])] at cP c2
  refine acalls_fit Tryd.func5 (by kernel_rfl) c5 rfl (by simp [a5]) fun hf => ?_
  clear hf
  simp -implicitDefEqProofs (maxSteps := 2000000) (disch := omega) [-getElem?_pos, a5]
  refine (cv _).then fun r hr => ?_
  subst hr
  simp -implicitDefEqProofs (maxSteps := 2000000) (disch := omega) [-getElem?_pos]
  refine (cv _).then fun r hr => ?_
  subst hr
  simp -implicitDefEqProofs (maxSteps := 2000000) (disch := omega) [-getElem?_pos]
  refine (cf _).then fun r hr => ?_
  subst hr
  simp -implicitDefEqProofs (maxSteps := 2000000) (disch := omega) [-getElem?_pos]
  refine ACalls.weakS (map1_le1 iV_le) ?_
  change ACalls _ _ _ ⟨σ.objs ++ _ :: mT upX :: [], σ.toks⟩ _
  refine (cP _ _).then fun r hr => ?_
  subst hr
  simp -implicitDefEqProofs (maxSteps := 2000000) (disch := omega) [-getElem?_pos]
  refine (c1 _).then fun r hr => ?_
  subst hr
  simp -implicitDefEqProofs (maxSteps := 2000000) (disch := omega) [-getElem?_pos]
  refine (c3 _).then fun r hr => ?_
  subst hr
  simp -implicitDefEqProofs (maxSteps := 2000000) (disch := omega) [-getElem?_pos]
  refine (c4 _).then fun r hr => ?_
  subst hr
  simp -implicitDefEqProofs (maxSteps := 2000000) (disch := omega) [-getElem?_pos]
  refine (c2 _).then fun r hr => ?_
  subst hr
  simp -implicitDefEqProofs (maxSteps := 2000000) (disch := omega) [-getElem?_pos]
  exact .fin _ ⟨rfl, rfl⟩ (.refl _)
end Go.Proofs.YtkpnhcccocaakaaDoor
