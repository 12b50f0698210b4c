/-
  Types: whether any type may be, its variables, its text, and whether it is any other one: the law walked. (Own work.)
-/
import Derived.Test.YtkpnhcccocaakaaDoorT20
set_option linter.unusedVariables false
set_option linter.unusedSimpArgs false
namespace Go.Proofs.YtkpnhcccocaakaaDoor
open Go Go.Abs

theorem ACalls.argB {P : Program} {f : Nat} {d d' e : D} {σ : Sg} {R : D → Sg → Prop} (h : ACalls P f [e, d'] σ R) (hd : D.Le d d') : ACalls P f [e, d] σ R := by
  refine ⟨h.1, fun m w us hI hl hr => h.2 m w us hI hl fun i x u hx hu => ?_⟩
  match i with
  | 0 => cases hx; exact hr 0 _ _ rfl hu
  | 1 => cases hx; exact hd _ _ _ (hr 1 _ _ rfl hu)
  | j + 2 => simp at hx
set_option maxHeartbeats 1000000 in
theorem k_TypTells (a b : Tp) (ha : tbk a ≤ 1048576) (hb : tbk b ≤ 1048576) {σ : Sg} : ACalls Tryd.prog 3 [.v (encT a), .v (encT b)] σ fun r σ' => r = .v (.bool true) := by
  have cU := fun σ => k_Up10 (σ := σ)
  have fA := fun σ => k_TFew a (σ := σ) ha
  have fB := fun σ => k_TFew b (σ := σ) hb
  have cM := fun A B => k_Meet0 a (os := σ.objs ++ [A, B]) (tk := σ.toks) ha
  simp only [nmO, List.append_assoc, List.cons_append, List.nil_append, List.length_append, List.length_cons, List.length_nil, Nat.zero_add] at cM
  have cV := fun σ => k_Vars (t := a) (σ := σ) ha
  have q1 := fun σ => k_May a (σ := σ) (Nat.le_trans (tsz_tbk a) ha)
  have q2 := fun σ => k_RMay a (σ := σ) ha
  have q3 := fun σ => k_Same a b (σ := σ)
  have q4 := fun σ => k_RSame a b (σ := σ) ha
  have q5 := fun σ => k_Same a a (σ := σ)
  rw [decide_eq_true (rfl : a = a)] at q5
  have q6 := fun σ => k_Text a (σ := σ) ha
  have q7 := fun σ => k_RText a (σ := σ) ha
  have cF := fun σ => k_Fn (a := a) (b := b) (σ := σ)
  have q9 := fun σ => k_Same (.mk 3 0 [a, b] [] (-1)) (.mk 3 0 [a, b] [] (-1)) (σ := σ)
  rw [decide_eq_true rfl] at q9
  have hle := tp_le (k := 3) (n := 0) (tl := -1) (ls := []) (show VLe (.sl (some 5) true [encT a, encT b]) (.sl (some 5) false ([a, b].map encT)) from .lax) .snil
  have q9 := fun σ => ACalls.argB (q9 σ) hle.d
  clear hle
  generalize encT (.mk 3 0 [a, b] [] (-1)) = E3 at *
  have cT := fun (w : Vs) t σ => ACalls.argB (k_SameI (a := w.ts) (b := w.ts) (σ := σ)) (D.Le.tsl (t := t))
  have cR := fun (w : Vs) t σ => ACalls.argB (k_SameI (a := w.rs) (b := w.rs) (σ := σ)) (D.Le.tsl (t := t))
  simp only [decide_true] at cT cR
  generalize vis a ⟨[], []⟩ = w at *
  generalize (fineS a 0).1 = fi at *
  generalize txtOf a = S at *
  generalize decide (a = b) = sb at *
  obtain ⟨k, n, l, ls, tl⟩ := a
  obtain ⟨k2, n2, l2, ls2, tl2⟩ := b
  have cW := fun σ => k_Row (k := k) (tl := tl) (l := l) (ls := ls) (σ := σ) (by simp only [tbk] at ha; have := tbkL_len l; omega) (by simp only [tbk] at ha; have := nsz_len ls; omega)
  have q8 := fun σ => k_Same (.mk k 0 l ls tl) (.mk k 0 l ls tl) (σ := σ)
  rw [decide_eq_true rfl] at q8
  rw [encT_mk] at cW q8
  rw [encT_mk (k := k), encT_mk (k := k2)] at q3 q4 q9 cF ⊢
  rw [encT_mk] at fA fB cM cV q1 q2 q5 q6 q7
  refine acalls_fit Tryd.func3 (by kernel_rfl) c3 rfl (by simp [a3]) fun hf => ?_
  clear hf
  simp -implicitDefEqProofs (maxSteps := 2000000) (disch := omega) [-getElem?_pos, a3]
  refine (cU _).then fun r hr => ?_
  subst hr
  simp -implicitDefEqProofs (maxSteps := 2000000) (disch := omega) [-getElem?_pos]
  refine (fA _).then fun r hr => ?_
  obtain ⟨m, rfl⟩ := hr
  simp -implicitDefEqProofs (maxSteps := 2000000) (disch := omega) [-getElem?_pos]
  refine .mk (fun h => ?_) fun h => ?_
  rotate_left
  · simp -implicitDefEqProofs (maxSteps := 2000000) (disch := omega) [-getElem?_pos]
    exact .fin _ rfl (.refl _)
  simp -implicitDefEqProofs (maxSteps := 2000000) (disch := omega) [-getElem?_pos]
  refine (fB _).then fun r hr => ?_
  obtain ⟨m2, rfl⟩ := hr
  simp -implicitDefEqProofs (maxSteps := 2000000) (disch := omega) [-getElem?_pos]
  refine .mk (fun h => ?_) fun h => ?_
  · simp -implicitDefEqProofs (maxSteps := 2000000) (disch := omega) [-getElem?_pos]
    exact .fin _ rfl (.refl _)
  simp -implicitDefEqProofs (maxSteps := 2000000) (disch := omega) [-getElem?_pos]
  refine ACalls.tokObj (o := σ.objs.length + 2) (k := 0) none (by simp; rfl) (by simp) ?_
  refine ACalls.tokObj (o := σ.objs.length + 2) (k := 1) none (by simp; rfl) (by simp) ?_
  simp
  refine (cM _ _).mono fun r σ' hr => ?_
  obtain ⟨rfl, rfl⟩ := hr
  simp -implicitDefEqProofs (maxSteps := 2000000) (disch := omega) [-getElem?_pos]
  refine (cV _).then fun r hr => ?_
  subst hr
  simp -implicitDefEqProofs (maxSteps := 2000000) (disch := omega) [-getElem?_pos]
  refine (q1 _).then fun r hr => ?_
  subst hr
  simp -implicitDefEqProofs (maxSteps := 2000000) (disch := omega) [-getElem?_pos]
  refine (q2 _).then fun r hr => ?_
  subst hr
  simp -implicitDefEqProofs (maxSteps := 2000000) (disch := omega) [-getElem?_pos]
  refine (q3 _).then fun r hr => ?_
  subst hr
  simp -implicitDefEqProofs (maxSteps := 2000000) (disch := omega) [-getElem?_pos]
  refine (q4 _).then fun r hr => ?_
  subst hr
  simp -implicitDefEqProofs (maxSteps := 2000000) (disch := omega) [-getElem?_pos]
  refine (q5 _).then fun r hr => ?_
  subst hr
  simp -implicitDefEqProofs (maxSteps := 2000000) (disch := omega) [-getElem?_pos]
  refine (q6 _).then fun r hr => ?_
  subst hr
  simp -implicitDefEqProofs (maxSteps := 2000000) (disch := omega) [-getElem?_pos]
  refine (q7 _).then fun r hr => ?_
  subst hr
  simp -implicitDefEqProofs (maxSteps := 2000000) (disch := omega) [-getElem?_pos]
  refine (cW _).then fun r hr => ?_
  subst hr
  simp -implicitDefEqProofs (maxSteps := 2000000) (disch := omega) [-getElem?_pos]
  refine (cT _ _ _).then fun r hr => ?_
  subst hr
  simp -implicitDefEqProofs (maxSteps := 2000000) (disch := omega) [-getElem?_pos]
  refine (cR _ _ _).then fun r hr => ?_
  subst hr
  simp -implicitDefEqProofs (maxSteps := 2000000) (disch := omega) [-getElem?_pos]
  refine (q8 _).then fun r hr => ?_
  subst hr
  simp -implicitDefEqProofs (maxSteps := 2000000) (disch := omega) [-getElem?_pos]
  refine (cF _).then fun r hr => ?_
  subst hr
  simp -implicitDefEqProofs (maxSteps := 2000000) (disch := omega) [-getElem?_pos]
  refine (q9 _).then fun r hr => ?_
  subst hr
  simp -implicitDefEqProofs (maxSteps := 2000000) (disch := omega) [-getElem?_pos]
  exact .fin _ rfl (.refl _)
end Go.Proofs.YtkpnhcccocaakaaDoor
