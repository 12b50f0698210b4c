/-
  Core expressions, walked: what a function comes to. (Own work.)
-/
import Derived.Test.YtbifjffjibnjjaaDoorK9
set_option linter.unusedVariables false
set_option linter.unusedSimpArgs false
set_option maxHeartbeats 1000000
namespace Go.Proofs.YtbifjffjibnjjaaDoor
open Go Go.Abs

theorem resW_cells (φ : Nat → Nat) (o : Option Vl) : ∃ x0 x1 x2 x3 x4 x5 b, resW φ o = .tup [.v (.agg [x0, x1, x2, x3, x4, x5]), .v (.bool b)] := by
  cases o with
  | none => exact ⟨_, _, _, _, _, _, _, rfl⟩
  | some v =>
    obtain ⟨d0, d1, d2, d3, d4, d5, hcv⟩ := list6 (celW_len (φ := φ) v)
    refine ⟨d0, d1, d2, d3, d4, d5, true, ?_⟩
    simp only [resW, encW, hcv]
theorem encN_one {φ : Nat → Nat} (e : En) : (encN φ e).one = true := by cases e <;> simp [encN, V.one]
theorem encN_cells {φ : Nat → Nat} (e : En) : (encN φ e).cells = [encN φ e] := by cases e <;> simp [encN, V.cells]
theorem kind3 {v : Vl} (h : kindW v = 3) : ∃ rc self param part env, v = .fn rc self param part env := by cases v <;> simp [kindW] at h; exact ⟨_, _, _, _, _, rfl⟩
theorem apply_stuck {R : Rec} {f v : Vl} {m : Ms} (h : ¬ kindW f = 3) : applyM R [f, v] m = stuckM m := by
  unfold applyM
  split
  · rename_i heq
    cases heq
    exact absurd rfl h
  · rfl
theorem k_Apply {mo tt g : Nat} {φ ψ : Nat → Nat} {m : Ms} {L : Nat} {f v : Vl} {σ : Sg} (hR : EvCt mo tt g) (h : Okm mo tt φ ψ m L σ) (hf : okV m.st.length L f) (hv : okV m.st.length L v) (hf0 : m.fuel < g) :
    ACalls Tryd.prog 81 [.ptr mo 0, .v (.sl (some 6) false ([f, v].map (encW φ)))] σ (Outc mo tt φ ψ m σ (applyM (evM g) [f, v] m)) := by
  have hS := h.sto
  have hml := hS.mlt
  obtain ⟨a1, a2, a3, a4, a5, hca⟩ := celW_kind (φ := φ) f
  obtain ⟨b0, b1, b2, b3, b4, b5, hcb⟩ := list6 (celW_len (φ := φ) v)
  have hea : encW φ f = .agg [.int .i64 (kindW f), a1, a2, a3, a4, a5] := by unfold encW; rw [hca]
  have heb : encW φ v = .agg [b0, b1, b2, b3, b4, b5] := by unfold encW; rw [hcb]
  have hx : [V.agg [.int .i64 (kindW f), a1, a2, a3, a4, a5], V.agg [b0, b1, b2, b3, b4, b5]] = [f, v].map (encW φ) := by simp [hea, heb]
  have k1 := fun (x : Int) (fl : Bool) (σ : Sg) => k_Are (ks := [x]) (f := fl) (σ := σ) hx (by simp) (by simp)
  simp only [areW, Bool.and_true, List.map_cons, List.map_nil] at k1
  simp only [List.map_cons, List.map_nil]
  rw [hea, heb]
  have hfn : kindW f = 3 → ACalls Tryd.prog 81 [.ptr mo 0, .v (.sl (some 6) false [V.agg [.int .i64 (kindW f), a1, a2, a3, a4, a5], V.agg [b0, b1, b2, b3, b4, b5]])] σ (Outc mo tt φ ψ m σ (applyM (evM g) [f, v] m)) := by
    intro hk
    obtain ⟨rc, self, param, part, env, rfl⟩ := kind3 hk
    obtain ⟨pk, pn, ps, pt, pns, pl⟩ := part
    simp only [celW] at hca
    cases hca
    simp only [coV, List.cons_append, List.nil_append] at *
    have hev := fun (env' : En) (he : okE m.st.length L env') (xs : List Ob) => hR (.mk pk pn ps pt pns pl) env' m φ ψ ⟨σ.objs ++ xs, σ.toks⟩ L ⟨hS.add _, h.ok, h.lo, h.hi⟩ hf.1 he hf0
    have hen := fun (e : En) => show encN φ (.cons param v e) = .box (some 8) (.agg [.str param, b0, b1, b2, b3, b4, b5, encN φ e]) 0 by simp [encN, hcb]
    rw [encC_mk] at hev
    clear hx hea
    refine acalls_fit Tryd.func81 (by kernel_rfl) c81K rfl (by simp [a81K]) fun hfit => ?_
    clear hfit
    simp -implicitDefEqProofs (maxSteps := 2000000) (disch := omega) [-getElem?_pos, a81K]

    refine (k1 3 _ _).then fun r hr => ?_
    subst hr
    simp -implicitDefEqProofs (maxSteps := 2000000) (disch := omega) [-getElem?_pos, hk]
    have heo : okE m.st.length L env := hf.2
    have hnc := encN_cells (φ := φ) env
    have hno := encN_one (φ := φ) env
    simp only [V.cells] at hnc
    simp only [V.one] at hno
    refine .mk (fun hrc => ?_) fun hrc => ?_
    · subst hrc
      have e2 := hev (.cons param v (.cons self (.fn true self param (.mk pk pn ps pt pns pl) env) env)) ⟨hv, hf, heo⟩ [.cells [.v (.int .i64 0), .v (.int .i64 0), .v (.str []), .v .snil, .v .pnil, .v .pnil]]
      simp only [encN, hcb, celW, coV, List.cons_append, List.nil_append] at e2
      rw [show applyM (evM g) [.fn true self param (.mk pk pn ps pt pns pl) env, v] m = evM g (.mk pk pn ps pt pns pl) (.cons param v (.cons self (.fn true self param (.mk pk pn ps pt pns pl) env) env)) m from rfl]
      simp -implicitDefEqProofs (maxSteps := 2000000) (disch := omega) [-getElem?_pos, hnc, hno]
      refine ⟨one6 (hcb ▸ celW_one (φ := φ) v), ?_⟩
      refine (e2).mono fun r σ2 ⟨φ2, ψ2, hr, hA⟩ => ?_
      have h0 : σ2.objs[σ.objs.length ]? = some _ := hA.loc hS (j := 0) rfl
      have hl := (List.getElem?_eq_some_iff.1 h0).1
      obtain ⟨x0, x1, x2, x3, x4, x5, b0, hr2⟩ := resW_cells φ2 (evM g (.mk pk pn ps pt pns pl) (.cons param v (.cons self (.fn true self param (.mk pk pn ps pt pns pl) env) env)) m).v
      subst hr
      rw [hr2]
      simp -implicitDefEqProofs (maxSteps := 2000000) (disch := omega) [-getElem?_pos, h0, hl, List.getElem?_set_self]
      exact ⟨_, _, WeakR.refl _ _ _, φ2, ψ2, hr2.symm, (hA.back hS).put _ (by omega) h0 (by omega)⟩

    · have hrc2 : rc = false := by simpa using hrc
      subst hrc2
      have e2 := hev (.cons param v env) ⟨hv, heo⟩ [.cells [.v (.int .i64 0), .v (.int .i64 0), .v (.str []), .v .snil, .v .pnil, .v .pnil]]
      simp only [encN, hcb, celW, coV, List.cons_append, List.nil_append] at e2
      rw [show applyM (evM g) [.fn false self param (.mk pk pn ps pt pns pl) env, v] m = evM g (.mk pk pn ps pt pns pl) (.cons param v env) m from rfl]
      simp -implicitDefEqProofs (maxSteps := 2000000) (disch := omega) [-getElem?_pos, hnc, hno]
      refine ⟨one6 (hcb ▸ celW_one (φ := φ) v), ?_⟩
      refine (e2).mono fun r σ2 ⟨φ2, ψ2, hr, hA⟩ => ?_
      have h0 : σ2.objs[σ.objs.length ]? = some _ := hA.loc hS (j := 0) rfl
      have hl := (List.getElem?_eq_some_iff.1 h0).1
      obtain ⟨x0, x1, x2, x3, x4, x5, b0, hr2⟩ := resW_cells φ2 (evM g (.mk pk pn ps pt pns pl) (.cons param v env) m).v
      subst hr
      rw [hr2]
      simp -implicitDefEqProofs (maxSteps := 2000000) (disch := omega) [-getElem?_pos, h0, hl, List.getElem?_set_self]
      exact ⟨_, _, WeakR.refl _ _ _, φ2, ψ2, hr2.symm, (hA.back hS).put _ (by omega) h0 (by omega)⟩

  by_cases hk : kindW f = 3
  · exact hfn hk
  clear hfn
  rw [apply_stuck hk]
  refine acalls_fit Tryd.func81 (by kernel_rfl) c81K rfl (by simp [a81K]) fun hfit => ?_
  clear hfit
  simp -implicitDefEqProofs (maxSteps := 2000000) (disch := omega) [-getElem?_pos, a81K]

  refine (k1 3 _ _).then fun r hr => ?_
  subst hr
  simp -implicitDefEqProofs (maxSteps := 2000000) (disch := omega) [-getElem?_pos, hk]
  refine (k_Stuck (hS.add _)).mono fun r σ2 ⟨φ2, ψ2, hr, hA⟩ => ?_
  have h0 : σ2.objs[σ.objs.length ]? = some _ := hA.loc hS (j := 0) rfl
  have hl := (List.getElem?_eq_some_iff.1 h0).1
  obtain ⟨x0, x1, x2, x3, x4, x5, b0, hr2⟩ := resW_cells φ2 (stuckM (α := Vl) m).v
  subst hr
  rw [hr2]
  simp -implicitDefEqProofs (maxSteps := 2000000) (disch := omega) [-getElem?_pos, h0, hl, List.getElem?_set_self]
  exact ⟨_, _, WeakR.refl _ _ _, φ2, ψ2, hr2.symm, (hA.back hS).put _ (by omega) h0 (by omega)⟩

end Go.Proofs.YtbifjffjibnjjaaDoor
