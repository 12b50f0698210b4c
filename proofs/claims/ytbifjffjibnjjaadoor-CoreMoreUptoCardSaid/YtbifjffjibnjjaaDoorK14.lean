/-
  Core expressions, walked: what a choice comes to. (Own work.)
-/
import Derived.Test.YtbifjffjibnjjaaDoorK13
set_option linter.unusedVariables false
set_option linter.unusedSimpArgs false
set_option maxHeartbeats 1000000
namespace Go.Proofs.YtbifjffjibnjjaaDoor
open Go Go.Abs

/-- After a part: what is known of the machine. -/
theorem Okm.after {mo tt g : Nat} {φ ψ φ2 ψ2 : Nat → Nat} {m : Ms} {L : Nat} {env : En} {e : Co} {σ σ2 : Sg} (h : Okm mo tt φ ψ m L σ) (he : okC L e) (hen : okE m.st.length L env) (hA : Aft mo tt φ ψ m σ φ2 ψ2 (evM g e env m).m σ2) :
    (evM g e env m).m.fuel ≤ m.fuel ∧ m.st.length ≤ (evM g e env m).m.st.length ∧ (∀ v, (evM g e env m).v = some v → okV (evM g e env m).m.st.length (L + (m.fuel - (evM g e env m).m.fuel)) v) ∧
    okE (evM g e env m).m.st.length (L + (m.fuel - (evM g e env m).m.fuel)) env ∧ Okm mo tt φ2 ψ2 (evM g e env m).m (L + (m.fuel - (evM g e env m).m.fuel)) σ2 := by
  have hok := ok_ev 2000 (Nat.le_refl _) g m.fuel e env m L h.lo he hen h.ok (Nat.le_refl _)
  have h1 := hok.fuel
  have h2 := h.hi
  have h3 := h.lo
  exact ⟨hok.fuel, hok.st, hok.v, hen.mono hok.st (by omega), hA.sto, hok.ok, by omega, by omega⟩
theorem Aft.kept {mo tt i : Nat} {φ ψ φ' ψ' : Nat → Nat} {m m' : Ms} {σ σ' : Sg} {cs : List D} (h : Aft mo tt φ ψ m σ φ' ψ' m' σ') (hS : Sto mo tt φ ψ m σ) (hi : σ.objs[i]? = some (.cells cs)) (hm : i ≠ mo) : σ'.objs[i]? = some (.cells cs) :=
  (h.keep i (List.getElem?_eq_some_iff.1 hi).1 hm fun k hk => hS.ne hk hi).trans hi
theorem choose_stuck {R : Rec} {env : En} {a b c : Co} {m : Ms} {v : Vl} {m2 : Ms} (h : R a env m = ⟨some v, m2⟩) (hk : ¬ kindW v = 1) : chooseM R env a b c m = stuckM m2 := by
  unfold chooseM
  rw [h]
  simp only [Rs.bind]
  cases v <;> first | rfl | exact absurd rfl hk
theorem k_Choose {mo tt g : Nat} {φ ψ : Nat → Nat} {m : Ms} {L : Nat} {env : En} {n : Int} {s t : Str} {ns : List Str} {a b c : Co} {σ : Sg} (hR : EvCt mo tt g) (h : Okm mo tt φ ψ m L σ) (ha : okC L a) (hb : okC L b) (hc : okC L c) (hen : okE m.st.length L env) (hf0 : m.fuel < g) :
    ACalls Tryd.prog 51 [.ptr mo 0, .v (.agg [.int .i64 15, .int .i64 n, .str s, .str t, .sl none false (ns.map .str), .sl (some 6) false ([a, b, c].map encC)]), .v (encN φ env)] σ (Outc mo tt φ ψ m σ (chooseM (evM g) env a b c m)) := by
  have hS := h.sto
  have hml := hS.mlt
  obtain ⟨a0, a1, a2, a3, a4, a5, hca⟩ := list6 (show (coV a).length = 6 by cases a; rfl)
  obtain ⟨b0, b1, b2, b3, b4, b5, hcb⟩ := list6 (show (coV b).length = 6 by cases b; rfl)
  obtain ⟨c0, c1, c2, c3, c4, c5, hcc⟩ := list6 (show (coV c).length = 6 by cases c; rfl)
  have hea : encC a = .agg [a0, a1, a2, a3, a4, a5] := by rw [encC_coV, hca]
  have heb : encC b = .agg [b0, b1, b2, b3, b4, b5] := by rw [encC_coV, hcb]
  have hec : encC c = .agg [c0, c1, c2, c3, c4, c5] := by rw [encC_coV, hcc]
  have hev := fun xs : List Ob => hR a env m φ ψ ⟨σ.objs ++ xs, σ.toks⟩ L ⟨hS.add _, h.ok, h.lo, h.hi⟩ ha hen hf0
  simp only [List.map_cons, List.map_nil]
  rw [hea] at hev ⊢
  rw [heb, hec]
  refine acalls_fit Tryd.func51 (by kernel_rfl) c51 rfl (by simp [a51]) fun hf => ?_
  clear hf
  simp -implicitDefEqProofs (maxSteps := 2000000) (disch := omega) [-getElem?_pos, a51]
  refine (hev _).mono fun r σ2 ⟨φ2, ψ2, hr, hA⟩ => ?_
  have hA2 := hA.back hS
  obtain ⟨hf2, hs2, hv2, he2, hO2⟩ := h.after ha hen hA2
  generalize hrs : evM g a env m = rs at hr hA hA2 hf2 hs2 hv2 he2 hO2
  obtain ⟨v, m2⟩ := rs
  dsimp only at hr hA hA2 hf2 hs2 hv2 he2 hO2
  have h0 : σ2.objs[σ.objs.length]? = some _ := hA.loc hS (j := 0) rfl
  have h1 : σ2.objs[σ.objs.length + 1]? = some _ := hA.loc hS (j := 1) rfl
  have hl0 := (List.getElem?_eq_some_iff.1 h0).1
  have hl1 := (List.getElem?_eq_some_iff.1 h1).1
  cases v with
  | none =>
    subst hr
    unfold resW zW
    rw [show chooseM (evM g) env a b c m = ⟨none, m2⟩ by unfold chooseM; rw [hrs]; rfl]
    simp -implicitDefEqProofs (maxSteps := 2000000) (disch := omega) [-getElem?_pos, h0, h1, hl1, List.getElem?_append_left, List.set_append_left]
    exact ⟨_, _, WeakR.refl _ _ _, φ2, ψ2, rfl, (hA2.put _ (by omega) h1 (by omega)).add _⟩
  | some v =>
    subst hr
    obtain ⟨v1, v2, v3, v4, v5, hcv⟩ := celW_kind (φ := φ2) v
    have hvv : encW φ2 v = .agg [.int .i64 (kindW v), v1, v2, v3, v4, v5] := by unfold encW; rw [hcv]
    rw [show resW φ2 (some v) = .tup [.v (encW φ2 v), .v (.bool true)] from rfl, hvv]
    have hen2 := encN_ext (fun k hk => hA2.fe k hk) hen
    simp -implicitDefEqProofs (maxSteps := 2000000) (disch := omega) [-getElem?_pos, h0, h1, hl1]
    refine .mk (fun hk => ?_) fun hk => ?_
    · obtain ⟨x, rfl⟩ := kind1 hk
      simp only [celW] at hcv
      cases hcv
      simp -implicitDefEqProofs (maxSteps := 2000000) (disch := omega) [-getElem?_pos, h0, h1, hl1]
      refine .mk (fun hx => ?_) fun hx => ?_
      · have hc2 := fun xs : List Ob => hR c env m2 φ2 ψ2 ⟨σ2.objs ++ xs, σ2.toks⟩ _ ⟨hO2.sto.add xs, hO2.ok, hO2.lo, hO2.hi⟩ (hc.mono (by omega)) he2 (by omega)
        rw [hec, hen2] at hc2
        rw [show chooseM (evM g) env a b c m = evM g c env m2 by unfold chooseM; rw [hrs]; simp [Rs.bind, hx]]
        simp -implicitDefEqProofs (maxSteps := 2000000) (disch := omega) [-getElem?_pos, h0, h1, hl1, List.getElem?_append_left]
        refine (hc2 _).mono fun r σ3 ⟨φ3, ψ3, hr3, hA3⟩ => ?_
        have hA3b := hA3.back hO2.sto
        have h13 := hA3b.kept hO2.sto h1 (by omega)
        have hl13 := (List.getElem?_eq_some_iff.1 h13).1
        obtain ⟨x0, x1, x2, x3, x4, x5, w0, hr2⟩ := resW_cells φ3 (evM g c env m2).v
        subst hr3
        rw [hr2]
        simp -implicitDefEqProofs (maxSteps := 2000000) (disch := omega) [-getElem?_pos, h13, hl13, List.getElem?_set_self]
        exact ⟨_, _, WeakR.refl _ _ _, φ3, ψ3, hr2.symm, (hA2.trans hA3b hs2).put _ (by omega) h13 (by omega)⟩

      · have hc2 := fun xs : List Ob => hR b env m2 φ2 ψ2 ⟨σ2.objs ++ xs, σ2.toks⟩ _ ⟨hO2.sto.add xs, hO2.ok, hO2.lo, hO2.hi⟩ (hb.mono (by omega)) he2 (by omega)
        rw [heb, hen2] at hc2
        rw [show chooseM (evM g) env a b c m = evM g b env m2 by unfold chooseM; rw [hrs]; simp [Rs.bind, hx]]
        simp -implicitDefEqProofs (maxSteps := 2000000) (disch := omega) [-getElem?_pos, h0, h1, hl1, List.getElem?_append_left]
        refine (hc2 _).mono fun r σ3 ⟨φ3, ψ3, hr3, hA3⟩ => ?_
        have hA3b := hA3.back hO2.sto
        have h13 := hA3b.kept hO2.sto h1 (by omega)
        have hl13 := (List.getElem?_eq_some_iff.1 h13).1
        obtain ⟨x0, x1, x2, x3, x4, x5, w0, hr2⟩ := resW_cells φ3 (evM g b env m2).v
        subst hr3
        rw [hr2]
        simp -implicitDefEqProofs (maxSteps := 2000000) (disch := omega) [-getElem?_pos, h13, hl13, List.getElem?_set_self]
        exact ⟨_, _, WeakR.refl _ _ _, φ3, ψ3, hr2.symm, (hA2.trans hA3b hs2).put _ (by omega) h13 (by omega)⟩

    · rw [choose_stuck hrs hk]
      simp -implicitDefEqProofs (maxSteps := 2000000) (disch := omega) [-getElem?_pos, h0, h1, hl1]
      refine (k_Stuck (hO2.sto.add _)).mono fun r σ3 ⟨φ3, ψ3, hr3, hA3⟩ => ?_
      have hA3b := hA3.back hO2.sto
      have h13 := hA3b.kept hO2.sto h1 (by omega)
      have hl13 := (List.getElem?_eq_some_iff.1 h13).1
      obtain ⟨x0, x1, x2, x3, x4, x5, w0, hr2⟩ := resW_cells φ3 (stuckM (α := Vl) m2).v
      subst hr3
      rw [hr2]
      simp -implicitDefEqProofs (maxSteps := 2000000) (disch := omega) [-getElem?_pos, h13, hl13, List.getElem?_set_self]
      exact ⟨_, _, WeakR.refl _ _ _, φ3, ψ3, hr2.symm, (hA2.trans hA3b hs2).put _ (by omega) h13 (by omega)⟩

end Go.Proofs.YtbifjffjibnjjaaDoor
