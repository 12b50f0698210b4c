/-
  Core expressions, walked: what an expression comes to. (Own work.)
-/
import Derived.Test.YtbifjffjibnjjaaDoorK15
set_option linter.unusedVariables false
set_option linter.unusedSimpArgs false
set_option maxHeartbeats 4000000
namespace Go.Proofs.YtbifjffjibnjjaaDoor
open Go Go.Abs

theorem len1 {α : Type} : ∀ {l : List α}, l.length = 1 → ∃ a, l = [a]
  | [a], _ => ⟨a, rfl⟩
theorem len2 {α : Type} : ∀ {l : List α}, l.length = 2 → ∃ a b, l = [a, b]
  | [a, b], _ => ⟨a, b, rfl⟩
theorem len3 {α : Type} : ∀ {l : List α}, l.length = 3 → ∃ a b c, l = [a, b, c]
  | [a, b, c], _ => ⟨a, b, c, rfl⟩
/-- The kinds whose parts all come to something first. -/
def KAll (k : Int) : Prop := k = 5 ∨ k = 8 ∨ k = 9 ∨ k = 10 ∨ k = 11 ∨ k = 12 ∨ k = 13 ∨ k = 16 ∨ k = 17 ∨ k = 18 ∨ k = 19 ∨ k = 20 ∨ k = 21 ∨ k = 22
theorem kall_of {k : Int} {l ns : Nat} {t : Bool} (h : partsC k l ns t = l) (h1 : k ≠ 1) (h2 : k ≠ 2) (h3 : k ≠ 3) (h4 : k ≠ 4) (h6 : k ≠ 6) (h7 : k ≠ 7) (h15 : k ≠ 15) (h14 : k ≠ 14) : KAll k := by
  unfold partsC at h
  unfold KAll
  repeat' split at h
  all_goals omega
theorem k_DoAny {mo tt g : Nat} {φ ψ : Nat → Nat} {m : Ms} {L : Nat} {k n : Int} {s t : Str} {ns : List Str} {l : List Co} {vs : List Vl} {b : Bool} {σ : Sg} (hR : EvCt mo tt g) (h : Okm mo tt φ ψ m L σ) (hk : KAll k) (h17 : k ≠ 17) (hp : partsC k vs.length ns.length b = vs.length) (hv : okVs m.st.length L vs) (hf0 : m.fuel < g) :
    ACalls Tryd.prog 54 [.ptr mo 0, .v (.agg [.int .i64 k, .int .i64 n, .str s, .str t, .sl none false (ns.map .str), .sl (some 6) false (l.map encC)]), .v (.sl (some 6) false (vs.map (encW φ)))] σ (Outc mo tt φ ψ m σ (doM (evM g) k s vs m)) := by
  have hv' := okVs_iff.1 hv
  rcases hk with rfl | rfl | rfl | rfl | rfl | rfl | rfl | rfl | rfl | rfl | rfl | rfl | rfl | rfl
  · obtain ⟨x, y, rfl⟩ := len2 (l := vs) (by simp [partsC] at hp; omega)
    exact k_Do5 hR h hv.1 hv.2.1 hf0
  · exact k_Do8 hR h hf0
  · obtain ⟨x, y, rfl⟩ := len2 (l := vs) (by simp [partsC] at hp; omega)
    exact k_Do9 hR h hv.1 hv.2.1 hf0
  · obtain ⟨x, y, z, rfl⟩ := len3 (l := vs) (by simp [partsC] at hp; omega)
    exact k_Do10 hR h hv.2.2.1 hf0
  · obtain ⟨x, y, rfl⟩ := len2 (l := vs) (by simp [partsC] at hp; omega)
    exact k_Do11 hR h hv.1 hv.2.1 hf0
  · obtain ⟨x, y, z, rfl⟩ := len3 (l := vs) (by simp [partsC] at hp; omega)
    exact k_Do12 hR h hv.2.2.1 hf0
  · obtain ⟨x, y, rfl⟩ := len2 (l := vs) (by simp [partsC] at hp; omega)
    exact k_Do13 hR h hf0
  · obtain ⟨x, y, rfl⟩ := len2 (l := vs) (by simp [partsC] at hp; omega)
    exact k_Do16 hR h hv.1 hv.2.1 hf0
  · exact absurd rfl h17
  · obtain ⟨x, rfl⟩ := len1 (l := vs) (by simp [partsC] at hp; omega)
    exact k_Do18 hR h hv.1 hf0
  · obtain ⟨x, y, rfl⟩ := len2 (l := vs) (by simp [partsC] at hp; omega)
    exact k_Do19 hR h hv.1 hf0
  · obtain ⟨x, rfl⟩ := len1 (l := vs) (by simp [partsC] at hp; omega)
    exact k_Do20 hR h hf0
  · obtain ⟨x, rfl⟩ := len1 (l := vs) (by simp [partsC] at hp; omega)
    exact k_Do21 hR h hf0
  · have : vs = [] := List.length_eq_zero_iff.1 (by simp [partsC] at hp; omega)
    subst this
    exact k_Do22 hR h hf0
end Go.Proofs.YtbifjffjibnjjaaDoor

namespace Go.Proofs.YtbifjffjibnjjaaDoor
open Go Go.Abs

theorem case_len {l ns : Nat} {t : Str} (h : partsC 14 l ns (decide (t ≠ [])) = l) : l = 1 + 2 * ns + (if t = [] then 0 else 1) := by
  by_cases ht : t = []
  · simp [partsC, ht] at h ⊢
    omega
  · simp [partsC, ht] at h ⊢
    omega
def sizeN : En → Nat
  | .nil => 0
  | .cons _ _ e => sizeN e + 1
theorem k_EvalS {mo tt g : Nat} (hR : EvCt mo tt g) : EvCt mo tt (g + 1) := by
  intro e env m φ ψ σ L h hc hen hf0
  obtain ⟨k, n, s, t, ns, l⟩ := e
  have hS := h.sto
  have hml := hS.mlt
  have hm := hS.mach
  have hhi := h.hi
  unfold machOb at hm
  have hnl : ns.length ≤ 4000001 := by
    have h1 := hc.1
    have h2 := nsz_len ns
    simp only [csz] at h1
    omega
  have hpc := fun σ => k_PartsC (k := k) (n := n) (s := s) (t := t) (ns := ns) (l := l) (σ := σ) hnl
  rw [encC_mk] at hpc ⊢
  by_cases hz : m.fuel = 0
  · rw [show evM (g + 1) (.mk k n s t ns l) env m = endM 8 0 m by rw [evM, if_pos hz]]
    refine acalls_fit Tryd.func31 (by kernel_rfl) c31K rfl (by simp [a31K]) fun hfit => ?_
    clear hfit
    simp -implicitDefEqProofs (maxSteps := 2000000) (disch := omega) [-getElem?_pos, a31K]

    simp -implicitDefEqProofs (maxSteps := 2000000) (disch := omega) [-getElem?_pos, List.getElem?_append_left, List.set_append_left, hm, hml, hz]
    refine (k_End (hS.add _)).mono fun r σ2 ⟨φ2, ψ2, hr, hA⟩ => ?_
    have h0 : σ2.objs[σ.objs.length + 1]? = some _ := hA.loc hS (j := 1) rfl
    have hl := (List.getElem?_eq_some_iff.1 h0).1
    obtain ⟨x0, x1, x2, x3, x4, x5, b0, hr2⟩ := resW_cells φ2 (endM (α := Vl) 8 0 m).v
    subst hr
    rw [hr2]
    simp -implicitDefEqProofs (maxSteps := 2000000) (disch := omega) [-getElem?_pos, h0, hl, List.getElem?_set_self]
    exact ⟨_, _, WeakR.refl _ _ _, φ2, ψ2, hr2.symm, (hA.back hS).put _ (by omega) h0 (by omega)⟩

  rw [show evM (g + 1) (.mk k n s t ns l) env m = stepM (evM g) (.mk k n s t ns l) env { m with fuel := m.fuel - 1 } by rw [evM, if_neg hz]]
  have hset := hS.setM (m' := { m with fuel := m.fuel - 1 }) rfl rfl
  obtain ⟨m1, hm1⟩ : ∃ m1 : Ms, m1 = { m with fuel := m.fuel - 1 } := ⟨_, rfl⟩
  obtain ⟨σ1, hσ1⟩ : ∃ σ1 : Sg, σ1 = ⟨σ.objs.set mo (machOb tt m1), σ.toks⟩ := ⟨_, rfl⟩
  have hf1 : m1.fuel + 1 = m.fuel := by rw [hm1]; dsimp only; omega
  have hmst : m1.st = m.st := by rw [hm1]
  refine acalls_fit Tryd.func31 (by kernel_rfl) c31K rfl (by simp [a31K]) fun hfit => ?_
  clear hfit
  simp -implicitDefEqProofs (maxSteps := 2000000) (disch := omega) [-getElem?_pos, a31K]

  simp -implicitDefEqProofs (maxSteps := 2000000) (disch := omega) [-getElem?_pos, List.getElem?_append_left, List.set_append_left, hm, hml, hz]
  rw [← hm1] at hset ⊢
  rw [← hσ1] at hset
  have hS1 := hset.sto
  have hO : ∀ rs r σ', Outc mo tt φ ψ m1 σ1 rs r σ' → Outc mo tt φ ψ m σ rs r σ' := fun rs r σ' ⟨φ', ψ', hr, hA⟩ => ⟨φ', ψ', hr, hset.trans hA (by rw [hmst]; exact Nat.le_refl _)⟩
  have hX : σ.objs.set mo (Ob.cells [D.v (vS m.inp), D.v (V.int .i64 ((m.fuel : Int) - 1)), D.v (V.int .i64 m.err), D.v (V.int .i64 m.fault), D.v (V.str []), D.tsl tt none (m.tr.map .str)]) = σ1.objs := by
    rw [hσ1, hm1]
    simp only [machOb]
    rw [show ((m.fuel - 1 : Nat) : Int) = (m.fuel : Int) - 1 by omega]
  have hL : σ.objs.length = σ1.objs.length := by rw [hσ1]; simp
  have hT : σ.toks = σ1.toks := by rw [hσ1]
  rw [hX, hL, hT]
  clear hX
  have hml1 : mo < σ1.objs.length := by omega
  have h1 : Okm mo tt φ ψ m1 L σ1 := ⟨hS1, ⟨by rw [hmst]; exact h.ok.st, by rw [hm1]; exact h.ok.tr⟩, h.lo, by omega⟩
  have hen1 : okE m1.st.length L env := by rw [hmst]; exact hen
  refine (hpc _).then fun r hr => ?_
  subst hr
  simp -implicitDefEqProofs (maxSteps := 2000000) (disch := omega) [-getElem?_pos]
  refine .mk (fun hp => ?_) fun hp => ?_
  rotate_left
  · rw [show stepM (evM g) (.mk k n s t ns l) env m1 = stuckM m1 by rw [stepM_mk, if_pos (by simpa using hp)]]
    simp -implicitDefEqProofs (maxSteps := 2000000) (disch := omega) [-getElem?_pos]
    refine (k_Stuck (hS1.add _)).mono fun r σ2 ⟨φ2, ψ2, hr, hA⟩ => ?_
    have h0 : σ2.objs[σ1.objs.length + 1]? = some _ := hA.loc hS1 (j := 1) rfl
    have hl := (List.getElem?_eq_some_iff.1 h0).1
    obtain ⟨x0, x1, x2, x3, x4, x5, b0, hr2⟩ := resW_cells φ2 (stuckM (α := Vl) m1).v
    subst hr
    rw [hr2]
    simp -implicitDefEqProofs (maxSteps := 2000000) (disch := omega) [-getElem?_pos, h0, hl, List.getElem?_set_self]
    exact ⟨_, _, WeakR.refl _ _ _, hO _ _ _ ⟨φ2, ψ2, hr2.symm, (hA.back hS1).put _ (by omega) h0 (by omega)⟩⟩

  rw [stepM_mk, if_neg (by simpa using hp)]
  have hp2 : partsC k l.length ns.length (decide (t ≠ [])) = l.length := by simpa using hp
  simp -implicitDefEqProofs (maxSteps := 2000000) (disch := omega) [-getElem?_pos]
  refine .mk (fun hk => ?_) fun hk1 => ?_
  · subst hk
    simp -implicitDefEqProofs (maxSteps := 2000000) (disch := omega) [-getElem?_pos]
    exact ⟨_, _, WeakR.refl _ _ _, hO _ _ _ ⟨φ, ψ, by simp [done, resW, encW, celW], (Aft.refl hS1).add _⟩⟩
  rw [if_neg hk1]
  simp -implicitDefEqProofs (maxSteps := 2000000) (disch := omega) [-getElem?_pos]
  refine .mk (fun hk => ?_) fun hk2 => ?_
  · subst hk
    simp -implicitDefEqProofs (maxSteps := 2000000) (disch := omega) [-getElem?_pos]
    exact ⟨_, _, WeakR.refl _ _ _, hO _ _ _ ⟨φ, ψ, by simp [done, resW, encW, celW], (Aft.refl hS1).add _⟩⟩
  rw [if_neg hk2]
  simp -implicitDefEqProofs (maxSteps := 2000000) (disch := omega) [-getElem?_pos]
  refine .mk (fun hk => ?_) fun hk3 => ?_
  · subst hk
    simp -implicitDefEqProofs (maxSteps := 2000000) (disch := omega) [-getElem?_pos]
    refine W_loop (α := En) env sizeN (fun e => ⟨[(0, .ptr mo 0), (4, .ptr σ1.objs.length 0), (6, .ptr (σ1.objs.length + 1) 0), (7, .v (.bool false)), (8, .v (encN φ e))], ⟨σ1.objs ++ [Ob.cells [D.v (V.int .i64 3), D.v (V.int .i64 n), D.v (V.str s), D.v (V.str t), D.v (V.sl none false (ns.map .str)), D.v (V.sl (some 6) false (l.map encC))], Ob.cells [D.v (V.int .i64 0), D.v (V.int .i64 0), D.v (V.str []), D.v V.snil, D.v V.pnil, D.v V.pnil]], σ1.toks⟩⟩) (fun e => lookE env s = lookE e s)
      (.eq (by simp)) rfl fun e he => ?_
    rw [he]
    cases e with
    | nil =>
      simp only [encN, lookE]
      simp -implicitDefEqProofs (maxSteps := 2000000) (disch := omega) [-getElem?_pos]
      refine (k_Stuck (hS1.add _)).mono fun r σ2 ⟨φ2, ψ2, hr, hA⟩ => ?_
      have h0 : σ2.objs[σ1.objs.length + 1]? = some _ := hA.loc hS1 (j := 1) rfl
      have hl := (List.getElem?_eq_some_iff.1 h0).1
      obtain ⟨x0, x1, x2, x3, x4, x5, b0, hr2⟩ := resW_cells φ2 (stuckM (α := Vl) m1).v
      subst hr
      rw [hr2]
      simp -implicitDefEqProofs (maxSteps := 2000000) (disch := omega) [-getElem?_pos, h0, hl, List.getElem?_set_self]
      exact ⟨_, _, WeakR.refl _ _ _, hO _ _ _ ⟨φ2, ψ2, hr2.symm, (hA.back hS1).put _ (by omega) h0 (by omega)⟩⟩

    | cons x v e =>
      obtain ⟨v0, v1, v2, v3, v4, v5, hcv⟩ := list6 (celW_len (φ := φ) v)
      have hnc := encN_cells (φ := φ) e
      have hno := encN_one (φ := φ) e
      simp only [V.cells] at hnc
      simp only [V.one] at hno
      simp only [encN, lookE, hcv, List.cons_append, List.nil_append]
      simp -implicitDefEqProofs (maxSteps := 2000000) (disch := omega) [-getElem?_pos]
      refine .mk (fun hx => ?_) fun hx => ?_
      · subst hx
        simp -implicitDefEqProofs (maxSteps := 2000000) (disch := omega) [-getElem?_pos]
        exact ⟨_, _, WeakR.refl _ _ _, hO _ _ _ ⟨φ, ψ, by simp [done, resW, encW, hcv], (Aft.refl hS1).add _⟩⟩
      · simp -implicitDefEqProofs (maxSteps := 2000000) (disch := omega) [-getElem?_pos]
        exact ⟨e, by simp [hx], by simp [sizeN], .eq (by simp)⟩
  rw [if_neg hk3]
  simp -implicitDefEqProofs (maxSteps := 2000000) (disch := omega) [-getElem?_pos]
  refine .mk (fun hk => ?_) fun hk4 => ?_
  · subst hk
    obtain ⟨p, rfl⟩ := len1 (l := l) (by simp [partsC] at hp2; omega)
    obtain ⟨pk, pn, ps, pt, pns, pl⟩ := p
    have hnc := encN_cells (φ := φ) env
    have hno := encN_one (φ := φ) env
    simp only [V.cells] at hnc
    simp only [V.one] at hno
    simp only [List.map_cons, List.map_nil, encC_mk]
    simp -implicitDefEqProofs (maxSteps := 2000000) (disch := omega) [-getElem?_pos, hnc, hno]
    exact ⟨_, _, WeakR.refl _ _ _, hO _ _ _ ⟨φ, ψ, by simp [done, resW, encW, celW, coV, prt], (Aft.refl hS1).add _⟩⟩
  rw [if_neg hk4]
  simp -implicitDefEqProofs (maxSteps := 2000000) (disch := omega) [-getElem?_pos]
  refine .mk (fun hk => ?_) fun hk6 => ?_
  · subst hk
    obtain ⟨a, b, rfl⟩ := len2 (l := l) (by simp [partsC] at hp2; omega)
    have hca : okC L a := hc.prt 0
    have hcb : okC L b := hc.prt 1
    obtain ⟨a0, a1, a2, a3, a4, a5, hxa⟩ := list6 (show (coV a).length = 6 by cases a; rfl)
    obtain ⟨b0, b1, b2, b3, b4, b5, hxb⟩ := list6 (show (coV b).length = 6 by cases b; rfl)
    have hea : encC a = .agg [a0, a1, a2, a3, a4, a5] := by rw [encC_coV, hxa]
    have heb : encC b = .agg [b0, b1, b2, b3, b4, b5] := by rw [encC_coV, hxb]
    have hev := fun xs : List Ob => hR a env m1 φ ψ ⟨σ1.objs ++ xs, σ1.toks⟩ L ⟨hS1.add _, h1.ok, h1.lo, h1.hi⟩ hca hen1 (by omega)
    rw [hea] at hev
    simp only [List.map_cons, List.map_nil]
    rw [hea, heb]
    simp -implicitDefEqProofs (maxSteps := 2000000) (disch := omega) [-getElem?_pos]
    refine (hev _).mono fun r σ2 ⟨φ2, ψ2, hr, hA⟩ => ?_
    have hA2 := hA.back hS1
    obtain ⟨hf2, hs2, hv2, he2, hO2⟩ := h1.after hca hen1 hA2
    generalize hrs : evM g a env m1 = rs at hr hA hA2 hf2 hs2 hv2 he2 hO2
    obtain ⟨v, m2⟩ := rs
    dsimp only at hr hA hA2 hf2 hs2 hv2 he2 hO2
    have f0 : σ2.objs[σ1.objs.length]? = some _ := hA.loc hS1 (j := 0) rfl
    have f1 : σ2.objs[σ1.objs.length + 1]? = some _ := hA.loc hS1 (j := 1) rfl
    have hl0 := (List.getElem?_eq_some_iff.1 f0).1
    have hl1 := (List.getElem?_eq_some_iff.1 f1).1
    have hpr0 : prt [a, b] 0 = a := rfl
    have hpr1 : prt [a, b] 1 = b := rfl
    rw [hpr0, hrs, hpr1]
    cases v with
    | none =>
      subst hr
      unfold resW zW
      simp only [Rs.bind]
      simp -implicitDefEqProofs (maxSteps := 2000000) (disch := omega) [-getElem?_pos, f0, f1, hl1, List.getElem?_append_left, List.set_append_left]
      exact ⟨_, _, WeakR.refl _ _ _, hO _ _ _ ⟨φ2, ψ2, rfl, (hA2.put _ (by omega) f1 (by omega)).add _⟩⟩
    | some v =>
      subst hr
      obtain ⟨v0, v1, v2, v3, v4, v5, hcv⟩ := list6 (celW_len (φ := φ2) v)
      have hvv : encW φ2 v = .agg [v0, v1, v2, v3, v4, v5] := by unfold encW; rw [hcv]
      rw [show resW φ2 (some v) = .tup [.v (encW φ2 v), .v (.bool true)] from rfl, hvv]
      have hnc := encN_cells (φ := φ) env
      have hno := encN_one (φ := φ) env
      simp only [V.cells] at hnc
      simp only [V.one] at hno
      have henc : encN φ2 (.cons s v env) = .box (some 8) (.agg [.str s, v0, v1, v2, v3, v4, v5, encN φ env]) 0 := by
        simp only [encN, hcv, List.cons_append, List.nil_append]
        rw [encN_ext (φ := φ) (φ' := φ2) (fun k hk => hA2.fe k hk) hen1]
      have hev2 := fun xs : List Ob => hR b (.cons s v env) m2 φ2 ψ2 ⟨σ2.objs ++ xs, σ2.toks⟩ _ ⟨hO2.sto.add xs, hO2.ok, hO2.lo, hO2.hi⟩ (hcb.mono (by omega)) ⟨hv2 _ rfl, he2⟩ (by omega)
      rw [heb, henc] at hev2
      simp only [Rs.bind]
      simp -implicitDefEqProofs (maxSteps := 2000000) (disch := omega) [-getElem?_pos, f0, f1, hl0, hl1, List.getElem?_append_left, hnc, hno]
      refine ⟨one6 (hcv ▸ celW_one (φ := φ2) v), ?_⟩
      refine (hev2 _).mono fun r σ3 ⟨φ3, ψ3, hr3, hA3⟩ => ?_
      have hA3b := hA3.back hO2.sto
      have h13 := hA3b.kept hO2.sto f1 (by omega)
      have hl13 := (List.getElem?_eq_some_iff.1 h13).1
      obtain ⟨x0, x1, x2, x3, x4, x5, w0, hr2⟩ := resW_cells φ3 (evM g b (.cons s v env) m2).v
      subst hr3
      rw [hr2]
      simp -implicitDefEqProofs (maxSteps := 2000000) (disch := omega) [-getElem?_pos, h13, hl13, List.getElem?_set_self]
      exact ⟨_, _, WeakR.refl _ _ _, hO _ _ _ ⟨φ3, ψ3, hr2.symm, (hA2.trans hA3b hs2).put _ (by omega) h13 (by omega)⟩⟩

  rw [if_neg hk6]
  simp -implicitDefEqProofs (maxSteps := 2000000) (disch := omega) [-getElem?_pos]
  refine .mk (fun hk => ?_) fun hk7 => ?_
  · subst hk
    obtain ⟨p, b, rfl⟩ := len2 (l := l) (by simp [partsC] at hp2; omega)
    have hcp : okC L p := hc.prt 0
    have hcb : okC L b := hc.prt 1
    obtain ⟨b0, b1, b2, b3, b4, b5, hxb⟩ := list6 (show (coV b).length = 6 by cases b; rfl)
    have heb : encC b = .agg [b0, b1, b2, b3, b4, b5] := by rw [encC_coV, hxb]
    obtain ⟨pk, pn, ps, pt, pns, pl⟩ := p
    have hnc := encN_cells (φ := φ) env
    have hno := encN_one (φ := φ) env
    simp only [V.cells] at hnc
    simp only [V.one] at hno
    have hev2 := fun xs : List Ob => hR b (.cons s (.fn true s t (.mk pk pn ps pt pns pl) env) env) m1 φ ψ ⟨σ1.objs ++ xs, σ1.toks⟩ L ⟨hS1.add xs, h1.ok, h1.lo, h1.hi⟩ hcb ⟨⟨hcp, hen1⟩, hen1⟩ (by omega)
    rw [heb] at hev2
    simp only [encN, celW, coV, List.cons_append, List.nil_append] at hev2
    have hpr0 : prt [Co.mk pk pn ps pt pns pl, b] 0 = Co.mk pk pn ps pt pns pl := rfl
    have hpr1 : prt [Co.mk pk pn ps pt pns pl, b] 1 = b := rfl
    rw [hpr0, hpr1]
    simp only [List.map_cons, List.map_nil]
    rw [heb, encC_mk]
    simp -implicitDefEqProofs (maxSteps := 2000000) (disch := omega) [-getElem?_pos, hnc, hno]
    refine (hev2 _).mono fun r σ2 ⟨φ2, ψ2, hr, hA⟩ => ?_
    have h0 : σ2.objs[σ1.objs.length + 1]? = some _ := hA.loc hS1 (j := 1) rfl
    have hl := (List.getElem?_eq_some_iff.1 h0).1
    obtain ⟨x0, x1, x2, x3, x4, x5, b0, hr2⟩ := resW_cells φ2 (evM g b (.cons s (.fn true s t (.mk pk pn ps pt pns pl) env) env) m1).v
    subst hr
    rw [hr2]
    simp -implicitDefEqProofs (maxSteps := 2000000) (disch := omega) [-getElem?_pos, h0, hl, List.getElem?_set_self]
    exact ⟨_, _, WeakR.refl _ _ _, hO _ _ _ ⟨φ2, ψ2, hr2.symm, (hA.back hS1).put _ (by omega) h0 (by omega)⟩⟩

  rw [if_neg hk7]
  simp -implicitDefEqProofs (maxSteps := 2000000) (disch := omega) [-getElem?_pos]
  refine .mk (fun hk => ?_) fun hk15 => ?_
  · subst hk
    obtain ⟨a, b, c, rfl⟩ := len3 (l := l) (by simp [partsC] at hp2; omega)
    have hch := fun xs : List Ob => k_Choose (n := n) (s := s) (t := t) (ns := ns) hR ⟨hS1.add xs, h1.ok, h1.lo, h1.hi⟩ (hc.prt 0) (hc.prt 1) (hc.prt 2) hen1 (by omega)
    simp -implicitDefEqProofs (maxSteps := 2000000) (disch := omega) [-getElem?_pos]
    refine (hch _).mono fun r σ2 ⟨φ2, ψ2, hr, hA⟩ => ?_
    have h0 : σ2.objs[σ1.objs.length + 1]? = some _ := hA.loc hS1 (j := 1) rfl
    have hl := (List.getElem?_eq_some_iff.1 h0).1
    obtain ⟨x0, x1, x2, x3, x4, x5, b0, hr2⟩ := resW_cells φ2 (chooseM (evM g) env (prt [a, b, c] 0) (prt [a, b, c] 1) (prt [a, b, c] 2) m1).v
    subst hr
    rw [hr2]
    simp -implicitDefEqProofs (maxSteps := 2000000) (disch := omega) [-getElem?_pos, h0, hl, List.getElem?_set_self]
    exact ⟨_, _, WeakR.refl _ _ _, hO _ _ _ ⟨φ2, ψ2, hr2.symm, (hA.back hS1).put _ (by omega) h0 (by omega)⟩⟩

  rw [if_neg hk15]
  simp -implicitDefEqProofs (maxSteps := 2000000) (disch := omega) [-getElem?_pos]
  refine .mk (fun hk => ?_) fun hk14 => ?_
  · subst hk
    have hca := fun xs : List Ob => k_Cases hR ⟨hS1.add xs, h1.ok, h1.lo, h1.hi⟩ hc (case_len hp2) hen1 (by omega)
    simp -implicitDefEqProofs (maxSteps := 2000000) (disch := omega) [-getElem?_pos]
    refine (hca _).mono fun r σ2 ⟨φ2, ψ2, hr, hA⟩ => ?_
    have h0 : σ2.objs[σ1.objs.length + 1]? = some _ := hA.loc hS1 (j := 1) rfl
    have hl := (List.getElem?_eq_some_iff.1 h0).1
    obtain ⟨x0, x1, x2, x3, x4, x5, b0, hr2⟩ := resW_cells φ2 (casesM (evM g) env t ns l m1).v
    subst hr
    rw [hr2]
    simp -implicitDefEqProofs (maxSteps := 2000000) (disch := omega) [-getElem?_pos, h0, hl, List.getElem?_set_self]
    exact ⟨_, _, WeakR.refl _ _ _, hO _ _ _ ⟨φ2, ψ2, hr2.symm, (hA.back hS1).put _ (by omega) h0 (by omega)⟩⟩

  rw [if_neg hk14]
  simp -implicitDefEqProofs (maxSteps := 2000000) (disch := omega) [-getElem?_pos]
  have hka := kall_of hp2 hk1 hk2 hk3 hk4 hk6 hk7 hk15 hk14
  have hoa := ok_all (ok_ev 2000 (Nat.le_refl _) g m1.fuel) env l m1 L h.lo (fun x hx => hc.mem hx) hen1 h1.ok (Nat.le_refl _)
  by_cases h17 : k = 17
  · subst h17
    obtain ⟨a, rfl⟩ := len1 (l := l) (by simp [partsC] at hp2; omega)
    have hca : okC L a := hc.prt 0
    simp only [List.map_cons, List.map_nil]
    refine (k_AllM hR ⟨hS1.add _, h1.ok, h1.lo, h1.hi⟩ hca hen1 (by omega)).mono fun r σ2 hm => ?_
    rcases hm with ⟨hnv, hr, φ2, ψ2, hA⟩ | ⟨d, hr, φ2, ψ2, v, o, c, rest, hv, hd, hob, hoo, hA⟩
    · have hA2 := hA.back hS1
      have f1 : σ2.objs[σ1.objs.length + 1]? = some _ := hA.loc hS1 (j := 1) rfl
      have hl1 := (List.getElem?_eq_some_iff.1 f1).1
      generalize hrs : evM g a env m1 = rs at hnv hA hA2
      obtain ⟨v, m2⟩ := rs
      dsimp only at hnv hA2
      subst hnv
      subst hr
      rw [show allM (evM g) env [a] m1 = ⟨none, m2⟩ by simp [allM, hrs, Rs.bind]]
      simp only [Rs.bind]
      simp -implicitDefEqProofs (maxSteps := 2000000) (disch := omega) [-getElem?_pos, f1, hl1, List.getElem?_set_self]
      exact ⟨_, _, WeakR.refl _ _ _, hO _ _ _ ⟨φ2, ψ2, rfl, hA2.put _ (by omega) f1 (by omega)⟩⟩
    · have hA2 := hA.back hS1
      obtain ⟨hf2, hs2, hv2, he2, hO2⟩ := h1.after hca hen1 hA2
      have f0 : σ2.objs[σ1.objs.length]? = some _ := hA.loc hS1 (j := 0) rfl
      have f1 : σ2.objs[σ1.objs.length + 1]? = some _ := hA.loc hS1 (j := 1) rfl
      have hl0 := (List.getElem?_eq_some_iff.1 f0).1
      have hl1 := (List.getElem?_eq_some_iff.1 f1).1
      generalize hrs : evM g a env m1 = rs at hv hA hA2 hf2 hs2 hv2 he2 hO2
      obtain ⟨v', m2⟩ := rs
      dsimp only at hv hA hA2 hf2 hs2 hv2 he2 hO2
      subst hv
      subst hr
      subst hd
      rw [show allM (evM g) env [a] m1 = done [v] m2 by simp [allM, hrs, Rs.bind, done]]
      have hdo := k_Do17 (g := g) (n := n) (s := s) (t := t) (ns := ns) (l := [a]) (c := c) hA hs2 hO2.ok (hv2 _ rfl) (by simp only [List.length_append]; omega) hob hoo
      simp only [Rs.bind, done]
      simp only [List.map_cons, List.map_nil] at hdo
      simp -implicitDefEqProofs (maxSteps := 2000000) (disch := omega) [-getElem?_pos, f0, f1, hl0, hl1]
      refine (hdo).mono fun r σ3 ⟨φ3, ψ3, hr, hA3⟩ => ?_
      have h0 : σ3.objs[σ1.objs.length + 1]? = some _ := hA3.loc hS1 (j := 1) rfl
      have hl := (List.getElem?_eq_some_iff.1 h0).1
      obtain ⟨x0, x1, x2, x3, x4, x5, b0, hr2⟩ := resW_cells φ3 (doM (evM g) 17 s [v] m2).v
      subst hr
      rw [hr2]
      simp -implicitDefEqProofs (maxSteps := 2000000) (disch := omega) [-getElem?_pos, h0, hl, List.getElem?_set_self]
      exact ⟨_, _, WeakR.refl _ _ _, hO _ _ _ ⟨φ3, ψ3, hr2.symm, (hA3.back hS1).put _ (by omega) h0 (by omega)⟩⟩

  refine (k_All hR ⟨hS1.add _, h1.ok, h1.lo, h1.hi⟩ (fun x hx => hc.mem hx) hc.num.2.2 hen1 (by omega)).mono fun r σ2 ⟨φ2, ψ2, hr, hA⟩ => ?_
  have hA2 := hA.back hS1
  generalize hrs : allM (evM g) env l m1 = rs at hr hA hA2 hoa
  obtain ⟨v, m2⟩ := rs
  have hf2 := hoa.fuel
  have hs2 := hoa.st
  have hok2 := hoa.ok
  have hv2 := hoa.v
  dsimp only at hr hA hA2 hf2 hs2 hok2 hv2
  have hO2 : Okm mo tt φ2 ψ2 m2 (L + 0 + (m1.fuel - m2.fuel)) σ2 := ⟨hA2.sto, hok2, by have := h.lo; omega, by omega⟩
  have f0 : σ2.objs[σ1.objs.length]? = some _ := hA.loc hS1 (j := 0) rfl
  have f1 : σ2.objs[σ1.objs.length + 1]? = some _ := hA.loc hS1 (j := 1) rfl
  have hl0 := (List.getElem?_eq_some_iff.1 f0).1
  have hl1 := (List.getElem?_eq_some_iff.1 f1).1
  cases v with
  | none =>
    subst hr
    unfold resA
    simp only [Rs.bind]
    simp -implicitDefEqProofs (maxSteps := 2000000) (disch := omega) [-getElem?_pos, f0, f1, hl1, List.getElem?_set_self]
    exact ⟨_, _, WeakR.refl _ _ _, hO _ _ _ ⟨φ2, ψ2, rfl, hA2.put _ (by omega) f1 (by omega)⟩⟩
  | some vs =>
    subst hr
    obtain ⟨hvs, hvl⟩ := hv2 vs rfl
    unfold resA
    simp only [Rs.bind]
    have hdo := k_DoAny (n := n) (s := s) (t := t) (ns := ns) (l := l) hR hO2 hka h17 (by rw [hvl]; exact hp2) hvs (by omega)
    simp -implicitDefEqProofs (maxSteps := 2000000) (disch := omega) [-getElem?_pos, f0, f1, hl0, hl1]
    refine (hdo).mono fun r σ3 ⟨φ3, ψ3, hr3, hA3⟩ => ?_
    have hA3b := hA3
    have h13 := hA3b.kept hO2.sto f1 (by omega)
    have hl13 := (List.getElem?_eq_some_iff.1 h13).1
    obtain ⟨x0, x1, x2, x3, x4, x5, w0, hr2⟩ := resW_cells φ3 (doM (evM g) k s vs m2).v
    subst hr3
    rw [hr2]
    simp -implicitDefEqProofs (maxSteps := 2000000) (disch := omega) [-getElem?_pos, h13, hl13, List.getElem?_set_self]
    exact ⟨_, _, WeakR.refl _ _ _, hO _ _ _ ⟨φ3, ψ3, hr2.symm, (hA2.trans hA3b hs2).put _ (by omega) h13 (by omega)⟩⟩

theorem k_Eval {mo tt : Nat} : ∀ g, EvCt mo tt g
  | 0 => fun e env m φ ψ σ L h hc hen hf => absurd hf (Nat.not_lt_zero _)
  | g + 1 => k_EvalS (k_Eval g)
end Go.Proofs.YtbifjffjibnjjaaDoor
