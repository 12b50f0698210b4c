/-
  Core expressions, walked: what an expression comes to. (Own work.)
-/
import Derived.Test.YtbifjffjibnjjaaDoorM08
set_option linter.unusedVariables false
set_option linter.unusedSimpArgs false
set_option maxHeartbeats 4000000
namespace Go.Proofs.YtbifjffjibnjjaaDoor
open Go Go.Abs

theorem len1 {α : Type} : ∀ {l : List α}, l.length = 1 → ∃ a, l = [a]
  | [a], _ => ⟨a, rfl⟩
theorem len2 {α : Type} : ∀ {l : List α}, l.length = 2 → ∃ a b, l = [a, b]
  | [a, b], _ => ⟨a, b, rfl⟩
theorem len3 {α : Type} : ∀ {l : List α}, l.length = 3 → ∃ a b c, l = [a, b, c]
  | [a, b, c], _ => ⟨a, b, c, rfl⟩
/-- The kinds whose parts all come to something first. -/
def KAll (k : Int) : Prop := k = 5 ∨ k = 8 ∨ k = 9 ∨ k = 10 ∨ k = 11 ∨ k = 12 ∨ k = 13 ∨ k = 16 ∨ k = 17 ∨ k = 18 ∨ k = 19 ∨ k = 20 ∨ k = 21 ∨ k = 22
theorem kall_of {k : Int} {l ns : Nat} {t : Bool} (h : partsC k l ns t = l) (h1 : k ≠ 1) (h2 : k ≠ 2) (h3 : k ≠ 3) (h4 : k ≠ 4) (h6 : k ≠ 6) (h7 : k ≠ 7) (h15 : k ≠ 15) (h14 : k ≠ 14) : KAll k := by
  unfold partsC at h
  unfold KAll
  repeat' split at h
  all_goals omega
theorem k_DoAny {mo tt g : Nat} {φ ψ : Nat → Nat} {m : Ms} {L : Nat} {k n : Int} {s t : Str} {ns : List Str} {l : List Co} {vs : List Vl} {b : Bool} {σ : Sg} (hR : EvCt mo tt g) (h : Okm mo tt φ ψ m L σ) (hk : KAll k) (h17 : k ≠ 17) (hp : partsC k vs.length ns.length b = vs.length) (hv : okVs m.st.length L vs) (hf0 : m.fuel < g) :
    ACalls Tryd.prog 54 [.ptr mo 0, .v (.agg [.int .i64 k, .int .i64 n, .str s, .str t, .sl none false (ns.map .str), .sl (some 6) false (l.map encC)]), .v (.sl (some 6) false (vs.map (encW φ)))] σ (Outc mo tt φ ψ m σ (doM (evM g) k s vs m)) := by
  have hv' := okVs_iff.1 hv
  rcases hk with rfl | rfl | rfl | rfl | rfl | rfl | rfl | rfl | rfl | rfl | rfl | rfl | rfl | rfl
  · obtain ⟨x, y, rfl⟩ := len2 (l := vs) (by simp [partsC] at hp; omega)
    exact k_Do5 hR h hv.1 hv.2.1 hf0
  · exact k_Do8 hR h hf0
  · obtain ⟨x, y, rfl⟩ := len2 (l := vs) (by simp [partsC] at hp; omega)
    exact k_Do9 hR h hv.1 hv.2.1 hf0
  · obtain ⟨x, y, z, rfl⟩ := len3 (l := vs) (by simp [partsC] at hp; omega)
    exact k_Do10 hR h hv.2.2.1 hf0
  · obtain ⟨x, y, rfl⟩ := len2 (l := vs) (by simp [partsC] at hp; omega)
    exact k_Do11 hR h hv.1 hv.2.1 hf0
  · obtain ⟨x, y, z, rfl⟩ := len3 (l := vs) (by simp [partsC] at hp; omega)
    exact k_Do12 hR h hv.2.2.1 hf0
  · obtain ⟨x, y, rfl⟩ := len2 (l := vs) (by simp [partsC] at hp; omega)
    exact k_Do13 hR h hf0
  · obtain ⟨x, y, rfl⟩ := len2 (l := vs) (by simp [partsC] at hp; omega)
    exact k_Do16 hR h hv.1 hv.2.1 hf0
  · exact absurd rfl h17
  · obtain ⟨x, rfl⟩ := len1 (l := vs) (by simp [partsC] at hp; omega)
    exact k_Do18 hR h hv.1 hf0
  · obtain ⟨x, y, rfl⟩ := len2 (l := vs) (by simp [partsC] at hp; omega)
    exact k_Do19 hR h hv.1 hf0
  · obtain ⟨x, rfl⟩ := len1 (l := vs) (by simp [partsC] at hp; omega)
    exact k_Do20 hR h hf0
  · obtain ⟨x, rfl⟩ := len1 (l := vs) (by simp [partsC] at hp; omega)
    exact k_Do21 hR h hf0
  · have : vs = [] := List.length_eq_zero_iff.1 (by simp [partsC] at hp; omega)
    subst this
    exact k_Do22 hR h hf0
end Go.Proofs.YtbifjffjibnjjaaDoor

namespace Go.Proofs.YtbifjffjibnjjaaDoor
open Go Go.Abs

theorem case_len {l ns : Nat} {t : Str} (h : partsC 14 l ns (decide (t ≠ [])) = l) : l = 1 + 2 * ns + (if t = [] then 0 else 1) := by
  by_cases ht : t = []
  · simp [partsC, ht] at h ⊢
    omega
  · simp [partsC, ht] at h ⊢
    omega
def sizeN : En → Nat
  | .nil => 0
  | .cons _ _ e => sizeN e + 1
theorem k_EvalS {mo tt g : Nat} (hR : EvCt mo tt g) : EvCt mo tt (g + 1) := by
  intro e env m φ ψ σ L h hc hen hf0
  obtain ⟨k, n, s, t, ns, l⟩ := e
  have hS := h.sto
  have hml := hS.mlt
  have hm := hS.mach
  have hhi := h.hi
  unfold machOb at hm
  have hnl : ns.length ≤ 4000001 := by
    have h1 := hc.1
    have h2 := nsz_len ns
    simp only [csz] at h1
    omega
  have hpc := fun σ => k_PartsC (k := k) (n := n) (s := s) (t := t) (ns := ns) (l := l) (σ := σ) hnl
  rw [encC_mk] at hpc ⊢
  by_cases hz : m.fuel = 0
  · rw [show evM (g + 1) (.mk k n s t ns l) env m = endM 8 0 m by rw [evM, if_pos hz]]
    refine acalls_fit Tryd.func31 (by kernel_rfl) c31K rfl (by simp [a31K]) fun hfit => ?_
    clear hfit
    simp -implicitDefEqProofs (maxSteps := 2000000) (disch := omega) [-getElem?_pos, a31K]

    simp -implicitDefEqProofs (maxSteps := 2000000) (disch := omega) [-getElem?_pos, List.getElem?_append_left, List.set_append_left, hm, hml, hz]
    refine (k_End (hS.add _)).mono fun r σ2 ⟨φ2, ψ2, hr, hA⟩ => ?_
    have h0 : σ2.objs[σ.objs.length + 1]? = some _ := hA.loc hS (j := 1) rfl
    have hl := (List.getElem?_eq_some_iff.1 h0).1
    obtain ⟨x0, x1, x2, x3, x4, x5, b0, hr2⟩ := resW_cells φ2 (endM (α := Vl) 8 0 m).v
    subst hr
    rw [hr2]
    simp -implicitDefEqProofs (maxSteps := 2000000) (disch := omega) [-getElem?_pos, h0, hl, List.getElem?_set_self]
    exact ⟨_, _, WeakR.refl _ _ _, φ2, ψ2, hr2.symm, (hA.back hS).put _ (by omega) h0 (by omega)⟩

  rw [show evM (g + 1) (.mk k n s t ns l) env m = stepM (evM g) (.mk k n s t ns l) env { m with fuel := m.fuel - 1 } by rw [evM, if_neg hz]]
  have hset := hS.setM (m' := { m with fuel := m.fuel - 1 }) rfl rfl
  obtain ⟨m1, hm1⟩ : ∃ m1 : Ms, m1 = { m with fuel := m.fuel - 1 } := ⟨_, rfl⟩
  obtain ⟨σ1, hσ1⟩ : ∃ σ1 : Sg, σ1 = ⟨σ.objs.set mo (machOb tt m1), σ.toks⟩ := ⟨_, rfl⟩
  have hf1 : m1.fuel + 1 = m.fuel := by rw [hm1]; dsimp only; omega
  have hmst : m1.st = m.st := by rw [hm1]
  refine acalls_fit Tryd.func31 (by kernel_rfl) c31K rfl (by simp [a31K]) fun hfit => ?_
  clear hfit
  simp -implicitDefEqProofs (maxSteps := 2000000) (disch := omega) [-getElem?_pos, a31K]

  simp -implicitDefEqProofs (maxSteps := 2000000) (disch := omega) [-getElem?_pos, List.getElem?_append_left, List.set_append_left, hm, hml, hz]
  rw [← hm1] at hset ⊢
  rw [← hσ1] at hset
  have hS1 := hset.sto
  have hO : ∀ rs r σ', Outc mo tt φ ψ m1 σ1 rs r σ' → Outc mo tt φ ψ m σ rs r σ' := fun rs r σ' ⟨φ', ψ', hr, hA⟩ => ⟨φ', ψ', hr, hset.trans hA (by rw [hmst]; exact Nat.le_refl _)⟩
  have hX : σ.objs.set mo (Ob.cells [D.v (vS m.inp), D.v (V.int .i64 ((m.fuel : Int) - 1)), D.v (V.int .i64 m.err), D.v (V.int .i64 m.fault), D.v (V.str []), D.tsl tt none (m.tr.map .str)]) = σ1.objs := by
    rw [hσ1, hm1]
    simp only [machOb]
    rw [show ((m.fuel - 1 : Nat) : Int) = (m.fuel : Int) - 1 by omega]
  have hL : σ.objs.length = σ1.objs.length := by rw [hσ1]; simp
  have hT : σ.toks = σ1.toks := by rw [hσ1]
  rw [hX, hL, hT]
  clear hX
  have hml1 : mo < σ1.objs.length := by omega
  have h1 : Okm mo tt φ ψ m1 L σ1 := ⟨hS1, ⟨by rw [hmst]; exact h.ok.st, by rw [hm1]; exact h.ok.tr⟩, h.lo, by omega⟩
  have hen1 : okE m1.st.length L env := by rw [hmst]; exact hen
  refine (hpc _).then fun r hr => ?_
  subst hr
  simp -implicitDefEqProofs (maxSteps := 2000000) (disch := omega) [-getElem?_pos]
  refine .mk (fun hp => ?_) fun hp => ?_
  rotate_left
  · rw [show stepM (evM g) (.mk k n s t ns l) env m1 = stuckM m1 by rw [stepM_mk, if_pos (by simpa using hp)]]
    simp -implicitDefEqProofs (maxSteps := 2000000) (disch := omega) [-getElem?_pos]
    refine (k_Stuck (hS1.add _)).mono fun r σ2 ⟨φ2, ψ2, hr, hA⟩ => ?_
    have h0 : σ2.objs[σ1.objs.length + 1]? = some _ := hA.loc hS1 (j := 1) rfl
    have hl := (List.getElem?_eq_some_iff.1 h0).1
    obtain ⟨x0, x1, x2, x3, x4, x5, b0, hr2⟩ := resW_cells φ2 (stuckM (α := Vl) m1).v
    subst hr
    rw [hr2]
    simp -implicitDefEqProofs (maxSteps := 2000000) (disch := omega) [-getElem?_pos, h0, hl, List.getElem?_set_self]
    exact ⟨_, _, WeakR.refl _ _ _, hO _ _ _ ⟨φ2, ψ2, hr2.symm, (hA.back hS1).put _ (by omega) h0 (by omega)⟩⟩

  rw [stepM_mk, if_neg (by simpa using hp)]
  have hp2 : partsC k l.length ns.length (decide (t ≠ [])) = l.length := by simpa using hp
  simp -implicitDefEqProofs (maxSteps := 2000000) (disch := omega) [-getElem?_pos]
  refine .mk (fun hk => ?_) fun hk1 => ?_
  · subst hk
    simp -implicitDefEqProofs (maxSteps := 2000000) (disch := omega) [-getElem?_pos]
    exact ⟨_, _, WeakR.refl _ _ _, hO _ _ _ ⟨φ, ψ, by simp [done, resW, encW, celW], (Aft.refl hS1).add _⟩⟩
  rw [if_neg hk1]
  simp -implicitDefEqProofs (maxSteps := 2000000) (disch := omega) [-getElem?_pos]
  refine .mk (fun hk => ?_) fun hk2 => ?_
  · subst hk
    simp -implicitDefEqProofs (maxSteps := 2000000) (disch := omega) [-getElem?_pos]
    exact ⟨_, _, WeakR.refl _ _ _, hO _ _ _ ⟨φ, ψ, by simp [done, resW, encW, celW], (Aft.refl hS1).add _⟩⟩
  rw [if_neg hk2]
  simp -implicitDefEqProofs (maxSteps := 2000000) (disch := omega) [-getElem?_pos]
  refine .mk (fun hk => ?_) fun hk3 => ?_
  · subst hk
    simp -implicitDefEqProofs (maxSteps := 2000000) (disch := omega) [-getElem?_pos]
    refine W_loop (α := En) env sizeN (fun e => ⟨[(0, .ptr mo 0), (4, .ptr σ1.objs.length 0), (6, .ptr (σ1.objs.length + 1) 0), (7, .v (.bool false)), (8, .v (encN φ e))], ⟨σ1.objs ++ [Ob.cells [D.v (V.int .i64 3), D.v (V.int .i64 n), D.v (V.str s), D.v (V.str t), D.v (V.sl none false (ns.map .str)), D.v (V.sl (some 6) false (l.map encC))], Ob.cells [D.v (V.int .i64 0), D.v (V.int .i64 0), D.v (V.str []), D.v V.snil, D.v V.pnil, D.v V.pnil]], σ1.toks⟩⟩) (fun e => lookE env s = lookE e s)
      (.eq (by simp)) rfl fun e he => ?_
    rw [he]
    cases e with
    | nil =>
      simp only [encN, lookE]
      simp -implicitDefEqProofs (maxSteps := 2000000) (disch := omega) [-getElem?_pos]
      refine (k_Stuck (hS1.add _)).mono fun r σ2 ⟨φ2, ψ2, hr, hA⟩ => ?_
      have h0 : σ2.objs[σ1.objs.length + 1]? = some _ := hA.loc hS1 (j := 1) rfl
      have hl := (List.getElem?_eq_some_iff.1 h0).1
      obtain ⟨x0, x1, x2, x3, x4, x5, b0, hr2⟩ := resW_cells φ2 (stuckM (α := Vl) m1).v
      subst hr
      rw [hr2]
      simp -implicitDefEqProofs (maxSteps := 2000000) (disch := omega) [-getElem?_pos, h0, hl, List.getElem?_set_self]
      exact ⟨_, _, WeakR.refl _ _ _, hO _ _ _ ⟨φ2, ψ2, hr2.symm, (hA.back hS1).put _ (by omega) h0 (by omega)⟩⟩

    | cons x v e =>
      obtain ⟨v0, v1, v2, v3, v4, v5, hcv⟩ := list6 (celW_len (φ := φ) v)
      have hnc := encN_cells (φ := φ) e
      have hno := encN_one (φ := φ) e
      simp only [V.cells] at hnc
      simp only [V.one] at hno
      simp only [encN, lookE, hcv, List.cons_append, List.nil_append]
      simp -implicitDefEqProofs (maxSteps := 2000000) (disch := omega) [-getElem?_pos]
      refine .mk (fun hx => ?_) fun hx => ?_
      · subst hx
        simp -implicitDefEqProofs (maxSteps := 2000000) (disch := omega) [-getElem?_pos]
        exact ⟨_, _, WeakR.refl _ _ _, hO _ _ _ ⟨φ, ψ, by simp [done, resW, encW, hcv], (Aft.refl hS1).add _⟩⟩
      · simp -implicitDefEqProofs (maxSteps := 2000000) (disch := omega) [-getElem?_pos]
        exact ⟨e, by simp [hx], by simp [sizeN], .eq (by simp)⟩
  rw [if_neg hk3]
  simp -implicitDefEqProofs (maxSteps := 2000000) (disch := omega) [-getElem?_pos]
  refine .mk (fun hk => ?_) fun hk4 => ?_
  · subst hk
    obtain ⟨p, rfl⟩ := len1 (l := l) (by simp [partsC] at hp2; omega)
    obtain ⟨pk, pn, ps, pt, pns, pl⟩ := p
    have hnc := encN_cells (φ := φ) env
    have hno := encN_one (φ := φ) env
    simp only [V.cells] at hnc
    simp only [V.one] at hno
    simp only [List.map_cons, List.map_nil, encC_mk]
    simp -implicitDefEqProofs (maxSteps := 2000000) (disch := omega) [-getElem?_pos, hnc, hno]
    exact ⟨_, _, WeakR.refl _ _ _, hO _ _ _ ⟨φ, ψ, by simp [done, resW, encW, celW, coV, prt], (Aft.refl hS1).add _⟩⟩
  rw [if_neg hk4]
  simp -implicitDefEqProofs (maxSteps := 2000000) (disch := omega) [-getElem?_pos]
  refine .mk (fun hk => ?_) fun hk6 => ?_
  · subst hk
    obtain ⟨a, b, rfl⟩ := len2 (l := l) (by simp [partsC] at hp2; omega)
    have hca : okC L a := hc.prt 0
    have hcb : okC L b := hc.prt 1
    obtain ⟨a0, a1, a2, a3, a4, a5, hxa⟩ := list6 (show (coV a).length = 6 by cases a; rfl)
    obtain ⟨b0, b1, b2, b3, b4, b5, hxb⟩ := list6 (show (coV b).length = 6 by cases b; rfl)
    have hea : encC a = .agg [a0, a1, a2, a3, a4, a5] := by rw [encC_coV, hxa]
    have heb : encC b = .agg [b0, b1, b2, b3, b4, b5] := by rw [encC_coV, hxb]
    have hev := fun xs : List Ob => hR a env m1 φ ψ ⟨σ1.objs ++ xs, σ1.toks⟩ L ⟨hS1.add _, h1.ok, h1.lo, h1.hi⟩ hca hen1 (by omega)
    rw [hea] at hev
    simp only [List.map_cons, List.map_nil]
    rw [hea, heb]
    simp -implicitDefEqProofs (maxSteps := 2000000) (disch := omega) [-getElem?_pos]
    refine (hev _).mono fun r σ2 ⟨φ2, ψ2, hr, hA⟩ => ?_
    have hA2 := hA.back hS1
    obtain ⟨hf2, hs2, hv2, he2, hO2⟩ := h1.after hca hen1 hA2
    generalize hrs : evM g a env m1 = rs at hr hA hA2 hf2 hs2 hv2 he2 hO2
    obtain ⟨v, m2⟩ := rs
    dsimp only at hr hA hA2 hf2 hs2 hv2 he2 hO2
    have f0 : σ2.objs[σ1.objs.length]? = some _ := hA.loc hS1 (j := 0) rfl
    have f1 : σ2.objs[σ1.objs.length + 1]? = some _ := hA.loc hS1 (j := 1) rfl
    have hl0 := (List.getElem?_eq_some_iff.1 f0).1
    have hl1 := (List.getElem?_eq_some_iff.1 f1).1
    have hpr0 : prt [a, b] 0 = a := rfl
    have hpr1 : prt [a, b] 1 = b := rfl
    rw [hpr0, hrs, hpr1]
    cases v with
    | none =>
      subst hr
      unfold resW zW
      simp only [Rs.bind]
      simp -implicitDefEqProofs (maxSteps := 2000000) (disch := omega) [-getElem?_pos, f0, f1, hl1, List.getElem?_append_left, List.set_append_left]
      exact ⟨_, _, WeakR.refl _ _ _, hO _ _ _ ⟨φ2, ψ2, rfl, (hA2.put _ (by omega) f1 (by omega)).add _⟩⟩
    | some v =>
      subst hr
      obtain ⟨v0, v1, v2, v3, v4, v5, hcv⟩ := list6 (celW_len (φ := φ2) v)
      have hvv : encW φ2 v = .agg [v0, v1, v2, v3, v4, v5] := by unfold encW; rw [hcv]
      rw [show resW φ2 (some v) = .tup [.v (encW φ2 v), .v (.bool true)] from rfl, hvv]
      have hnc := encN_cells (φ := φ) env
      have hno := encN_one (φ := φ) env
      simp only [V.cells] at hnc
      simp only [V.one] at hno
      have henc : encN φ2 (.cons s v env) = .box (some 8) (.agg [.str s, v0, v1, v2, v3, v4, v5, encN φ env]) 0 := by
        simp only [encN, hcv, List.cons_append, List.nil_append]
        rw [encN_ext (φ := φ) (φ' := φ2) (fun k hk => hA2.fe k hk) hen1]
      have hev2 := fun xs : List Ob => hR b (.cons s v env) m2 φ2 ψ2 ⟨σ2.objs ++ xs, σ2.toks⟩ _ ⟨hO2.sto.add xs, hO2.ok, hO2.lo, hO2.hi⟩ (hcb.mono (by omega)) ⟨hv2 _ rfl, he2⟩ (by omega)
      rw [heb, henc] at hev2
      simp only [Rs.bind]
      simp -implicitDefEqProofs (maxSteps := 2000000) (disch := omega) [-getElem?_pos, f0, f1, hl0, hl1, List.getElem?_append_left, hnc, hno]
      refine ⟨one6 (hcv ▸ celW_one (φ := φ2) v), ?_⟩
      refine (hev2 _).mono fun r σ3 ⟨φ3, ψ3, hr3, hA3⟩ => ?_
      have hA3b := hA3.back hO2.sto
      have h13 := hA3b.kept hO2.sto f1 (by omega)
      have hl13 := (List.getElem?_eq_some_iff.1 h13).1
      obtain ⟨x0, x1, x2, x3, x4, x5, w0, hr2⟩ := resW_cells φ3 (evM g b (.cons s v env) m2).v
      subst hr3
      rw [hr2]
      simp -implicitDefEqProofs (maxSteps := 2000000) (disch := omega) [-getElem?_pos, h13, hl13, List.getElem?_set_self]
      exact ⟨_, _, WeakR.refl _ _ _, hO _ _ _ ⟨φ3, ψ3, hr2.symm, (hA2.trans hA3b hs2).put _ (by omega) h13 (by omega)⟩⟩

  rw [if_neg hk6]
  simp -implicitDefEqProofs (maxSteps := 2000000) (disch := omega) [-getElem?_pos]
  refine .mk (fun hk => ?_) fun hk7 => ?_
  · subst hk
    obtain ⟨p, b, rfl⟩ := len2 (l := l) (by simp [partsC] at hp2; omega)
    have hcp : okC L p := hc.prt 0
    have hcb : okC L b := hc.prt 1
    obtain ⟨b0, b1, b2, b3, b4, b5, hxb⟩ := list6 (show (coV b).length = 6 by cases b; rfl)
    have heb : encC b = .agg [b0, b1, b2, b3, b4, b5] := by rw [encC_coV, hxb]
    obtain ⟨pk, pn, ps, pt, pns, pl⟩ := p
    have hnc := encN_cells (φ := φ) env
    have hno := encN_one (φ := φ) env
    simp only [V.cells] at hnc
    simp only [V.one] at hno
    have hev2 := fun xs : List Ob => hR b (.cons s (.fn true s t (.mk pk pn ps pt pns pl) env) env) m1 φ ψ ⟨σ1.objs ++ xs, σ1.toks⟩ L ⟨hS1.add xs, h1.ok, h1.lo, h1.hi⟩ hcb ⟨⟨hcp, hen1⟩, hen1⟩ (by omega)
    rw [heb] at hev2
    simp only [encN, celW, coV, List.cons_append, List.nil_append] at hev2
    have hpr0 : prt [Co.mk pk pn ps pt pns pl, b] 0 = Co.mk pk pn ps pt pns pl := rfl
    have hpr1 : prt [Co.mk pk pn ps pt pns pl, b] 1 = b := rfl
    rw [hpr0, hpr1]
    simp only [List.map_cons, List.map_nil]
    rw [heb, encC_mk]
    simp -implicitDefEqProofs (maxSteps := 2000000) (disch := omega) [-getElem?_pos, hnc, hno]
    refine (hev2 _).mono fun r σ2 ⟨φ2, ψ2, hr, hA⟩ => ?_
    have h0 : σ2.objs[σ1.objs.length + 1]? = some _ := hA.loc hS1 (j := 1) rfl
    have hl := (List.getElem?_eq_some_iff.1 h0).1
    obtain ⟨x0, x1, x2, x3, x4, x5, b0, hr2⟩ := resW_cells φ2 (evM g b (.cons s (.fn true s t (.mk pk pn ps pt pns pl) env) env) m1).v
    subst hr
    rw [hr2]
    simp -implicitDefEqProofs (maxSteps := 2000000) (disch := omega) [-getElem?_pos, h0, hl, List.getElem?_set_self]
    exact ⟨_, _, WeakR.refl _ _ _, hO _ _ _ ⟨φ2, ψ2, hr2.symm, (hA.back hS1).put _ (by omega) h0 (by omega)⟩⟩

  rw [if_neg hk7]
  simp -implicitDefEqProofs (maxSteps := 2000000) (disch := omega) [-getElem?_pos]
  refine .mk (fun hk => ?_) fun hk15 => ?_
  · subst hk
    obtain ⟨a, b, c, rfl⟩ := len3 (l := l) (by simp [partsC] at hp2; omega)
    have hch := fun xs : List Ob => k_Choose (n := n) (s := s) (t := t) (ns := ns) hR ⟨hS1.add xs, h1.ok, h1.lo, h1.hi⟩ (hc.prt 0) (hc.prt 1) (hc.prt 2) hen1 (by omega)
    simp -implicitDefEqProofs (maxSteps := 2000000) (disch := omega) [-getElem?_pos]
    refine (hch _).mono fun r σ2 ⟨φ2, ψ2, hr, hA⟩ => ?_
    have h0 : σ2.objs[σ1.objs.length + 1]? = some _ := hA.loc hS1 (j := 1) rfl
    have hl := (List.getElem?_eq_some_iff.1 h0).1
    obtain ⟨x0, x1, x2, x3, x4, x5, b0, hr2⟩ := resW_cells φ2 (chooseM (evM g) env (prt [a, b, c] 0) (prt [a, b, c] 1) (prt [a, b, c] 2) m1).v
    subst hr
    rw [hr2]
    simp -implicitDefEqProofs (maxSteps := 2000000) (disch := omega) [-getElem?_pos, h0, hl, List.getElem?_set_self]
    exact ⟨_, _, WeakR.refl _ _ _, hO _ _ _ ⟨φ2, ψ2, hr2.symm, (hA.back hS1).put _ (by omega) h0 (by omega)⟩⟩

  rw [if_neg hk15]
  simp -implicitDefEqProofs (maxSteps := 2000000) (disch := omega) [-getElem?_pos]
  refine .mk (fun hk => ?_) fun hk14 => ?_
  · subst hk
    have hca := fun xs : List Ob => k_Cases hR ⟨hS1.add xs, h1.ok, h1.lo, h1.hi⟩ hc (case_len hp2) hen1 (by omega)
    simp -implicitDefEqProofs (maxSteps := 2000000) (disch := omega) [-getElem?_pos]
    refine (hca _).mono fun r σ2 ⟨φ2, ψ2, hr, hA⟩ => ?_
    have h0 : σ2.objs[σ1.objs.length + 1]? = some _ := hA.loc hS1 (j := 1) rfl
    have hl := (List.getElem?_eq_some_iff.1 h0).1
    obtain ⟨x0, x1, x2, x3, x4, x5, b0, hr2⟩ := resW_cells φ2 (casesM (evM g) env t ns l m1).v
    subst hr
    rw [hr2]
    simp -implicitDefEqProofs (maxSteps := 2000000) (disch := omega) [-getElem?_pos, h0, hl, List.getElem?_set_self]
    exact ⟨_, _, WeakR.refl _ _ _, hO _ _ _ ⟨φ2, ψ2, hr2.symm, (hA.back hS1).put _ (by omega) h0 (by omega)⟩⟩

  rw [if_neg hk14]
  simp -implicitDefEqProofs (maxSteps := 2000000) (disch := omega) [-getElem?_pos]
  have hka := kall_of hp2 hk1 hk2 hk3 hk4 hk6 hk7 hk15 hk14
  have hoa := ok_all (ok_ev 2000 (Nat.le_refl _) g m1.fuel) env l m1 L h.lo (fun x hx => hc.mem hx) hen1 h1.ok (Nat.le_refl _)
  by_cases h17 : k = 17
  · subst h17
    obtain ⟨a, rfl⟩ := len1 (l := l) (by simp [partsC] at hp2; omega)
    have hca : okC L a := hc.prt 0
    simp only [List.map_cons, List.map_nil]
    refine (k_AllM hR ⟨hS1.add _, h1.ok, h1.lo, h1.hi⟩ hca hen1 (by omega)).mono fun r σ2 hm => ?_
    rcases hm with ⟨hnv, hr, φ2, ψ2, hA⟩ | ⟨d, hr, φ2, ψ2, v, o, c, rest, hv, hd, hob, hoo, hA⟩
    · have hA2 := hA.back hS1
      have f1 : σ2.objs[σ1.objs.length + 1]? = some _ := hA.loc hS1 (j := 1) rfl
      have hl1 := (List.getElem?_eq_some_iff.1 f1).1
      generalize hrs : evM g a env m1 = rs at hnv hA hA2
      obtain ⟨v, m2⟩ := rs
      dsimp only at hnv hA2
      subst hnv
      subst hr
      rw [show allM (evM g) env [a] m1 = ⟨none, m2⟩ by simp [allM, hrs, Rs.bind]]
      simp only [Rs.bind]
      simp -implicitDefEqProofs (maxSteps := 2000000) (disch := omega) [-getElem?_pos, f1, hl1, List.getElem?_set_self]
      exact ⟨_, _, WeakR.refl _ _ _, hO _ _ _ ⟨φ2, ψ2, rfl, hA2.put _ (by omega) f1 (by omega)⟩⟩
    · have hA2 := hA.back hS1
      obtain ⟨hf2, hs2, hv2, he2, hO2⟩ := h1.after hca hen1 hA2
      have f0 : σ2.objs[σ1.objs.length]? = some _ := hA.loc hS1 (j := 0) rfl
      have f1 : σ2.objs[σ1.objs.length + 1]? = some _ := hA.loc hS1 (j := 1) rfl
      have hl0 := (List.getElem?_eq_some_iff.1 f0).1
      have hl1 := (List.getElem?_eq_some_iff.1 f1).1
      generalize hrs : evM g a env m1 = rs at hv hA hA2 hf2 hs2 hv2 he2 hO2
      obtain ⟨v', m2⟩ := rs
      dsimp only at hv hA hA2 hf2 hs2 hv2 he2 hO2
      subst hv
      subst hr
      subst hd
      rw [show allM (evM g) env [a] m1 = done [v] m2 by simp [allM, hrs, Rs.bind, done]]
      have hdo := k_Do17 (g := g) (n := n) (s := s) (t := t) (ns := ns) (l := [a]) (c := c) hA hs2 hO2.ok (hv2 _ rfl) (by simp only [List.length_append]; omega) hob hoo
      simp only [Rs.bind, done]
      simp only [List.map_cons, List.map_nil] at hdo
      simp -implicitDefEqProofs (maxSteps := 2000000) (disch := omega) [-getElem?_pos, f0, f1, hl0, hl1]
      refine (hdo).mono fun r σ3 ⟨φ3, ψ3, hr, hA3⟩ => ?_
      have h0 : σ3.objs[σ1.objs.length + 1]? = some _ := hA3.loc hS1 (j := 1) rfl
      have hl := (List.getElem?_eq_some_iff.1 h0).1
      obtain ⟨x0, x1, x2, x3, x4, x5, b0, hr2⟩ := resW_cells φ3 (doM (evM g) 17 s [v] m2).v
      subst hr
      rw [hr2]
      simp -implicitDefEqProofs (maxSteps := 2000000) (disch := omega) [-getElem?_pos, h0, hl, List.getElem?_set_self]
      exact ⟨_, _, WeakR.refl _ _ _, hO _ _ _ ⟨φ3, ψ3, hr2.symm, (hA3.back hS1).put _ (by omega) h0 (by omega)⟩⟩

  refine (k_All hR ⟨hS1.add _, h1.ok, h1.lo, h1.hi⟩ (fun x hx => hc.mem hx) hc.num.2.2 hen1 (by omega)).mono fun r σ2 ⟨φ2, ψ2, hr, hA⟩ => ?_
  have hA2 := hA.back hS1
  generalize hrs : allM (evM g) env l m1 = rs at hr hA hA2 hoa
  obtain ⟨v, m2⟩ := rs
  have hf2 := hoa.fuel
  have hs2 := hoa.st
  have hok2 := hoa.ok
  have hv2 := hoa.v
  dsimp only at hr hA hA2 hf2 hs2 hok2 hv2
  have hO2 : Okm mo tt φ2 ψ2 m2 (L + 0 + (m1.fuel - m2.fuel)) σ2 := ⟨hA2.sto, hok2, by have := h.lo; omega, by omega⟩
  have f0 : σ2.objs[σ1.objs.length]? = some _ := hA.loc hS1 (j := 0) rfl
  have f1 : σ2.objs[σ1.objs.length + 1]? = some _ := hA.loc hS1 (j := 1) rfl
  have hl0 := (List.getElem?_eq_some_iff.1 f0).1
  have hl1 := (List.getElem?_eq_some_iff.1 f1).1
  cases v with
  | none =>
    subst hr
    unfold resA
    simp only [Rs.bind]
    simp -implicitDefEqProofs (maxSteps := 2000000) (disch := omega) [-getElem?_pos, f0, f1, hl1, List.getElem?_set_self]
    exact ⟨_, _, WeakR.refl _ _ _, hO _ _ _ ⟨φ2, ψ2, rfl, hA2.put _ (by omega) f1 (by omega)⟩⟩
  | some vs =>
    subst hr
    obtain ⟨hvs, hvl⟩ := hv2 vs rfl
    unfold resA
    simp only [Rs.bind]
    have hdo := k_DoAny (n := n) (s := s) (t := t) (ns := ns) (l := l) hR hO2 hka h17 (by rw [hvl]; exact hp2) hvs (by omega)
    simp -implicitDefEqProofs (maxSteps := 2000000) (disch := omega) [-getElem?_pos, f0, f1, hl0, hl1]
    refine (hdo).mono fun r σ3 ⟨φ3, ψ3, hr3, hA3⟩ => ?_
    have hA3b := hA3
    have h13 := hA3b.kept hO2.sto f1 (by omega)
    have hl13 := (List.getElem?_eq_some_iff.1 h13).1
    obtain ⟨x0, x1, x2, x3, x4, x5, w0, hr2⟩ := resW_cells φ3 (doM (evM g) k s vs m2).v
    subst hr3
    rw [hr2]
    simp -implicitDefEqProofs (maxSteps := 2000000) (disch := omega) [-getElem?_pos, h13, hl13, List.getElem?_set_self]
    exact ⟨_, _, WeakR.refl _ _ _, hO _ _ _ ⟨φ3, ψ3, hr2.symm, (hA2.trans hA3b hs2).put _ (by omega) h13 (by omega)⟩⟩

theorem k_Eval {mo tt : Nat} : ∀ g, EvCt mo tt g
  | 0 => fun e env m φ ψ σ L h hc hen hf => absurd hf (Nat.not_lt_zero _)
  | g + 1 => k_EvalS (k_Eval g)
end Go.Proofs.YtbifjffjibnjjaaDoor

/-
  Core expressions, walked: a run. (Own work.)
-/
set_option linter.unusedVariables false
set_option linter.unusedSimpArgs false
set_option maxHeartbeats 1000000
namespace Go.Proofs.YtbifjffjibnjjaaDoor
open Go Go.Abs

/-- An object's empty slice may be appended to, from a call on. -/
theorem ACalls.tokObj {P : Program} {f : Nat} {ds : List D} {σ : Sg} {R : D → Sg → Prop} {o k : Nat} {cs : List D} (sh : Sh) (ho : σ.objs[o]? = some (.cells cs)) (hk : cs[k]? = some (.v .snil))
    (h : ACalls P f ds ⟨σ.objs.set o (.cells (cs.set k (.tsl σ.toks.length sh []))), σ.toks ++ [0]⟩ R) : ACalls P f ds σ R := by
  have hkl := (List.getElem?_eq_some_iff.1 hk).1
  refine ⟨h.1, fun m w us hI hl hr => ?_⟩
  obtain ⟨hI', hX'⟩ := hI.tadd sh 0 (Nat.zero_le _)
  have hI2 := hI'.obLe (o := o) (cs := cs) (cs' := cs.set k (.tsl σ.toks.length sh [])) ho (by rintro rfl; simp at hk) (by simp) (by
    intro i d d' hd hd' u hu
    rw [List.getElem?_set] at hd'
    split at hd'
    · rename_i e
      subst e
      cases hd'
      rw [hk] at hd
      cases hd
      cases hu with
      | v _ _ hv =>
        cases hv
        have h0 : RepV w (Fz m w) (.sl sh true []) (.slice none 0 0) := .slNil sh true none
        have := h0.tokd (m := m) hX'
        rw [show σ.toks.length = m.toks.length from hI.tok_len.symm]
        exact this
    · rw [hd] at hd'
      cases hd'
      exact hu)
  refine (h.2 _ w us hI2 hl fun i d u hd hu => (hr i d u hd hu).mono hX').mono fun e w' ⟨v, r, σ', m', he, hR, hI3, hX3, hrep⟩ => ⟨v, r, σ', m', he, hR, hI3, hX'.trans hX3, hrep⟩

/-- A struct of which some fields lie behind tokens. -/
theorem D.Le.aggW {ds : List D} {vs : List V} (hl : ds.length = vs.length) (h : ∀ (i : Nat) d v, ds[i]? = some d → vs[i]? = some v → D.Le d (.v v)) : D.Le (.agg ds) (.v (.agg vs)) := fun m w u hu => by
  cases hu with
  | agg _ us hl2 h1 hr =>
    have ha : ∀ xs : List V, allV (xs.map .v) = some xs := by
      intro xs
      induction xs with
      | nil => rfl
      | cons y ys ih => simp [allV, ih]
    have hm : mkAgg (vs.map .v) = .v (.agg vs) := by unfold mkAgg; rw [ha]
    rw [← hm]
    refine mkAgg_rep (by simp; omega) h1 fun i d u hd hu => ?_
    rw [List.getElem?_map] at hd
    cases hv : vs[i]? with
    | none => rw [hv] at hd; cases hd
    | some v =>
      rw [hv] at hd
      cases hd
      obtain ⟨d, hd⟩ : ∃ d, ds[i]? = some d := ⟨_, List.getElem?_eq_getElem (by rw [hl]; exact (List.getElem?_eq_some_iff.1 hv).1)⟩
      exact h i d v hd hv m w u (hr i d u hd hu)
theorem pre_of {α : Type} {l l' : List α} (h : ∀ i, i < l.length → l'[i]? = l[i]?) : l' = l ++ l'.drop l.length := by
  have ht : l'.take l.length = l := by
    refine List.ext_getElem? fun i => ?_
    rw [List.getElem?_take]
    split
    · rename_i hi
      exact h i hi
    · rename_i hi
      exact (List.getElem?_eq_none (by omega)).symm
  conv => lhs; rw [← List.take_append_drop l.length l', ht]
def ms0 (inp : List Str) (fuel : Nat) : Ms := ⟨inp, fuel, 0, 0, [], []⟩
def outV (m : Ms) : V := .agg [.int .i64 m.err, .int .i64 m.fault, .str [], .sl none false (m.tr.map .str)]
def valV (φ : Nat → Nat) : Option Vl → V
  | some v => encW φ v
  | none => zW
def runD (φ : Nat → Nat) (rs : Rs Vl) : D := .tup [.v (valV φ rs.v), .v (outV rs.m)]
def runM (e : Co) (inp : List Str) (fuel : Nat) : Rs Vl := evM (fuel + 1) e .nil (ms0 inp fuel)
theorem k_Run {e : Co} {inp : List Str} {fuel : Nat} {σ : Sg} (hc : okC 1048576 e) (hf0 : fuel ≤ 40000) :
    ACalls Tryd.prog 10 [.v (encC e), .v (vS inp), .v (.int .i64 fuel)] σ fun r σ' => (∃ φ, r = runD φ (runM e inp fuel)) ∧ σ' = σ := by
  obtain ⟨c0, c1, c2, c3, c4, c5, hco⟩ := list6 (show (coV e).length = 6 by cases e; rfl)
  have hec : encC e = .agg [c0, c1, c2, c3, c4, c5] := by rw [encC_coV, hco]
  have hev := k_Eval (mo := σ.objs.length + 3) (tt := σ.toks.length) (fuel + 1) e .nil (ms0 inp fuel) id id
  rw [hec, show encN id .nil = .pnil by simp [encN]] at hev
  rw [hec]
  refine acalls_fit Tryd.func10 (by kernel_rfl) c10 rfl (by simp [a10]) fun hf => ?_
  clear hf
  simp -implicitDefEqProofs (maxSteps := 2000000) (disch := omega) [-getElem?_pos, a10]
  refine ACalls.tokObj (o := σ.objs.length + 3) (k := 5) (cs := [D.v (vS inp), D.v (V.int .i64 fuel), D.v (V.int .i64 0), D.v (V.int .i64 0), D.v (V.str []), D.v V.snil]) none (by simp) rfl ?_
  have hset : (σ.objs ++ [Ob.cells [D.v c0, D.v c1, D.v c2, D.v c3, D.v c4, D.v c5], Ob.cells [D.v (V.int .i64 0), D.v (V.int .i64 0), D.v (V.str []), D.v V.snil, D.v V.pnil, D.v V.pnil], Ob.cells [D.v (V.int .i64 0), D.v (V.int .i64 0), D.v (V.str []), D.v V.snil], Ob.cells [D.v (vS inp), D.v (V.int .i64 fuel), D.v (V.int .i64 0), D.v (V.int .i64 0), D.v (V.str []), D.v V.snil]]).set (σ.objs.length + 3) (.cells ([D.v (vS inp), D.v (V.int .i64 fuel), D.v (V.int .i64 0), D.v (V.int .i64 0), D.v (V.str []), D.v V.snil].set 5 (.tsl σ.toks.length none []))) = σ.objs ++ [Ob.cells [D.v c0, D.v c1, D.v c2, D.v c3, D.v c4, D.v c5], Ob.cells [D.v (V.int .i64 0), D.v (V.int .i64 0), D.v (V.str []), D.v V.snil, D.v V.pnil, D.v V.pnil], Ob.cells [D.v (V.int .i64 0), D.v (V.int .i64 0), D.v (V.str []), D.v V.snil], Ob.cells [D.v (vS inp), D.v (V.int .i64 fuel), D.v (V.int .i64 0), D.v (V.int .i64 0), D.v (V.str []), .tsl σ.toks.length none []]] := by simp
  dsimp only
  rw [hset]
  have hSto : Sto (σ.objs.length + 3) σ.toks.length id id (ms0 inp fuel) ⟨σ.objs ++ [Ob.cells [D.v c0, D.v c1, D.v c2, D.v c3, D.v c4, D.v c5], Ob.cells [D.v (V.int .i64 0), D.v (V.int .i64 0), D.v (V.str []), D.v V.snil, D.v V.pnil, D.v V.pnil], Ob.cells [D.v (V.int .i64 0), D.v (V.int .i64 0), D.v (V.str []), D.v V.snil], Ob.cells [D.v (vS inp), D.v (V.int .i64 fuel), D.v (V.int .i64 0), D.v (V.int .i64 0), D.v (V.str []), .tsl σ.toks.length none []]], σ.toks ++ [0]⟩ := ⟨by simp [machOb, ms0], by simp [ms0], by simp [ms0], by simp [ms0]⟩
  refine (hev ⟨σ.objs ++ [Ob.cells [D.v c0, D.v c1, D.v c2, D.v c3, D.v c4, D.v c5], Ob.cells [D.v (V.int .i64 0), D.v (V.int .i64 0), D.v (V.str []), D.v V.snil, D.v V.pnil, D.v V.pnil], Ob.cells [D.v (V.int .i64 0), D.v (V.int .i64 0), D.v (V.str []), D.v V.snil], Ob.cells [D.v (vS inp), D.v (V.int .i64 fuel), D.v (V.int .i64 0), D.v (V.int .i64 0), D.v (V.str []), .tsl σ.toks.length none []]], σ.toks ++ [0]⟩ 1048576 ⟨hSto, ⟨by simp [ms0], by simp [ms0]⟩, by omega, by simp only [ms0]; omega⟩ hc trivial (by simp [ms0])).mono fun r σ2 ⟨φ2, ψ2, hr, hA⟩ => ?_
  have hk : ∀ (j : Nat) ob, j < 3 → [Ob.cells [D.v c0, D.v c1, D.v c2, D.v c3, D.v c4, D.v c5], Ob.cells [D.v (V.int .i64 0), D.v (V.int .i64 0), D.v (V.str []), D.v V.snil, D.v V.pnil, D.v V.pnil], Ob.cells [D.v (V.int .i64 0), D.v (V.int .i64 0), D.v (V.str []), D.v V.snil], Ob.cells [D.v (vS inp), D.v (V.int .i64 fuel), D.v (V.int .i64 0), D.v (V.int .i64 0), D.v (V.str []), .tsl σ.toks.length none []]][j]? = some ob → σ2.objs[σ.objs.length + j]? = some ob := fun j ob hj ho => by
    rw [hA.keep _ (by simp; omega) (by omega) (by simp [ms0]), List.getElem?_append_right (by omega), Nat.add_sub_cancel_left, ho]
  have h0 := hk 0 _ (by omega) rfl
  have h1 := hk 1 _ (by omega) rfl
  have h2 := hk 2 _ (by omega) rfl
  have h3 := hA.sto.mach
  have hold : ∀ i, i < σ.objs.length → σ2.objs[i]? = σ.objs[i]? := fun i hi => by
    rw [hA.keep i (by simp; omega) (by omega) (by simp [ms0]), List.getElem?_append_left hi]
  have holt : ∀ i, i < σ.toks.length → σ2.toks[i]? = σ.toks[i]? := fun i hi => by
    rw [hA.ktok i (by simp; omega) (by omega), List.getElem?_append_left hi]
  have hl3 := (List.getElem?_eq_some_iff.1 h3).1
  unfold machOb at h3
  show KO _ _ _ _ _ _ _
  unfold runM
  generalize evM (fuel + 1) e .nil (ms0 inp fuel) = rs at hr hA h3 ⊢
  obtain ⟨v, m2⟩ := rs
  dsimp only at hr hA h3
  have hle : D.Le (.agg [.v (.int .i64 m2.err), .v (.int .i64 m2.fault), .v (.str []), .tsl σ.toks.length none (m2.tr.map .str)]) (.v (outV m2)) := by
    refine D.Le.aggW rfl fun i d v hd hv => ?_
    match i with
    | 0 => cases hd; cases hv; exact .refl _
    | 1 => cases hd; cases hv; exact .refl _
    | 2 => cases hd; cases hv; exact .refl _
    | 3 => cases hd; cases hv; exact .tsl
    | n + 4 => simp at hd
  have gs : ∀ X (r : List Ob) i, i ≠ σ.objs.length + 1 → i < σ2.objs.length → (σ2.objs.set (σ.objs.length + 1) X ++ r)[i]? = σ2.objs[i]? := fun X r i h4 h5 => by
    rw [List.getElem?_append_left (by simpa using h5), List.getElem?_set_ne (Ne.symm h4)]
  have ss : ∀ X Y (r : List Ob), (σ2.objs.set (σ.objs.length + 1) X ++ r).set (σ.objs.length + 2) Y = (σ2.objs.set (σ.objs.length + 1) X).set (σ.objs.length + 2) Y ++ r := fun X Y r => List.set_append_left _ _ (by simp; omega)
  have ga : ∀ X Y (r : List Ob), ((σ2.objs.set (σ.objs.length + 1) X).set (σ.objs.length + 2) Y ++ r)[σ.objs.length + 1]? = some X := fun X Y r => by
    rw [List.getElem?_append_left (by simp; omega), List.getElem?_set_ne (by omega), List.getElem?_set_self (by omega)]
  have gb : ∀ X Y (r : List Ob), ((σ2.objs.set (σ.objs.length + 1) X).set (σ.objs.length + 2) Y ++ r)[σ.objs.length + 2]? = some Y := fun X Y r => by
    rw [List.getElem?_append_left (by simp; omega), List.getElem?_set_self (by simp; omega)]
  cases v with
  | none =>
    replace hr : r = .tup [.v zW, .v (.bool false)] := hr
    subst hr
    unfold zW
    simp -implicitDefEqProofs (maxSteps := 2000000) (disch := omega) [-getElem?_pos, h0, h1, h2, h3, hl3, List.getElem?_append_left, List.set_append_left]
    refine ⟨.inr (.inl ((gs _ _ _ (by omega) (by omega)).trans h3)), ?_⟩
    simp -implicitDefEqProofs (maxSteps := 2000000) (disch := omega) [-getElem?_pos, gs, ss, ga, gb, h2]
    refine .fin (runD φ2 ⟨none, m2⟩) ⟨⟨φ2, rfl⟩, rfl⟩ (.tup2 (.refl _) hle) (by simp [runD]) (pre_of fun i hi => ?_) (pre_of holt)
    dsimp only
    rw [List.getElem?_append_left (by simp; omega), List.getElem?_set_ne (by omega), List.getElem?_set_ne (by omega)]
    exact hold i hi
  | some v =>
    obtain ⟨d0, d1, d2, d3, d4, d5, hcv⟩ := list6 (celW_len (φ := φ2) v)
    have hvv : encW φ2 v = .agg [d0, d1, d2, d3, d4, d5] := by unfold encW; rw [hcv]
    replace hr : r = .tup [.v (encW φ2 v), .v (.bool true)] := hr
    subst hr
    rw [hvv]
    simp -implicitDefEqProofs (maxSteps := 2000000) (disch := omega) [-getElem?_pos, h0, h1, h2, h3, hl3, List.getElem?_append_left, List.set_append_left]
    refine ⟨.inr (.inl ((gs _ _ _ (by omega) (by omega)).trans h3)), ?_⟩
    simp -implicitDefEqProofs (maxSteps := 2000000) (disch := omega) [-getElem?_pos, gs, ss, ga, gb, h2]
    refine .fin (runD φ2 ⟨some v, m2⟩) ⟨⟨φ2, rfl⟩, rfl⟩ (.tup2 (by rw [show valV φ2 (some v) = .agg [d0, d1, d2, d3, d4, d5] from hvv]; exact .refl _) hle) (by simp [runD]) (pre_of fun i hi => ?_) (pre_of holt)
    dsimp only
    rw [List.getElem?_append_left (by simp; omega), List.getElem?_set_ne (by omega), List.getElem?_set_ne (by omega)]
    exact hold i hi
end Go.Proofs.YtbifjffjibnjjaaDoor

/-
  Layer 14: with more fuel, walked. (Own work.)
-/
set_option linter.unusedVariables false
set_option linter.unusedSimpArgs false
set_option maxHeartbeats 1000000
namespace Go.Proofs.YtbifjffjibnjjaaDoor
open Go Go.Abs

def obC : Co → Ob
  | .mk k n s t ns l => .cells [.v (.int .i64 k), .v (.int .i64 n), .v (.str s), .v (.str t), .v (.sl none false (ns.map .str)), .v (.sl (some 6) false (l.map encC))]
theorem obC_mk {k n : Int} {s t : Str} {ns : List Str} {l : List Co} : obC (.mk k n s t ns l) = .cells [.v (.int .i64 k), .v (.int .i64 n), .v (.str s), .v (.str t), .v (.sl none false (ns.map .str)), .v (.sl (some 6) false (l.map encC))] := rfl
mutual
def nds : Co → Nat
  | .mk _ _ _ _ _ l => 1 + ndsL l
def ndsL : List Co → Nat
  | [] => 0
  | x :: l => nds x + ndsL l
end
theorem ndsL_get {l : List Co} {i : Nat} {x : Co} (h : l[i]? = some x) : ndsL (l.take (i + 1)) = ndsL (l.take i) + nds x := by
  induction l generalizing i with
  | nil => simp at h
  | cons y l ih =>
    cases i with
    | zero => simp at h; subst h; simp [ndsL]
    | succ i => have := ih (by simpa using h); simp only [List.take_succ_cons, ndsL] at *; omega
theorem ndsL_take (l : List Co) (i : Nat) : ndsL (l.take i) ≤ ndsL l := by
  induction l generalizing i with
  | nil => simp
  | cons y l ih =>
    cases i with
    | zero => simp [ndsL]
    | succ i => have := ih i; simp only [List.take_succ_cons, ndsL]; omega
theorem nds_le (e : Co) : nds e ≤ csz e := by
  refine Co.ind (P := fun e => nds e ≤ csz e) (fun k n s t ns l ih => ?_) e
  have hl : ndsL l ≤ cszL l := by
    clear e
    induction l with
    | nil => simp [ndsL]
    | cons x l ih2 => have h1 := ih x (by simp); have h2 := ih2 fun y hy => ih y (by simp [hy]); simp only [ndsL, cszL]; omega
  simp only [nds, csz]
  omega
theorem k_Nodes (e : Co) : ∀ {σ : Sg}, csz e ≤ 1048576 → ACalls Tryd.prog 21 [.v (encC e)] σ fun r σ' => r = .v (.int .i64 (nds e)) ∧ σ' = σ := by
  refine Co.ind (P := fun e => ∀ {σ : Sg}, csz e ≤ 1048576 → ACalls Tryd.prog 21 [.v (encC e)] σ fun r σ' => r = .v (.int .i64 (nds e)) ∧ σ' = σ) (fun k n s t ns l ih => ?_) e
  intro σ he
  have hn := nds_le (.mk k n s t ns l)
  simp only [csz, nds] at he hn ⊢
  rw [encC_mk]
  refine acalls_fit Tryd.func21 (by kernel_rfl) c21 rfl (by simp [a21]) fun hf => ?_
  clear hf
  simp -implicitDefEqProofs (maxSteps := 2000000) (disch := omega) [-getElem?_pos, a21]
  refine W_loop (α := Nat) 0 (fun i => l.length - i) (fun i => ⟨[(1, .ptr σ.objs.length 0), (3, .v (.int .i64 (1 + ndsL (l.take i) : Nat))), (7, .v (.sl (some 6) false (l.map encC))), (8, .v (.int .i64 l.length)), (9, .v (.int .i64 i))], ⟨σ.objs ++ [obC (.mk k n s t ns l)], σ.toks⟩⟩)
    (fun i => i ≤ l.length) (.eq2 (by simp [obC_mk]) (by simp [ndsL])) (by omega) fun i hi => ?_
  have hnt := ndsL_take l i
  simp -implicitDefEqProofs (maxSteps := 2000000) (disch := omega) [-getElem?_pos]
  refine .mk (fun h => ?_) fun h => ?_
  · simp -implicitDefEqProofs (maxSteps := 2000000) (disch := omega) [-getElem?_pos]
    refine ⟨by omega, ?_⟩
    intro x hx
    have hx1 := cszL_mem (List.mem_of_getElem? hx)
    have hx2 := ndsL_get hx
    have hx3 := ndsL_take l (i + 1)
    have hcall := fun σ => ih x (List.mem_of_getElem? hx) (σ := σ) (by omega)
    have hll := cszL_len l
    cases x with
    | mk k2 n2 s2 t2 ns2 l2 =>
    rw [encC_mk] at hcall ⊢
    simp -implicitDefEqProofs (maxSteps := 2000000) (disch := omega) [-getElem?_pos]
    refine (hcall _).then fun r hr => ?_
    subst hr
    generalize Co.mk k2 n2 s2 t2 ns2 l2 = x at *
    simp -implicitDefEqProofs (maxSteps := 2000000) (disch := omega) [-getElem?_pos]
    refine ⟨i + 1, by omega, by dsimp only; omega, .dropX (ys := [obC (.mk k n s t ns l)]) (xs := [_]) rfl rfl (by simp) (by simp [obC_mk]) (by simp [hx2]; omega) (by simp)⟩
  · rw [List.take_of_length_le (by omega)]
    simp -implicitDefEqProofs (maxSteps := 2000000) (disch := omega) [-getElem?_pos]
    exact .fin _ ⟨by simp, rfl⟩ (.refl _)

@[reducible] def coInt (n : Int) : V := .agg [.int .i64 1, .int .i64 n, .str [], .str [], .snil, .snil]
def coE : Co := .mk 16 0 [43] [] [] [.mk 1 2 [] [] [] [], .mk 1 3 [] [] [] []]
theorem le_coInt {n : Int} : VLe (coInt n) (encC (.mk 1 n [] [] [] [])) := by
  rw [encC_mk]
  exact .agg ⟨.refl _, .refl _, .refl _, .refl _, .snil, .snil, trivial⟩ (by simp)
theorem k_RTexts {a b : List Str} {σ : Sg} : ACalls Tryd.prog 32 [.v (vS a), .v (vS b)] σ fun r σ' => r = .v (.bool (decide (a = b))) ∧ σ' = σ := by
  refine acalls_fit Tryd.func32 (by kernel_rfl) c32 rfl (by simp [a32]) fun hf => ?_
  simp at hf
  simp -implicitDefEqProofs (maxSteps := 2000000) (disch := omega) [-getElem?_pos, a32]
  refine .mk (fun hl => ?_) fun hl => ?_
  rotate_left
  · simp -implicitDefEqProofs (maxSteps := 2000000) (disch := omega) [-getElem?_pos]
    exact .fin _ ⟨by simp; intro h; exact hl (by rw [h]), rfl⟩ (.refl _)
  simp -implicitDefEqProofs (maxSteps := 2000000) (disch := omega) [-getElem?_pos]
  refine W_loop (α := Nat) 0 (fun i => a.length - i) (fun i => ⟨[(0, .v (vS a)), (1, .v (vS b)), (5, .v (.int .i64 i))], σ⟩) (fun i => i ≤ a.length ∧ (a = b ↔ a.drop i = b.drop i))
    (.eq (by simp)) ⟨by omega, by simp⟩ fun i ⟨hi, he⟩ => ?_
  simp -implicitDefEqProofs (maxSteps := 2000000) (disch := omega) [-getElem?_pos]
  refine .mk (fun h => ?_) fun h => ?_
  · simp -implicitDefEqProofs (maxSteps := 2000000) (disch := omega) [-getElem?_pos]
    refine ⟨by omega, fun x hx => ?_⟩
    refine ⟨by omega, fun y hy => ?_⟩
    rw [drop_cons hx, drop_cons hy] at he
    refine .mk (fun hq => ?_) fun hq => ?_
    · subst hq
      simp -implicitDefEqProofs (maxSteps := 2000000) (disch := omega) [-getElem?_pos]
      refine ⟨i + 1, ⟨by omega, ?_⟩, by dsimp only; omega, .eq (by simp)⟩
      simpa using he
    · simp -implicitDefEqProofs (maxSteps := 2000000) (disch := omega) [-getElem?_pos]
      refine .fin _ ⟨?_, rfl⟩ (.refl _)
      rw [decide_eq_false (fun h' => hq (List.cons.inj (he.1 h')).1)]
  · simp -implicitDefEqProofs (maxSteps := 2000000) (disch := omega) [-getElem?_pos]
    refine .fin _ ⟨?_, rfl⟩ (.refl _)
    rw [List.drop_eq_nil_of_le (by omega), List.drop_eq_nil_of_le (by omega)] at he
    rw [decide_eq_true (he.2 rfl)]

def outsB (m m' : Ms) : Bool := decide (m.err = m'.err ∧ m.fault = m'.fault ∧ m.tr = m'.tr)
theorem k_Outs {m m' : Ms} {σ : Sg} : ACalls Tryd.prog 12 [.v (outV m), .v (outV m')] σ fun r σ' => r = .v (.bool (outsB m m')) ∧ σ' = σ := by
  unfold outV
  refine acalls_fit Tryd.func12 (by kernel_rfl) c12 rfl (by simp [a12]) fun hf => ?_
  clear hf
  simp -implicitDefEqProofs (maxSteps := 2000000) (disch := omega) [-getElem?_pos, a12]
  refine k_RTexts.then fun r hr => ?_
  subst hr
  simp -implicitDefEqProofs (maxSteps := 2000000) (disch := omega) [-getElem?_pos]
  refine .mk (fun h1 => ?_) fun h1 => ?_
  · simp -implicitDefEqProofs (maxSteps := 2000000) (disch := omega) [-getElem?_pos]
    refine .mk (fun h2 => ?_) fun h2 => ?_
    · simp -implicitDefEqProofs (maxSteps := 2000000) (disch := omega) [-getElem?_pos]
      exact .fin _ ⟨by simp [outsB, h1, h2], rfl⟩ (.refl _)
    · simp -implicitDefEqProofs (maxSteps := 2000000) (disch := omega) [-getElem?_pos]
      exact .fin _ ⟨by simp [outsB, h2], rfl⟩ (.refl _)
  · simp -implicitDefEqProofs (maxSteps := 2000000) (disch := omega) [-getElem?_pos]
    exact .fin _ ⟨by simp [outsB, h1], rfl⟩ (.refl _)
def begB (a b : List Str) : Bool := decide (a.take b.length = b)
theorem begB_of {a b : List Str} (h : b <+: a) : begB a b = true := by
  obtain ⟨c, rfl⟩ := h
  simp [begB]
theorem k_Begins {a b : List Str} {σ : Sg} : ACalls Tryd.prog 11 [.v (vS a), .v (vS b)] σ fun r σ' => r = .v (.bool (begB a b)) ∧ σ' = σ := by
  refine acalls_fit Tryd.func11 (by kernel_rfl) c11 rfl (by simp [a11]) fun hf => ?_
  clear hf
  have k1 := fun σ => k_RTexts (a := a.take b.length) (b := b) (σ := σ)
  rw [show vS (a.take b.length) = .sl none false ((a.map .str).take b.length) by simp [vS, List.map_take]] at k1
  simp -implicitDefEqProofs (maxSteps := 2000000) (disch := omega) [-getElem?_pos, a11]
  refine .mk (fun h => ?_) fun h => ?_
  · simp -implicitDefEqProofs (maxSteps := 2000000) (disch := omega) [-getElem?_pos]
    refine .fin _ ⟨?_, rfl⟩ (.refl _)
    have : begB a b = false := by
      unfold begB
      refine decide_eq_false fun e => ?_
      have := congrArg List.length e
      simp at this
      omega
    rw [this]
  · simp -implicitDefEqProofs (maxSteps := 2000000) (disch := omega) [-getElem?_pos]
    refine ⟨by omega, ?_⟩
    refine (k1 _).then fun r hr => ?_
    subst hr
    simp -implicitDefEqProofs (maxSteps := 2000000) (disch := omega) [-getElem?_pos]
    exact .fin _ ⟨rfl, rfl⟩ (.refl _)
theorem coE_ok : okC 1048576 coE := by
  refine ⟨by simp [coE, csz, cszL, nsz], ?_⟩
  unfold coE
  rw [encC_mk]
  simp only [V.fits, V.fitsL, List.map_nil, List.map_cons, encC_mk, List.length_nil, List.length_cons]
  decide
end Go.Proofs.YtbifjffjibnjjaaDoor

/-
  Folding, plainly: one step of it, and what comes of that when it is run: the same, with no more fuel. (Own work.)
-/
set_option linter.unusedVariables false
set_option linter.unusedSimpArgs false
namespace Go.Proofs.YtbifjffjibnjjaaDoor
open Go Go.Abs

/-! ### Free names, plainly -/
mutual
def fvs : Co → List Str
  | .mk k _ s t ns l => (if k = 3 then [s] else []) ++ fvL k s t ns 0 l
def fvL (k : Int) (s t : Str) (ns : List Str) : Nat → List Co → List Str
  | _, [] => []
  | i, x :: l => (fvs x).filter (fun y => !decide (y ∈ bnd k s t ns i)) ++ fvL k s t ns (i + 1) l
end
theorem mem_fvL {k : Int} {s t : Str} {ns : List Str} {x : Str} : ∀ {l : List Co} {j : Nat}, x ∈ fvL k s t ns j l ↔ ∃ i e, l[i]? = some e ∧ x ∈ fvs e ∧ x ∉ bnd k s t ns (j + i)
  | [], j => by simp [fvL]
  | e :: l, j => by
    rw [fvL, List.mem_append, mem_fvL (l := l) (j := j + 1), List.mem_filter]
    constructor
    · rintro (⟨h1, h2⟩ | ⟨i, e', h1, h2, h3⟩)
      · exact ⟨0, e, rfl, h1, by simpa using h2⟩
      · exact ⟨i + 1, e', by simpa using h1, h2, by rwa [show j + (i + 1) = j + 1 + i by omega]⟩
    · rintro ⟨i, e', h1, h2, h3⟩
      cases i with
      | zero => simp at h1; subst h1; exact .inl ⟨h2, by simpa using h3⟩
      | succ i => exact .inr ⟨i, e', by simpa using h1, h2, by rwa [show j + 1 + i = j + (i + 1) by omega]⟩
theorem mem_fvs {k n : Int} {s t : Str} {ns : List Str} {l : List Co} {x : Str} : x ∈ fvs (.mk k n s t ns l) ↔ (k = 3 ∧ x = s) ∨ ∃ i e, l[i]? = some e ∧ x ∈ fvs e ∧ x ∉ bnd k s t ns i := by
  rw [fvs, List.mem_append, mem_fvL]
  by_cases h : k = 3 <;> simp [h]
/-! ### One step of folding, and what comes of it -/
/-- Integers that were put in for names. -/
abbrev Dl := Str → Option Int
def Dl.cut (δ : Dl) (b : List Str) : Dl := fun x => if x ∈ b then none else δ x
def Dl.put (δ : Dl) (x : Str) (n : Int) : Dl := fun y => if y = x then some n else δ y
def dl0 : Dl := fun _ => none
theorem dl0_cut (b : List Str) : dl0.cut b = dl0 := by funext x; simp [Dl.cut, dl0]
theorem Dl.cut_nil (δ : Dl) : δ.cut [] = δ := by funext x; simp [Dl.cut]
def num (n : Int) : Co := .mk 1 n [] [] [] []
def opC (s : Str) (a b : Int) : Option Int :=
  if s = [43] then some (IntKind.i64.wrap (a + b))
  else if s = [45] then some (IntKind.i64.wrap (a - b))
  else if s = [42] then some (IntKind.i64.wrap (a * b))
  else if s = [47] then (if b = 0 then none else some (IntKind.i64.wrap (a.tdiv b)))
  else if s = [60] then some (flagC (decide (a < b)))
  else if s = [61, 61] then some (flagC (a == b))
  else none
/-- Comes to a value at once. -/
def plainW : Co → Prop
  | .mk k _ _ _ _ l => (k = 1 ∨ k = 2 ∨ k = 3) ∧ l = [] ∨ k = 4 ∧ l.length = 1
inductive Sm : Dl → Co → Co → Prop
  | cong {δ : Dl} {k n : Int} {s t : Str} {ns : List Str} {l l' : List Co} : (k = 3 → δ s = none) → l.length = l'.length →
      (∀ (i : Nat) x y, l[i]? = some x → l'[i]? = some y → Sm (δ.cut (bnd k s t ns i)) x y) → Sm δ (.mk k n s t ns l) (.mk k n s t ns l')
  | var {δ : Dl} {n m : Int} {s t : Str} {ns : List Str} : δ s = some m → Sm δ (.mk 3 n s t ns []) (num m)
  | op {δ : Dl} {n a b c : Int} {s t s1 t1 s2 t2 : Str} {ns ns1 ns2 : List Str} : opC s a b = some c → Sm δ (.mk 16 n s t ns [.mk 1 a s1 t1 ns1 [], .mk 1 b s2 t2 ns2 []]) (num c)
  | iff {δ : Dl} {n a : Int} {s t s1 t1 : Str} {ns ns1 : List Str} {b c f : Co} : Sm δ (if a ≠ 0 then b else c) f → Sm δ (.mk 15 n s t ns [.mk 1 a s1 t1 ns1 [], b, c]) f
  | sel {δ : Dl} {n n1 a : Int} {s t s1 t1 s2 t2 : Str} {ns ns1 ns2 : List Str} {l : List Co} {x f : Co} : (∀ x ∈ l, plainW x) → 0 ≤ a → l[a.toNat]? = some x → Sm δ x f →
      Sm δ (.mk 9 n s t ns [.mk 8 n1 s1 t1 ns1 l, .mk 1 a s2 t2 ns2 []]) f
  | drop {δ : Dl} {n : Int} {s t : Str} {ns : List Str} {p b f : Co} : plainW p → s ∉ fvs b → Sm (δ.cut [s]) b f → Sm δ (.mk 6 n s t ns [p, b]) f
  | lett {δ : Dl} {n a : Int} {s t s1 t1 : Str} {ns ns1 : List Str} {b f : Co} : Sm (δ.put s a) b f → Sm δ (.mk 6 n s t ns [.mk 1 a s1 t1 ns1 [], b]) f
  | app {δ : Dl} {n n1 m : Int} {s s0 t t1 t2 : Str} {ns ns1 ns2 : List Str} {a a' b b' : Co} : Sm δ a a' → Sm (δ.cut [s]) b b' →
      Sm δ (.mk 5 n s0 t ns [.mk 4 n1 s t1 ns1 [b], a]) (.mk 6 m s t2 ns2 [a', b'])
theorem Sm.rfl0 (e : Co) : Sm dl0 e e := by
  refine Co.ind (P := fun e => Sm dl0 e e) (fun k n s t ns l ih => ?_) e
  refine .cong (fun _ => rfl) rfl fun i x y hx hy => ?_
  rw [hx] at hy
  cases hy
  rw [dl0_cut]
  exact ih x (List.mem_of_getElem? hx)

mutual
/-- Values that are alike, but for what was folded. -/
inductive VR : Vl → Vl → Prop
  | int {n : Int} : VR (.int n) (.int n)
  | text {s : Str} : VR (.text s) (.text s)
  | tup {l l' : List Vl} : VRs l l' → VR (.tup l) (.tup l')
  | tag {n : Int} {v w : Vl} : VR v w → VR (.tag n v) (.tag n w)
  | ref {k : Nat} : VR (.ref k) (.ref k)
  | fn {δ : Dl} {rc : Bool} {self param : Str} {p p' : Co} {env env' : En} : δ param = none → (rc = true → δ self = none) → Sm δ p p' →
      ER δ (fun x => x ∈ fvs p ∧ x ≠ param ∧ (rc = true → x ≠ self)) env env' → VR (.fn rc self param p env) (.fn rc self param p' env')
inductive VRs : List Vl → List Vl → Prop
  | nil : VRs [] []
  | cons {v w : Vl} {l l' : List Vl} : VR v w → VRs l l' → VRs (v :: l) (w :: l')
inductive ER : Dl → (Str → Prop) → En → En → Prop
  | mk {δ : Dl} {F : Str → Prop} {env env' : En} : (∀ x n, F x → δ x = some n → lookE env x = some (.int n)) →
      (∀ x, F x → δ x = none → (lookE env x).isSome = true ∧ (lookE env' x).isSome = true) →
      (∀ x v w, F x → δ x = none → lookE env x = some v → lookE env' x = some w → VR v w) → ER δ F env env'
end
theorem ER.num {δ : Dl} {F : Str → Prop} {env env' : En} (h : ER δ F env env') {x : Str} {n : Int} (hx : F x) (hd : δ x = some n) : lookE env x = some (.int n) := by
  cases h with | mk a b c => exact a x n hx hd
theorem ER.val {δ : Dl} {F : Str → Prop} {env env' : En} (h : ER δ F env env') {x : Str} (hx : F x) (hd : δ x = none) : ∃ v w, lookE env x = some v ∧ lookE env' x = some w ∧ VR v w := by
  cases h with | mk a b c =>
  obtain ⟨h1, h2⟩ := b x hx hd
  obtain ⟨v, hv⟩ := Option.isSome_iff_exists.1 h1
  obtain ⟨w, hw⟩ := Option.isSome_iff_exists.1 h2
  exact ⟨v, w, hv, hw, c x v w hx hd hv hw⟩
theorem ER.of {δ : Dl} {F : Str → Prop} {env env' : En} (h1 : ∀ x n, F x → δ x = some n → lookE env x = some (.int n)) (h2 : ∀ x, F x → δ x = none → ∃ v w, lookE env x = some v ∧ lookE env' x = some w ∧ VR v w) : ER δ F env env' := by
  refine .mk h1 (fun x hx hd => ?_) fun x v w hx hd hv hw => ?_
  · obtain ⟨v, w, hv, hw, _⟩ := h2 x hx hd
    exact ⟨by rw [hv]; rfl, by rw [hw]; rfl⟩
  · obtain ⟨v', w', hv', hw', hr⟩ := h2 x hx hd
    rw [hv] at hv'
    rw [hw] at hw'
    cases hv'
    cases hw'
    exact hr
theorem ER.mono {δ δ' : Dl} {F F' : Str → Prop} {env env' : En} (h : ER δ F env env') (hF : ∀ x, F' x → F x ∧ δ' x = δ x) : ER δ' F' env env' :=
  .of (fun x n hx hd => h.num (hF x hx).1 (by rw [← (hF x hx).2]; exact hd)) fun x hx hd => h.val (hF x hx).1 (by rw [← (hF x hx).2]; exact hd)
theorem ER.cons {δ δ' : Dl} {F F' : Str → Prop} {env env' : En} {s : Str} {v w : Vl} (h : ER δ F env env') (hv : VR v w) (hs : δ' s = none) (hF : ∀ x, F' x → x ≠ s → F x ∧ δ' x = δ x) : ER δ' F' (.cons s v env) (.cons s w env') := by
  refine .of (fun x n hx hd => ?_) fun x hx hd => ?_
  · by_cases hxs : s = x
    · subst hxs; rw [hs] at hd; cases hd
    · rw [lookE, if_neg hxs]
      have := hF x hx fun e => hxs e.symm
      exact h.num this.1 (by rw [← this.2]; exact hd)
  · by_cases hxs : s = x
    · exact ⟨v, w, by rw [lookE, if_pos hxs], by rw [lookE, if_pos hxs], hv⟩
    · rw [lookE, if_neg hxs, lookE, if_neg hxs]
      have := hF x hx fun e => hxs e.symm
      exact h.val this.1 (by rw [← this.2]; exact hd)
theorem VRs.len {l l' : List Vl} (h : VRs l l') : l.length = l'.length := by
  induction l generalizing l' with
  | nil => cases h; rfl
  | cons v l ih => cases h with | cons a b => simp [ih b]
theorem VRs.get {l l' : List Vl} (h : VRs l l') {i : Nat} {v : Vl} (hv : l[i]? = some v) : ∃ w, l'[i]? = some w ∧ VR v w := by
  induction l generalizing l' i with
  | nil => simp at hv
  | cons u l ih =>
    cases h with | cons a b =>
    cases i with
    | zero => simp at hv; subst hv; exact ⟨_, rfl, a⟩
    | succ i => exact ih b (by simpa using hv)
theorem VRs.getD {l l' : List Vl} (h : VRs l l') (i : Nat) {z z' : Vl} (hz : VR z z') : VR ((l[i]?).getD z) ((l'[i]?).getD z') := by
  cases hv : l[i]? with
  | none => rw [List.getElem?_eq_none (by rw [← h.len]; exact List.getElem?_eq_none_iff.1 hv)]; exact hz
  | some v => obtain ⟨w, hw, hr⟩ := h.get hv; rw [hw]; exact hr
theorem VRs.app {l l' r r' : List Vl} (h : VRs l l') (k : VRs r r') : VRs (l ++ r) (l' ++ r') := by
  induction l generalizing l' with
  | nil => cases h; exact k
  | cons v l ih => cases h with | cons a b => exact .cons a (ih b)
theorem VRs.take {l l' : List Vl} (h : VRs l l') (i : Nat) : VRs (l.take i) (l'.take i) := by
  induction l generalizing l' i with
  | nil => cases h; simp; exact .nil
  | cons v l ih =>
    cases h with | cons a b =>
    cases i with
    | zero => exact .nil
    | succ i => exact .cons a (ih b i)
theorem VRs.drop {l l' : List Vl} (h : VRs l l') (i : Nat) : VRs (l.drop i) (l'.drop i) := by
  induction l generalizing l' i with
  | nil => cases h; simp; exact .nil
  | cons v l ih =>
    cases h with | cons a b =>
    cases i with
    | zero => exact .cons a b
    | succ i => exact ih b i
theorem VRs.set {l l' : List Vl} (h : VRs l l') (i : Nat) {v w : Vl} (hv : VR v w) : VRs (l.set i v) (l'.set i w) := by
  induction l generalizing l' i with
  | nil => cases h; exact .nil
  | cons u l ih =>
    cases h with | cons a b =>
    cases i with
    | zero => exact .cons hv b
    | succ i => exact .cons a (ih b i)
/-- Machines that are alike. -/
structure MR (m m' : Ms) : Prop where
  inp : m.inp = m'.inp
  err : m.err = 0
  err' : m'.err = 0
  fault : m.fault = m'.fault
  tr : m.tr = m'.tr
  st : VRs m.st m'.st
  fuel : m.fuel ≤ m'.fuel
/-- Ends that are alike, but if the first is out of fuel. -/
inductive Ol {α β : Type} (P : α → β → Prop) : Rs α → Rs β → Prop
  | val {a : α} {b : β} {m m' : Ms} : P a b → MR m m' → Ol P ⟨some a, m⟩ ⟨some b, m'⟩
  | fin {m m' : Ms} : m.err ≠ 0 → m.err ≠ 8 → m.err = m'.err → m.fault = m'.fault → m.tr = m'.tr → Ol P ⟨none, m⟩ ⟨none, m'⟩
  | out {m : Ms} {r' : Rs β} : (m.err = 0 ∨ m.err = 8) → m.tr <+: r'.m.tr → Ol P ⟨none, m⟩ r'
theorem Ol.bind {α β α' β' : Type} {P : α → β → Prop} {Q : α' → β' → Prop} {r : Rs α} {r' : Rs β} {k : α → Ms → Rs α'} {k' : β → Ms → Rs β'} (h : Ol P r r') (hk : ∀ a b m m', P a b → MR m m' → Ol Q (k a m) (k' b m'))
    (ht : ∀ a m, m.tr <+: (k' a m).m.tr) : Ol Q (r.bind k) (r'.bind k') := by
  cases h with
  | val hP hm => exact hk _ _ _ _ hP hm
  | fin h1 h2 h3 h4 h5 => exact .fin h1 h2 h3 h4 h5
  | out h1 h2 => exact .out h1 (tr_bind h2 ht)
theorem Ol.done {α β : Type} {P : α → β → Prop} {a : α} {b : β} {m m' : Ms} (h : P a b) (hm : MR m m') : Ol P (done a m) (done b m') := .val h hm
theorem Ol.end {α β : Type} {P : α → β → Prop} {e f : Int} {m m' : Ms} (hm : MR m m') (h0 : e ≠ 0) (h8 : e ≠ 8) : Ol P (endM e f m) (endM e f m') := by
  unfold endM
  rw [if_pos hm.err, if_pos hm.err']
  exact .fin h0 h8 rfl rfl hm.tr
theorem Ol.stuck {α β : Type} {P : α → β → Prop} {m m' : Ms} (hm : MR m m') : Ol P (stuckM m) (stuckM m') := .end hm (by decide) (by decide)
theorem Ol.none {α β : Type} {P : α → β → Prop} {m : Ms} {r : Rs β} (h : m.err = 0) (ht : m.tr <+: r.m.tr) : Ol P (endM 8 0 m) r := by
  unfold endM
  rw [if_pos h]
  exact .out (.inr rfl) ht
section
variable {R R' : Rec} (hT : ∀ e env m, m.tr <+: (R' e env m).m.tr) (hR : ∀ δ e f env env' m m', Sm δ e f → ER δ (fun x => x ∈ fvs e) env env' → MR m m' → Ol VR (R e env m) (R' f env' m'))
include hT hR
theorem ol_all {δ : Dl} {env env' : En} : ∀ {l l' : List Co} {m m' : Ms}, l.length = l'.length → (∀ (i : Nat) x y, l[i]? = some x → l'[i]? = some y → Sm δ x y) → (∀ (i : Nat) x, l[i]? = some x → ER δ (fun z => z ∈ fvs x) env env') → MR m m' → Ol VRs (allM R env l m) (allM R' env' l' m')
  | [], [], m, m', _, _, _, hm => .done .nil hm
  | [], y :: l', m, m', hl, _, _, hm => by simp at hl
  | x :: l, [], m, m', hl, _, _, hm => by simp at hl
  | x :: l, y :: l', m, m', hl, hs, he, hm => (hR δ x y env env' m m' (hs 0 x y rfl rfl) (he 0 x rfl) hm).bind (fun v w m1 m1' hv hm1 =>
      (ol_all (by simpa using hl) (fun i x y hx hy => hs (i + 1) x y (by simpa using hx) (by simpa using hy)) (fun i x hx => he (i + 1) x (by simpa using hx)) hm1).bind (fun vs ws m2 m2' hvs hm2 => .done (.cons hv hvs) hm2) fun vs m2 => tr_done)
      fun v m1 => tr_bind (tr_all hT env' l' m1) fun vs m2 => tr_done
omit hT in
theorem ol_apply {vs ws : List Vl} {m m' : Ms} (h : VRs vs ws) (hm : MR m m') : Ol VR (applyM R vs m) (applyM R' ws m') := by
  cases h with
  | nil => exact .stuck hm
  | cons hv hvs =>
    cases hvs with
    | nil => cases hv <;> exact .stuck hm
    | cons hw hvs =>
      cases hv with
      | fn d1 d2 hS hE =>
        rename_i v w l l' δ rc self param p p' env env'
        unfold applyM
        refine hR δ p p' _ _ m m' hS ?_ hm
        cases rc with
        | false => exact hE.cons hw d1 fun x hx hne => ⟨⟨hx, hne, fun h => by cases h⟩, rfl⟩
        | true =>
          have h1 : ER δ (fun x => x ∈ fvs p ∧ x ≠ param) (.cons self (.fn true self param p env) env) (.cons self (.fn true self param p' env') env') :=
            hE.cons (.fn d1 d2 hS hE) (d2 rfl) fun x hx hne => ⟨⟨hx.1, hx.2, fun _ => hne⟩, rfl⟩
          exact h1.cons hw d1 fun x hx hne => ⟨⟨hx, hne⟩, rfl⟩
      | _ => exact .stuck hm
omit hT hR in
theorem ol_tuple {k : Int} {t t' a a' x x' : Vl} {m m' : Ms} (ht : VR t t') (ha : VR a a') (hx : VR x x') (hm : MR m m') : Ol VR (tupleM k t a x m) (tupleM k t' a' x' m') := by
  cases ht with
  | tup hl =>
    cases ha with
    | int =>
      unfold tupleM
      try dsimp only
      rw [← hl.len]
      repeat' split
      · exact .stuck hm
      · exact .done (hl.getD _ hx) hm
      · exact .done (.tup ((hl.take _).app (hl.drop _))) hm
      · exact .done (.tup ((hl.take _).app (.cons hx (hl.drop _)))) hm
      · exact .done (.tup ((hl.take _).app (.cons hx (hl.drop _)))) hm
    | _ => exact .stuck hm
  | _ => exact .stuck hm
omit hT hR in
theorem ol_arith (s : Str) (a b : Int) {m m' : Ms} (hm : MR m m') : Ol VR (arithM s a b m) (arithM s a b m') := by
  unfold arithM
  repeat' split
  all_goals first | exact .done .int hm | exact .stuck hm | exact .end hm (by decide) (by decide)
omit hT hR in
theorem ol_op (s : Str) {a a' b b' : Vl} {m m' : Ms} (ha : VR a a') (hb : VR b b') (hm : MR m m') : Ol VR (opM s a b m) (opM s a' b' m') := by
  cases ha with
  | text =>
    rename_i x
    cases hb with
    | text =>
      unfold opM
      try dsimp only
      repeat' split
      all_goals first | exact .done .text hm | exact .stuck hm | exact .end hm (by decide) (by decide)
    | int =>
      rename_i n
      unfold opM
      try dsimp only
      by_cases hs : s = [35]
      · rw [if_pos hs, if_pos hs]
        generalize (if n < 0 then none else x[n.toNat]?) = o
        cases o with
        | none => exact .end hm (by decide) (by decide)
        | some c => exact .done .int hm
      · rw [if_neg hs, if_neg hs]; exact .stuck hm
    | _ => exact .stuck hm
  | int =>
    cases hb with
    | int => exact ol_arith s _ _ hm
    | _ => exact .stuck hm
  | _ => cases hb <;> exact .stuck hm
omit hT hR in
theorem ol_read {m m' : Ms} (hm : MR m m') : Ol VR (readM m) (readM m') := by
  unfold readM
  rw [← hm.inp]
  cases hi : m.inp with
  | nil => exact .end hm (by decide) (by decide)
  | cons s r =>
    try dsimp only
    have h2 : MR { m with inp := r } { m' with inp := r } := ⟨rfl, hm.err, hm.err', hm.fault, hm.tr, hm.st, hm.fuel⟩
    by_cases hl : s.length > 2000
    · rw [if_pos hl, if_pos hl]
      exact .end h2 (by decide) (by decide)
    · rw [if_neg hl, if_neg hl]
      exact .done .text h2
omit hT in
theorem ol_do (k : Int) (s : Str) {vs ws : List Vl} {m m' : Ms} (hv : VRs vs ws) (hm : MR m m') : Ol VR (doM R k s vs m) (doM R' k s ws m') := by
  unfold doM
  by_cases h5 : k = 5
  · rw [if_pos h5, if_pos h5]; exact ol_apply hR hv hm
  rw [if_neg h5, if_neg h5]
  by_cases h8 : k = 8
  · rw [if_pos h8, if_pos h8]; exact .done (.tup hv) hm
  rw [if_neg h8, if_neg h8]
  by_cases h9 : k = 9 ∨ k = 11
  · rw [if_pos h9, if_pos h9]
    rcases hv with _ | ⟨h1, _ | ⟨h2, _ | ⟨h3, h4⟩⟩⟩
    · exact .stuck hm
    · exact .stuck hm
    · exact ol_tuple h1 h2 .int hm
    · exact .stuck hm
  rw [if_neg h9, if_neg h9]
  by_cases h10 : k = 10 ∨ k = 12
  · rw [if_pos h10, if_pos h10]
    rcases hv with _ | ⟨h1, _ | ⟨h2, _ | ⟨h3, _ | ⟨h4, h5⟩⟩⟩⟩
    · exact .stuck hm
    · exact .stuck hm
    · exact .stuck hm
    · exact ol_tuple h3 h2 h1 hm
    · exact .stuck hm
  rw [if_neg h10, if_neg h10]
  by_cases h13 : k = 13
  · rw [if_pos h13, if_pos h13]
    rcases hv with _ | ⟨h1, _ | ⟨h2, _ | ⟨h3, h4⟩⟩⟩
    · exact .stuck hm
    · exact .stuck hm
    · cases h2 with
      | int => exact .done (.tag h1) hm
      | _ => exact .stuck hm
    · cases h2 <;> exact .stuck hm
  rw [if_neg h13, if_neg h13]
  by_cases h16 : k = 16
  · rw [if_pos h16, if_pos h16]
    rcases hv with _ | ⟨h1, _ | ⟨h2, _ | ⟨h3, h4⟩⟩⟩
    · exact .stuck hm
    · exact .stuck hm
    · exact ol_op s h1 h2 hm
    · exact .stuck hm
  rw [if_neg h16, if_neg h16]
  by_cases h17 : k = 17
  · rw [if_pos h17, if_pos h17]
    rcases hv with _ | ⟨h1, _ | ⟨h2, h3⟩⟩
    · exact .stuck hm
    · try dsimp only
      rw [hm.st.len]
      exact .done .ref ⟨hm.inp, hm.err, hm.err', hm.fault, hm.tr, hm.st.app (.cons h1 .nil), hm.fuel⟩
    · exact .stuck hm
  rw [if_neg h17, if_neg h17]
  by_cases h18 : k = 18
  · rw [if_pos h18, if_pos h18]
    rcases hv with _ | ⟨h1, _ | ⟨h2, h3⟩⟩
    · exact .stuck hm
    · cases h1 with
      | ref => exact .done (hm.st.getD _ .int) hm
      | _ => exact .stuck hm
    · cases h1 <;> exact .stuck hm
  rw [if_neg h18, if_neg h18]
  by_cases h19 : k = 19
  · rw [if_pos h19, if_pos h19]
    rcases hv with _ | ⟨h1, _ | ⟨h2, _ | ⟨h3, h4⟩⟩⟩
    · exact .stuck hm
    · cases h1 <;> exact .stuck hm
    · cases h1 with
      | ref => exact .done (.tup .nil) ⟨hm.inp, hm.err, hm.err', hm.fault, hm.tr, hm.st.set _ h2, hm.fuel⟩
      | _ => exact .stuck hm
    · cases h1 <;> exact .stuck hm
  rw [if_neg h19, if_neg h19]
  by_cases h20 : k = 20
  · rw [if_pos h20, if_pos h20]
    rcases hv with _ | ⟨h1, _ | ⟨h2, h3⟩⟩
    · exact .stuck hm
    · cases h1 with
      | text => exact .done (.tup .nil) ⟨hm.inp, hm.err, hm.err', hm.fault, by show m.tr ++ _ = m'.tr ++ _; rw [hm.tr], hm.st, hm.fuel⟩
      | _ => exact .stuck hm
    · cases h1 <;> exact .stuck hm
  rw [if_neg h20, if_neg h20]
  by_cases h21 : k = 21
  · rw [if_pos h21, if_pos h21]
    rcases hv with _ | ⟨h1, _ | ⟨h2, h3⟩⟩
    · exact .stuck hm
    · cases h1 with
      | int => exact .done .text hm
      | _ => exact .stuck hm
    · cases h1 <;> exact .stuck hm
  rw [if_neg h21, if_neg h21]
  by_cases h22 : k = 22
  · rw [if_pos h22, if_pos h22]; exact ol_read hm
  rw [if_neg h22, if_neg h22]
  exact .stuck hm
end
theorem prt_get {l : List Co} {i : Nat} (h : i < l.length) : l[i]? = some (prt l i) := by
  unfold prt
  rw [List.getElem?_eq_getElem h]
  rfl
theorem bnd_nil {k : Int} {s t : Str} {ns : List Str} {i : Nat} (h4 : k ≠ 4) (h6 : k ≠ 6) (h7 : k ≠ 7) (h14 : k ≠ 14) : bnd k s t ns i = [] := by
  simp [bnd, h4, h6, h7, h14]
section
variable {R R' : Rec} {δ : Dl} {k n : Int} {s t : Str} {ns : List Str} {l l' : List Co} {env env' : En}
    (hT : ∀ e env m, m.tr <+: (R' e env m).m.tr) (hR : ∀ δ e f env env' m m', Sm δ e f → ER δ (fun x => x ∈ fvs e) env env' → MR m m' → Ol VR (R e env m) (R' f env' m'))
    (hl : l.length = l'.length) (hS : ∀ (i : Nat) x y, l[i]? = some x → l'[i]? = some y → Sm (δ.cut (bnd k s t ns i)) x y) (hE : ER δ (fun x => x ∈ fvs (.mk k n s t ns l)) env env')
include hl hS hE
theorem ol_at {i : Nat} (h : i < l.length) : Sm (δ.cut (bnd k s t ns i)) (prt l i) (prt l' i) ∧ ER (δ.cut (bnd k s t ns i)) (fun x => x ∈ fvs (prt l i) ∧ x ∉ bnd k s t ns i) env env' :=
  ⟨hS i _ _ (prt_get h) (prt_get (hl ▸ h)), hE.mono fun x hx => ⟨mem_fvs.2 (.inr ⟨i, _, prt_get h, hx.1, hx.2⟩), by simp [Dl.cut, hx.2]⟩⟩
include hR
theorem ol_p0 {i : Nat} {m m' : Ms} (h : i < l.length) (hb : bnd k s t ns i = []) (hm : MR m m') : Ol VR (R (prt l i) env m) (R' (prt l' i) env' m') := by
  obtain ⟨h1, h2⟩ := ol_at hl hS hE h
  rw [hb] at h1 h2
  exact hR _ _ _ _ _ _ _ h1 (h2.mono fun x hx => ⟨⟨hx, by simp⟩, rfl⟩) hm
theorem ol_p1 {i : Nat} {y : Str} {v w : Vl} {m m' : Ms} (h : i < l.length) (hb : bnd k s t ns i = [y]) (hv : VR v w) (hm : MR m m') : Ol VR (R (prt l i) (.cons y v env) m) (R' (prt l' i) (.cons y w env') m') := by
  obtain ⟨h1, h2⟩ := ol_at hl hS hE h
  rw [hb] at h1 h2
  exact hR _ _ _ _ _ _ _ h1 (h2.cons hv (by simp [Dl.cut]) fun x hx hne => ⟨⟨hx, by simpa using hne⟩, rfl⟩) hm
include hT
theorem ol_arms (hk : k = 14) (hp : l.length = 1 + 2 * ns.length + (if t = [] then 0 else 1)) {c : Int} {v w : Vl} (hv : VR v w) : ∀ (ns' : List Str) (i : Nat) (below : Int) (m m' : Ms), ns.drop i = ns' → i ≤ ns.length → MR m m' → Ol VR (armsM R env l t c v ns' i below m) (armsM R' env' l' t c w ns' i below m')
  | [], i, below, m, m', hd, hi, hm => by
    have hi : ns.length ≤ i := by simpa using hd
    unfold armsM
    by_cases ht : t = []
    · rw [if_pos ht, if_pos ht]; exact .stuck hm
    · rw [if_neg ht, if_neg ht, ← hl]
      rw [if_neg ht] at hp
      refine ol_p1 hR hl hS hE (by omega) ?_ (.tag hv) hm
      subst hk
      simp only [bnd]
      rw [if_neg (by decide), if_neg (by decide), if_neg (by decide), if_pos trivial, if_neg (by omega), if_neg (by omega)]
  | x :: ns', i, below, m, m', hd, hi, hm => by
    have hlt : i < ns.length := by
      rcases Nat.lt_or_ge i ns.length with h | h
      · exact h
      · rw [List.drop_eq_nil_of_le h] at hd; cases hd
    have hx : ns[i]? = some x := by
      have := congrArg (fun l => l[0]?) hd
      simpa using this
    have hd2 : ns.drop (i + 1) = ns' := by
      rw [show i + 1 = 1 + i by omega, Nat.add_comm 1 i, ← List.drop_drop, hd]
      rfl
    unfold armsM
    refine (ol_p0 hR hl hS hE (i := 1 + 2 * i) (by omega) ?_ hm).bind (fun u u' m1 m1' hu hm1 => ?_) fun u m1 => ?_
    · subst hk
      simp only [bnd]
      rw [if_neg (by decide), if_neg (by decide), if_neg (by decide), if_pos trivial, if_neg (by omega), if_pos (by omega), if_neg (by omega)]
    · cases hu with
      | int =>
        rename_i a
        dsimp only
        by_cases ha : a = c
        · rw [if_pos ha, if_pos ha]
          refine ol_p1 hR hl hS hE (by omega) ?_ hv hm1
          subst hk
          simp only [bnd]
          rw [if_neg (by decide), if_neg (by decide), if_neg (by decide), if_pos trivial, if_neg (by omega), if_pos (by omega), if_pos (by omega), show (2 + 2 * i - 1) / 2 = i by omega, hx]
          rfl
        · rw [if_neg ha, if_neg ha]
          exact ol_arms hk hp hv ns' (i + 1) _ m1 m1' hd2 hlt hm1
      | _ => exact .stuck hm1
    · try dsimp only
      split
      · split
        · exact hT _ _ _
        · exact tr_arms hT _ _ _ _ _ _ _ _ _
      · exact tr_end
theorem ol_cong (h3k : k = 3 → δ s = none) {m m' : Ms} (hm : MR m m') : Ol VR (stepM R (.mk k n s t ns l) env m) (stepM R' (.mk k n s t ns l') env' m') := by
  rw [stepM_mk, stepM_mk, ← hl]
  by_cases hp : partsC k l.length ns.length (decide (t ≠ [])) ≠ l.length
  · rw [if_pos hp, if_pos hp]; exact .stuck hm
  rw [if_neg hp, if_neg hp]
  replace hp : partsC k l.length ns.length (decide (t ≠ [])) = l.length := by simpa using hp
  by_cases h1 : k = 1
  · rw [if_pos h1, if_pos h1]; exact .done .int hm
  rw [if_neg h1, if_neg h1]
  by_cases h2 : k = 2
  · rw [if_pos h2, if_pos h2]; exact .done .text hm
  rw [if_neg h2, if_neg h2]
  by_cases h3 : k = 3
  · rw [if_pos h3, if_pos h3]
    obtain ⟨v, w, hv, hw, hr⟩ := hE.val (x := s) (mem_fvs.2 (.inl ⟨h3, rfl⟩)) (h3k h3)
    rw [hv, hw]
    exact .done hr hm
  rw [if_neg h3, if_neg h3]
  by_cases h4 : k = 4
  · rw [if_pos h4, if_pos h4]
    subst h4
    have hll : l.length = 1 := by simp [partsC] at hp; omega
    obtain ⟨a1, a2⟩ := ol_at hl hS hE (i := 0) (by omega)
    rw [show bnd 4 s t ns 0 = [s] by simp [bnd]] at a1 a2
    exact .done (.fn (by simp [Dl.cut]) (fun h => by cases h) a1 (a2.mono fun x hx => ⟨⟨hx.1, by simpa using hx.2.1⟩, rfl⟩)) hm
  rw [if_neg h4, if_neg h4]
  by_cases h6 : k = 6
  · rw [if_pos h6, if_pos h6]
    subst h6
    have hll : l.length = 2 := by simp [partsC] at hp; omega
    exact (ol_p0 hR hl hS hE (i := 0) (by omega) (by simp [bnd]) hm).bind (fun v w m1 m1' hv hm1 => ol_p1 hR hl hS hE (i := 1) (by omega) (by simp [bnd]) hv hm1) fun v m1 => hT _ _ _
  rw [if_neg h6, if_neg h6]
  by_cases h7 : k = 7
  · rw [if_pos h7, if_pos h7]
    subst h7
    have hll : l.length = 2 := by simp [partsC] at hp; omega
    obtain ⟨a1, a2⟩ := ol_at hl hS hE (i := 0) (by omega)
    rw [show bnd 7 s t ns 0 = [s, t] by simp [bnd]] at a1 a2
    exact ol_p1 hR hl hS hE (i := 1) (by omega) (by simp [bnd]) (.fn (by simp [Dl.cut]) (fun h => by simp [Dl.cut]) a1 (a2.mono fun x hx => ⟨⟨hx.1, by simp [hx.2.1, hx.2.2]⟩, rfl⟩)) hm
  rw [if_neg h7, if_neg h7]
  by_cases h15 : k = 15
  · rw [if_pos h15, if_pos h15]
    subst h15
    have hll : l.length = 3 := by simp [partsC] at hp; omega
    unfold chooseM
    refine (ol_p0 hR hl hS hE (i := 0) (by omega) (by simp [bnd]) hm).bind (fun v w m1 m1' hv hm1 => ?_) fun v m1 => ?_
    · cases hv with
      | int =>
        rename_i a
        dsimp only
        by_cases ha : a ≠ 0
        · rw [if_pos ha, if_pos ha]; exact ol_p0 hR hl hS hE (i := 1) (by omega) (by simp [bnd]) hm1
        · rw [if_neg ha, if_neg ha]; exact ol_p0 hR hl hS hE (i := 2) (by omega) (by simp [bnd]) hm1
      | _ => exact .stuck hm1
    · try dsimp only
      split
      · split <;> exact hT _ _ _
      · exact tr_end
  rw [if_neg h15, if_neg h15]
  by_cases h14 : k = 14
  · rw [if_pos h14, if_pos h14]
    have hll : l.length = 1 + 2 * ns.length + (if t = [] then 0 else 1) := by
      rw [h14] at hp
      simp [partsC] at hp
      by_cases ht : t = []
      · simp [ht] at hp ⊢; omega
      · simp [ht] at hp ⊢; omega
    unfold casesM
    refine (ol_p0 hR hl hS hE (i := 0) (by omega) (by simp [bnd, h14]) hm).bind (fun v w m1 m1' hv hm1 => ?_) fun v m1 => ?_
    · cases hv with
      | tag hu => exact ol_arms hT hR hl hS hE h14 hll hu ns 0 0 m1 m1' rfl (Nat.zero_le _) hm1
      | _ => exact .stuck hm1
    · try dsimp only
      split
      · exact tr_arms hT _ _ _ _ _ _ _ _ _
      · exact tr_end
  rw [if_neg h14, if_neg h14]
  refine (ol_all (δ := δ) hT hR hl (fun i x y hx hy => ?_) (fun i x hx => ?_) hm).bind (fun vs ws m1 m1' hv hm1 => ol_do hR k s hv hm1) fun vs m1 => tr_do hT _ _ _ _
  · have := hS i x y hx hy
    rwa [bnd_nil h4 h6 h7 h14, Dl.cut_nil] at this
  · exact hE.mono fun z hz => ⟨mem_fvs.2 (.inr ⟨i, x, hx, hz, by simp [bnd_nil h4 h6 h7 h14]⟩), rfl⟩
end
theorem ER.isSome {δ : Dl} {F : Str → Prop} {env env' : En} (h : ER δ F env env') {x : Str} (hx : F x) : ∃ v, lookE env x = some v := by
  cases hd : δ x with
  | none => obtain ⟨v, _, hv, _⟩ := h.val hx hd; exact ⟨v, hv⟩
  | some n => exact ⟨_, h.num hx hd⟩
theorem Rs.bind_assoc {α β γ : Type} (r : Rs α) (k : α → Ms → Rs β) (k' : β → Ms → Rs γ) : (r.bind k).bind k' = r.bind fun a m => (k a m).bind k' := by
  obtain ⟨v, m⟩ := r
  cases v <;> rfl
theorem bind_done {α β : Type} (a : α) (m : Ms) (k : α → Ms → Rs β) : (done a m).bind k = k a m := rfl
/-- What comes to a value at once comes to. -/
def plV (env : En) : Co → Vl
  | .mk k n s _ _ l => if k = 1 then .int n else if k = 2 then .text s else if k = 3 then (lookE env s).getD zVl else .fn false [] s (prt l 0) env
def Ms.less (m : Ms) (d : Nat) : Ms := { m with fuel := m.fuel - d }
/-- Out of fuel, with nothing told. -/
def Gone {α : Type} (r : Rs α) (m : Ms) : Prop := ∃ m1, r = ⟨none, m1⟩ ∧ (m1.err = 0 ∨ m1.err = 8) ∧ m1.tr = m.tr
theorem gone_end {α : Type} {m : Ms} (h : m.err = 0) : Gone (endM (α := α) 8 0 m) m := by
  unfold endM
  rw [if_pos h]
  exact ⟨_, rfl, .inr rfl, rfl⟩
theorem Gone.bind {α β : Type} {r : Rs α} {m : Ms} {k : α → Ms → Rs β} (h : Gone r m) : Gone (r.bind k) m := by
  obtain ⟨m1, rfl, h1, h2⟩ := h
  exact ⟨m1, rfl, h1, h2⟩
theorem Gone.ol {α β : Type} {P : α → β → Prop} {r : Rs α} {m : Ms} {r' : Rs β} (h : Gone r m) (ht : m.tr <+: r'.m.tr) : Ol P r r' := by
  obtain ⟨m1, rfl, h1, h2⟩ := h
  exact .out h1 (by rw [h2]; exact ht)
theorem ev_plain {g : Nat} {p : Co} {env : En} {m : Ms} (hp : plainW p) (hl : ∀ n s t ns, p = .mk 3 n s t ns [] → ∃ v, lookE env s = some v) (h0 : m.err = 0) :
    (m.fuel = 0 ∨ g = 0) ∧ Gone (evM g p env m) m ∨ 0 < m.fuel ∧ 0 < g ∧ evM g p env m = ⟨some (plV env p), m.less 1⟩ := by
  cases g with
  | zero => exact .inl ⟨.inr rfl, m, by rw [evM], .inl h0, rfl⟩
  | succ g =>
    rw [evM]
    by_cases hf : m.fuel = 0
    · rw [if_pos hf]
      exact .inl ⟨.inl hf, gone_end h0⟩
    rw [if_neg hf]
    refine .inr ⟨by omega, by omega, ?_⟩
    obtain ⟨k, n, s, t, ns, l⟩ := p
    rw [stepM_mk]
    rcases hp with ⟨hk | hk | hk, rfl⟩ | ⟨rfl, h1⟩
    · subst hk
      rw [if_neg (by simp [partsC]), if_pos rfl]
      simp [plV, Ms.less, done]
    · subst hk
      rw [if_neg (by simp [partsC]), if_neg (by decide), if_pos rfl]
      simp [plV, Ms.less, done]
    · subst hk
      obtain ⟨v, hv⟩ := hl _ _ _ _ rfl
      rw [if_neg (by simp [partsC]), if_neg (by decide), if_neg (by decide), if_pos rfl, hv]
      simp [plV, hv, Ms.less, done]
    · rw [if_neg (by simp [partsC, h1]), if_neg (by decide), if_neg (by decide), if_neg (by decide), if_pos rfl]
      simp [plV, Ms.less, done]
theorem ev_int {g : Nat} {n : Int} {s t : Str} {ns : List Str} {env : En} {m : Ms} (h0 : m.err = 0) :
    Gone (evM g (.mk 1 n s t ns []) env m) m ∨ 0 < m.fuel ∧ 0 < g ∧ evM g (.mk 1 n s t ns []) env m = ⟨some (.int n), m.less 1⟩ := by
  rcases ev_plain (g := g) (p := .mk 1 n s t ns []) (env := env) (m := m) (.inl ⟨.inl rfl, rfl⟩) (fun _ _ _ _ h => by simp at h) h0 with h | h
  · exact .inl h.2
  · exact .inr h
theorem MR.less {m m' : Ms} (h : MR m m') (d : Nat) : MR (m.less d) m' := ⟨h.inp, h.err, h.err', h.fault, h.tr, h.st, Nat.le_trans (Nat.sub_le _ _) h.fuel⟩
theorem MR.less2 {m m' : Ms} (h : MR m m') (d e : Nat) (hd : e ≤ d) : MR (m.less d) (m'.less e) := ⟨h.inp, h.err, h.err', h.fault, h.tr, h.st, by have := h.fuel; show m.fuel - d ≤ m'.fuel - e; omega⟩
theorem less_less (m : Ms) (a b : Nat) : (m.less a).less b = m.less (a + b) := by simp [Ms.less, Nat.sub_sub]
theorem all_plain {g : Nat} {env : En} : ∀ {l : List Co} {m : Ms}, (∀ x ∈ l, plainW x) → (∀ n s t ns, .mk 3 n s t ns [] ∈ l → ∃ v, lookE env s = some v) → m.err = 0 →
    Gone (allM (evM g) env l m) m ∨ l.length ≤ m.fuel ∧ (l ≠ [] → 0 < g) ∧ allM (evM g) env l m = ⟨some (l.map (plV env)), m.less l.length⟩
  | [], m, _, _, h0 => .inr ⟨Nat.zero_le _, fun h => absurd rfl h, by simp [allM, done, Ms.less]⟩
  | x :: l, m, hp, hv, h0 => by
    rw [allM]
    rcases ev_plain (g := g) (env := env) (m := m) (hp x (by simp)) (fun n s t ns h => hv n s t ns (by simp [h])) h0 with ⟨_, h⟩ | ⟨h1, h2, h3⟩
    · exact .inl h.bind
    · rw [h3]
      show Gone ((allM (evM g) env l (m.less 1)).bind fun vs m => done (plV env x :: vs) m) m ∨ _ ∧ _ ∧ (allM (evM g) env l (m.less 1)).bind (fun vs m => done (plV env x :: vs) m) = _
      rcases all_plain (g := g) (env := env) (l := l) (m := m.less 1) (fun y hy => hp y (by simp [hy])) (fun n s t ns h => hv n s t ns (by simp [h])) h0 with h | ⟨h4, h5, h6⟩
      · exact .inl (Gone.bind (m := m) h)
      · rw [h6]
        have h4 : l.length ≤ m.fuel - 1 := h4
        exact .inr ⟨by simp only [List.length_cons]; omega, fun _ => h2, by show done _ _ = _; rw [less_less, List.length_cons, Nat.add_comm]; rfl⟩
theorem ol_ev : ∀ (g g' : Nat), g ≤ g' → ∀ (δ : Dl) (e f : Co) (env env' : En) (m m' : Ms), Sm δ e f → ER δ (fun x => x ∈ fvs e) env env' → MR m m' → Ol VR (evM g e env m) (evM g' f env' m')
  | 0, g', _, δ, e, f, env, env', m, m', hS, hE, hm => by
    rw [evM]
    exact .out (.inl hm.err) (by rw [hm.tr]; exact tr_ev g' f env' m')
  | g + 1, 0, h, _, _, _, _, _, _, _, _, _, _ => by omega
  | g + 1, g' + 1, hg, δ, e, f, env, env', m, m', hS, hE, hm => by
    by_cases hf : m.fuel = 0
    · rw [evM, if_pos hf]
      exact .none hm.err (by rw [hm.tr]; exact tr_ev (g' + 1) f env' m')
    have hfu := hm.fuel
    have hf' : ¬ m'.fuel = 0 := by omega
    have ih := fun (g2 : Nat) (h : g ≤ g2) => ol_ev g g2 h
    rw [evM, if_neg hf]
    have hend : ∀ (r : Rs Vl), Gone r (m.less 1) → Ol VR r (evM (g' + 1) f env' m') := fun r h => h.ol (by show m.tr <+: _; rw [hm.tr]; exact tr_ev (g' + 1) f env' m')
    show Ol VR (stepM (evM g) e env (m.less 1)) _
    have hm1 : MR (m.less 1) m' := hm.less 1
    have he0 : (m.less 1).err = 0 := hm.err
    have vars : ∀ p, (∀ x, x ∈ fvs p → x ∈ fvs e) → ∀ n s t ns, p = .mk 3 n s t ns [] → ∃ v, lookE env s = some v := fun p hp n s t ns h => hE.isSome (hp s (by rw [h]; exact mem_fvs.2 (.inl ⟨rfl, rfl⟩)))
    cases hS with
    | cong h3 hl hS =>
      rw [evM, if_neg hf']
      exact ol_cong (tr_ev g') (ih g' (by omega)) hl hS hE h3 (hm.less2 1 1 (Nat.le_refl _))
    | var hs =>
      rename_i n a s t ns
      rw [stepM_mk, if_neg (by simp [partsC]), if_neg (by decide), if_neg (by decide), if_pos rfl, hE.num (x := s) (mem_fvs.2 (.inl ⟨rfl, rfl⟩)) hs, evM, if_neg hf', num, stepM_mk, if_neg (by simp [partsC]), if_pos rfl]
      exact .done .int (hm.less2 1 1 (Nat.le_refl _))
    | op ho =>
      rename_i n a b c s t s1 t1 s2 t2 ns ns1 ns2
      rw [stepM_mk, if_neg (by simp [partsC])]
      repeat rw [if_neg (by decide)]
      simp only [allM, Rs.bind_assoc, bind_done]
      rcases ev_int (g := g) (n := a) (s := s1) (t := t1) (ns := ns1) (env := env) he0 with h | ⟨h1, h2, h3⟩
      · exact hend _ h.bind
      rw [h3]
      show Ol VR ((evM g (.mk 1 b s2 t2 ns2 []) env ((m.less 1).less 1)).bind _) _
      rcases ev_int (g := g) (n := b) (s := s2) (t := t2) (ns := ns2) (env := env) (m := (m.less 1).less 1) hm.err with h | ⟨h1, h2, h3⟩
      · exact hend _ (Gone.bind (m := m.less 1) h)
      rw [h3, less_less, less_less]
      show Ol VR (arithM s a b (m.less 3)) _
      have ha : arithM s a b (m.less 3) = done (.int c) (m.less 3) := by
        unfold opC at ho
        unfold arithM
        split at ho
        · cases ho; rw [if_pos ‹_›]
        · rw [if_neg ‹_›]
          split at ho
          · cases ho; rw [if_pos ‹_›]
          · rw [if_neg ‹_›]
            split at ho
            · cases ho; rw [if_pos ‹_›]
            · rw [if_neg ‹_›]
              split at ho
              · rw [if_pos ‹_›]
                split at ho
                · cases ho
                · cases ho; rw [if_neg ‹_›]
              · rw [if_neg ‹_›]
                split at ho
                · cases ho; rw [if_pos ‹_›]
                · rw [if_neg ‹_›]
                  split at ho
                  · cases ho; rw [if_pos ‹_›]
                  · cases ho
      rw [ha, evM, if_neg hf', num, stepM_mk, if_neg (by simp [partsC]), if_pos rfl]
      exact .done .int (hm.less2 3 1 (by omega))
    | iff hb =>
      rename_i n a s t s1 t1 ns ns1 b c
      rw [stepM_mk, if_neg (by simp [partsC])]
      repeat rw [if_neg (by decide)]
      rw [if_pos rfl]
      show Ol VR ((evM g (.mk 1 a s1 t1 ns1 []) env (m.less 1)).bind _) _
      rcases ev_int (g := g) (n := a) (s := s1) (t := t1) (ns := ns1) (env := env) he0 with h | ⟨h1, h2, h3⟩
      · exact hend _ h.bind
      rw [h3]
      show Ol VR (if a ≠ 0 then evM g b env ((m.less 1).less 1) else evM g c env ((m.less 1).less 1)) _
      have hq := ih (g' + 1) (by omega) δ _ f env env' _ m' hb (hE.mono fun x hx => ⟨?_, rfl⟩) (hm1.less 1)
      · by_cases ha : a ≠ 0
        · rw [if_pos ha] at hq ⊢; exact hq
        · rw [if_neg ha] at hq ⊢; exact hq
      · by_cases ha : a ≠ 0
        · rw [if_pos ha] at hx; exact mem_fvs.2 (.inr ⟨1, b, rfl, hx, by simp [bnd]⟩)
        · rw [if_neg ha] at hx; exact mem_fvs.2 (.inr ⟨2, c, rfl, hx, by simp [bnd]⟩)
    | sel hp h0 hx hS =>
      rename_i n n1 a s t s1 t1 s2 t2 ns ns1 ns2 l x
      have hsub : ∀ y ∈ l, ∀ z, z ∈ fvs y → z ∈ fvs (.mk 9 n s t ns [.mk 8 n1 s1 t1 ns1 l, .mk 1 a s2 t2 ns2 []]) := fun y hy z hz => by
        obtain ⟨j, hj⟩ := List.mem_iff_getElem?.1 hy
        exact mem_fvs.2 (.inr ⟨0, _, rfl, mem_fvs.2 (.inr ⟨j, y, hj, hz, by simp [bnd]⟩), by simp [bnd]⟩)
      have hvs : ∀ n s t ns, .mk 3 n s t ns [] ∈ l → ∃ v, lookE env s = some v := fun n s t ns h => vars _ (hsub _ h) n s t ns rfl
      have hxl := List.mem_of_getElem? hx
      rw [stepM_mk, if_neg (by simp [partsC])]
      repeat rw [if_neg (by decide)]
      simp only [allM, Rs.bind_assoc, bind_done]
      cases g with
      | zero => exact hend _ (Gone.bind ⟨_, by rw [evM], .inl he0, rfl⟩)
      | succ g0 =>
      by_cases hf1 : (m.less 1).fuel = 0
      · exact hend _ (Gone.bind (by rw [evM, if_pos hf1]; exact gone_end he0))
      have ht : Gone (evM (g0 + 1) (.mk 8 n1 s1 t1 ns1 l) env (m.less 1)) (m.less 1) ∨ 1 + l.length ≤ (m.less 1).fuel ∧ evM (g0 + 1) (.mk 8 n1 s1 t1 ns1 l) env (m.less 1) = ⟨some (.tup (l.map (plV env))), (m.less 1).less (1 + l.length)⟩ := by
        rw [evM, if_neg hf1, stepM_mk, if_neg (by simp [partsC])]
        repeat rw [if_neg (by decide)]
        rcases all_plain (g := g0) (env := env) (l := l) (m := (m.less 1).less 1) hp hvs hm.err with h | ⟨h1, h2, h3⟩
        · exact .inl (Gone.bind (m := m.less 1) h)
        · refine .inr ⟨?_, ?_⟩
          · have h1 : l.length ≤ (m.less 1).fuel - 1 := h1
            omega
          · show (allM (evM g0) env l ((m.less 1).less 1)).bind _ = _
            rw [h3, less_less]
            rfl
      rcases ht with h | ⟨ht1, ht2⟩
      · exact hend _ h.bind
      rw [ht2]
      show Ol VR ((evM (g0 + 1) (.mk 1 a s2 t2 ns2 []) env ((m.less 1).less (1 + l.length))).bind _) _
      rcases ev_int (g := g0 + 1) (n := a) (s := s2) (t := t2) (ns := ns2) (env := env) (m := (m.less 1).less (1 + l.length)) hm.err with h | ⟨h1, h2, h3⟩
      · exact hend _ (Gone.bind (m := m.less 1) h)
      rw [h3]
      show Ol VR (tupleM 9 (.tup (l.map (plV env))) (.int a) zVl (((m.less 1).less (1 + l.length)).less 1)) _
      have hlt : a.toNat < l.length := by
        rcases Nat.lt_or_ge a.toNat l.length with h | h
        · exact h
        · rw [List.getElem?_eq_none h] at hx; cases hx
      have hr : tupleM 9 (.tup (l.map (plV env))) (.int a) zVl (((m.less 1).less (1 + l.length)).less 1) = done (plV env x) (((m.less 1).less (1 + l.length)).less 1) := by
        unfold tupleM
        dsimp only
        rw [if_neg (by simp; omega), if_pos rfl, List.getElem?_map, hx]
        rfl
      rw [hr, less_less, less_less]
      have hq := ih (g' + 1) (by omega) δ x f env env' (m.less 1) m' hS (hE.mono fun z hz => ⟨hsub x hxl z hz, rfl⟩) hm1
      rcases ev_plain (g := g0 + 1) (p := x) (env := env) (m := m.less 1) (hp x hxl) (vars x (hsub x hxl)) he0 with ⟨h, _⟩ | ⟨_, _, h⟩
      · omega
      · rw [h, less_less] at hq
        generalize evM (g' + 1) f env' m' = r' at hq ⊢
        cases hq with
        | val hv hm2 => exact .val hv ⟨hm2.inp, hm2.err, hm2.err', hm2.fault, hm2.tr, hm2.st, Nat.le_trans (by show m.fuel - _ ≤ m.fuel - _; omega) hm2.fuel⟩
    | drop hp hs hb =>
      rename_i n s t ns p b
      have hsub : ∀ x, x ∈ fvs p → x ∈ fvs (.mk 6 n s t ns [p, b]) := fun x hx => mem_fvs.2 (.inr ⟨0, p, rfl, hx, by simp [bnd]⟩)
      rw [stepM_mk, if_neg (by simp [partsC])]
      repeat rw [if_neg (by decide)]
      rw [if_pos rfl]
      show Ol VR ((evM g p env (m.less 1)).bind fun v m => evM g b (.cons s v env) m) _
      rcases ev_plain (g := g) (p := p) (env := env) (m := m.less 1) hp (vars p hsub) he0 with ⟨_, h⟩ | ⟨_, _, h⟩
      · exact hend _ h.bind
      rw [h, less_less]
      refine ih (g' + 1) (by omega) (δ.cut [s]) b f (.cons s (plV env p) env) env' (m.less (1 + 1)) m' hb ?_ (hm.less _)
      refine .of (fun x a hx hd => ?_) fun x hx hd => ?_
      · have hxs : ¬ s = x := fun e => hs (by rw [e]; exact hx)
        rw [lookE, if_neg hxs]
        have hd' : δ x = some a := by simpa [Dl.cut, Ne.symm hxs] using hd
        exact hE.num (mem_fvs.2 (.inr ⟨1, b, rfl, hx, by simpa [bnd] using fun e => hxs (Eq.symm e)⟩)) hd'
      · have hxs : ¬ s = x := fun e => hs (by rw [e]; exact hx)
        rw [lookE, if_neg hxs]
        have hd' : δ x = none := by simpa [Dl.cut, Ne.symm hxs] using hd
        exact hE.val (mem_fvs.2 (.inr ⟨1, b, rfl, hx, by simpa [bnd] using fun e => hxs (Eq.symm e)⟩)) hd'
    | lett hb =>
      rename_i n a s t s1 t1 ns ns1 b
      rw [stepM_mk, if_neg (by simp [partsC])]
      repeat rw [if_neg (by decide)]
      rw [if_pos rfl]
      show Ol VR ((evM g (.mk 1 a s1 t1 ns1 []) env (m.less 1)).bind fun v m => evM g b (.cons s v env) m) _
      rcases ev_int (g := g) (n := a) (s := s1) (t := t1) (ns := ns1) (env := env) he0 with h | ⟨_, _, h⟩
      · exact hend _ h.bind
      rw [h, less_less]
      refine ih (g' + 1) (by omega) (δ.put s a) b f (.cons s (.int a) env) env' (m.less (1 + 1)) m' hb ?_ (hm.less _)
      refine .of (fun x c hx hd => ?_) fun x hx hd => ?_
      · by_cases hxs : s = x
        · rw [lookE, if_pos hxs]
          simpa [Dl.put, hxs] using hd
        · rw [lookE, if_neg hxs]
          have hd' : δ x = some c := by simpa [Dl.put, Ne.symm hxs] using hd
          exact hE.num (mem_fvs.2 (.inr ⟨1, b, rfl, hx, by simpa [bnd] using fun e => hxs (Eq.symm e)⟩)) hd'
      · by_cases hxs : s = x
        · simp [Dl.put, hxs] at hd
        · rw [lookE, if_neg hxs]
          have hd' : δ x = none := by simpa [Dl.put, Ne.symm hxs] using hd
          exact hE.val (mem_fvs.2 (.inr ⟨1, b, rfl, hx, by simpa [bnd] using fun e => hxs (Eq.symm e)⟩)) hd'
    | app ha hb =>
      rename_i n n1 k s s0 t t1 t2 ns ns1 ns2 a a' b b'
      rw [stepM_mk, if_neg (by simp [partsC])]
      repeat rw [if_neg (by decide)]
      simp only [allM, Rs.bind_assoc, bind_done]
      rcases ev_plain (g := g) (p := .mk 4 n1 s t1 ns1 [b]) (env := env) (m := m.less 1) (.inr ⟨rfl, rfl⟩) (fun _ _ _ _ h => by simp at h) he0 with ⟨_, h⟩ | ⟨_, _, h⟩
      · exact hend _ h.bind
      rw [h, less_less]
      rw [evM, if_neg hf', stepM_mk, if_neg (by simp [partsC])]
      repeat rw [if_neg (by decide)]
      rw [if_pos rfl]
      show Ol VR ((evM g a env (m.less (1 + 1))).bind fun v m1 => evM g b (.cons s v env) m1) ((evM g' a' env' (m'.less 1)).bind fun v m1 => evM g' b' (.cons s v env') m1)
      refine (ih g' (by omega) δ a a' env env' _ _ ha (hE.mono fun x hx => ⟨mem_fvs.2 (.inr ⟨1, a, rfl, hx, by simp [bnd]⟩), rfl⟩) (hm.less2 _ _ (by omega))).bind (fun v w m1 m1' hv hm1 => ?_) fun v m1 => tr_ev g' _ _ _
      refine ih g' (by omega) (δ.cut [s]) b b' _ _ m1 m1' hb (hE.cons hv (by simp [Dl.cut]) fun x hx hne => ⟨?_, by simp [Dl.cut, hne]⟩) hm1
      exact mem_fvs.2 (.inr ⟨0, _, rfl, mem_fvs.2 (.inr ⟨0, b, rfl, hx, by simpa [bnd] using hne⟩), by simp [bnd]⟩)
end Go.Proofs.YtbifjffjibnjjaaDoor

/-
  Folding, plainly: what is folded is no greater, has no other free names, and is come to by steps. (Own work.)
-/
set_option linter.unusedVariables false
set_option linter.unusedSimpArgs false
namespace Go.Proofs.YtbifjffjibnjjaaDoor
open Go Go.Abs

/-! ### Folding, plainly -/
def knd : Co → Int
  | .mk k _ _ _ _ _ => k
def nOf : Co → Int
  | .mk _ n _ _ _ _ => n
def sOf : Co → Str
  | .mk _ _ s _ _ _ => s
def lOf : Co → List Co
  | .mk _ _ _ _ _ l => l
def plainC (e : Co) : Bool := knd e == 1 || knd e == 2 || knd e == 4 || knd e == 3
mutual
/-- An integer put in for a name where that is free. -/
def putC (x : Str) (n : Int) : Co → Co
  | .mk k m s t ns l => if k = 3 ∧ s = x then num n else .mk k m s t ns (putL x n k s t ns 0 l)
def putL (x : Str) (n : Int) (k : Int) (s t : Str) (ns : List Str) : Nat → List Co → List Co
  | _, [] => []
  | i, e :: l => (if x ∈ bnd k s t ns i then e else putC x n e) :: putL x n k s t ns (i + 1) l
end
theorem putL_get {x : Str} {n k : Int} {s t : Str} {ns : List Str} : ∀ {l : List Co} {i j : Nat}, (putL x n k s t ns j l)[i]? = (l[i]?).map fun e => if x ∈ bnd k s t ns (j + i) then e else putC x n e
  | [], i, j => by simp [putL]
  | e :: l, 0, j => by simp [putL]
  | e :: l, i + 1, j => by
    rw [putL, List.getElem?_cons_succ, putL_get (l := l), List.getElem?_cons_succ, show j + 1 + i = j + (i + 1) by omega]
theorem putL_len {x : Str} {n k : Int} {s t : Str} {ns : List Str} : ∀ (l : List Co) (j : Nat), (putL x n k s t ns j l).length = l.length
  | [], j => by simp [putL]
  | e :: l, j => by simp [putL, putL_len l]
def wholeK (k0 : Int) (ks : List Int) (e : Co) : Bool := knd e == k0 && decide (ks.length ≤ (lOf e).length) && ks.zipIdx.all fun p => p.1 == 0 || knd (prt (lOf e) p.2) == p.1
def letC (F : Co → Co) (e : Co) : Co :=
  if (lOf e).length ≠ 2 then e
  else if plainC (prt (lOf e) 0) = true ∧ sOf e ∉ fvs (prt (lOf e) 1) then prt (lOf e) 1
  else if knd (prt (lOf e) 0) = 1 then F (putC (sOf e) (nOf (prt (lOf e) 0)) (prt (lOf e) 1))
  else e
def lookC (F : Co → Co) (e : Co) : Co :=
  if wholeK 16 [1, 1] e = true ∧ (lOf e).length = 2 then (match opC (sOf e) (nOf (prt (lOf e) 0)) (nOf (prt (lOf e) 1)) with
    | some n => num n
    | none => e)
  else if wholeK 15 [1] e = true ∧ (lOf e).length = 3 then (if nOf (prt (lOf e) 0) ≠ 0 then prt (lOf e) 1 else prt (lOf e) 2)
  else if wholeK 9 [8, 1] e = true ∧ (lOf e).length = 2 then
    (if 0 ≤ nOf (prt (lOf e) 1) ∧ nOf (prt (lOf e) 1) < (lOf (prt (lOf e) 0)).length ∧ (lOf (prt (lOf e) 0)).all plainC = true then prt (lOf (prt (lOf e) 0)) (nOf (prt (lOf e) 1)).toNat else e)
  else if knd e = 6 then letC F e
  else if wholeK 5 [4] e = true ∧ (lOf e).length = 2 ∧ (lOf (prt (lOf e) 0)).length = 1 ∧ (knd (prt (lOf e) 1) = 1 ∨ knd (prt (lOf e) 1) = 2) then
    letC F (.mk 6 0 (sOf (prt (lOf e) 0)) [] [] [prt (lOf e) 1, prt (lOf (prt (lOf e) 0)) 0])
  else e
def foldC : Nat → Co → Co
  | 0, e => e
  | g + 1, .mk k n s t ns l => lookC (foldC g) (.mk k n s t ns (l.map (foldC g)))

theorem letC_mk {F : Co → Co} {k n : Int} {s t : Str} {ns : List Str} {l : List Co} : letC F (.mk k n s t ns l) = if l.length ≠ 2 then .mk k n s t ns l
  else if plainC (prt l 0) = true ∧ s ∉ fvs (prt l 1) then prt l 1
  else if knd (prt l 0) = 1 then F (putC s (nOf (prt l 0)) (prt l 1))
  else .mk k n s t ns l := rfl
theorem lookC_mk {F : Co → Co} {k n : Int} {s t : Str} {ns : List Str} {l : List Co} : lookC F (.mk k n s t ns l) =
  if wholeK 16 [1, 1] (.mk k n s t ns l) = true ∧ l.length = 2 then (match opC s (nOf (prt l 0)) (nOf (prt l 1)) with
    | some n => num n
    | none => .mk k n s t ns l)
  else if wholeK 15 [1] (.mk k n s t ns l) = true ∧ l.length = 3 then (if nOf (prt l 0) ≠ 0 then prt l 1 else prt l 2)
  else if wholeK 9 [8, 1] (.mk k n s t ns l) = true ∧ l.length = 2 then
    (if 0 ≤ nOf (prt l 1) ∧ nOf (prt l 1) < (lOf (prt l 0)).length ∧ (lOf (prt l 0)).all plainC = true then prt (lOf (prt l 0)) (nOf (prt l 1)).toNat else .mk k n s t ns l)
  else if k = 6 then letC F (.mk k n s t ns l)
  else if wholeK 5 [4] (.mk k n s t ns l) = true ∧ l.length = 2 ∧ (lOf (prt l 0)).length = 1 ∧ (knd (prt l 1) = 1 ∨ knd (prt l 1) = 2) then
    letC F (.mk 6 0 (sOf (prt l 0)) [] [] [prt l 1, prt (lOf (prt l 0)) 0])
  else .mk k n s t ns l := rfl
theorem whole_k' {k0 k n : Int} {s t : Str} {ns : List Str} {l : List Co} {ks : List Int} (h : wholeK k0 ks (.mk k n s t ns l) = true) : k = k0 ∧ ks.length ≤ l.length ∧ ∀ (i : Nat) c, ks[i]? = some c → c ≠ 0 → knd (prt l i) = c := by
  simp only [wholeK, Bool.and_eq_true, beq_iff_eq, decide_eq_true_eq, List.all_eq_true, Bool.or_eq_true] at h
  refine ⟨h.1.1, h.1.2, fun i c hc h0 => ?_⟩
  have hz : (c, i) ∈ ks.zipIdx := by
    rw [List.mk_mem_zipIdx_iff_getElem?]
    exact hc
  rcases h.2 (c, i) hz with h | h
  · exact absurd h h0
  · exact h
/-- No greater, with no more nodes, and no other free names. -/
structure Sub (f e : Co) : Prop where
  c : csz f ≤ csz e
  n : nds f ≤ nds e
  v : ∀ x, x ∈ fvs f → x ∈ fvs e
theorem Sub.rfl' (e : Co) : Sub e e := ⟨Nat.le_refl _, Nat.le_refl _, fun _ h => h⟩
theorem Sub.trans {a b c : Co} (h : Sub a b) (k : Sub b c) : Sub a c := ⟨Nat.le_trans h.c k.c, Nat.le_trans h.n k.n, fun x hx => k.v x (h.v x hx)⟩
theorem ndsL_mem {l : List Co} {x : Co} (h : x ∈ l) : nds x ≤ ndsL l := by
  induction l with
  | nil => cases h
  | cons y l ih =>
    simp only [ndsL]
    rcases List.mem_cons.1 h with rfl | h
    · omega
    · have := ih h; omega
theorem Sub.part {k n : Int} {s t : Str} {ns : List Str} {l : List Co} {i : Nat} (h : i < l.length) (hb : bnd k s t ns i = []) : Sub (prt l i) (.mk k n s t ns l) := by
  have hm := List.mem_of_getElem? (prt_get h)
  have h1 := cszL_mem hm
  have h2 := ndsL_mem hm
  refine ⟨by simp only [csz]; omega, by simp only [nds]; omega, fun x hx => mem_fvs.2 (.inr ⟨i, _, prt_get h, hx, by simp [hb]⟩)⟩
theorem sub_num (m : Int) (e : Co) : Sub (num m) e := by
  refine ⟨?_, ?_, ?_⟩
  · have := csz_pos e; simpa [num, csz, cszL, nsz] using this
  · cases e; simp [num, nds, ndsL]
  · intro x hx; simp [num, fvs, fvL] at hx
theorem Sub.cong {k n : Int} {s t : Str} {ns : List Str} {l l' : List Co} (hl : l'.length = l.length) (h : ∀ (i : Nat) x y, l[i]? = some x → l'[i]? = some y → Sub y x) : Sub (.mk k n s t ns l') (.mk k n s t ns l) := by
  refine ⟨?_, ?_, ?_⟩
  · have : cszL l' ≤ cszL l := by
      clear n s t ns
      induction l generalizing l' with
      | nil => have : l' = [] := by simpa using hl
               rw [this]; exact Nat.le_refl _
      | cons x l ih =>
        cases l' with
        | nil => simp at hl
        | cons y l' =>
          have h1 := (h 0 x y rfl rfl).c
          have h2 := ih (l' := l') (by simpa using hl) fun i a b ha hb => h (i + 1) a b (by simpa using ha) (by simpa using hb)
          simp only [cszL]; omega
    simp only [csz]; omega
  · have : ndsL l' ≤ ndsL l := by
      clear n s t ns
      induction l generalizing l' with
      | nil => have : l' = [] := by simpa using hl
               rw [this]; exact Nat.le_refl _
      | cons x l ih =>
        cases l' with
        | nil => simp at hl
        | cons y l' =>
          have h1 := (h 0 x y rfl rfl).n
          have h2 := ih (l' := l') (by simpa using hl) fun i a b ha hb => h (i + 1) a b (by simpa using ha) (by simpa using hb)
          simp only [ndsL]; omega
    simp only [nds]; omega
  · intro z hz
    rcases mem_fvs.1 hz with h1 | ⟨i, y, hy, hz, hb⟩
    · exact mem_fvs.2 (.inl h1)
    · obtain ⟨x, hx⟩ : ∃ x, l[i]? = some x := ⟨_, List.getElem?_eq_getElem (by rw [← hl]; exact (List.getElem?_eq_some_iff.1 hy).1)⟩
      exact mem_fvs.2 (.inr ⟨i, x, hx, (h i x y hx hy).v z hz, hb⟩)
/-- What a name is put in: it is no more free. -/
theorem sub_put (x : Str) (n : Int) (e : Co) : csz (putC x n e) ≤ csz e ∧ nds (putC x n e) ≤ nds e ∧ ∀ z, z ∈ fvs (putC x n e) → z ∈ fvs e ∧ z ≠ x := by
  refine Co.ind (P := fun e => csz (putC x n e) ≤ csz e ∧ nds (putC x n e) ≤ nds e ∧ ∀ z, z ∈ fvs (putC x n e) → z ∈ fvs e ∧ z ≠ x) (fun k m s t ns l ih => ?_) e
  rw [putC]
  by_cases h3 : k = 3 ∧ s = x
  · rw [if_pos h3]
    have := sub_num n (.mk k m s t ns l)
    exact ⟨this.c, this.n, fun z hz => by simp [num, fvs, fvL] at hz⟩
  rw [if_neg h3]
  have hi : ∀ (i : Nat) a b, l[i]? = some a → (putL x n k s t ns 0 l)[i]? = some b → b = if x ∈ bnd k s t ns i then a else putC x n a := fun i a b ha hb => by
    rw [putL_get, ha, Nat.zero_add] at hb
    exact (Option.some.inj hb).symm
  have hs := Sub.cong (k := k) (n := m) (s := s) (t := t) (ns := ns) (l := l) (l' := putL x n k s t ns 0 l) (putL_len l 0) fun i a b ha hb => by
    rw [hi i a b ha hb]
    split
    · exact .rfl' _
    · obtain ⟨h1, h2, h3⟩ := ih a (List.mem_of_getElem? ha)
      exact ⟨h1, h2, fun z hz => (h3 z hz).1⟩
  refine ⟨hs.c, hs.n, fun z hz => ⟨hs.v z hz, ?_⟩⟩
  rcases mem_fvs.1 hz with ⟨h1, h2⟩ | ⟨i, y, hy, hz, hb⟩
  · rw [h2]
    exact fun e => h3 ⟨h1, e⟩
  · obtain ⟨a, ha⟩ : ∃ a, l[i]? = some a := ⟨_, List.getElem?_eq_getElem (by rw [← putL_len (x := x) (n := n) (k := k) (s := s) (t := t) (ns := ns) l 0]; exact (List.getElem?_eq_some_iff.1 hy).1)⟩
    rw [hi i a y ha hy] at hz
    split at hz
    · rename_i hx
      exact fun e => hb (by rw [e]; exact hx)
    · exact ((ih a (List.mem_of_getElem? ha)).2.2 z hz).2
theorem sub_let {F : Co → Co} (hF : ∀ e, Sub (F e) e) {n : Int} {s t : Str} {ns : List Str} {l : List Co} : Sub (letC F (.mk 6 n s t ns l)) (.mk 6 n s t ns l) := by
  rw [letC_mk]
  by_cases hl : l.length ≠ 2
  · rw [if_pos hl]; exact .rfl' _
  rw [if_neg hl]
  have hl : l.length = 2 := by omega
  have hm := List.mem_of_getElem? (prt_get (l := l) (i := 1) (by omega))
  have h1 := cszL_mem hm
  have h2 := ndsL_mem hm
  by_cases hp : plainC (prt l 0) = true ∧ s ∉ fvs (prt l 1)
  · rw [if_pos hp]
    refine ⟨by simp only [csz]; omega, by simp only [nds]; omega, fun x hx => mem_fvs.2 (.inr ⟨1, _, prt_get (by omega), hx, ?_⟩)⟩
    simp only [bnd]
    simp
    exact fun e => hp.2 (by rw [← e]; exact hx)
  rw [if_neg hp]
  by_cases hk : knd (prt l 0) = 1
  · rw [if_pos hk]
    obtain ⟨a1, a2, a3⟩ := sub_put s (nOf (prt l 0)) (prt l 1)
    refine (hF _).trans ⟨by simp only [csz]; omega, by simp only [nds]; omega, fun x hx => mem_fvs.2 (.inr ⟨1, _, prt_get (by omega), (a3 x hx).1, ?_⟩)⟩
    simp [bnd, (a3 x hx).2]
  · rw [if_neg hk]; exact .rfl' _
theorem sub_look {F : Co → Co} (hF : ∀ e, Sub (F e) e) (e : Co) : Sub (lookC F e) e := by
  obtain ⟨k, n, s, t, ns, l⟩ := e
  rw [lookC_mk]
  split
  · split
    · exact sub_num _ _
    · exact .rfl' _
  split
  · rename_i h
    have hk := (whole_k' h.1).1
    subst hk
    split
    · exact Sub.part (by omega) (by simp [bnd])
    · exact Sub.part (by omega) (by simp [bnd])
  split
  · rename_i h
    obtain ⟨hk, _, hks⟩ := whole_k' h.1
    have h8 := hks 0 8 rfl (by decide)
    subst hk
    split
    · rename_i ha
      refine .trans ?_ (Sub.part (i := 0) (by omega) (by simp [bnd]))
      generalize prt l 0 = p at ha h8 ⊢
      obtain ⟨k, n, s, t, ns, l⟩ := p
      simp only [knd] at h8
      subst h8
      simp only [lOf] at ha ⊢
      exact Sub.part (by omega) (by simp [bnd])
    · exact .rfl' _
  split
  · rename_i h
    subst h
    exact sub_let hF
  split
  · rename_i h
    obtain ⟨h, hl, hl2, hq⟩ := h
    obtain ⟨hk, _, hks⟩ := whole_k' h
    have h4 := hks 0 4 rfl (by decide)
    subst hk
    refine (sub_let hF).trans ?_
    match l, hl with
    | [p, a], _ =>
    obtain ⟨k, n, s, t, ns, l⟩ := p
    have h4 : k = 4 := h4
    subst h4
    match l, hl2 with
    | [b], _ =>
    show Sub (.mk 6 0 s [] [] [a, b]) (.mk 5 _ _ _ _ [.mk 4 n s t ns [b], a])
    refine ⟨?_, ?_, fun x hx => ?_⟩
    · simp only [csz, cszL, nsz, List.length_nil]; omega
    · simp only [nds, ndsL]; omega
    · rcases mem_fvs.1 hx with ⟨h1, _⟩ | ⟨i, y, hy, hz, hb⟩
      · cases h1
      · match i with
        | 0 => cases hy; exact mem_fvs.2 (.inr ⟨1, a, rfl, hz, by simp [bnd]⟩)
        | 1 =>
          cases hy
          exact mem_fvs.2 (.inr ⟨0, _, rfl, mem_fvs.2 (.inr ⟨0, b, rfl, hz, by simpa [bnd] using hb⟩), by simp [bnd]⟩)
        | i + 2 => simp at hy
  · exact .rfl' _
theorem sub_fold : ∀ (g : Nat) (e : Co), Sub (foldC g e) e
  | 0, e => .rfl' _
  | g + 1, .mk k n s t ns l => by
    rw [foldC]
    refine (sub_look (sub_fold g) _).trans (.cong (by simp) fun i x y hx hy => ?_)
    rw [List.getElem?_map, hx] at hy
    cases hy
    exact sub_fold g x
/-! ### Folding is steps -/
inductive Ch : Co → Co → Prop
  | refl (e : Co) : Ch e e
  | step {e g f : Co} : Sm dl0 e g → Ch g f → Ch e f
theorem Ch.trans {a b c : Co} (h : Ch a b) (k : Ch b c) : Ch a c := by
  induction h with
  | refl => exact k
  | step h1 _ ih => exact .step h1 (ih k)
theorem Ch.one {a b : Co} (h : Sm dl0 a b) : Ch a b := .step h (.refl _)
theorem Ch.at {k n : Int} {s t : Str} {ns : List Str} {pre post : List Co} {x y : Co} (h : Ch x y) : Ch (.mk k n s t ns (pre ++ x :: post)) (.mk k n s t ns (pre ++ y :: post)) := by
  induction h with
  | refl => exact .refl _
  | @step a b c h1 _ ih =>
    refine .step (.cong (fun _ => rfl) (by simp) fun i u v hu hv => ?_) ih
    rw [dl0_cut]
    rcases Nat.lt_trichotomy i pre.length with hi | hi | hi
    · rw [List.getElem?_append_left hi] at hu hv
      rw [hu] at hv
      cases hv
      exact .rfl0 _
    · subst hi
      simp at hu hv
      subst hu
      subst hv
      exact h1
    · obtain ⟨j, hj⟩ : ∃ j, i - pre.length = j + 1 := ⟨i - pre.length - 1, by omega⟩
      rw [List.getElem?_append_right (by omega), hj, List.getElem?_cons_succ] at hu hv
      rw [hu] at hv
      cases hv
      exact .rfl0 _
theorem Ch.map {k n : Int} {s t : Str} {ns : List Str} {F : Co → Co} : ∀ (post pre : List Co), (∀ x ∈ post, Ch x (F x)) → Ch (.mk k n s t ns (pre ++ post)) (.mk k n s t ns (pre ++ post.map F))
  | [], pre, _ => .refl _
  | x :: post, pre, h => by
    have h1 := Ch.at (k := k) (n := n) (s := s) (t := t) (ns := ns) (pre := pre) (post := post) (h x (by simp))
    have h2 := Ch.map (k := k) (n := n) (s := s) (t := t) (ns := ns) (F := F) post (pre ++ [F x]) fun y hy => h y (by simp [hy])
    simp only [List.append_assoc, List.singleton_append] at h2
    exact h1.trans h2
mutual
/-- All parts are there. -/
def whC : Co → Prop
  | .mk k _ _ t ns l => partsC k l.length ns.length (decide (t ≠ [])) = l.length ∧ whCs l
def whCs : List Co → Prop
  | [] => True
  | x :: l => whC x ∧ whCs l
end
theorem whCs_iff : ∀ {l : List Co}, whCs l ↔ ∀ x ∈ l, whC x
  | [] => by simp [whCs]
  | x :: l => by simp [whCs, whCs_iff (l := l)]
theorem whC_mk {k n : Int} {s t : Str} {ns : List Str} {l : List Co} : whC (.mk k n s t ns l) ↔ partsC k l.length ns.length (decide (t ≠ [])) = l.length ∧ ∀ x ∈ l, whC x := by rw [whC, whCs_iff]
theorem whC_num (n : Int) : whC (num n) := whC_mk.2 ⟨by simp [partsC], by simp⟩
theorem put_eq {k n : Int} {s t x : Str} {ns : List Str} {l : List Co} {i : Nat} {a b : Co} (ha : l[i]? = some a) (hb : (putL x n k s t ns 0 l)[i]? = some b) : b = if x ∈ bnd k s t ns i then a else putC x n a := by
  rw [putL_get, ha, Nat.zero_add] at hb
  exact (Option.some.inj hb).symm
theorem whC_put (x : Str) (n : Int) (e : Co) : whC e → whC (putC x n e) := by
  refine Co.ind (P := fun e => whC e → whC (putC x n e)) (fun k m s t ns l ih h => ?_) e
  rw [putC]
  split
  · exact whC_num n
  · obtain ⟨h1, h2⟩ := whC_mk.1 h
    refine whC_mk.2 ⟨by rw [putL_len]; exact h1, fun y hy => ?_⟩
    obtain ⟨i, hi⟩ := List.mem_iff_getElem?.1 hy
    obtain ⟨a, ha⟩ : ∃ a, l[i]? = some a := ⟨_, List.getElem?_eq_getElem (by rw [← putL_len (x := x) (n := n) (k := k) (s := s) (t := t) (ns := ns) l 0]; exact (List.getElem?_eq_some_iff.1 hi).1)⟩
    rw [put_eq ha hi]
    have hal := List.mem_of_getElem? ha
    split
    · exact h2 a hal
    · exact ih a hal (h2 a hal)
theorem sm_put (x : Str) (n : Int) (e : Co) : ∀ δ : Dl, whC e → δ x = some n → (∀ y, y ≠ x → δ y = none) → Sm δ e (putC x n e) := by
  refine Co.ind (P := fun e => ∀ δ : Dl, whC e → δ x = some n → (∀ y, y ≠ x → δ y = none) → Sm δ e (putC x n e)) (fun k m s t ns l ih δ hw hx hy => ?_) e
  obtain ⟨h1, h2⟩ := whC_mk.1 hw
  rw [putC]
  by_cases h3 : k = 3 ∧ s = x
  · rw [if_pos h3]
    obtain ⟨rfl, rfl⟩ := h3
    have hl : l = [] := by
      simp [partsC] at h1
      exact List.length_eq_zero_iff.1 (by omega)
    subst hl
    exact .var hx
  · rw [if_neg h3]
    refine .cong (fun hk => hy s fun e => h3 ⟨hk, e⟩) (putL_len l 0).symm fun i a b ha hb => ?_
    rw [put_eq ha hb]
    split
    · rename_i hm
      have : δ.cut (bnd k s t ns i) = dl0 := by
        funext y
        by_cases hyx : y = x
        · rw [hyx]; simp [Dl.cut, hm, dl0]
        · simp [Dl.cut, dl0, hy y hyx]
      rw [this]
      exact .rfl0 _
    · rename_i hm
      exact ih a (List.mem_of_getElem? ha) _ (h2 a (List.mem_of_getElem? ha)) (by simp [Dl.cut, hm, hx]) fun y hyx => by simp [Dl.cut, hy y hyx]
theorem wh_int {e : Co} (h : whC e) (hk : knd e = 1) : ∃ s t ns, e = .mk 1 (nOf e) s t ns [] := by
  obtain ⟨k, n, s, t, ns, l⟩ := e
  have hk : k = 1 := hk
  subst hk
  obtain ⟨h1, h2⟩ := whC_mk.1 h
  have hl : l = [] := by
    simp [partsC] at h1
    exact List.length_eq_zero_iff.1 (by omega)
  subst hl
  exact ⟨s, t, ns, rfl⟩
theorem wh_plain {e : Co} (h : whC e) (hk : plainC e = true) : plainW e := by
  obtain ⟨k, n, s, t, ns, l⟩ := e
  obtain ⟨h1, h2⟩ := whC_mk.1 h
  simp only [plainC, knd, Bool.or_eq_true, beq_iff_eq] at hk
  rcases hk with ((rfl | rfl) | rfl) | rfl
  · exact .inl ⟨.inl rfl, List.length_eq_zero_iff.1 (by simp [partsC] at h1; omega)⟩
  · exact .inl ⟨.inr (.inl rfl), List.length_eq_zero_iff.1 (by simp [partsC] at h1; omega)⟩
  · exact .inr ⟨rfl, by simp [partsC] at h1; omega⟩
  · exact .inl ⟨.inr (.inr rfl), List.length_eq_zero_iff.1 (by simp [partsC] at h1; omega)⟩
/-- It is whole again, by steps. -/
def Fs (f e : Co) : Prop := whC f ∧ Ch e f
theorem fs_let {F : Co → Co} (hF : ∀ e, whC e → Fs (F e) e) {n : Int} {s t : Str} {ns : List Str} {a b : Co} (ha : whC a) (hb : whC b) : Fs (letC F (.mk 6 n s t ns [a, b])) (.mk 6 n s t ns [a, b]) := by
  rw [letC_mk, if_neg (by simp)]
  show Fs (if plainC a = true ∧ s ∉ fvs b then b else if knd a = 1 then F (putC s (nOf a) b) else .mk 6 n s t ns [a, b]) _
  by_cases hp : plainC a = true ∧ s ∉ fvs b
  · rw [if_pos hp]
    exact ⟨hb, .one (.drop (wh_plain ha hp.1) hp.2 (by rw [dl0_cut]; exact .rfl0 _))⟩
  rw [if_neg hp]
  by_cases hk : knd a = 1
  · rw [if_pos hk]
    obtain ⟨h1, h2⟩ := hF _ (whC_put s (nOf a) b hb)
    refine ⟨h1, .step ?_ h2⟩
    obtain ⟨s1, t1, ns1, h3⟩ := wh_int ha hk
    have : Sm dl0 (.mk 6 n s t ns [.mk 1 (nOf a) s1 t1 ns1 [], b]) (putC s (nOf a) b) := .lett (sm_put s (nOf a) b _ hb (by simp [Dl.put]) fun y hy => by simp [Dl.put, hy, dl0])
    rwa [← h3] at this
  · rw [if_neg hk]
    exact ⟨whC_mk.2 ⟨by simp [partsC], by simp [ha, hb]⟩, .refl _⟩
theorem fs_look {F : Co → Co} (hF : ∀ e, whC e → Fs (F e) e) {e : Co} (h : whC e) : Fs (lookC F e) e := by
  obtain ⟨k, n, s, t, ns, l⟩ := e
  obtain ⟨h1, h2⟩ := whC_mk.1 h
  have hself : Fs (.mk k n s t ns l) (.mk k n s t ns l) := ⟨h, .refl _⟩
  rw [lookC_mk]
  split
  · rename_i hw
    obtain ⟨hk, _, hks⟩ := whole_k' hw.1
    have k0 := hks 0 1 rfl (by decide)
    have k1 := hks 1 1 rfl (by decide)
    subst hk
    match l, hw.2 with
    | [a, b], _ =>
    obtain ⟨s1, t1, ns1, ha⟩ := wh_int (h2 a (by simp)) k0
    obtain ⟨s2, t2, ns2, hb⟩ := wh_int (h2 b (by simp)) k1
    show Fs (match opC s (nOf a) (nOf b) with
    | some n => num n
    | none => .mk 16 n s t ns [a, b]) _
    cases ho : opC s (nOf a) (nOf b) with
    | none => exact hself
    | some c =>
      refine ⟨whC_num c, .one ?_⟩
      rw [ha, hb]
      exact .op ho
  split
  · rename_i hw
    obtain ⟨hk, _, hks⟩ := whole_k' hw.1
    have k0 := hks 0 1 rfl (by decide)
    subst hk
    match l, hw.2 with
    | [a, b, c], _ =>
    obtain ⟨s1, t1, ns1, ha⟩ := wh_int (h2 a (by simp)) k0
    show Fs (if nOf a ≠ 0 then b else c) _
    refine ⟨?_, .one ?_⟩
    · split
      · exact h2 b (by simp)
      · exact h2 c (by simp)
    · generalize hn : nOf a = m at ha ⊢
      rw [ha]
      exact .iff (.rfl0 _)
  split
  · rename_i hw
    obtain ⟨hk, _, hks⟩ := whole_k' hw.1
    have k0 := hks 0 8 rfl (by decide)
    have k1 := hks 1 1 rfl (by decide)
    subst hk
    match l, hw.2 with
    | [p, b], _ =>
    obtain ⟨s2, t2, ns2, hb⟩ := wh_int (h2 b (by simp)) k1
    have hp := h2 p (by simp)
    obtain ⟨k, n1, s1, t1, ns1, lp⟩ := p
    have k0 : k = 8 := k0
    subst k0
    obtain ⟨_, hpl⟩ := whC_mk.1 hp
    show Fs (if 0 ≤ nOf b ∧ nOf b < lp.length ∧ lp.all plainC = true then prt lp (nOf b).toNat else .mk 9 n s t ns [.mk 8 n1 s1 t1 ns1 lp, b]) _
    split
    · rename_i hc
      have hx := prt_get (l := lp) (i := (nOf b).toNat) (by omega)
      refine ⟨hpl _ (List.mem_of_getElem? hx), .one ?_⟩
      generalize hn : nOf b = m at hb hc hx ⊢
      rw [hb]
      exact .sel (fun x hx => wh_plain (hpl x hx) (List.all_eq_true.1 hc.2.2 x hx)) hc.1 hx (.rfl0 _)
    · exact hself
  split
  · rename_i hk
    subst hk
    have hl : l.length = 2 := by simp [partsC] at h1; omega
    match l, hl with
    | [a, b], _ => exact fs_let hF (h2 a (by simp)) (h2 b (by simp))
  split
  · rename_i hw
    obtain ⟨hw, hl, hl2, hq⟩ := hw
    obtain ⟨hk, _, hks⟩ := whole_k' hw
    have k0 := hks 0 4 rfl (by decide)
    subst hk
    match l, hl with
    | [p, a], _ =>
    have hp := h2 p (by simp)
    have ha := h2 a (by simp)
    obtain ⟨k, n1, s1, t1, ns1, lp⟩ := p
    have k0 : k = 4 := k0
    subst k0
    obtain ⟨_, hpl⟩ := whC_mk.1 hp
    match lp, hl2 with
    | [b], _ =>
    have hb := hpl b (by simp)
    obtain ⟨g1, g2⟩ := fs_let hF (n := 0) (s := s1) (t := []) (ns := []) ha hb
    exact ⟨g1, .step (.app (.rfl0 _) (by rw [dl0_cut]; exact .rfl0 _)) g2⟩
  · exact hself
theorem fs_fold : ∀ (g : Nat) (e : Co), whC e → Fs (foldC g e) e
  | 0, e, h => ⟨h, .refl _⟩
  | g + 1, .mk k n s t ns l, h => by
    obtain ⟨h1, h2⟩ := whC_mk.1 h
    have hw : whC (.mk k n s t ns (l.map (foldC g))) := whC_mk.2 ⟨by simpa using h1, fun x hx => by
      obtain ⟨y, hy, rfl⟩ := List.mem_map.1 hx
      exact (fs_fold g y (h2 y hy)).1⟩
    obtain ⟨g1, g2⟩ := fs_look (F := foldC g) (fun e he => fs_fold g e he) hw
    rw [foldC]
    exact ⟨g1, (Ch.map (k := k) (n := n) (s := s) (t := t) (ns := ns) (F := foldC g) l [] fun x hx => (fs_fold g x (h2 x hx)).2).trans g2⟩
theorem sm_fvs {δ : Dl} {e f : Co} (h : Sm δ e f) : ∀ x, x ∈ fvs f → x ∈ fvs e ∧ δ x = none := by
  induction h with
  | cong h3 hl hS ih =>
    intro x hx
    rcases mem_fvs.1 hx with ⟨h1, h2⟩ | ⟨i, y, hy, hz, hb⟩
    · exact ⟨mem_fvs.2 (.inl ⟨h1, h2⟩), by rw [h2]; exact h3 h1⟩
    · obtain ⟨a, ha⟩ : ∃ a, (_ : List Co)[i]? = some a := ⟨_, List.getElem?_eq_getElem (by rw [hl]; exact (List.getElem?_eq_some_iff.1 hy).1)⟩
      obtain ⟨q1, q2⟩ := ih i a y ha hy x hz
      exact ⟨mem_fvs.2 (.inr ⟨i, a, ha, q1, hb⟩), by simpa [Dl.cut, hb] using q2⟩
  | var _ => intro x hx; simp [num, fvs, fvL] at hx
  | op _ => intro x hx; simp [num, fvs, fvL] at hx
  | @iff δ n a s t s1 t1 ns ns1 b c f h ih =>
    intro x hx
    obtain ⟨q1, q2⟩ := ih x hx
    refine ⟨?_, q2⟩
    by_cases ha : a ≠ 0
    · rw [if_pos ha] at q1; exact mem_fvs.2 (.inr ⟨1, b, rfl, q1, by simp [bnd]⟩)
    · rw [if_neg ha] at q1; exact mem_fvs.2 (.inr ⟨2, c, rfl, q1, by simp [bnd]⟩)
  | sel hp h0 hy h ih =>
    intro x hx
    obtain ⟨q1, q2⟩ := ih x hx
    exact ⟨mem_fvs.2 (.inr ⟨0, _, rfl, mem_fvs.2 (.inr ⟨_, _, hy, q1, by simp [bnd]⟩), by simp [bnd]⟩), q2⟩
  | @drop δ n s t ns p b f hp hs h ih =>
    intro x hx
    obtain ⟨q1, q2⟩ := ih x hx
    have hxs : x ≠ s := fun e => hs (by rw [← e]; exact q1)
    exact ⟨mem_fvs.2 (.inr ⟨1, b, rfl, q1, by simpa [bnd] using hxs⟩), by simpa [Dl.cut, hxs] using q2⟩
  | @lett δ n a s t s1 t1 ns ns1 b f h ih =>
    intro x hx
    obtain ⟨q1, q2⟩ := ih x hx
    have hxs : x ≠ s := fun e => by simp [Dl.put, e] at q2
    exact ⟨mem_fvs.2 (.inr ⟨1, b, rfl, q1, by simpa [bnd] using hxs⟩), by simpa [Dl.put, hxs] using q2⟩
  | @app δ n n1 m s s0 t t1 t2 ns ns1 ns2 a a' b b' ha hb iha ihb =>
    intro x hx
    rcases mem_fvs.1 hx with ⟨h1, _⟩ | ⟨i, y, hy, hz, hn⟩
    · cases h1
    · match i with
      | 0 =>
        cases hy
        obtain ⟨q1, q2⟩ := iha x hz
        exact ⟨mem_fvs.2 (.inr ⟨1, a, rfl, q1, by simp [bnd]⟩), q2⟩
      | 1 =>
        cases hy
        obtain ⟨q1, q2⟩ := ihb x hz
        have hxs : x ≠ s := by simpa [bnd] using hn
        exact ⟨mem_fvs.2 (.inr ⟨0, _, rfl, mem_fvs.2 (.inr ⟨0, b, rfl, q1, by simpa [bnd] using hxs⟩), by simp [bnd]⟩), by simpa [Dl.cut, hxs] using q2⟩
      | i + 2 => simp at hy
/-- What a value looks like. -/
def shV : Option Vl → Int × Int × Str × Nat
  | none => (0, 0, [], 0)
  | some (.int n) => (1, n, [], 0)
  | some (.text s) => (2, 0, s, 0)
  | some (.fn ..) => (3, 0, [], 0)
  | some (.tup l) => (4, 0, [], l.length)
  | some (.tag n _) => (5, n, [], 1)
  | some (.ref _) => (6, 0, [], 0)
theorem VR.sh {v w : Vl} (h : VR v w) : shV (some v) = shV (some w) := by
  cases h with
  | tup h => simp only [shV, h.len]
  | _ => rfl
/-- Ends, seen from outside. -/
structure Tp (r r' : Rs Vl) : Prop where
  same : r.m.err ≠ 8 → r'.m.err = r.m.err ∧ r'.m.fault = r.m.fault ∧ r'.m.tr = r.m.tr ∧ shV r'.v = shV r.v
  out : r.m.err = 8 → r.m.tr <+: r'.m.tr
theorem Tp.refl (r : Rs Vl) : Tp r r := ⟨fun _ => ⟨rfl, rfl, rfl, rfl⟩, fun _ => List.prefix_rfl⟩
theorem Tp.trans {a b c : Rs Vl} (h : Tp a b) (k : Tp b c) : Tp a c := by
  refine ⟨fun h8 => ?_, fun h8 => ?_⟩
  · obtain ⟨h1, h2, h3, h4⟩ := h.same h8
    obtain ⟨k1, k2, k3, k4⟩ := k.same (by rw [h1]; exact h8)
    exact ⟨k1.trans h1, k2.trans h2, k3.trans h3, k4.trans h4⟩
  · by_cases hb : b.m.err = 8
    · exact (h.out h8).trans (k.out hb)
    · rw [(k.same hb).2.2.1]; exact h.out h8
theorem run_more (e : Co) (inp : List Str) (fuel : Nat) : (runM e inp fuel).v = none ↔ (runM e inp fuel).m.err ≠ 0 :=
  (ev_more 0 (fuel + 1) (fuel + 1) e .nil (ms0 inp fuel) rfl (Nat.lt_succ_self _) (Nat.lt_succ_self _)).err
theorem ol_run {e f : Co} (hS : Sm dl0 e f) (hc : fvs e = []) (inp : List Str) (fuel : Nat) : Tp (runM e inp fuel) (runM f inp fuel) := by
  have h := ol_ev (fuel + 1) (fuel + 1) (Nat.le_refl _) dl0 e f .nil .nil (ms0 inp fuel) (ms0 inp fuel) hS (.of (fun x n hx _ => by rw [hc] at hx; cases hx) fun x hx _ => by rw [hc] at hx; cases hx) ⟨rfl, rfl, rfl, rfl, rfl, .nil, Nat.le_refl _⟩
  have he := run_more e inp fuel
  have hf := run_more f inp fuel
  unfold runM at he hf ⊢
  generalize evM (fuel + 1) e .nil (ms0 inp fuel) = r at h he ⊢
  generalize evM (fuel + 1) f .nil (ms0 inp fuel) = r' at h hf ⊢
  cases h with
  | val hv hm => exact ⟨fun _ => ⟨by rw [hm.err, hm.err'], hm.fault.symm, hm.tr.symm, hv.sh.symm⟩, fun h8 => by have := hm.err; dsimp only at h8; omega⟩
  | fin h0 h8 h1 h2 h3 => exact ⟨fun _ => ⟨h1.symm, h2.symm, h3.symm, rfl⟩, fun h => absurd h h8⟩
  | out h1 h2 =>
    have h3 := he.1 rfl
    dsimp only at h3
    exact ⟨fun h8 => by dsimp only at h8; omega, fun _ => h2⟩
theorem tp_ch {e f : Co} (h : Ch e f) (inp : List Str) (fuel : Nat) : fvs e = [] → Tp (runM e inp fuel) (runM f inp fuel) := by
  induction h with
  | refl => exact fun _ => .refl _
  | @step e g f h1 _ ih =>
    intro hc
    have hg : fvs g = [] := List.eq_nil_iff_forall_not_mem.2 fun x hx => by
      have := (sm_fvs h1 x hx).1
      rw [hc] at this
      cases this
    exact (ol_run h1 hc inp fuel).trans (ih hg)
/-- What is folded comes to the same end, with no more fuel. -/
theorem tp_fold (g : Nat) {e : Co} (hw : whC e) (hc : fvs e = []) (inp : List Str) (fuel : Nat) : Tp (runM e inp fuel) (runM (foldC g e) inp fuel) := tp_ch (fs_fold g e hw).2 inp fuel hc
end Go.Proofs.YtbifjffjibnjjaaDoor
