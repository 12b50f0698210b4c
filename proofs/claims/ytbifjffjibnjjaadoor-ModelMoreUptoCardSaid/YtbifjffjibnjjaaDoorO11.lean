/-
  Expressions, walked: what an expression comes to. (Own work.)
-/
import Derived.Test.YtbifjffjibnjjaaDoorO10
set_option linter.unusedVariables false
set_option linter.unusedSimpArgs false
set_option maxHeartbeats 4000000
namespace Go.Proofs.YtbifjffjibnjjaaDoor
open Go Go.Abs

theorem len1 {α : Type} : ∀ {l : List α}, l.length = 1 → ∃ a, l = [a]
  | [a], _ => ⟨a, rfl⟩
theorem len2 {α : Type} : ∀ {l : List α}, l.length = 2 → ∃ a b, l = [a, b]
  | [a, b], _ => ⟨a, b, rfl⟩
theorem len3 {α : Type} : ∀ {l : List α}, l.length = 3 → ∃ a b c, l = [a, b, c]
  | [a, b, c], _ => ⟨a, b, c, rfl⟩
/-- The kinds whose parts all come to something first. -/
def KAll (k : Int) : Prop := k = 5 ∨ k = 8 ∨ k = 9 ∨ k = 10 ∨ k = 11 ∨ k = 12 ∨ k = 13 ∨ k = 16 ∨ k = 17 ∨ k = 18 ∨ k = 19 ∨ k = 20 ∨ k = 21 ∨ k = 22
theorem kall_of {k : Int} {l ls : Nat} {t : Bool} (h : partsC k ls t = l) (h1 : k ≠ 1) (h2 : k ≠ 2) (h3 : k ≠ 3) (h4 : k ≠ 4) (h6 : k ≠ 6) (h7 : k ≠ 7) (h15 : k ≠ 15) (h14 : k ≠ 14) : KAll k := by
  unfold partsC at h
  unfold KAll
  repeat' split at h
  all_goals omega
theorem k_DoAny {mo tt g : Nat} {φ ψ : Nat → Nat} {m : Ms} {L : Nat} {k p n : Int} {s t : Str} {ls ns : List Str} {l : List Ex} {vs : List Vl} {b : Bool} {σ : Sg} (hR : EvCt mo tt g) (h : Okm mo tt φ ψ m L σ) (hk : KAll k) (hp : partsC k ls.length b = vs.length) (hlsl : ls.length ≤ L) (hv : okVs m.st.length L vs) (hf0 : m.fuel < g) :
    ACalls Tryd.prog 60 [.ptr mo 0, .v (encE (.mk k p n s t ls ns l)), .v (.sl none false (vs.map (encP φ)))] σ (Outc mo tt φ ψ m σ (doM (evM g) k s ls vs m)) := by
  have hv' := okVs_iff.1 hv
  rcases hk with rfl | rfl | rfl | rfl | rfl | rfl | rfl | rfl | rfl | rfl | rfl | rfl | rfl | rfl
  · obtain ⟨x, y, rfl⟩ := len2 (l := vs) (by simp [partsC] at hp; omega)
    exact k_Do5 hR h hv.1 hv.2.1 hf0
  · exact k_Do8 hR h (by simp [partsC] at hp; omega) hlsl hf0
  · obtain ⟨x, rfl⟩ := len1 (l := vs) (by simp [partsC] at hp; omega)
    exact k_Do9 hR h hv.1 hf0
  · obtain ⟨x, y, rfl⟩ := len2 (l := vs) (by simp [partsC] at hp; omega)
    exact k_Do10 hR h hv.1 hv.2.1 hf0
  · obtain ⟨x, rfl⟩ := len1 (l := vs) (by simp [partsC] at hp; omega)
    exact k_Do11 hR h hv.1 hf0
  · obtain ⟨x, y, rfl⟩ := len2 (l := vs) (by simp [partsC] at hp; omega)
    exact k_Do12 hR h hv.1 hv.2.1 hf0
  · obtain ⟨x, rfl⟩ := len1 (l := vs) (by simp [partsC] at hp; omega)
    exact k_Do13 hR h hf0
  · obtain ⟨x, y, rfl⟩ := len2 (l := vs) (by simp [partsC] at hp; omega)
    exact k_Do16 hR h hv.1 hv.2.1 hf0
  · obtain ⟨x, rfl⟩ := len1 (l := vs) (by simp [partsC] at hp; omega)
    exact k_Do17 hR h hv.1 hf0
  · obtain ⟨x, rfl⟩ := len1 (l := vs) (by simp [partsC] at hp; omega)
    exact k_Do18 hR h hv.1 hf0
  · obtain ⟨x, y, rfl⟩ := len2 (l := vs) (by simp [partsC] at hp; omega)
    exact k_Do19 hR h hv.1 hv.2.1 hf0
  · obtain ⟨x, rfl⟩ := len1 (l := vs) (by simp [partsC] at hp; omega)
    exact k_Do20 hR h hv.1 hf0
  · obtain ⟨x, rfl⟩ := len1 (l := vs) (by simp [partsC] at hp; omega)
    exact k_Do21 hR h hv.1 hf0
  · have : vs = [] := List.length_eq_zero_iff.1 (by simp [partsC] at hp; omega)
    subst this
    exact k_Do22 hR h hf0
theorem case_len {l ls : Nat} {t : Str} (h : partsC 14 ls (decide (t ≠ [])) = l) : l = 1 + ls + (if t = [] then 0 else 1) := by
  by_cases ht : t = []
  · simp [partsC, ht] at h ⊢
    omega
  · simp [partsC, ht] at h ⊢
    omega
def sizeN : En → Nat
  | .nil => 0
  | .cons _ _ e => sizeN e + 1
theorem k_Eval14 {mo tt g : Nat} (hR : EvCt mo tt g) {k p n : Int} {s t : Str} {ls ns : List Str} {l : List Ex} (h14 : k = 14) : ∀ (env : En) (m : Ms) (φ ψ : Nat → Nat) (σ : Sg) (L : Nat), Okm mo tt φ ψ m L σ → okC L (.mk k p n s t ls ns l) → okE m.st.length L env → m.fuel < g + 1 →
    ACalls Tryd.prog 34 [.ptr mo 0, .v (encE (.mk k p n s t ls ns l)), .v (encN φ env)] σ (Outc mo tt φ ψ m σ (evM (g + 1) (.mk k p n s t ls ns l) env m)) := by
  intro env m φ ψ σ L h hc hen hf0
  have hS := h.sto
  have hml := hS.mlt
  have hm := hS.mach
  have hhi := h.hi
  unfold machOb at hm
  obtain ⟨hnum, hs, hll, ht, hls, hls2, hns2⟩ := hc.num
  have hpc := fun σ => k_PartsM (k := k) (p := p) (n := n) (s := s) (t := t) (ls := ls) (ns := ns) (l := l) (σ := σ) (by omega)
  have hmk := @encE_mk k p n s t ls ns l
  rw [hmk] at hpc ⊢
  by_cases hz : m.fuel = 0
  · rw [show evM (g + 1) (.mk k p n s t ls ns l) env m = endM 8 0 m by rw [evM, if_pos hz]]
    refine acalls_fit Tryd.func34 (by kernel_rfl) c34m rfl (by simp [a34m]) fun hfit => ?_
    clear hfit
    simp -implicitDefEqProofs (maxSteps := 2000000) (disch := omega) [-getElem?_pos, a34m]

    simp -implicitDefEqProofs (maxSteps := 2000000) (disch := omega) [-getElem?_pos, List.getElem?_append_left, List.set_append_left, hm, hml, hz]
    refine (k_End (hS.add _)).mono fun r σ2 ⟨φ2, ψ2, hr, hA⟩ => ?_
    subst hr
    simp -implicitDefEqProofs (maxSteps := 2000000) (disch := omega) [-getElem?_pos]
    exact ⟨_, _, WeakR.refl _ _ _, φ2, ψ2, rfl, (hA.back hS)⟩

  rw [show evM (g + 1) (.mk k p n s t ls ns l) env m = stepM (evM g) (.mk k p n s t ls ns l) env { m with fuel := m.fuel - 1 } by rw [evM, if_neg hz]]
  have hset := hS.setM (m' := { m with fuel := m.fuel - 1 }) rfl rfl
  obtain ⟨m1, hm1⟩ : ∃ m1 : Ms, m1 = { m with fuel := m.fuel - 1 } := ⟨_, rfl⟩
  obtain ⟨σ1, hσ1⟩ : ∃ σ1 : Sg, σ1 = ⟨σ.objs.set mo (machOb tt m1), σ.toks⟩ := ⟨_, rfl⟩
  have hf1 : m1.fuel + 1 = m.fuel := by rw [hm1]; dsimp only; omega
  have hmst : m1.st = m.st := by rw [hm1]
  refine acalls_fit Tryd.func34 (by kernel_rfl) c34m rfl (by simp [a34m]) fun hfit => ?_
  clear hfit
  simp -implicitDefEqProofs (maxSteps := 2000000) (disch := omega) [-getElem?_pos, a34m]

  simp -implicitDefEqProofs (maxSteps := 2000000) (disch := omega) [-getElem?_pos, List.getElem?_append_left, List.set_append_left, hm, hml, hz]
  rw [← hm1] at hset ⊢
  rw [← hσ1] at hset
  have hS1 := hset.sto
  have hO : ∀ rs r σ', Outc mo tt φ ψ m1 σ1 rs r σ' → Outc mo tt φ ψ m σ rs r σ' := fun rs r σ' ⟨φ', ψ', hr, hA⟩ => ⟨φ', ψ', hr, hset.trans hA (by rw [hmst]; exact Nat.le_refl _)⟩
  have hX : σ.objs.set mo (Ob.cells [D.v (vS m.inp), D.v (V.int .i64 ((m.fuel : Int) - 1)), D.v (V.int .i64 m.err), D.v (V.int .i64 m.fault), D.v (V.str []), D.tsl tt none (m.tr.map .str)]) = σ1.objs := by
    rw [hσ1, hm1]
    simp only [machOb]
    rw [show ((m.fuel - 1 : Nat) : Int) = (m.fuel : Int) - 1 by omega]
  have hL : σ.objs.length = σ1.objs.length := by rw [hσ1]; simp
  have hT : σ.toks = σ1.toks := by rw [hσ1]
  rw [hX, hL, hT]
  clear hX
  have hml1 : mo < σ1.objs.length := by omega
  have h1 : Okm mo tt φ ψ m1 L σ1 := ⟨hS1, ⟨by rw [hmst]; exact h.ok.st, by rw [hm1]; exact h.ok.tr⟩, h.lo, by omega⟩
  have hen1 : okE m1.st.length L env := by rw [hmst]; exact hen
  refine (hpc _).then fun r hr => ?_
  subst hr
  simp -implicitDefEqProofs (maxSteps := 2000000) (disch := omega) [-getElem?_pos]

  subst h14
  rw [stepM_mk]
  refine .mk (fun hp => ?_) fun hp => ?_
  rotate_left
  · rw [if_pos (.inl (by simpa using hp))]
    simp -implicitDefEqProofs (maxSteps := 2000000) (disch := omega) [-getElem?_pos]
    refine (k_Stuck (hS1.add _)).mono fun r σ2 ⟨φ2, ψ2, hr, hA⟩ => ?_
    subst hr
    simp -implicitDefEqProofs (maxSteps := 2000000) (disch := omega) [-getElem?_pos]
    exact ⟨_, _, WeakR.refl _ _ _, hO _ _ _ ⟨φ2, ψ2, rfl, hA.back hS1⟩⟩

  have hp2 : partsC 14 ls.length (decide (t ≠ [])) = l.length := by simpa using hp
  simp -implicitDefEqProofs (maxSteps := 2000000) (disch := omega) [-getElem?_pos, hp]
  refine .mk (fun hq => ?_) fun hq => ?_
  rotate_left
  · rw [if_neg (by omega)]
    simp -implicitDefEqProofs (maxSteps := 2000000) (disch := omega) [-getElem?_pos, hp]
    refine (k_Stuck (hS1.add _)).mono fun r σ2 ⟨φ2, ψ2, hr, hA⟩ => ?_
    subst hr
    simp -implicitDefEqProofs (maxSteps := 2000000) (disch := omega) [-getElem?_pos]
    exact ⟨_, _, WeakR.refl _ _ _, hO _ _ _ ⟨φ2, ψ2, rfl, hA.back hS1⟩⟩

  rw [if_pos (by omega)]
  have hma := fun xs : List Ob => k_Match (p := p) (n := n) (s := s) hR ⟨hS1.add xs, h1.ok, h1.lo, h1.hi⟩ hc (case_len hp2) (by omega) hen1 (by omega)
  rw [encE_mk] at hma
  simp -implicitDefEqProofs (maxSteps := 2000000) (disch := omega) [-getElem?_pos, hp]
  refine (hma _).mono fun r σ2 ⟨φ2, ψ2, hr, hA⟩ => ?_
  subst hr
  simp -implicitDefEqProofs (maxSteps := 2000000) (disch := omega) [-getElem?_pos]
  exact ⟨_, _, WeakR.refl _ _ _, hO _ _ _ ⟨φ2, ψ2, rfl, hA.back hS1⟩⟩

structure AllS where
  i : Nat
  vs : List Vl
  m : Ms
  φ : Nat → Nat
  ψ : Nat → Nat
  τ : Sg
structure AllI (mo tt g : Nat) (φ ψ : Nat → Nat) (m : Ms) (L : Nat) (env : En) (l : List Ex) (σ : Sg) (x : AllS) : Prop where
  i : x.i ≤ l.length
  eq : allM (evM g) env (l.take x.i) m = ⟨some x.vs, x.m⟩
  aft : Aft mo tt φ ψ m σ x.φ x.ψ x.m x.τ
  tok : x.τ.toks[σ.toks.length]? = some x.vs.length
  fuel : x.m.fuel ≤ m.fuel
  st : m.st.length ≤ x.m.st.length
  ok : okM (L + (m.fuel - x.m.fuel)) x.m
  vs : okVs x.m.st.length (L + (m.fuel - x.m.fuel)) x.vs
theorem weakR_le {B : Sg} {r r' : D} {σ : Sg} (h : D.Le r r') : WeakR B r σ r' σ := fun m0 m w0 w u _ hX hI hR => ⟨m, hI, h m w u hR, hX⟩
theorem k_EvalO {mo tt g : Nat} (hR : EvCt mo tt g) {k p n : Int} {s t : Str} {ls ns : List Str} {l : List Ex} (h14 : k ≠ 14) : ∀ (env : En) (m : Ms) (φ ψ : Nat → Nat) (σ : Sg) (L : Nat), Okm mo tt φ ψ m L σ → okC L (.mk k p n s t ls ns l) → okE m.st.length L env → m.fuel < g + 1 →
    ACalls Tryd.prog 34 [.ptr mo 0, .v (encE (.mk k p n s t ls ns l)), .v (encN φ env)] σ (Outc mo tt φ ψ m σ (evM (g + 1) (.mk k p n s t ls ns l) env m)) := by
  intro env m φ ψ σ L h hc hen hf0
  have hS := h.sto
  have hml := hS.mlt
  have hm := hS.mach
  have hhi := h.hi
  unfold machOb at hm
  obtain ⟨hnum, hs, hll, ht, hls, hls2, hns2⟩ := hc.num
  have hpc := fun σ => k_PartsM (k := k) (p := p) (n := n) (s := s) (t := t) (ls := ls) (ns := ns) (l := l) (σ := σ) (by omega)
  have hmk := @encE_mk k p n s t ls ns l
  rw [hmk] at hpc ⊢
  by_cases hz : m.fuel = 0
  · rw [show evM (g + 1) (.mk k p n s t ls ns l) env m = endM 8 0 m by rw [evM, if_pos hz]]
    refine acalls_fit Tryd.func34 (by kernel_rfl) c34m rfl (by simp [a34m]) fun hfit => ?_
    clear hfit
    simp -implicitDefEqProofs (maxSteps := 2000000) (disch := omega) [-getElem?_pos, a34m]

    simp -implicitDefEqProofs (maxSteps := 2000000) (disch := omega) [-getElem?_pos, List.getElem?_append_left, List.set_append_left, hm, hml, hz]
    refine (k_End (hS.add _)).mono fun r σ2 ⟨φ2, ψ2, hr, hA⟩ => ?_
    subst hr
    simp -implicitDefEqProofs (maxSteps := 2000000) (disch := omega) [-getElem?_pos]
    exact ⟨_, _, WeakR.refl _ _ _, φ2, ψ2, rfl, (hA.back hS)⟩

  rw [show evM (g + 1) (.mk k p n s t ls ns l) env m = stepM (evM g) (.mk k p n s t ls ns l) env { m with fuel := m.fuel - 1 } by rw [evM, if_neg hz]]
  have hset := hS.setM (m' := { m with fuel := m.fuel - 1 }) rfl rfl
  obtain ⟨m1, hm1⟩ : ∃ m1 : Ms, m1 = { m with fuel := m.fuel - 1 } := ⟨_, rfl⟩
  obtain ⟨σ1, hσ1⟩ : ∃ σ1 : Sg, σ1 = ⟨σ.objs.set mo (machOb tt m1), σ.toks⟩ := ⟨_, rfl⟩
  have hf1 : m1.fuel + 1 = m.fuel := by rw [hm1]; dsimp only; omega
  have hmst : m1.st = m.st := by rw [hm1]
  refine acalls_fit Tryd.func34 (by kernel_rfl) c34m rfl (by simp [a34m]) fun hfit => ?_
  clear hfit
  simp -implicitDefEqProofs (maxSteps := 2000000) (disch := omega) [-getElem?_pos, a34m]

  simp -implicitDefEqProofs (maxSteps := 2000000) (disch := omega) [-getElem?_pos, List.getElem?_append_left, List.set_append_left, hm, hml, hz]
  rw [← hm1] at hset ⊢
  rw [← hσ1] at hset
  have hS1 := hset.sto
  have hO : ∀ rs r σ', Outc mo tt φ ψ m1 σ1 rs r σ' → Outc mo tt φ ψ m σ rs r σ' := fun rs r σ' ⟨φ', ψ', hr, hA⟩ => ⟨φ', ψ', hr, hset.trans hA (by rw [hmst]; exact Nat.le_refl _)⟩
  have hX : σ.objs.set mo (Ob.cells [D.v (vS m.inp), D.v (V.int .i64 ((m.fuel : Int) - 1)), D.v (V.int .i64 m.err), D.v (V.int .i64 m.fault), D.v (V.str []), D.tsl tt none (m.tr.map .str)]) = σ1.objs := by
    rw [hσ1, hm1]
    simp only [machOb]
    rw [show ((m.fuel - 1 : Nat) : Int) = (m.fuel : Int) - 1 by omega]
  have hL : σ.objs.length = σ1.objs.length := by rw [hσ1]; simp
  have hT : σ.toks = σ1.toks := by rw [hσ1]
  rw [hX, hL, hT]
  clear hX
  have hml1 : mo < σ1.objs.length := by omega
  have h1 : Okm mo tt φ ψ m1 L σ1 := ⟨hS1, ⟨by rw [hmst]; exact h.ok.st, by rw [hm1]; exact h.ok.tr⟩, h.lo, by omega⟩
  have hen1 : okE m1.st.length L env := by rw [hmst]; exact hen
  refine (hpc _).then fun r hr => ?_
  subst hr
  simp -implicitDefEqProofs (maxSteps := 2000000) (disch := omega) [-getElem?_pos]

  rw [stepM_mk]
  refine .mk (fun hp => ?_) fun hp => ?_
  rotate_left
  · rw [if_pos (.inl (by simpa using hp))]
    simp -implicitDefEqProofs (maxSteps := 2000000) (disch := omega) [-getElem?_pos]
    refine (k_Stuck (hS1.add _)).mono fun r σ2 ⟨φ2, ψ2, hr, hA⟩ => ?_
    subst hr
    simp -implicitDefEqProofs (maxSteps := 2000000) (disch := omega) [-getElem?_pos]
    exact ⟨_, _, WeakR.refl _ _ _, hO _ _ _ ⟨φ2, ψ2, rfl, hA.back hS1⟩⟩

  have hp2 : partsC k ls.length (decide (t ≠ [])) = l.length := by simpa using hp
  rw [if_neg (by rintro (e | e); exact e hp2; exact h14 e.1)]
  simp -implicitDefEqProofs (maxSteps := 2000000) (disch := omega) [-getElem?_pos, hp, h14]
  refine .mk (fun hk => ?_) fun hk1 => ?_
  · subst hk
    simp -implicitDefEqProofs (maxSteps := 2000000) (disch := omega) [-getElem?_pos]
    exact ⟨_, _, WeakR.refl _ _ _, hO _ _ _ ⟨φ, ψ, by simp [done, resW, encP, boxP], (Aft.refl hS1).add _⟩⟩
  rw [if_neg hk1]
  simp -implicitDefEqProofs (maxSteps := 2000000) (disch := omega) [-getElem?_pos]
  refine .mk (fun hk => ?_) fun hk2 => ?_
  · subst hk
    simp -implicitDefEqProofs (maxSteps := 2000000) (disch := omega) [-getElem?_pos]
    exact ⟨_, _, WeakR.refl _ _ _, hO _ _ _ ⟨φ, ψ, by simp [done, resW, encP, boxP], (Aft.refl hS1).add _⟩⟩
  rw [if_neg hk2]
  simp -implicitDefEqProofs (maxSteps := 2000000) (disch := omega) [-getElem?_pos]
  refine .mk (fun hk => ?_) fun hk3 => ?_
  · subst hk
    simp -implicitDefEqProofs (maxSteps := 2000000) (disch := omega) [-getElem?_pos]
    refine W_loop (α := En) env sizeN (fun e => ⟨[(0, .ptr mo 0), (4, .ptr σ1.objs.length 0), (6, .v .pnil), (7, .v (encN φ e))], ⟨σ1.objs ++ [Ob.cells [D.v (V.int .i64 3), D.v (V.int .i64 p), D.v (V.int .i64 n), D.v (V.str s), D.v (V.str t), D.v (V.sl none false (ls.map .str)), D.v (V.sl none false (ns.map .str)), D.v (V.sl (some 8) false (l.map encE))]], σ1.toks⟩⟩) (fun e => lookE env s = lookE e s)
      (.eq (by simp)) rfl fun e he => ?_
    rw [he]
    cases e with
    | nil =>
      simp only [encN, lookE]
      simp -implicitDefEqProofs (maxSteps := 2000000) (disch := omega) [-getElem?_pos]
      refine (k_Stuck (hS1.add _)).mono fun r σ2 ⟨φ2, ψ2, hr, hA⟩ => ?_
      subst hr
      simp -implicitDefEqProofs (maxSteps := 2000000) (disch := omega) [-getElem?_pos]
      exact ⟨_, _, WeakR.refl _ _ _, hO _ _ _ ⟨φ2, ψ2, rfl, hA.back hS1⟩⟩

    | cons x v e =>
      simp only [encN, lookE]
      simp -implicitDefEqProofs (maxSteps := 2000000) (disch := omega) [-getElem?_pos]
      refine .mk (fun hx => ?_) fun hx => ?_
      · subst hx
        simp -implicitDefEqProofs (maxSteps := 2000000) (disch := omega) [-getElem?_pos]
        exact ⟨_, _, WeakR.refl _ _ _, hO _ _ _ ⟨φ, ψ, by simp [done, resW], (Aft.refl hS1).add _⟩⟩
      · simp -implicitDefEqProofs (maxSteps := 2000000) (disch := omega) [-getElem?_pos]
        exact ⟨e, by simp [hx], by simp [sizeN], .eq (by simp)⟩
  rw [if_neg hk3]
  have hnc := fun e => encN_cells (φ := φ) e
  have hno := fun e => encN_one (φ := φ) e
  have hpc2 := fun v => encP_cells (φ := φ) v
  have hpo := fun v => encP_one (φ := φ) v
  simp only [V.cells] at hnc hpc2
  simp only [V.one] at hno hpo
  simp -implicitDefEqProofs (maxSteps := 2000000) (disch := omega) [-getElem?_pos]
  refine .mk (fun hk => ?_) fun hk4 => ?_
  · subst hk
    obtain ⟨a, rfl⟩ := len1 (l := l) (by simp [partsC] at hp2; omega)
    obtain ⟨pk, pp, pn, ps, pt, pls, pns, pl⟩ := a
    simp only [List.map_cons, List.map_nil, encE_mk]
    simp -implicitDefEqProofs (maxSteps := 2000000) (disch := omega) [-getElem?_pos, hnc, hno]
    exact ⟨_, _, WeakR.refl _ _ _, hO _ _ _ ⟨φ, ψ, by simp [done, resW, encP, boxP, exV, prt], (Aft.refl hS1).add _⟩⟩
  rw [if_neg hk4]
  simp -implicitDefEqProofs (maxSteps := 2000000) (disch := omega) [-getElem?_pos]
  refine .mk (fun hk => ?_) fun hk6 => ?_
  · subst hk
    obtain ⟨a, b, rfl⟩ := len2 (l := l) (by simp [partsC] at hp2; omega)
    have hca : okC L a := hc.prt 0
    have hcb : okC L b := hc.prt 1
    obtain ⟨a0, a1, a2, a3, a4, a5, a6, a7, hxa⟩ := list8 (show (exV a).length = 8 by cases a; rfl)
    obtain ⟨b0, b1, b2, b3, b4, b5, b6, b7, hxb⟩ := list8 (show (exV b).length = 8 by cases b; rfl)
    have hea : encE a = .agg [a0, a1, a2, a3, a4, a5, a6, a7] := by rw [encE_exV, hxa]
    have heb : encE b = .agg [b0, b1, b2, b3, b4, b5, b6, b7] := by rw [encE_exV, hxb]
    have hev := fun xs : List Ob => hR a env m1 φ ψ ⟨σ1.objs ++ xs, σ1.toks⟩ L ⟨hS1.add _, h1.ok, h1.lo, h1.hi⟩ hca hen1 (by omega)
    rw [hea] at hev
    simp only [List.map_cons, List.map_nil]
    rw [hea, heb]
    simp -implicitDefEqProofs (maxSteps := 2000000) (disch := omega) [-getElem?_pos]
    refine (hev _).mono fun r σ2 ⟨φ2, ψ2, hr, hA⟩ => ?_
    have hA2 := hA.back hS1
    obtain ⟨hf2, hs2, hv2, he2, hO2⟩ := h1.after hca hen1 hA2
    generalize hrs : evM g a env m1 = rs at hr hA hA2 hf2 hs2 hv2 he2 hO2
    obtain ⟨v, m2⟩ := rs
    dsimp only at hr hA hA2 hf2 hs2 hv2 he2 hO2
    have f0 : σ2.objs[σ1.objs.length]? = some _ := hA.loc hS1 (j := 0) rfl
    have hpr0 : prt [a, b] 0 = a := rfl
    have hpr1 : prt [a, b] 1 = b := rfl
    rw [hpr0, hrs, hpr1]
    cases v with
    | none =>
      subst hr
      unfold resW
      simp only [Rs.bind]
      simp -implicitDefEqProofs (maxSteps := 2000000) (disch := omega) [-getElem?_pos, f0]
      exact ⟨_, _, WeakR.refl _ _ _, hO _ _ _ ⟨φ2, ψ2, rfl, hA2⟩⟩
    | some v =>
      subst hr
      rw [show resW φ2 (some v) = .v (encP φ2 v) from rfl]
      have hnc3 := fun v => encP_cells (φ := φ2) v
      have hno3 := fun v => encP_one (φ := φ2) v
      simp only [V.cells] at hnc3
      simp only [V.one] at hno3
      have henc : encN φ2 (.cons s v env) = .box (some 3) (.agg [.str s, encP φ2 v, encN φ env]) 0 := by
        simp only [encN]
        rw [encN_ext (φ := φ) (φ' := φ2) (fun k hk => hA2.fe k hk) hen1]
      have hev2 := hR b (.cons s v env) m2 φ2 ψ2 σ2 _ hO2 (hcb.mono (by omega)) ⟨by omega, hv2 _ rfl, he2⟩ (by omega)
      rw [heb, henc] at hev2
      simp only [Rs.bind]
      simp -implicitDefEqProofs (maxSteps := 2000000) (disch := omega) [-getElem?_pos, f0, hnc, hno, hnc3, hno3]
      refine (hev2).mono fun r σ3 ⟨φ3, ψ3, hr3, hA3⟩ => ?_
      subst hr3
      simp -implicitDefEqProofs (maxSteps := 2000000) (disch := omega) [-getElem?_pos]
      exact ⟨_, _, WeakR.refl _ _ _, hO _ _ _ ⟨φ3, ψ3, rfl, hA2.trans hA3 hs2⟩⟩

  rw [if_neg hk6]
  simp -implicitDefEqProofs (maxSteps := 2000000) (disch := omega) [-getElem?_pos]
  refine .mk (fun hk => ?_) fun hk7 => ?_
  · subst hk
    obtain ⟨a, b, rfl⟩ := len2 (l := l) (by simp [partsC] at hp2; omega)
    have hca : okC L a := hc.prt 0
    have hcb : okC L b := hc.prt 1
    obtain ⟨b0, b1, b2, b3, b4, b5, b6, b7, hxb⟩ := list8 (show (exV b).length = 8 by cases b; rfl)
    have heb : encE b = .agg [b0, b1, b2, b3, b4, b5, b6, b7] := by rw [encE_exV, hxb]
    obtain ⟨pk, pp, pn, ps, pt, pls, pns, pl⟩ := a
    have hev2 := fun xs : List Ob => hR b (.cons s (.fn true s t (.mk pk pp pn ps pt pls pns pl) env) env) m1 φ ψ ⟨σ1.objs ++ xs, σ1.toks⟩ L ⟨hS1.add xs, h1.ok, h1.lo, h1.hi⟩ hcb ⟨hs, ⟨hca, hs, ht, hen1⟩, hen1⟩ (by omega)
    rw [heb] at hev2
    simp only [encN, encP, boxP, exV, List.cons_append, List.nil_append] at hev2
    have hpr0 : prt [Ex.mk pk pp pn ps pt pls pns pl, b] 0 = Ex.mk pk pp pn ps pt pls pns pl := rfl
    have hpr1 : prt [Ex.mk pk pp pn ps pt pls pns pl, b] 1 = b := rfl
    rw [hpr0, hpr1]
    simp only [List.map_cons, List.map_nil]
    rw [heb, encE_mk]
    simp -implicitDefEqProofs (maxSteps := 2000000) (disch := omega) [-getElem?_pos, hnc, hno]
    refine (hev2 _).mono fun r σ2 ⟨φ2, ψ2, hr, hA⟩ => ?_
    subst hr
    simp -implicitDefEqProofs (maxSteps := 2000000) (disch := omega) [-getElem?_pos]
    exact ⟨_, _, WeakR.refl _ _ _, hO _ _ _ ⟨φ2, ψ2, rfl, hA.back hS1⟩⟩

  rw [if_neg hk7]
  simp -implicitDefEqProofs (maxSteps := 2000000) (disch := omega) [-getElem?_pos]
  refine .mk (fun hk => ?_) fun hk15 => ?_
  · subst hk
    obtain ⟨a, b, c, rfl⟩ := len3 (l := l) (by simp [partsC] at hp2; omega)
    have hch := fun xs : List Ob => k_Choose (p := p) (n := n) (s := s) (t := t) (ls := ls) (ns := ns) hR ⟨hS1.add xs, h1.ok, h1.lo, h1.hi⟩ (hc.prt 0) (hc.prt 1) (hc.prt 2) hen1 (by omega)
    rw [encE_mk] at hch
    simp -implicitDefEqProofs (maxSteps := 2000000) (disch := omega) [-getElem?_pos]
    refine (hch _).mono fun r σ2 ⟨φ2, ψ2, hr, hA⟩ => ?_
    subst hr
    simp -implicitDefEqProofs (maxSteps := 2000000) (disch := omega) [-getElem?_pos]
    exact ⟨_, _, WeakR.refl _ _ _, hO _ _ _ ⟨φ2, ψ2, rfl, hA.back hS1⟩⟩

  rw [if_neg hk15]
  simp -implicitDefEqProofs (maxSteps := 2000000) (disch := omega) [-getElem?_pos, h14]
  have hka := kall_of hp2 hk1 hk2 hk3 hk4 hk6 hk7 hk15 h14
  have hoa := ok_all (ok_ev 2000 (Nat.le_refl _) g m1.fuel) env l m1 L h.lo (fun x hx => hc.mem hx) hen1 h1.ok (Nat.le_refl _)
  have hdo := fun (φ2 ψ2 : Nat → Nat) (m2 : Ms) (L2 : Nat) (σ2 : Sg) (vs : List Vl) (hO2 : Okm mo tt φ2 ψ2 m2 L2 σ2) (hvl : vs.length = l.length) (hvs : okVs m2.st.length L2 vs) (hL2 : L ≤ L2) (hf2 : m2.fuel < g) => k_DoAny (k := k) (p := p) (n := n) (s := s) (t := t) (ls := ls) (ns := ns) (l := l) (b := decide (t ≠ [])) hR hO2 hka (by rw [hvl]; exact hp2) (by omega) hvs hf2
  rw [hmk] at hdo
  obtain ⟨cs, hcs⟩ : ∃ cs, cs = [D.v (V.int .i64 k), D.v (V.int .i64 p), D.v (V.int .i64 n), D.v (V.str s), D.v (V.str t), D.v (V.sl none false (ls.map .str)), D.v (V.sl none false (ns.map .str)), D.v (V.sl (some 8) false (l.map encE))] := ⟨_, rfl⟩
  rw [← hcs]
  have htl := (List.getElem?_eq_some_iff.1 hS1.tok).1
  refine W_loop (α := AllS) ⟨0, [], m1, φ, ψ, (⟨σ1.objs ++ [.cells cs], σ1.toks⟩ : Sg).tadd 0⟩ (fun x => l.length - x.i) (fun x => ⟨[(0, .ptr mo 0), (2, .v (encN φ env)), (4, .ptr σ1.objs.length 0), (6, .v .pnil), (10, .tsl σ1.toks.length none (x.vs.map (encP x.φ))), (162, .v (.sl (some 8) false (l.map encE))), (163, .v (.int .i64 l.length)), (164, .v (.int .i64 x.i))], x.τ⟩) (fun x => AllI mo tt g φ ψ m1 L env l ⟨σ1.objs ++ [.cells cs], σ1.toks⟩ x)
    (.tok (i := 10) (sh := none) (by simp) (by simp)) ⟨by simp, rfl, (Aft.refl (hS1.add _)).tadd 0, by simp [Sg.tadd], Nat.le_refl _, Nat.le_refl _, h1.ok.mono (by omega), trivial⟩ fun x hx => ?_
  have hxi := hx.i
  have hxs := hx.aft.sto
  have hfu := hx.fuel
  have hh1 := h1.hi
  have hlo := h1.lo
  have f0 : x.τ.objs[σ1.objs.length]? = some (.cells cs) := hx.aft.loc hS1 (j := 0) rfl
  have hvl : x.vs.length = x.i := by
    have := (ok_all (ok_ev 2000 (Nat.le_refl _) g m1.fuel) env (l.take x.i) m1 L h.lo (fun y hy => hc.mem (List.mem_of_mem_take hy)) hen1 h1.ok (Nat.le_refl _)).v x.vs (by rw [hx.eq])
    rw [this.2, List.length_take]
    omega
  simp -implicitDefEqProofs (maxSteps := 2000000) (disch := omega) [-getElem?_pos]
  refine .mk (fun hi => ?_) fun hi => ?_
  · obtain ⟨e, hie⟩ : ∃ e, l[x.i]? = some e := ⟨_, List.getElem?_eq_getElem hi⟩
    have heo : okC L e := hc.mem (List.mem_of_getElem? hie)
    obtain ⟨c0, c1, c2, c3, c4, c5, c6, c7, hco⟩ := list8 (show (exV e).length = 8 by cases e; rfl)
    have hec : encE e = .agg [c0, c1, c2, c3, c4, c5, c6, c7] := by rw [encE_exV, hco]
    have hev := hR e env x.m x.φ x.ψ ⟨x.τ.objs ++ [.cells [.v c0, .v c1, .v c2, .v c3, .v c4, .v c5, .v c6, .v c7]], x.τ.toks⟩ (L + (m1.fuel - x.m.fuel)) ⟨hxs.add _, hx.ok, by omega, by omega⟩ (heo.mono (by omega)) (hen1.mono hx.st (by omega)) (by omega)
    have hok := ok_ev 2000 (Nat.le_refl _) g x.m.fuel e env x.m (L + (m1.fuel - x.m.fuel)) (by omega) (heo.mono (by omega)) (hen1.mono hx.st (by omega)) hx.ok (Nat.le_refl _)
    have happ := allM_app (evM g) env (l.take x.i) [e] m1
    have hl2 : l = l.take x.i ++ e :: l.drop (x.i + 1) := by rw [← drop_cons hie, List.take_append_drop]
    have hall : allM (evM g) env l m1 = (allM (evM g) env (l.take x.i) m1).bind fun vs m1 => (allM (evM g) env (e :: l.drop (x.i + 1)) m1).bind fun ws m2 => done (vs ++ ws) m2 := by
      conv => lhs; rw [hl2]
      exact allM_app _ _ _ _ _
    rw [hx.eq] at hall
    rw [← show l.take (x.i + 1) = l.take x.i ++ [e] by rw [List.take_add_one, hie]; rfl, hx.eq] at happ
    rw [encN_ext hx.aft.fe hen1, hec] at hev
    simp -implicitDefEqProofs (maxSteps := 2000000) (disch := omega) [-getElem?_pos, hie, hec]
    refine ⟨hi, hev.mono fun r σ2 ⟨φ2, ψ2, hr, hA⟩ => ?_⟩
    have hA2 := hA.back hxs
    generalize hrs : evM g e env x.m = rs at hev hok hr hA hA2
    obtain ⟨v, m2⟩ := rs
    have hof := hok.fuel
    have hos := hok.st
    have hoo := hok.ok
    have hov := hok.v
    dsimp only at hr hA hA2 hof hos hoo hov
    cases v with
    | none =>
      subst hr
      unfold resW
      simp -implicitDefEqProofs (maxSteps := 2000000) (disch := omega) [-getElem?_pos]
      refine ⟨_, _, WeakR.refl _ _ _, hO _ _ _ ⟨φ2, ψ2, ?_, ?_⟩⟩
      · rw [hall]
        simp [allM, Rs.bind, hrs, resW]
      · rw [hall]
        simp only [allM, Rs.bind, hrs]
        exact (hx.aft.trans hA2 hx.st).back hS1
    | some v =>
      subst hr
      have ht2 : σ2.toks[σ1.toks.length]? = some x.vs.length := (hA.ktok _ (List.getElem?_eq_some_iff.1 hx.tok).1 (Nat.ne_of_gt htl)).trans hx.tok
      rw [show resW φ2 (some v) = .v (encP φ2 v) from rfl]
      have hnc3 := fun v => encP_cells (φ := φ2) v
      have hno3 := fun v => encP_one (φ := φ2) v
      simp only [V.cells] at hnc3
      simp only [V.one] at hno3
      have hsh := encP_shape (φ := φ2) v
      simp only [V.shape] at hsh
      simp -implicitDefEqProofs (maxSteps := 2000000) (disch := omega) [-getElem?_pos, ht2, hnc3, hno3, hsh]
      refine ⟨by omega, ?_⟩
      refine ⟨⟨x.i + 1, x.vs ++ [v], m2, φ2, ψ2, ⟨σ2.objs, σ2.toks.set σ1.toks.length (x.vs.length + 1)⟩⟩, ⟨by dsimp only; omega, ?_, ?_, ?_, by dsimp only; omega, by have := hx.st; dsimp only; omega, ?_, ?_⟩, by dsimp only; omega, .eq (by simp; exact fun a ha => (encP_ext hA2.fe (okVs_iff.1 hx.vs a ha)).symm)⟩
      · rw [happ]
        simp [allM, Rs.bind, hrs, done]
      · exact (hx.aft.trans hA2 hx.st).tset _ (Nat.le_refl _) (by omega)
      · have := (List.getElem?_eq_some_iff.1 ht2).1
        dsimp only
        rw [List.getElem?_set_self this]
        simp
      · dsimp only
        exact hoo.mono (by omega)
      · dsimp only
        refine okVs_iff.2 fun w hw => ?_
        rcases List.mem_append.1 hw with hw | hw
        · exact (okVs_iff.1 hx.vs w hw).mono hos (by omega)
        · simp only [List.mem_singleton] at hw
          subst hw
          exact (hov _ rfl).mono (Nat.le_refl _) (by omega)
  · have hxe := hx.eq
    rw [List.take_of_length_le (l := l) (by omega)] at hxe
    rw [hxe]
    simp only [Rs.bind]
    have hd := hdo x.φ x.ψ x.m _ x.τ x.vs ⟨hxs, hx.ok, by omega, by omega⟩ (by omega) hx.vs (by omega) (by omega)
    subst hcs
    simp -implicitDefEqProofs (maxSteps := 2000000) (disch := omega) [-getElem?_pos, f0]
    refine (hd.args (ds := [.ptr mo 0, .v (.agg [.int .i64 k, .int .i64 p, .int .i64 n, .str s, .str t, .sl none false (ls.map .str), .sl none false (ns.map .str), .sl (some 8) false (l.map encE)]), .tsl σ1.toks.length none (x.vs.map (encP x.φ))]) rfl fun i d d' hd hd' => by
      match i with
      | 0 => cases hd; cases hd'; exact .refl _
      | 1 => cases hd; cases hd'; exact .refl _
      | 2 => cases hd; cases hd'; exact .tsl
      | n + 3 => cases hd).mono fun r σ3 ⟨φ3, ψ3, hr3, hA3⟩ => ?_
    subst hr3
    simp -implicitDefEqProofs (maxSteps := 2000000) (disch := omega) [-getElem?_pos]
    exact ⟨_, _, WeakR.refl _ _ _, hO _ _ _ ⟨φ3, ψ3, rfl, (hx.aft.trans hA3 hx.st).back hS1⟩⟩
theorem k_Eval {mo tt : Nat} : ∀ g, EvCt mo tt g
  | 0 => fun e env m φ ψ σ L h hc hen hf => absurd hf (Nat.not_lt_zero _)
  | g + 1 => fun e => by
    obtain ⟨k, p, n, s, t, ls, ns, l⟩ := e
    by_cases h14 : k = 14
    · exact k_Eval14 (k_Eval g) h14
    · exact k_EvalO (k_Eval g) h14
end Go.Proofs.YtbifjffjibnjjaaDoor
