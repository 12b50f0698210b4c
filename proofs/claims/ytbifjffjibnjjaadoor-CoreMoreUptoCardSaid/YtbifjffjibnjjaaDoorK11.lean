/-
  Core expressions, walked: what an expression comes to, by what its parts come to. (Own work.)
-/
import Derived.Test.YtbifjffjibnjjaaDoorK10
set_option linter.unusedVariables false
set_option linter.unusedSimpArgs false
set_option maxHeartbeats 1000000
namespace Go.Proofs.YtbifjffjibnjjaaDoor
open Go Go.Abs

theorem k_Do5 {mo tt g : Nat} {φ ψ : Nat → Nat} {m : Ms} {L : Nat} {n : Int} {s t : Str} {ns : List Str} {l : List Co} {f v : Vl} {σ : Sg} (hR : EvCt mo tt g) (h : Okm mo tt φ ψ m L σ) (hf : okV m.st.length L f) (hv : okV m.st.length L v) (hf0 : m.fuel < g) :
    ACalls Tryd.prog 54 [.ptr mo 0, .v (.agg [.int .i64 5, .int .i64 n, .str s, .str t, .sl none false (ns.map .str), .sl (some 6) false (l.map encC)]), .v (.sl (some 6) false ([f, v].map (encW φ)))] σ (Outc mo tt φ ψ m σ (doM (evM g) 5 s [f, v] m)) := by
  have hS := h.sto
  have hml := hS.mlt
  rw [show doM (evM g) 5 s [f, v] m = applyM (evM g) [f, v] m from rfl]
  refine acalls_fit Tryd.func54 (by kernel_rfl) c54M rfl (by simp [a54M]) fun hfit => ?_
  clear hfit
  simp -implicitDefEqProofs (maxSteps := 2000000) (disch := omega) [-getElem?_pos, a54M]

  refine (k_Apply hR ⟨hS.add _, h.ok, h.lo, h.hi⟩ hf hv hf0).mono fun r σ2 ⟨φ2, ψ2, hr, hA⟩ => ?_
  have h0 : σ2.objs[σ.objs.length + 1]? = some _ := hA.loc hS (j := 1) rfl
  have hl := (List.getElem?_eq_some_iff.1 h0).1
  obtain ⟨x0, x1, x2, x3, x4, x5, b0, hr2⟩ := resW_cells φ2 (applyM (evM g) [f, v] m).v
  subst hr
  rw [hr2]
  simp -implicitDefEqProofs (maxSteps := 2000000) (disch := omega) [-getElem?_pos, h0, hl, List.getElem?_set_self]
  exact ⟨_, _, WeakR.refl _ _ _, φ2, ψ2, hr2.symm, (hA.back hS).put _ (by omega) h0 (by omega)⟩

theorem k_Do8 {mo tt g : Nat} {φ ψ : Nat → Nat} {m : Ms} {L : Nat} {n : Int} {s t : Str} {ns : List Str} {l : List Co} {vs : List Vl} {σ : Sg} (hR : EvCt mo tt g) (h : Okm mo tt φ ψ m L σ) (hf0 : m.fuel < g) :
    ACalls Tryd.prog 54 [.ptr mo 0, .v (.agg [.int .i64 8, .int .i64 n, .str s, .str t, .sl none false (ns.map .str), .sl (some 6) false (l.map encC)]), .v (.sl (some 6) false (vs.map (encW φ)))] σ (Outc mo tt φ ψ m σ (doM (evM g) 8 s vs m)) := by
  have hS := h.sto
  have hml := hS.mlt
  rw [show doM (evM g) 8 s vs m = done (.tup vs) m from rfl]
  refine acalls_fit Tryd.func54 (by kernel_rfl) c54M rfl (by simp [a54M]) fun hfit => ?_
  clear hfit
  simp -implicitDefEqProofs (maxSteps := 2000000) (disch := omega) [-getElem?_pos, a54M]

  exact ⟨_, _, WeakR.refl _ _ _, φ, ψ, by simp [done, resW, encW, celW, encWs_eq], (Aft.refl hS).add _⟩
theorem k_Do9 {mo tt g : Nat} {φ ψ : Nat → Nat} {m : Ms} {L : Nat} {n : Int} {s t : Str} {ns : List Str} {l : List Co} {a b : Vl} {σ : Sg} (hR : EvCt mo tt g) (h : Okm mo tt φ ψ m L σ) (ha : okV m.st.length L a) (hb : okV m.st.length L b) (hf0 : m.fuel < g) :
    ACalls Tryd.prog 54 [.ptr mo 0, .v (.agg [.int .i64 9, .int .i64 n, .str s, .str t, .sl none false (ns.map .str), .sl (some 6) false (l.map encC)]), .v (.sl (some 6) false ([a, b].map (encW φ)))] σ (Outc mo tt φ ψ m σ (doM (evM g) 9 s [a, b] m)) := by
  have hS := h.sto
  have hml := hS.mlt
  rw [show doM (evM g) 9 s [a, b] m = tupleM 9 a b zVl m from rfl]
  have hhi := h.hi
  refine acalls_fit Tryd.func54 (by kernel_rfl) c54M rfl (by simp [a54M]) fun hfit => ?_
  clear hfit
  simp -implicitDefEqProofs (maxSteps := 2000000) (disch := omega) [-getElem?_pos, a54M]

  refine (k_Tuple2 (.inl rfl) (hS.add _) ha (by omega)).mono fun r σ2 ⟨φ2, ψ2, hr, hA⟩ => ?_
  have h0 : σ2.objs[σ.objs.length + 1]? = some _ := hA.loc hS (j := 1) rfl
  have hl := (List.getElem?_eq_some_iff.1 h0).1
  obtain ⟨x0, x1, x2, x3, x4, x5, b0, hr2⟩ := resW_cells φ2 (tupleM 9 a b zVl m).v
  subst hr
  rw [hr2]
  simp -implicitDefEqProofs (maxSteps := 2000000) (disch := omega) [-getElem?_pos, h0, hl, List.getElem?_set_self]
  exact ⟨_, _, WeakR.refl _ _ _, φ2, ψ2, hr2.symm, (hA.back hS).put _ (by omega) h0 (by omega)⟩

theorem k_Do11 {mo tt g : Nat} {φ ψ : Nat → Nat} {m : Ms} {L : Nat} {n : Int} {s t : Str} {ns : List Str} {l : List Co} {a b : Vl} {σ : Sg} (hR : EvCt mo tt g) (h : Okm mo tt φ ψ m L σ) (ha : okV m.st.length L a) (hb : okV m.st.length L b) (hf0 : m.fuel < g) :
    ACalls Tryd.prog 54 [.ptr mo 0, .v (.agg [.int .i64 11, .int .i64 n, .str s, .str t, .sl none false (ns.map .str), .sl (some 6) false (l.map encC)]), .v (.sl (some 6) false ([a, b].map (encW φ)))] σ (Outc mo tt φ ψ m σ (doM (evM g) 11 s [a, b] m)) := by
  have hS := h.sto
  have hml := hS.mlt
  rw [show doM (evM g) 11 s [a, b] m = tupleM 11 a b zVl m from rfl]
  have hhi := h.hi
  refine acalls_fit Tryd.func54 (by kernel_rfl) c54M rfl (by simp [a54M]) fun hfit => ?_
  clear hfit
  simp -implicitDefEqProofs (maxSteps := 2000000) (disch := omega) [-getElem?_pos, a54M]

  refine (k_Tuple2 (.inr rfl) (hS.add _) ha (by omega)).mono fun r σ2 ⟨φ2, ψ2, hr, hA⟩ => ?_
  have h0 : σ2.objs[σ.objs.length + 1]? = some _ := hA.loc hS (j := 1) rfl
  have hl := (List.getElem?_eq_some_iff.1 h0).1
  obtain ⟨x0, x1, x2, x3, x4, x5, b0, hr2⟩ := resW_cells φ2 (tupleM 11 a b zVl m).v
  subst hr
  rw [hr2]
  simp -implicitDefEqProofs (maxSteps := 2000000) (disch := omega) [-getElem?_pos, h0, hl, List.getElem?_set_self]
  exact ⟨_, _, WeakR.refl _ _ _, φ2, ψ2, hr2.symm, (hA.back hS).put _ (by omega) h0 (by omega)⟩

theorem k_Do10 {mo tt g : Nat} {φ ψ : Nat → Nat} {m : Ms} {L : Nat} {n : Int} {s t : Str} {ns : List Str} {l : List Co} {a b c : Vl} {σ : Sg} (hR : EvCt mo tt g) (h : Okm mo tt φ ψ m L σ) (hc : okV m.st.length L c) (hf0 : m.fuel < g) :
    ACalls Tryd.prog 54 [.ptr mo 0, .v (.agg [.int .i64 10, .int .i64 n, .str s, .str t, .sl none false (ns.map .str), .sl (some 6) false (l.map encC)]), .v (.sl (some 6) false ([a, b, c].map (encW φ)))] σ (Outc mo tt φ ψ m σ (doM (evM g) 10 s [a, b, c] m)) := by
  have hS := h.sto
  have hml := hS.mlt
  rw [show doM (evM g) 10 s [a, b, c] m = tupleM 10 c b a m from rfl]
  have hhi := h.hi
  refine acalls_fit Tryd.func54 (by kernel_rfl) c54M rfl (by simp [a54M]) fun hfit => ?_
  clear hfit
  simp -implicitDefEqProofs (maxSteps := 2000000) (disch := omega) [-getElem?_pos, a54M]

  refine (k_Tuple3 (.inl rfl) (hS.add _) hc (by omega)).mono fun r σ2 ⟨φ2, ψ2, hr, hA⟩ => ?_
  have h0 : σ2.objs[σ.objs.length + 1]? = some _ := hA.loc hS (j := 1) rfl
  have hl := (List.getElem?_eq_some_iff.1 h0).1
  obtain ⟨x0, x1, x2, x3, x4, x5, b0, hr2⟩ := resW_cells φ2 (tupleM 10 c b a m).v
  subst hr
  rw [hr2]
  simp -implicitDefEqProofs (maxSteps := 2000000) (disch := omega) [-getElem?_pos, h0, hl, List.getElem?_set_self]
  exact ⟨_, _, WeakR.refl _ _ _, φ2, ψ2, hr2.symm, (hA.back hS).put _ (by omega) h0 (by omega)⟩

theorem k_Do12 {mo tt g : Nat} {φ ψ : Nat → Nat} {m : Ms} {L : Nat} {n : Int} {s t : Str} {ns : List Str} {l : List Co} {a b c : Vl} {σ : Sg} (hR : EvCt mo tt g) (h : Okm mo tt φ ψ m L σ) (hc : okV m.st.length L c) (hf0 : m.fuel < g) :
    ACalls Tryd.prog 54 [.ptr mo 0, .v (.agg [.int .i64 12, .int .i64 n, .str s, .str t, .sl none false (ns.map .str), .sl (some 6) false (l.map encC)]), .v (.sl (some 6) false ([a, b, c].map (encW φ)))] σ (Outc mo tt φ ψ m σ (doM (evM g) 12 s [a, b, c] m)) := by
  have hS := h.sto
  have hml := hS.mlt
  rw [show doM (evM g) 12 s [a, b, c] m = tupleM 12 c b a m from rfl]
  have hhi := h.hi
  refine acalls_fit Tryd.func54 (by kernel_rfl) c54M rfl (by simp [a54M]) fun hfit => ?_
  clear hfit
  simp -implicitDefEqProofs (maxSteps := 2000000) (disch := omega) [-getElem?_pos, a54M]

  refine (k_Tuple3 (.inr rfl) (hS.add _) hc (by omega)).mono fun r σ2 ⟨φ2, ψ2, hr, hA⟩ => ?_
  have h0 : σ2.objs[σ.objs.length + 1]? = some _ := hA.loc hS (j := 1) rfl
  have hl := (List.getElem?_eq_some_iff.1 h0).1
  obtain ⟨x0, x1, x2, x3, x4, x5, b0, hr2⟩ := resW_cells φ2 (tupleM 12 c b a m).v
  subst hr
  rw [hr2]
  simp -implicitDefEqProofs (maxSteps := 2000000) (disch := omega) [-getElem?_pos, h0, hl, List.getElem?_set_self]
  exact ⟨_, _, WeakR.refl _ _ _, φ2, ψ2, hr2.symm, (hA.back hS).put _ (by omega) h0 (by omega)⟩

theorem k_Do13 {mo tt g : Nat} {φ ψ : Nat → Nat} {m : Ms} {L : Nat} {n : Int} {s t : Str} {ns : List Str} {l : List Co} {a b : Vl} {σ : Sg} (hR : EvCt mo tt g) (h : Okm mo tt φ ψ m L σ) (hf0 : m.fuel < g) :
    ACalls Tryd.prog 54 [.ptr mo 0, .v (.agg [.int .i64 13, .int .i64 n, .str s, .str t, .sl none false (ns.map .str), .sl (some 6) false (l.map encC)]), .v (.sl (some 6) false ([a, b].map (encW φ)))] σ (Outc mo tt φ ψ m σ (doM (evM g) 13 s [a, b] m)) := by
  have hS := h.sto
  have hml := hS.mlt
  obtain ⟨a0, a1, a2, a3, a4, a5, hca⟩ := list6 (celW_len (φ := φ) a)
  have hea : encW φ a = .agg [a0, a1, a2, a3, a4, a5] := by unfold encW; rw [hca]
  obtain ⟨b1, b2, b3, b4, b5, hcb⟩ := celW_kind (φ := φ) b
  have heb : encW φ b = .agg [.int .i64 (kindW b), b1, b2, b3, b4, b5] := by unfold encW; rw [hcb]
  have hx : [V.agg [.int .i64 (kindW b), b1, b2, b3, b4, b5]] = [b].map (encW φ) := by simp [heb]
  have k1 := fun (k : Int) (fl : Bool) (σ : Sg) => k_Are (ks := [k]) (f := fl) (σ := σ) hx (by simp) (by simp)
  simp only [areW, Bool.and_true, List.map_cons, List.map_nil] at k1
  simp only [List.map_cons, List.map_nil]
  rw [hea, heb]
  refine acalls_fit Tryd.func54 (by kernel_rfl) c54M rfl (by simp [a54M]) fun hfit => ?_
  clear hfit
  simp -implicitDefEqProofs (maxSteps := 2000000) (disch := omega) [-getElem?_pos, a54M]

  refine (k1 1 _ _).then fun r hr => ?_
  subst hr
  by_cases hk : kindW b = 1
  · obtain ⟨x, rfl⟩ := kind1 hk
    simp only [celW] at hcb
    cases hcb
    rw [show doM (evM g) 13 s [a, .int x] m = done (.tag x a) m from rfl]
    simp -implicitDefEqProofs (maxSteps := 2000000) (disch := omega) [-getElem?_pos, hk]
    exact ⟨_, _, WeakR.refl _ _ _, φ, ψ, by simp [done, resW, encW, celW, hca], (Aft.refl hS).add _⟩
  · rw [show doM (evM g) 13 s [a, b] m = stuckM m by cases b <;> first | rfl | exact absurd rfl hk]
    simp -implicitDefEqProofs (maxSteps := 2000000) (disch := omega) [-getElem?_pos, hk]
    refine (k_Stuck (hS.add _)).mono fun r σ2 ⟨φ2, ψ2, hr, hA⟩ => ?_
    have h0 : σ2.objs[σ.objs.length + 1]? = some _ := hA.loc hS (j := 1) rfl
    have hl := (List.getElem?_eq_some_iff.1 h0).1
    obtain ⟨x0, x1, x2, x3, x4, x5, b0, hr2⟩ := resW_cells φ2 (stuckM (α := Vl) m).v
    subst hr
    rw [hr2]
    simp -implicitDefEqProofs (maxSteps := 2000000) (disch := omega) [-getElem?_pos, h0, hl, List.getElem?_set_self]
    exact ⟨_, _, WeakR.refl _ _ _, φ2, ψ2, hr2.symm, (hA.back hS).put _ (by omega) h0 (by omega)⟩

theorem k_Do16 {mo tt g : Nat} {φ ψ : Nat → Nat} {m : Ms} {L : Nat} {n : Int} {s t : Str} {ns : List Str} {l : List Co} {a b : Vl} {σ : Sg} (hR : EvCt mo tt g) (h : Okm mo tt φ ψ m L σ) (ha : okV m.st.length L a) (hb : okV m.st.length L b) (hf0 : m.fuel < g) :
    ACalls Tryd.prog 54 [.ptr mo 0, .v (.agg [.int .i64 16, .int .i64 n, .str s, .str t, .sl none false (ns.map .str), .sl (some 6) false (l.map encC)]), .v (.sl (some 6) false ([a, b].map (encW φ)))] σ (Outc mo tt φ ψ m σ (doM (evM g) 16 s [a, b] m)) := by
  have hS := h.sto
  have hml := hS.mlt
  obtain ⟨a0, a1, a2, a3, a4, a5, hca⟩ := list6 (celW_len (φ := φ) a)
  have hea : encW φ a = .agg [a0, a1, a2, a3, a4, a5] := by unfold encW; rw [hca]
  obtain ⟨b0, b1, b2, b3, b4, b5, hcb⟩ := list6 (celW_len (φ := φ) b)
  have heb : encW φ b = .agg [b0, b1, b2, b3, b4, b5] := by unfold encW; rw [hcb]
  have hhi := h.hi
  have kop := fun xs : List Ob => k_Op (s := s) (hS.add xs) ha hb (by omega)
  rw [hea, heb] at kop
  simp only [List.map_cons, List.map_nil]
  rw [hea, heb, show doM (evM g) 16 s [a, b] m = opM s a b m from rfl]
  refine acalls_fit Tryd.func54 (by kernel_rfl) c54M rfl (by simp [a54M]) fun hfit => ?_
  clear hfit
  simp -implicitDefEqProofs (maxSteps := 2000000) (disch := omega) [-getElem?_pos, a54M]

  refine (kop _).mono fun r σ2 ⟨φ2, ψ2, hr, hA⟩ => ?_
  have h0 : σ2.objs[σ.objs.length + 1]? = some _ := hA.loc hS (j := 1) rfl
  have hl := (List.getElem?_eq_some_iff.1 h0).1
  obtain ⟨x0, x1, x2, x3, x4, x5, b0, hr2⟩ := resW_cells φ2 (opM s a b m).v
  subst hr
  rw [hr2]
  simp -implicitDefEqProofs (maxSteps := 2000000) (disch := omega) [-getElem?_pos, h0, hl, List.getElem?_set_self]
  exact ⟨_, _, WeakR.refl _ _ _, φ2, ψ2, hr2.symm, (hA.back hS).put _ (by omega) h0 (by omega)⟩

theorem kind6 {v : Vl} (h : kindW v = 6) : ∃ i, v = .ref i := by cases v <;> simp [kindW] at h; exact ⟨_, rfl⟩
theorem k_Do18 {mo tt g : Nat} {φ ψ : Nat → Nat} {m : Ms} {L : Nat} {n : Int} {s t : Str} {ns : List Str} {l : List Co} {a : Vl} {σ : Sg} (hR : EvCt mo tt g) (h : Okm mo tt φ ψ m L σ) (ha : okV m.st.length L a) (hf0 : m.fuel < g) :
    ACalls Tryd.prog 54 [.ptr mo 0, .v (.agg [.int .i64 18, .int .i64 n, .str s, .str t, .sl none false (ns.map .str), .sl (some 6) false (l.map encC)]), .v (.sl (some 6) false ([a].map (encW φ)))] σ (Outc mo tt φ ψ m σ (doM (evM g) 18 s [a] m)) := by
  have hS := h.sto
  have hml := hS.mlt
  obtain ⟨a1, a2, a3, a4, a5, hca⟩ := celW_kind (φ := φ) a
  have hea : encW φ a = .agg [.int .i64 (kindW a), a1, a2, a3, a4, a5] := by unfold encW; rw [hca]
  have hx : [V.agg [.int .i64 (kindW a), a1, a2, a3, a4, a5]] = [a].map (encW φ) := by simp [hea]
  have k1 := fun (k : Int) (fl : Bool) (σ : Sg) => k_Are (ks := [k]) (f := fl) (σ := σ) hx (by simp) (by simp)
  simp only [areW, Bool.and_true, List.map_cons, List.map_nil] at k1
  simp only [List.map_cons, List.map_nil]
  rw [hea]
  refine acalls_fit Tryd.func54 (by kernel_rfl) c54M rfl (by simp [a54M]) fun hfit => ?_
  clear hfit
  simp -implicitDefEqProofs (maxSteps := 2000000) (disch := omega) [-getElem?_pos, a54M]

  refine (k1 6 _ _).then fun r hr => ?_
  subst hr
  by_cases hk : kindW a = 6
  · obtain ⟨i, rfl⟩ := kind6 hk
    simp only [celW] at hca
    cases hca
    obtain ⟨v, hv⟩ : ∃ v, m.st[i]? = some v := ⟨_, List.getElem?_eq_getElem ha⟩
    obtain ⟨rest, hrest⟩ := hS.st i v hv
    rw [show doM (evM g) 18 s [.ref i] m = done v m by simp [doM, hv]]
    obtain ⟨v0, v1, v2, v3, v4, v5, hcv⟩ := list6 (celW_len (φ := φ) v)
    rw [hcv] at hrest
    simp -implicitDefEqProofs (maxSteps := 2000000) (disch := omega) [-getElem?_pos, hk]
    refine .mk (o := ψ i) ((List.getElem?_append_left (List.getElem?_eq_some_iff.1 hrest).1).trans hrest) ?_
    simp -implicitDefEqProofs (maxSteps := 2000000) (disch := omega) [-getElem?_pos]
    exact ⟨_, _, WeakR.refl _ _ _, φ, ψ, by simp [done, resW, encW, hcv], (Aft.refl hS).add _⟩
  · rw [show doM (evM g) 18 s [a] m = stuckM m by cases a <;> first | rfl | exact absurd rfl hk]
    simp -implicitDefEqProofs (maxSteps := 2000000) (disch := omega) [-getElem?_pos, hk]
    refine (k_Stuck (hS.add _)).mono fun r σ2 ⟨φ2, ψ2, hr, hA⟩ => ?_
    have h0 : σ2.objs[σ.objs.length + 1]? = some _ := hA.loc hS (j := 1) rfl
    have hl := (List.getElem?_eq_some_iff.1 h0).1
    obtain ⟨x0, x1, x2, x3, x4, x5, b0, hr2⟩ := resW_cells φ2 (stuckM (α := Vl) m).v
    subst hr
    rw [hr2]
    simp -implicitDefEqProofs (maxSteps := 2000000) (disch := omega) [-getElem?_pos, h0, hl, List.getElem?_set_self]
    exact ⟨_, _, WeakR.refl _ _ _, φ2, ψ2, hr2.symm, (hA.back hS).put _ (by omega) h0 (by omega)⟩

theorem k_Do21 {mo tt g : Nat} {φ ψ : Nat → Nat} {m : Ms} {L : Nat} {n : Int} {s t : Str} {ns : List Str} {l : List Co} {a : Vl} {σ : Sg} (hR : EvCt mo tt g) (h : Okm mo tt φ ψ m L σ) (hf0 : m.fuel < g) :
    ACalls Tryd.prog 54 [.ptr mo 0, .v (.agg [.int .i64 21, .int .i64 n, .str s, .str t, .sl none false (ns.map .str), .sl (some 6) false (l.map encC)]), .v (.sl (some 6) false ([a].map (encW φ)))] σ (Outc mo tt φ ψ m σ (doM (evM g) 21 s [a] m)) := by
  have hS := h.sto
  have hml := hS.mlt
  obtain ⟨a1, a2, a3, a4, a5, hca⟩ := celW_kind (φ := φ) a
  have hea : encW φ a = .agg [.int .i64 (kindW a), a1, a2, a3, a4, a5] := by unfold encW; rw [hca]
  have hx : [V.agg [.int .i64 (kindW a), a1, a2, a3, a4, a5]] = [a].map (encW φ) := by simp [hea]
  have k1 := fun (k : Int) (fl : Bool) (σ : Sg) => k_Are (ks := [k]) (f := fl) (σ := σ) hx (by simp) (by simp)
  simp only [areW, Bool.and_true, List.map_cons, List.map_nil] at k1
  simp only [List.map_cons, List.map_nil]
  rw [hea]
  refine acalls_fit Tryd.func54 (by kernel_rfl) c54M rfl (by simp [a54M]) fun hfit => ?_
  clear hfit
  simp -implicitDefEqProofs (maxSteps := 2000000) (disch := omega) [-getElem?_pos, a54M]

  refine (k1 1 _ _).then fun r hr => ?_
  subst hr
  by_cases hk : kindW a = 1
  · obtain ⟨x, rfl⟩ := kind1 hk
    simp only [celW] at hca
    cases hca
    rw [show doM (evM g) 21 s [.int x] m = done (.text (Lib.itoa x)) m from rfl]
    simp -implicitDefEqProofs (maxSteps := 2000000) (disch := omega) [-getElem?_pos, hk]
    refine k_Fmt.then fun r hr => ?_
    obtain ⟨rfl, hlen⟩ := hr
    simp -implicitDefEqProofs (maxSteps := 2000000) (disch := omega) [-getElem?_pos]
    exact ⟨_, _, WeakR.refl _ _ _, φ, ψ, by simp [done, resW, encW, celW, encWs_eq], (Aft.refl hS).add _⟩
  · rw [show doM (evM g) 21 s [a] m = stuckM m by cases a <;> first | rfl | exact absurd rfl hk]
    simp -implicitDefEqProofs (maxSteps := 2000000) (disch := omega) [-getElem?_pos, hk]
    refine (k_Stuck (hS.add _)).mono fun r σ2 ⟨φ2, ψ2, hr, hA⟩ => ?_
    have h0 : σ2.objs[σ.objs.length + 1]? = some _ := hA.loc hS (j := 1) rfl
    have hl := (List.getElem?_eq_some_iff.1 h0).1
    obtain ⟨x0, x1, x2, x3, x4, x5, b0, hr2⟩ := resW_cells φ2 (stuckM (α := Vl) m).v
    subst hr
    rw [hr2]
    simp -implicitDefEqProofs (maxSteps := 2000000) (disch := omega) [-getElem?_pos, h0, hl, List.getElem?_set_self]
    exact ⟨_, _, WeakR.refl _ _ _, φ2, ψ2, hr2.symm, (hA.back hS).put _ (by omega) h0 (by omega)⟩

end Go.Proofs.YtbifjffjibnjjaaDoor
