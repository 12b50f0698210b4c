/-
  Core expressions, walked: references, printing, reading. (Own work.)
-/
import Derived.Test.YtbifjffjibnjjaaDoorK11
set_option linter.unusedVariables false
set_option linter.unusedSimpArgs false
set_option maxHeartbeats 1000000
namespace Go.Proofs.YtbifjffjibnjjaaDoor
open Go Go.Abs

theorem unit_le {φ : Nat → Nat} : D.Le (.v (.agg [.int .i64 4, .int .i64 0, .str [], .snil, .pnil, .pnil])) (.v (encW φ (.tup []))) := by
  unfold encW
  simp only [celW, encWs]
  refine VLe.d (VLe.agg ⟨.refl _, .refl _, .refl _, .snil, .refl _, .refl _, trivial⟩ ?_)
  intro c hc
  simp only [List.mem_cons, List.not_mem_nil, or_false] at hc
  rcases hc with rfl | rfl | rfl | rfl | rfl | rfl <;> rfl
/-- What a reference points to is set. -/
theorem Sto.setL {mo tt : Nat} {φ ψ : Nat → Nat} {m : Ms} {σ : Sg} {i : Nat} {w : Vl} {rest : List D} (h : Sto mo tt φ ψ m σ) (hi : i < m.st.length) : Aft mo tt φ ψ m σ φ ψ { m with st := m.st.set i w } ⟨σ.objs.set (ψ i) (.known (φ i) ((celW φ w).map .v ++ rest)), σ.toks⟩ := by
  have hne : ψ i ≠ mo := h.ne hi h.mach
  refine ⟨⟨?_, h.tok, fun k v hk => ?_, fun a b ha hb => h.inj a b (by simpa using ha) (by simpa using hb)⟩, fun _ _ => rfl, fun _ _ => rfl, fun k h1 h2 => by simp only [List.length_set] at h2; omega, by simp, fun j hj hm hk => ?_, Nat.le_refl _, fun _ _ _ => rfl⟩
  · rw [List.getElem?_set_ne hne]; exact h.mach
  · by_cases hki : k = i
    · subst hki
      rw [List.getElem?_set_self hi] at hk
      cases hk
      exact ⟨rest, List.getElem?_set_self (h.lt hi)⟩
    · rw [List.getElem?_set_ne (Ne.symm hki)] at hk
      obtain ⟨r, hr⟩ := h.st k v hk
      have hkl := (List.getElem?_eq_some_iff.1 hk).1
      exact ⟨r, by rw [List.getElem?_set_ne (fun e => hki (h.inj _ _ hi hkl e).symm)]; exact hr⟩
  · show (σ.objs.set (ψ i) _)[j]? = _
    rw [List.getElem?_set_ne (fun e => hk i hi e)]
/-- Something is printed. -/
theorem Sto.say {mo tt : Nat} {φ ψ : Nat → Nat} {m : Ms} {σ : Sg} {x : Str} (h : Sto mo tt φ ψ m σ) : Aft mo tt φ ψ m σ φ ψ { m with tr := m.tr ++ [x] } ⟨σ.objs.set mo (machOb tt { m with tr := m.tr ++ [x] }), σ.toks.set tt (m.tr.length + 1)⟩ := by
  have htl := (List.getElem?_eq_some_iff.1 h.tok).1
  refine ⟨⟨List.getElem?_set_self h.mlt, by simp [htl], fun k v hk => ?_, h.inj⟩, fun _ _ => rfl, fun _ _ => rfl, fun k h1 h2 => absurd h1 (Nat.not_le_of_lt h2), by simp, fun i hi hm hk => ?_, by simp, fun t ht hn => ?_⟩
  · obtain ⟨rest, hr⟩ := h.st k v hk
    exact ⟨rest, by rw [List.getElem?_set_ne (Ne.symm (h.ne (List.getElem?_eq_some_iff.1 hk).1 h.mach))]; exact hr⟩
  · show (σ.objs.set mo _)[i]? = _
    rw [List.getElem?_set_ne (Ne.symm hm)]
  · show (σ.toks.set tt _)[t]? = _
    rw [List.getElem?_set_ne (Ne.symm hn)]
theorem k_Do19 {mo tt g : Nat} {φ ψ : Nat → Nat} {m : Ms} {L : Nat} {n : Int} {s t : Str} {ns : List Str} {l : List Co} {a b : Vl} {σ : Sg} (hR : EvCt mo tt g) (h : Okm mo tt φ ψ m L σ) (ha : okV m.st.length L a) (hf0 : m.fuel < g) :
    ACalls Tryd.prog 54 [.ptr mo 0, .v (.agg [.int .i64 19, .int .i64 n, .str s, .str t, .sl none false (ns.map .str), .sl (some 6) false (l.map encC)]), .v (.sl (some 6) false ([a, b].map (encW φ)))] σ (Outc mo tt φ ψ m σ (doM (evM g) 19 s [a, b] m)) := by
  have hS := h.sto
  have hml := hS.mlt
  obtain ⟨a1, a2, a3, a4, a5, hca⟩ := celW_kind (φ := φ) a
  have hea : encW φ a = .agg [.int .i64 (kindW a), a1, a2, a3, a4, a5] := by unfold encW; rw [hca]
  obtain ⟨b0, b1, b2, b3, b4, b5, hcb⟩ := list6 (celW_len (φ := φ) b)
  have heb : encW φ b = .agg [b0, b1, b2, b3, b4, b5] := by unfold encW; rw [hcb]
  have hx : [V.agg [.int .i64 (kindW a), a1, a2, a3, a4, a5], V.agg [b0, b1, b2, b3, b4, b5]] = [a, b].map (encW φ) := by simp [hea, heb]
  have k1 := fun (k : Int) (fl : Bool) (σ : Sg) => k_Are (ks := [k]) (f := fl) (σ := σ) hx (by simp) (by simp)
  simp only [areW, Bool.and_true, List.map_cons, List.map_nil] at k1
  simp only [List.map_cons, List.map_nil]
  rw [hea, heb]
  refine acalls_fit Tryd.func54 (by kernel_rfl) c54M rfl (by simp [a54M]) fun hfit => ?_
  clear hfit
  simp -implicitDefEqProofs (maxSteps := 2000000) (disch := omega) [-getElem?_pos, a54M]

  refine (k1 6 _ _).then fun r hr => ?_
  subst hr
  by_cases hk : kindW a = 6
  · obtain ⟨i, rfl⟩ := kind6 hk
    simp only [celW] at hca
    cases hca
    obtain ⟨v, hv⟩ : ∃ v, m.st[i]? = some v := ⟨_, List.getElem?_eq_getElem ha⟩
    obtain ⟨rest, hrest⟩ := hS.st i v hv
    rw [show doM (evM g) 19 s [.ref i, b] m = done (.tup []) { m with st := m.st.set i b } from rfl]
    obtain ⟨v0, v1, v2, v3, v4, v5, hcv⟩ := list6 (celW_len (φ := φ) v)
    rw [hcv] at hrest
    have hlt := (List.getElem?_eq_some_iff.1 hrest).1
    simp -implicitDefEqProofs (maxSteps := 2000000) (disch := omega) [-getElem?_pos, hk]
    refine .mk (o := ψ i) ((List.getElem?_append_left hlt).trans hrest) ?_
    simp -implicitDefEqProofs (maxSteps := 2000000) (disch := omega) [-getElem?_pos, putAt, List.set_append_left]
    have hset := hS.setL (w := b) (rest := rest) ha
    rw [hcb] at hset
    refine ⟨_, _, weakR_le (.tup2 unit_le (.refl _)), φ, ψ, rfl, ?_⟩
    have := hset.add [Ob.cells [D.v (V.int .i64 19), D.v (V.int .i64 n), D.v (V.str s), D.v (V.str t), D.v (V.sl none false (ns.map .str)), D.v (V.sl (some 6) false (l.map encC))], Ob.cells [D.v (V.int .i64 4), D.v (V.int .i64 0), D.v (V.str []), D.v V.snil, D.v V.pnil, D.v V.pnil]]
    simpa [done] using this
  · rw [show doM (evM g) 19 s [a, b] m = stuckM m by cases a <;> first | rfl | exact absurd rfl hk]
    simp -implicitDefEqProofs (maxSteps := 2000000) (disch := omega) [-getElem?_pos, hk]
    refine (k_Stuck (hS.add _)).mono fun r σ2 ⟨φ2, ψ2, hr, hA⟩ => ?_
    have h0 : σ2.objs[σ.objs.length + 1]? = some _ := hA.loc hS (j := 1) rfl
    have hl := (List.getElem?_eq_some_iff.1 h0).1
    obtain ⟨x0, x1, x2, x3, x4, x5, b0, hr2⟩ := resW_cells φ2 (stuckM (α := Vl) m).v
    subst hr
    rw [hr2]
    simp -implicitDefEqProofs (maxSteps := 2000000) (disch := omega) [-getElem?_pos, h0, hl, List.getElem?_set_self]
    exact ⟨_, _, WeakR.refl _ _ _, φ2, ψ2, hr2.symm, (hA.back hS).put _ (by omega) h0 (by omega)⟩

theorem k_Do20 {mo tt g : Nat} {φ ψ : Nat → Nat} {m : Ms} {L : Nat} {n : Int} {s t : Str} {ns : List Str} {l : List Co} {a : Vl} {σ : Sg} (hR : EvCt mo tt g) (h : Okm mo tt φ ψ m L σ) (hf0 : m.fuel < g) :
    ACalls Tryd.prog 54 [.ptr mo 0, .v (.agg [.int .i64 20, .int .i64 n, .str s, .str t, .sl none false (ns.map .str), .sl (some 6) false (l.map encC)]), .v (.sl (some 6) false ([a].map (encW φ)))] σ (Outc mo tt φ ψ m σ (doM (evM g) 20 s [a] m)) := by
  have hS := h.sto
  have hml := hS.mlt
  obtain ⟨a1, a2, a3, a4, a5, hca⟩ := celW_kind (φ := φ) a
  have hea : encW φ a = .agg [.int .i64 (kindW a), a1, a2, a3, a4, a5] := by unfold encW; rw [hca]
  have hx : [V.agg [.int .i64 (kindW a), a1, a2, a3, a4, a5]] = [a].map (encW φ) := by simp [hea]
  have k1 := fun (k : Int) (fl : Bool) (σ : Sg) => k_Are (ks := [k]) (f := fl) (σ := σ) hx (by simp) (by simp)
  simp only [areW, Bool.and_true, List.map_cons, List.map_nil] at k1
  have hm := hS.mach
  have htk := hS.tok
  have htr := h.ok.tr
  have hhi := h.hi
  unfold machOb at hm
  simp only [List.map_cons, List.map_nil]
  rw [hea]
  refine acalls_fit Tryd.func54 (by kernel_rfl) c54M rfl (by simp [a54M]) fun hfit => ?_
  clear hfit
  simp -implicitDefEqProofs (maxSteps := 2000000) (disch := omega) [-getElem?_pos, a54M]

  refine (k1 2 _ _).then fun r hr => ?_
  subst hr
  by_cases hk : kindW a = 2
  · obtain ⟨x, rfl⟩ := kind2 hk
    simp only [celW] at hca
    cases hca
    rw [show doM (evM g) 20 s [.text x] m = done (.tup []) { m with tr := m.tr ++ [x] } from rfl]
    simp -implicitDefEqProofs (maxSteps := 2000000) (disch := omega) [-getElem?_pos, hk, List.getElem?_append_left, List.set_append_left, hm, htk, hml]
    refine ⟨by omega, ?_⟩
    refine ⟨_, _, weakR_le (.tup2 unit_le (.refl _)), φ, ψ, rfl, ?_⟩
    have := (hS.say (x := x)).add [Ob.cells [D.v (V.int .i64 20), D.v (V.int .i64 n), D.v (V.str s), D.v (V.str t), D.v (V.sl none false (ns.map .str)), D.v (V.sl (some 6) false (l.map encC))], Ob.cells [D.v (V.int .i64 4), D.v (V.int .i64 0), D.v (V.str []), D.v V.snil, D.v V.pnil, D.v V.pnil]]
    simpa [done, machOb] using this
  · rw [show doM (evM g) 20 s [a] m = stuckM m by cases a <;> first | rfl | exact absurd rfl hk]
    simp -implicitDefEqProofs (maxSteps := 2000000) (disch := omega) [-getElem?_pos, hk]
    refine (k_Stuck (hS.add _)).mono fun r σ2 ⟨φ2, ψ2, hr, hA⟩ => ?_
    have h0 : σ2.objs[σ.objs.length + 1]? = some _ := hA.loc hS (j := 1) rfl
    have hl := (List.getElem?_eq_some_iff.1 h0).1
    obtain ⟨x0, x1, x2, x3, x4, x5, b0, hr2⟩ := resW_cells φ2 (stuckM (α := Vl) m).v
    subst hr
    rw [hr2]
    simp -implicitDefEqProofs (maxSteps := 2000000) (disch := omega) [-getElem?_pos, h0, hl, List.getElem?_set_self]
    exact ⟨_, _, WeakR.refl _ _ _, φ2, ψ2, hr2.symm, (hA.back hS).put _ (by omega) h0 (by omega)⟩

theorem k_Do22 {mo tt g : Nat} {φ ψ : Nat → Nat} {m : Ms} {L : Nat} {n : Int} {s t : Str} {ns : List Str} {l : List Co} {σ : Sg} (hR : EvCt mo tt g) (h : Okm mo tt φ ψ m L σ) (hf0 : m.fuel < g) :
    ACalls Tryd.prog 54 [.ptr mo 0, .v (.agg [.int .i64 22, .int .i64 n, .str s, .str t, .sl none false (ns.map .str), .sl (some 6) false (l.map encC)]), .v (.sl (some 6) false ([].map (encW φ)))] σ (Outc mo tt φ ψ m σ (doM (evM g) 22 s [] m)) := by
  have hS := h.sto
  have hml := hS.mlt
  have hm := hS.mach
  unfold machOb at hm
  simp only [List.map_nil]
  rw [show doM (evM g) 22 s [] m = readM m from rfl]
  refine acalls_fit Tryd.func54 (by kernel_rfl) c54M rfl (by simp [a54M]) fun hfit => ?_
  clear hfit
  simp -implicitDefEqProofs (maxSteps := 2000000) (disch := omega) [-getElem?_pos, a54M]

  simp -implicitDefEqProofs (maxSteps := 2000000) (disch := omega) [-getElem?_pos, List.getElem?_append_left, List.set_append_left, hm, hml]
  refine .mk (fun hin => ?_) fun hin => ?_
  · rw [show readM m = endM 9 3 m by unfold readM; rw [hin]]
    simp -implicitDefEqProofs (maxSteps := 2000000) (disch := omega) [-getElem?_pos]
    refine (k_End (hS.add _)).mono fun r σ2 ⟨φ2, ψ2, hr, hA⟩ => ?_
    have h0 : σ2.objs[σ.objs.length + 1]? = some _ := hA.loc hS (j := 1) rfl
    have hl := (List.getElem?_eq_some_iff.1 h0).1
    obtain ⟨x0, x1, x2, x3, x4, x5, b0, hr2⟩ := resW_cells φ2 (endM (α := Vl) 9 3 m).v
    subst hr
    rw [hr2]
    simp -implicitDefEqProofs (maxSteps := 2000000) (disch := omega) [-getElem?_pos, h0, hl, List.getElem?_set_self]
    exact ⟨_, _, WeakR.refl _ _ _, φ2, ψ2, hr2.symm, (hA.back hS).put _ (by omega) h0 (by omega)⟩

  · obtain ⟨x, r, hxr⟩ : ∃ x r, m.inp = x :: r := by
      cases h3 : m.inp with
      | nil => exact absurd h3 hin
      | cons x r => exact ⟨x, r, rfl⟩
    rw [hxr] at hm
    have hset := hS.setM (m' := { m with inp := r }) rfl rfl
    simp -implicitDefEqProofs (maxSteps := 2000000) (disch := omega) [-getElem?_pos, hxr, List.getElem?_append_left, List.set_append_left, hm, hml]
    refine ⟨by omega, ?_⟩
    refine .mk (fun h2 => ?_) fun h2 => ?_
    · rw [show readM m = endM 9 2 { m with inp := r } by unfold readM; rw [hxr]; simp; omega]
      simp -implicitDefEqProofs (maxSteps := 2000000) (disch := omega) [-getElem?_pos]
      refine (k_End (hset.sto.add _)).mono fun r' σ2 ⟨φ2, ψ2, hr, hA⟩ => ?_
      replace hr : r' = .tup [.v zW, .v (.bool false)] := hr
      subst hr
      have h0 := hA.loc hset.sto (j := 1) rfl
      simp only [List.length_set] at h0
      have hl := (List.getElem?_eq_some_iff.1 h0).1
      unfold zW
      simp -implicitDefEqProofs (maxSteps := 2000000) (disch := omega) [-getElem?_pos, h0, hl, List.getElem?_set_self]
      exact ⟨_, _, WeakR.refl _ _ _, φ2, ψ2, rfl, (hset.trans (hA.back hset.sto) (Nat.le_refl _)).put _ (by omega) h0 (by omega)⟩
    · rw [show readM m = done (.text x) { m with inp := r } by unfold readM; rw [hxr]; simp; omega]
      simp -implicitDefEqProofs (maxSteps := 2000000) (disch := omega) [-getElem?_pos]
      refine ⟨_, _, WeakR.refl _ _ _, φ, ψ, by simp [done, resW, encW, celW], ?_⟩
      have := hset.add [Ob.cells [D.v (V.int .i64 22), D.v (V.int .i64 n), D.v (V.str s), D.v (V.str t), D.v (V.sl none false (ns.map .str)), D.v (V.sl (some 6) false (l.map encC))], Ob.cells [D.v (V.int .i64 2), D.v (V.int .i64 0), D.v (V.str x), D.v V.snil, D.v V.pnil, D.v V.pnil]]
      simpa [done, machOb] using this
end Go.Proofs.YtbifjffjibnjjaaDoor
