/-
  Expressions, walked: records built, references set, printing, reading. (Own work.)
-/
import Derived.Test.YtbifjffjibnjjaaDoorO9
set_option linter.unusedVariables false
set_option linter.unusedSimpArgs false
set_option maxHeartbeats 1000000
namespace Go.Proofs.YtbifjffjibnjjaaDoor
open Go Go.Abs

theorem build_take {s : Str} {v : Vl} : ∀ {ls : List Str} {vs : List Vl} {i : Nat} {e : En}, ls[i]? = some s → vs[i]? = some v → buildE (ls.take (i + 1)) (vs.take (i + 1)) e = setE (buildE (ls.take i) (vs.take i) e) s v
  | [], vs, i, e, h1, h2 => by cases h1
  | x :: ls, [], i, e, h1, h2 => by cases h2
  | x :: ls, w :: vs, 0, e, h1, h2 => by
    simp at h1 h2
    subst h1 h2
    simp [buildE]
  | x :: ls, w :: vs, i + 1, e, h1, h2 => by
    have := build_take (ls := ls) (vs := vs) (i := i) (e := setE e x w) (by simpa using h1) (by simpa using h2)
    simpa [buildE] using this
theorem k_Do8 {mo tt g : Nat} {φ ψ : Nat → Nat} {m : Ms} {L : Nat} {p n : Int} {s t : Str} {ls ns : List Str} {l : List Ex} {vs : List Vl} {σ : Sg} (hR : EvCt mo tt g) (h : Okm mo tt φ ψ m L σ) (hvl : vs.length = ls.length) (hlsl : ls.length ≤ L) (hf0 : m.fuel < g) :
    ACalls Tryd.prog 60 [.ptr mo 0, .v (encE (.mk 8 p n s t ls ns l)), .v (.sl none false (vs.map (encP φ)))] σ (Outc mo tt φ ψ m σ (doM (evM g) 8 s ls vs m)) := by
  have hS := h.sto
  have hml := hS.mlt
  have hhi := h.hi
  have hlo := h.lo
  rw [encE_mk]
  rw [show doM (evM g) 8 s ls vs m = done (.rcd (buildE ls vs .nil)) m from rfl]
  refine acalls_fit Tryd.func60 (by kernel_rfl) c60m rfl (by simp [a60m]) fun hfit => ?_
  clear hfit
  simp -implicitDefEqProofs (maxSteps := 2000000) (disch := omega) [-getElem?_pos, a60m]

  refine k_UnitM.mono fun r σ2 ⟨hr, hs⟩ => ?_
  subst hr hs
  simp -implicitDefEqProofs (maxSteps := 2000000) (disch := omega) [-getElem?_pos]
  refine W_loop (α := Nat) 0 (fun i => ls.length - i) (fun i => ⟨[(0, .ptr mo 0), (2, .v (.sl none false (vs.map (encP φ)))), (7, .ptr (σ.objs.length + 2) 0), (22, .v (.sl none false (ls.map .str))), (23, .v (.int .i64 ls.length)), (24, .v (.int .i64 i))], ⟨σ.objs ++ [.cells [.v (.int .i64 8), .v (.int .i64 p), .v (.int .i64 n), .v (.str s), .v (.str t), .v (.sl none false (ls.map .str)), .v (.sl none false (ns.map .str)), .v (.sl (some 8) false (l.map encE))], .map (fmD (encF φ (buildE (ls.take i) (vs.take i) .nil))), .cells (unitC (σ.objs.length + 1))], σ.toks⟩⟩)
    (fun i => i ≤ ls.length) (.eq2 (by simp [buildE, encF, fmD]) (by simp)) (by omega) fun i hi => ?_
  simp -implicitDefEqProofs (maxSteps := 2000000) (disch := omega) [-getElem?_pos, unitC]
  refine .mk (fun h2 => ?_) fun h2 => ?_
  · simp -implicitDefEqProofs (maxSteps := 2000000) (disch := omega) [-getElem?_pos, unitC, keyOk, keys_F, set_F]
    refine ⟨by omega, fun x hx => ⟨by omega, fun v hv => ?_⟩⟩
    have hb := build_take (e := .nil) hx hv
    exact ⟨i + 1, by omega, by dsimp only; omega, .eq2 (by simp [hb, unitC]) (by simp)⟩
  · simp -implicitDefEqProofs (maxSteps := 2000000) (disch := omega) [-getElem?_pos]
    rw [List.take_of_length_le (by omega), List.take_of_length_le (by omega)]
    exact .freezeP [.int .i64 4, .int .i64 0, .str [], .fmap (encF φ (buildE ls vs .nil)), .pnil, .pnil] (unitC (σ.objs.length + 1)) ⟨φ, ψ, by simp [done, resW, encP, boxP], Aft.refl hS⟩ (by simp [unitC]) (by simp [unitC]) rfl (giv6 (.inr ⟨σ.objs.length + 1, encF φ (buildE ls vs .nil), rfl, by omega, by simp, rfl⟩))
/-- What a reference points to is set. -/
theorem Sto.setL {mo tt : Nat} {φ ψ : Nat → Nat} {m : Ms} {σ : Sg} {i : Nat} {w : Vl} {rest : List D} (h : Sto mo tt φ ψ m σ) (hi : i < m.st.length) : Aft mo tt φ ψ m σ φ ψ { m with st := m.st.set i w } ⟨σ.objs.set (ψ i) (.known (φ i) ((refC φ w).map .v ++ rest)), σ.toks⟩ := by
  have hne : ψ i ≠ mo := h.ne hi h.mach
  refine ⟨⟨?_, h.tok, fun k v hk => ?_, fun a b ha hb => h.inj a b (by simpa using ha) (by simpa using hb)⟩, fun _ _ => rfl, fun _ _ => rfl, fun k h1 h2 => by simp only [List.length_set] at h2; omega, by simp, fun j hj hm hk => ?_, Nat.le_refl _, fun _ _ _ => rfl⟩
  · rw [List.getElem?_set_ne hne]; exact h.mach
  · by_cases hki : k = i
    · subst hki
      rw [List.getElem?_set_self hi] at hk
      cases hk
      exact ⟨rest, List.getElem?_set_self (h.lt hi)⟩
    · rw [List.getElem?_set_ne (Ne.symm hki)] at hk
      obtain ⟨r, hr⟩ := h.st k v hk
      have hkl := (List.getElem?_eq_some_iff.1 hk).1
      exact ⟨r, by rw [List.getElem?_set_ne (fun e => hki (h.inj _ _ hi hkl e).symm)]; exact hr⟩
  · show (σ.objs.set (ψ i) _)[j]? = _
    rw [List.getElem?_set_ne (fun e => hk i hi e)]
/-- Something is printed. -/
theorem Sto.say {mo tt : Nat} {φ ψ : Nat → Nat} {m : Ms} {σ : Sg} {x : Str} (h : Sto mo tt φ ψ m σ) : Aft mo tt φ ψ m σ φ ψ { m with tr := m.tr ++ [x] } ⟨σ.objs.set mo (machOb tt { m with tr := m.tr ++ [x] }), σ.toks.set tt (m.tr.length + 1)⟩ := by
  have htl := (List.getElem?_eq_some_iff.1 h.tok).1
  refine ⟨⟨List.getElem?_set_self h.mlt, by simp [htl], fun k v hk => ?_, h.inj⟩, fun _ _ => rfl, fun _ _ => rfl, fun k h1 h2 => absurd h1 (Nat.not_le_of_lt h2), by simp, fun i hi hm hk => ?_, by simp, fun t ht hn => ?_⟩
  · obtain ⟨rest, hr⟩ := h.st k v hk
    exact ⟨rest, by rw [List.getElem?_set_ne (Ne.symm (h.ne (List.getElem?_eq_some_iff.1 hk).1 h.mach))]; exact hr⟩
  · show (σ.objs.set mo _)[i]? = _
    rw [List.getElem?_set_ne (Ne.symm hm)]
  · show (σ.toks.set tt _)[t]? = _
    rw [List.getElem?_set_ne (Ne.symm hn)]
theorem k_Do19 {mo tt g : Nat} {φ ψ : Nat → Nat} {m : Ms} {L : Nat} {p n : Int} {s t : Str} {ls ns : List Str} {l : List Ex} {a b : Vl} {σ : Sg} (hR : EvCt mo tt g) (h : Okm mo tt φ ψ m L σ) (ha : okV m.st.length L a) (hb : okV m.st.length L b) (hf0 : m.fuel < g) :
    ACalls Tryd.prog 60 [.ptr mo 0, .v (encE (.mk 19 p n s t ls ns l)), .v (.sl none false ([a, b].map (encP φ)))] σ (Outc mo tt φ ψ m σ (doM (evM g) 19 s ls [a, b] m)) := by
  have hS := h.sto
  have hml := hS.mlt
  have hhi := h.hi
  have hlo := h.lo
  rw [encE_mk]
  have k1 := fun xs : List Ob => k_Are (ks := [6]) (f := false) (l := [a, b]) (hS.add xs) ⟨ha, hb, trivial⟩ (by simp) (by simp)
  simp only [areW, Bool.and_true, List.map_cons, List.map_nil] at k1
  have hpc := fun v => encP_cells (φ := φ) v
  have hpo := fun v => encP_one (φ := φ) v
  simp only [V.cells] at hpc
  simp only [V.one] at hpo
  simp only [List.map_cons, List.map_nil]
  refine acalls_fit Tryd.func60 (by kernel_rfl) c60m rfl (by simp [a60m]) fun hfit => ?_
  clear hfit
  simp -implicitDefEqProofs (maxSteps := 2000000) (disch := omega) [-getElem?_pos, a60m]

  refine (k1 _).then fun r hr => ?_
  subst hr
  by_cases hk : kindV a = 6
  · obtain ⟨i, rfl⟩ := kind6 hk
    obtain ⟨v, hv⟩ : ∃ v, m.st[i]? = some v := ⟨_, List.getElem?_eq_getElem ha⟩
    obtain ⟨rest, hrest⟩ := hS.st i v hv
    rw [show doM (evM g) 19 s ls [.ref i, b] m = done (.rcd .nil) { m with st := m.st.set i b } from rfl]
    have hlt := (List.getElem?_eq_some_iff.1 hrest).1
    simp only [encP]
    simp -implicitDefEqProofs (maxSteps := 2000000) (disch := omega) [-getElem?_pos, hk, hpc, hpo]
    refine .mk (o := ψ i) ((List.getElem?_append_left hlt).trans hrest) ?_
    simp -implicitDefEqProofs (maxSteps := 2000000) (disch := omega) [-getElem?_pos, putAt, refC, List.set_append_left, hlt, hpc, hpo]
    refine (k_Unit (φ := φ)).then fun r hr => ?_
    subst hr
    simp -implicitDefEqProofs (maxSteps := 2000000) (disch := omega) [-getElem?_pos]
    refine ⟨_, _, WeakR.refl _ _ _, φ, ψ, rfl, ?_⟩
    have := (hS.setL (w := b) (rest := rest) ha).add [Ob.cells [D.v (V.int .i64 19), D.v (V.int .i64 p), D.v (V.int .i64 n), D.v (V.str s), D.v (V.str t), D.v (V.sl none false (ls.map .str)), D.v (V.sl none false (ns.map .str)), D.v (V.sl (some 8) false (l.map encE))]]
    simpa [done, refC] using this
  · rw [show doM (evM g) 19 s ls [a, b] m = stuckM m by cases a <;> first | rfl | exact absurd rfl hk]
    simp -implicitDefEqProofs (maxSteps := 2000000) (disch := omega) [-getElem?_pos, hk]
    refine (k_Stuck (hS.add _)).mono fun r σ2 ⟨φ2, ψ2, hr, hA⟩ => ?_
    subst hr
    simp -implicitDefEqProofs (maxSteps := 2000000) (disch := omega) [-getElem?_pos]
    exact ⟨_, _, WeakR.refl _ _ _, φ2, ψ2, rfl, (hA.back hS)⟩

theorem kind2' {v : Vl} (h : kindV v = 2) : ∃ s, v = .text s := by cases v <;> simp [kindV] at h; exact ⟨_, rfl⟩
theorem k_Do20 {mo tt g : Nat} {φ ψ : Nat → Nat} {m : Ms} {L : Nat} {p n : Int} {s t : Str} {ls ns : List Str} {l : List Ex} {a : Vl} {σ : Sg} (hR : EvCt mo tt g) (h : Okm mo tt φ ψ m L σ) (ha : okV m.st.length L a) (hf0 : m.fuel < g) :
    ACalls Tryd.prog 60 [.ptr mo 0, .v (encE (.mk 20 p n s t ls ns l)), .v (.sl none false ([a].map (encP φ)))] σ (Outc mo tt φ ψ m σ (doM (evM g) 20 s ls [a] m)) := by
  have hS := h.sto
  have hml := hS.mlt
  have hhi := h.hi
  have hlo := h.lo
  rw [encE_mk]
  have k1 := fun xs : List Ob => k_Are (ks := [2]) (f := false) (l := [a]) (hS.add xs) ⟨ha, trivial⟩ (by simp) (by simp)
  simp only [areW, Bool.and_true, List.map_cons, List.map_nil] at k1
  have hm := hS.mach
  have htk := hS.tok
  have htr := h.ok.tr
  unfold machOb at hm
  simp only [List.map_cons, List.map_nil]
  refine acalls_fit Tryd.func60 (by kernel_rfl) c60m rfl (by simp [a60m]) fun hfit => ?_
  clear hfit
  simp -implicitDefEqProofs (maxSteps := 2000000) (disch := omega) [-getElem?_pos, a60m]

  refine (k1 _).then fun r hr => ?_
  subst hr
  by_cases hk : kindV a = 2
  · obtain ⟨x, rfl⟩ := kind2' hk
    rw [show doM (evM g) 20 s ls [.text x] m = done (.rcd .nil) { m with tr := m.tr ++ [x] } from rfl]
    simp only [encP, boxP]
    simp -implicitDefEqProofs (maxSteps := 2000000) (disch := omega) [-getElem?_pos, hk, List.getElem?_append_left, List.set_append_left, hm, htk, hml]
    refine ⟨by omega, ?_⟩
    refine (k_Unit (φ := φ)).then fun r hr => ?_
    subst hr
    simp -implicitDefEqProofs (maxSteps := 2000000) (disch := omega) [-getElem?_pos]
    refine ⟨_, _, WeakR.refl _ _ _, φ, ψ, rfl, ?_⟩
    have := (hS.say (x := x)).add [Ob.cells [D.v (V.int .i64 20), D.v (V.int .i64 p), D.v (V.int .i64 n), D.v (V.str s), D.v (V.str t), D.v (V.sl none false (ls.map .str)), D.v (V.sl none false (ns.map .str)), D.v (V.sl (some 8) false (l.map encE))]]
    simpa [done, machOb] using this
  · rw [show doM (evM g) 20 s ls [a] m = stuckM m by cases a <;> first | rfl | exact absurd rfl hk]
    simp -implicitDefEqProofs (maxSteps := 2000000) (disch := omega) [-getElem?_pos, hk]
    refine (k_Stuck (hS.add _)).mono fun r σ2 ⟨φ2, ψ2, hr, hA⟩ => ?_
    subst hr
    simp -implicitDefEqProofs (maxSteps := 2000000) (disch := omega) [-getElem?_pos]
    exact ⟨_, _, WeakR.refl _ _ _, φ2, ψ2, rfl, (hA.back hS)⟩

theorem k_Do21 {mo tt g : Nat} {φ ψ : Nat → Nat} {m : Ms} {L : Nat} {p n : Int} {s t : Str} {ls ns : List Str} {l : List Ex} {a : Vl} {σ : Sg} (hR : EvCt mo tt g) (h : Okm mo tt φ ψ m L σ) (ha : okV m.st.length L a) (hf0 : m.fuel < g) :
    ACalls Tryd.prog 60 [.ptr mo 0, .v (encE (.mk 21 p n s t ls ns l)), .v (.sl none false ([a].map (encP φ)))] σ (Outc mo tt φ ψ m σ (doM (evM g) 21 s ls [a] m)) := by
  have hS := h.sto
  have hml := hS.mlt
  have hhi := h.hi
  have hlo := h.lo
  rw [encE_mk]
  have k1 := fun xs : List Ob => k_Are (ks := [1]) (f := false) (l := [a]) (hS.add xs) ⟨ha, trivial⟩ (by simp) (by simp)
  simp only [areW, Bool.and_true, List.map_cons, List.map_nil] at k1
  simp only [List.map_cons, List.map_nil]
  refine acalls_fit Tryd.func60 (by kernel_rfl) c60m rfl (by simp [a60m]) fun hfit => ?_
  clear hfit
  simp -implicitDefEqProofs (maxSteps := 2000000) (disch := omega) [-getElem?_pos, a60m]

  refine (k1 _).then fun r hr => ?_
  subst hr
  by_cases hk : kindV a = 1
  · obtain ⟨x, rfl⟩ := kind1 hk
    rw [show doM (evM g) 21 s ls [.int x] m = done (.text (Lib.itoa x)) m from rfl]
    simp only [encP, boxP]
    simp -implicitDefEqProofs (maxSteps := 2000000) (disch := omega) [-getElem?_pos, hk]
    refine k_Fmt.then fun r hr => ?_
    obtain ⟨rfl, hil⟩ := hr
    simp -implicitDefEqProofs (maxSteps := 2000000) (disch := omega) [-getElem?_pos]
    exact ⟨_, _, WeakR.refl _ _ _, φ, ψ, by simp [done, resW, encP, boxP], (Aft.refl hS).add _⟩
  · rw [show doM (evM g) 21 s ls [a] m = stuckM m by cases a <;> first | rfl | exact absurd rfl hk]
    simp -implicitDefEqProofs (maxSteps := 2000000) (disch := omega) [-getElem?_pos, hk]
    refine (k_Stuck (hS.add _)).mono fun r σ2 ⟨φ2, ψ2, hr, hA⟩ => ?_
    subst hr
    simp -implicitDefEqProofs (maxSteps := 2000000) (disch := omega) [-getElem?_pos]
    exact ⟨_, _, WeakR.refl _ _ _, φ2, ψ2, rfl, (hA.back hS)⟩

theorem k_Do22 {mo tt g : Nat} {φ ψ : Nat → Nat} {m : Ms} {L : Nat} {p n : Int} {s t : Str} {ls ns : List Str} {l : List Ex} {σ : Sg} (hR : EvCt mo tt g) (h : Okm mo tt φ ψ m L σ) (hf0 : m.fuel < g) :
    ACalls Tryd.prog 60 [.ptr mo 0, .v (encE (.mk 22 p n s t ls ns l)), .v (.sl none false ([].map (encP φ)))] σ (Outc mo tt φ ψ m σ (doM (evM g) 22 s ls [] m)) := by
  have hS := h.sto
  have hml := hS.mlt
  have hhi := h.hi
  have hlo := h.lo
  rw [encE_mk]
  have hm := hS.mach
  unfold machOb at hm
  rw [show doM (evM g) 22 s ls [] m = readM m from rfl]
  simp only [List.map_nil]
  refine acalls_fit Tryd.func60 (by kernel_rfl) c60m rfl (by simp [a60m]) fun hfit => ?_
  clear hfit
  simp -implicitDefEqProofs (maxSteps := 2000000) (disch := omega) [-getElem?_pos, a60m]

  simp -implicitDefEqProofs (maxSteps := 2000000) (disch := omega) [-getElem?_pos, List.getElem?_append_left, List.set_append_left, hm, hml]
  refine .mk (fun hin => ?_) fun hin => ?_
  · rw [show readM m = endM 9 3 m by unfold readM; rw [hin]]
    simp -implicitDefEqProofs (maxSteps := 2000000) (disch := omega) [-getElem?_pos]
    refine (k_End (hS.add _)).mono fun r σ2 ⟨φ2, ψ2, hr, hA⟩ => ?_
    subst hr
    simp -implicitDefEqProofs (maxSteps := 2000000) (disch := omega) [-getElem?_pos]
    exact ⟨_, _, WeakR.refl _ _ _, φ2, ψ2, rfl, (hA.back hS)⟩

  · obtain ⟨x, r, hxr⟩ : ∃ x r, m.inp = x :: r := by
      cases h3 : m.inp with
      | nil => exact absurd h3 hin
      | cons x r => exact ⟨x, r, rfl⟩
    rw [hxr] at hm
    have hset := hS.setM (m' := { m with inp := r }) rfl rfl
    simp -implicitDefEqProofs (maxSteps := 2000000) (disch := omega) [-getElem?_pos, hxr, List.getElem?_append_left, List.set_append_left, hm, hml]
    refine ⟨by omega, ?_⟩
    refine .mk (fun h2 => ?_) fun h2 => ?_
    · rw [show readM m = endM 9 2 { m with inp := r } by unfold readM; rw [hxr]; simp; omega]
      simp -implicitDefEqProofs (maxSteps := 2000000) (disch := omega) [-getElem?_pos]
      refine (k_End (hset.sto.add _)).mono fun r' σ2 ⟨φ2, ψ2, hr, hA⟩ => ?_
      subst hr
      simp -implicitDefEqProofs (maxSteps := 2000000) (disch := omega) [-getElem?_pos]
      exact ⟨_, _, WeakR.refl _ _ _, φ2, ψ2, rfl, hset.trans (hA.back hset.sto) (Nat.le_refl _)⟩
    · rw [show readM m = done (.text x) { m with inp := r } by unfold readM; rw [hxr]; simp; omega]
      simp -implicitDefEqProofs (maxSteps := 2000000) (disch := omega) [-getElem?_pos]
      refine ⟨_, _, WeakR.refl _ _ _, φ, ψ, by simp [done, resW, encP, boxP], ?_⟩
      have := hset.add [Ob.cells [D.v (V.int .i64 22), D.v (V.int .i64 p), D.v (V.int .i64 n), D.v (V.str s), D.v (V.str t), D.v (V.sl none false (ls.map .str)), D.v (V.sl none false (ns.map .str)), D.v (V.sl (some 8) false (l.map encE))]]
      simpa [done, machOb] using this
end Go.Proofs.YtbifjffjibnjjaaDoor
