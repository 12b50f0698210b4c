/-
  Expressions, walked: what a form comes to, by its parts' values. (Own work.)
-/
import Derived.Test.YtbifjffjibnjjaaDoorO8
set_option linter.unusedVariables false
set_option linter.unusedSimpArgs false
set_option maxHeartbeats 1000000
namespace Go.Proofs.YtbifjffjibnjjaaDoor
open Go Go.Abs

theorem k_Do5 {mo tt g : Nat} {φ ψ : Nat → Nat} {m : Ms} {L : Nat} {p n : Int} {s t : Str} {ls ns : List Str} {l : List Ex} {f v : Vl} {σ : Sg} (hR : EvCt mo tt g) (h : Okm mo tt φ ψ m L σ) (hf : okV m.st.length L f) (hv : okV m.st.length L v) (hf0 : m.fuel < g) :
    ACalls Tryd.prog 60 [.ptr mo 0, .v (encE (.mk 5 p n s t ls ns l)), .v (.sl none false ([f, v].map (encP φ)))] σ (Outc mo tt φ ψ m σ (doM (evM g) 5 s ls [f, v] m)) := by
  have hS := h.sto
  have hml := hS.mlt
  have hhi := h.hi
  have hlo := h.lo
  rw [encE_mk]
  have k1 := fun xs : List Ob => k_Apply (b := false) hR ⟨hS.add xs, h.ok, h.lo, h.hi⟩ hf hv hf0
  rw [show doM (evM g) 5 s ls [f, v] m = applyM (evM g) [f, v] m from rfl]
  simp only [List.map_cons, List.map_nil] at k1
  simp only [List.map_cons, List.map_nil]
  refine acalls_fit Tryd.func60 (by kernel_rfl) c60m rfl (by simp [a60m]) fun hfit => ?_
  clear hfit
  simp -implicitDefEqProofs (maxSteps := 2000000) (disch := omega) [-getElem?_pos, a60m]

  refine (k1 _).mono fun r σ2 ⟨φ2, ψ2, hr, hA⟩ => ?_
  subst hr
  simp -implicitDefEqProofs (maxSteps := 2000000) (disch := omega) [-getElem?_pos]
  exact ⟨_, _, WeakR.refl _ _ _, φ2, ψ2, rfl, (hA.back hS)⟩

theorem k_Do9 {mo tt g : Nat} {φ ψ : Nat → Nat} {m : Ms} {L : Nat} {p n : Int} {s t : Str} {ls ns : List Str} {l : List Ex} {r : Vl} {σ : Sg} (hR : EvCt mo tt g) (h : Okm mo tt φ ψ m L σ) (hr : okV m.st.length L r) (hf0 : m.fuel < g) :
    ACalls Tryd.prog 60 [.ptr mo 0, .v (encE (.mk 9 p n s t ls ns l)), .v (.sl none false ([r].map (encP φ)))] σ (Outc mo tt φ ψ m σ (doM (evM g) 9 s ls [r] m)) := by
  have hS := h.sto
  have hml := hS.mlt
  have hhi := h.hi
  have hlo := h.lo
  rw [encE_mk]
  have k1 := fun xs : List Ob => k_Field (f := false) (k := 9) (p := p) (n := n) (s := s) (t := t) (ls := ls) (ns := ns) (l := l) (x := zVl) (hS.add xs) (vs := [r]) (r := r) (L := L) ⟨hr, trivial⟩ (by simp) rfl (fun a b => by first | exact absurd rfl a | exact absurd rfl b)
  rw [show doM (evM g) 9 s ls [r] m = fieldM 9 s zVl r m from rfl]
  rw [encE_mk] at k1
  simp only [List.map_cons, List.map_nil] at k1
  simp only [List.map_cons, List.map_nil]
  refine acalls_fit Tryd.func60 (by kernel_rfl) c60m rfl (by simp [a60m]) fun hfit => ?_
  clear hfit
  simp -implicitDefEqProofs (maxSteps := 2000000) (disch := omega) [-getElem?_pos, a60m]

  refine (k1 _).mono fun r σ2 ⟨φ2, ψ2, hr, hA⟩ => ?_
  subst hr
  simp -implicitDefEqProofs (maxSteps := 2000000) (disch := omega) [-getElem?_pos]
  exact ⟨_, _, WeakR.refl _ _ _, φ2, ψ2, rfl, (hA.back hS)⟩

theorem k_Do11 {mo tt g : Nat} {φ ψ : Nat → Nat} {m : Ms} {L : Nat} {p n : Int} {s t : Str} {ls ns : List Str} {l : List Ex} {r : Vl} {σ : Sg} (hR : EvCt mo tt g) (h : Okm mo tt φ ψ m L σ) (hr : okV m.st.length L r) (hf0 : m.fuel < g) :
    ACalls Tryd.prog 60 [.ptr mo 0, .v (encE (.mk 11 p n s t ls ns l)), .v (.sl none false ([r].map (encP φ)))] σ (Outc mo tt φ ψ m σ (doM (evM g) 11 s ls [r] m)) := by
  have hS := h.sto
  have hml := hS.mlt
  have hhi := h.hi
  have hlo := h.lo
  rw [encE_mk]
  have k1 := fun xs : List Ob => k_Field (f := false) (k := 11) (p := p) (n := n) (s := s) (t := t) (ls := ls) (ns := ns) (l := l) (x := zVl) (hS.add xs) (vs := [r]) (r := r) (L := L) ⟨hr, trivial⟩ (by simp) rfl (fun a b => by first | exact absurd rfl a | exact absurd rfl b)
  rw [show doM (evM g) 11 s ls [r] m = fieldM 11 s zVl r m from rfl]
  rw [encE_mk] at k1
  simp only [List.map_cons, List.map_nil] at k1
  simp only [List.map_cons, List.map_nil]
  refine acalls_fit Tryd.func60 (by kernel_rfl) c60m rfl (by simp [a60m]) fun hfit => ?_
  clear hfit
  simp -implicitDefEqProofs (maxSteps := 2000000) (disch := omega) [-getElem?_pos, a60m]

  refine (k1 _).mono fun r σ2 ⟨φ2, ψ2, hr, hA⟩ => ?_
  subst hr
  simp -implicitDefEqProofs (maxSteps := 2000000) (disch := omega) [-getElem?_pos]
  exact ⟨_, _, WeakR.refl _ _ _, φ2, ψ2, rfl, (hA.back hS)⟩

theorem k_Do10 {mo tt g : Nat} {φ ψ : Nat → Nat} {m : Ms} {L : Nat} {p n : Int} {s t : Str} {ls ns : List Str} {l : List Ex} {x r : Vl} {σ : Sg} (hR : EvCt mo tt g) (h : Okm mo tt φ ψ m L σ) (hx : okV m.st.length L x) (hr : okV m.st.length L r) (hf0 : m.fuel < g) :
    ACalls Tryd.prog 60 [.ptr mo 0, .v (encE (.mk 10 p n s t ls ns l)), .v (.sl none false ([x, r].map (encP φ)))] σ (Outc mo tt φ ψ m σ (doM (evM g) 10 s ls [x, r] m)) := by
  have hS := h.sto
  have hml := hS.mlt
  have hhi := h.hi
  have hlo := h.lo
  rw [encE_mk]
  have k1 := fun xs : List Ob => k_Field (f := false) (k := 10) (p := p) (n := n) (s := s) (t := t) (ls := ls) (ns := ns) (l := l) (x := x) (hS.add xs) (vs := [x, r]) (r := r) (L := L) ⟨hx, hr, trivial⟩ (by simp) rfl (fun _ _ => rfl)
  rw [show doM (evM g) 10 s ls [x, r] m = fieldM 10 s x r m from rfl]
  rw [encE_mk] at k1
  simp only [List.map_cons, List.map_nil] at k1
  simp only [List.map_cons, List.map_nil]
  refine acalls_fit Tryd.func60 (by kernel_rfl) c60m rfl (by simp [a60m]) fun hfit => ?_
  clear hfit
  simp -implicitDefEqProofs (maxSteps := 2000000) (disch := omega) [-getElem?_pos, a60m]

  refine (k1 _).mono fun r σ2 ⟨φ2, ψ2, hr, hA⟩ => ?_
  subst hr
  simp -implicitDefEqProofs (maxSteps := 2000000) (disch := omega) [-getElem?_pos]
  exact ⟨_, _, WeakR.refl _ _ _, φ2, ψ2, rfl, (hA.back hS)⟩

theorem k_Do12 {mo tt g : Nat} {φ ψ : Nat → Nat} {m : Ms} {L : Nat} {p n : Int} {s t : Str} {ls ns : List Str} {l : List Ex} {x r : Vl} {σ : Sg} (hR : EvCt mo tt g) (h : Okm mo tt φ ψ m L σ) (hx : okV m.st.length L x) (hr : okV m.st.length L r) (hf0 : m.fuel < g) :
    ACalls Tryd.prog 60 [.ptr mo 0, .v (encE (.mk 12 p n s t ls ns l)), .v (.sl none false ([x, r].map (encP φ)))] σ (Outc mo tt φ ψ m σ (doM (evM g) 12 s ls [x, r] m)) := by
  have hS := h.sto
  have hml := hS.mlt
  have hhi := h.hi
  have hlo := h.lo
  rw [encE_mk]
  have k1 := fun xs : List Ob => k_Field (f := false) (k := 12) (p := p) (n := n) (s := s) (t := t) (ls := ls) (ns := ns) (l := l) (x := x) (hS.add xs) (vs := [x, r]) (r := r) (L := L) ⟨hx, hr, trivial⟩ (by simp) rfl (fun _ _ => rfl)
  rw [show doM (evM g) 12 s ls [x, r] m = fieldM 12 s x r m from rfl]
  rw [encE_mk] at k1
  simp only [List.map_cons, List.map_nil] at k1
  simp only [List.map_cons, List.map_nil]
  refine acalls_fit Tryd.func60 (by kernel_rfl) c60m rfl (by simp [a60m]) fun hfit => ?_
  clear hfit
  simp -implicitDefEqProofs (maxSteps := 2000000) (disch := omega) [-getElem?_pos, a60m]

  refine (k1 _).mono fun r σ2 ⟨φ2, ψ2, hr, hA⟩ => ?_
  subst hr
  simp -implicitDefEqProofs (maxSteps := 2000000) (disch := omega) [-getElem?_pos]
  exact ⟨_, _, WeakR.refl _ _ _, φ2, ψ2, rfl, (hA.back hS)⟩

theorem k_Do13 {mo tt g : Nat} {φ ψ : Nat → Nat} {m : Ms} {L : Nat} {p n : Int} {s t : Str} {ls ns : List Str} {l : List Ex} {v : Vl} {σ : Sg} (hR : EvCt mo tt g) (h : Okm mo tt φ ψ m L σ) (hf0 : m.fuel < g) :
    ACalls Tryd.prog 60 [.ptr mo 0, .v (encE (.mk 13 p n s t ls ns l)), .v (.sl none false ([v].map (encP φ)))] σ (Outc mo tt φ ψ m σ (doM (evM g) 13 s ls [v] m)) := by
  have hS := h.sto
  have hml := hS.mlt
  have hhi := h.hi
  have hlo := h.lo
  rw [encE_mk]
  rw [show doM (evM g) 13 s ls [v] m = done (.tag s v) m from rfl]
  have hpc := fun v => encP_cells (φ := φ) v
  have hpo := fun v => encP_one (φ := φ) v
  simp only [V.cells] at hpc
  simp only [V.one] at hpo
  simp only [List.map_cons, List.map_nil]
  refine acalls_fit Tryd.func60 (by kernel_rfl) c60m rfl (by simp [a60m]) fun hfit => ?_
  clear hfit
  simp -implicitDefEqProofs (maxSteps := 2000000) (disch := omega) [-getElem?_pos, a60m]

  simp -implicitDefEqProofs (maxSteps := 2000000) (disch := omega) [-getElem?_pos, hpc, hpo]
  exact ⟨_, _, WeakR.refl _ _ _, φ, ψ, by simp [done, resW, encP, boxP], (Aft.refl hS).add _⟩
theorem k_Do16 {mo tt g : Nat} {φ ψ : Nat → Nat} {m : Ms} {L : Nat} {p n : Int} {s t : Str} {ls ns : List Str} {l : List Ex} {a b : Vl} {σ : Sg} (hR : EvCt mo tt g) (h : Okm mo tt φ ψ m L σ) (ha : okV m.st.length L a) (hb : okV m.st.length L b) (hf0 : m.fuel < g) :
    ACalls Tryd.prog 60 [.ptr mo 0, .v (encE (.mk 16 p n s t ls ns l)), .v (.sl none false ([a, b].map (encP φ)))] σ (Outc mo tt φ ψ m σ (doM (evM g) 16 s ls [a, b] m)) := by
  have hS := h.sto
  have hml := hS.mlt
  have hhi := h.hi
  have hlo := h.lo
  rw [encE_mk]
  have k1 := fun xs : List Ob => k_Op (f := false) (s := s) (hS.add xs) ha hb (by omega)
  rw [show doM (evM g) 16 s ls [a, b] m = opM s a b m from rfl]
  simp only [List.map_cons, List.map_nil] at k1
  simp only [List.map_cons, List.map_nil]
  refine acalls_fit Tryd.func60 (by kernel_rfl) c60m rfl (by simp [a60m]) fun hfit => ?_
  clear hfit
  simp -implicitDefEqProofs (maxSteps := 2000000) (disch := omega) [-getElem?_pos, a60m]

  refine (k1 _).mono fun r σ2 ⟨φ2, ψ2, hr, hA⟩ => ?_
  subst hr
  simp -implicitDefEqProofs (maxSteps := 2000000) (disch := omega) [-getElem?_pos]
  exact ⟨_, _, WeakR.refl _ _ _, φ2, ψ2, rfl, (hA.back hS)⟩


def upd1 (φ : Nat → Nat) (n b : Nat) (k : Nat) : Nat := if k = n then b else φ k
theorem upd1_lt {φ : Nat → Nat} {n b k : Nat} (h : k < n) : upd1 φ n b k = φ k := if_neg (by omega)
theorem upd1_self {φ : Nat → Nat} {n b : Nat} : upd1 φ n b n = b := if_pos rfl
/-- A value gets a reference. -/
theorem Sto.ref {mo tt : Nat} {φ ψ : Nat → Nat} {m : Ms} {L b : Nat} {v : Vl} {σ : Sg} (hS : Sto mo tt φ ψ m σ) (hok : okM L m) (hv : okV m.st.length L v) (xs : List Ob) :
    Aft mo tt φ ψ m σ (upd1 φ m.st.length b) (upd1 ψ m.st.length (σ.objs.length + xs.length)) { m with st := m.st ++ [v] } ⟨σ.objs ++ (xs ++ [.known b ((refC φ v).map .v)]), σ.toks⟩ := by
  have hx : ∀ w, okV m.st.length L w → refC (upd1 φ m.st.length b) w = refC φ w := fun w hw => by unfold refC; rw [encP_ext (fun k hk => upd1_lt hk) hw]
  refine ⟨⟨?_, hS.tok, fun k w hk => ?_, fun i j hi hj he => ?_⟩, fun k hk => upd1_lt hk, fun k hk => upd1_lt hk, fun k h1 h2 => ?_, by simp, fun i hi hmi hk => ?_, Nat.le_refl _, fun _ _ _ => rfl⟩
  · rw [List.getElem?_append_left hS.mlt]; exact hS.mach
  · by_cases hkn : k = m.st.length
    · subst hkn
      rw [List.getElem?_append_right (Nat.le_refl _), Nat.sub_self] at hk
      cases hk
      rw [upd1_self, upd1_self, hx _ hv]
      refine ⟨[], ?_⟩
      rw [List.getElem?_append_right (by omega), Nat.add_sub_cancel_left, List.getElem?_append_right (Nat.le_refl _), Nat.sub_self, List.append_nil]
      rfl
    · have hlt : k < m.st.length := by
        have := (List.getElem?_eq_some_iff.1 hk).1
        simp only [List.length_append, List.length_singleton] at this
        omega
      rw [List.getElem?_append_left hlt] at hk
      obtain ⟨r, hr⟩ := hS.st k w hk
      rw [upd1_lt hlt, upd1_lt hlt, hx _ (hok.st w (List.mem_of_getElem? hk))]
      exact ⟨r, by rw [List.getElem?_append_left (hS.lt hlt)]; exact hr⟩
  · simp only [List.length_append, List.length_singleton] at hi hj
    by_cases h1 : i = m.st.length <;> by_cases h2 : j = m.st.length
    · omega
    · rw [h1, upd1_self, upd1_lt (by omega)] at he
      have := hS.lt (k := j) (by omega)
      omega
    · rw [h2, upd1_self, upd1_lt (by omega)] at he
      have := hS.lt (k := i) (by omega)
      omega
    · rw [upd1_lt (by omega), upd1_lt (by omega)] at he
      exact hS.inj i j (by omega) (by omega) he
  · simp only [List.length_append, List.length_singleton] at h2
    have hkn : k = m.st.length := by omega
    rw [hkn, upd1_self]
    omega
  · exact List.getElem?_append_left hi
theorem k_Do17 {mo tt g : Nat} {φ ψ : Nat → Nat} {m : Ms} {L : Nat} {p n : Int} {s t : Str} {ls ns : List Str} {l : List Ex} {v : Vl} {σ : Sg} (hR : EvCt mo tt g) (h : Okm mo tt φ ψ m L σ) (hv : okV m.st.length L v) (hf0 : m.fuel < g) :
    ACalls Tryd.prog 60 [.ptr mo 0, .v (encE (.mk 17 p n s t ls ns l)), .v (.sl none false ([v].map (encP φ)))] σ (Outc mo tt φ ψ m σ (doM (evM g) 17 s ls [v] m)) := by
  have hS := h.sto
  have hml := hS.mlt
  have hhi := h.hi
  have hlo := h.lo
  rw [encE_mk]
  rw [show doM (evM g) 17 s ls [v] m = done (.ref m.st.length) { m with st := m.st ++ [v] } from rfl]
  have hpc := fun v => encP_cells (φ := φ) v
  have hpo := fun v => encP_one (φ := φ) v
  simp only [V.cells] at hpc
  simp only [V.one] at hpo
  simp only [List.map_cons, List.map_nil]
  refine acalls_fit Tryd.func60 (by kernel_rfl) c60m rfl (by simp [a60m]) fun hfit => ?_
  clear hfit
  simp -implicitDefEqProofs (maxSteps := 2000000) (disch := omega) [-getElem?_pos, a60m]

  simp -implicitDefEqProofs (maxSteps := 2000000) (disch := omega) [-getElem?_pos, hpc, hpo]
  intro b
  refine ⟨_, _, WeakR.refl _ _ _, _, _, ?_, hS.ref (b := b) h.ok hv [_]⟩
  simp [done, resW, encP, upd1_self]
theorem kind6 {v : Vl} (h : kindV v = 6) : ∃ k, v = .ref k := by cases v <;> simp [kindV] at h; exact ⟨_, rfl⟩
theorem k_Do18 {mo tt g : Nat} {φ ψ : Nat → Nat} {m : Ms} {L : Nat} {p n : Int} {s t : Str} {ls ns : List Str} {l : List Ex} {a : Vl} {σ : Sg} (hR : EvCt mo tt g) (h : Okm mo tt φ ψ m L σ) (ha : okV m.st.length L a) (hf0 : m.fuel < g) :
    ACalls Tryd.prog 60 [.ptr mo 0, .v (encE (.mk 18 p n s t ls ns l)), .v (.sl none false ([a].map (encP φ)))] σ (Outc mo tt φ ψ m σ (doM (evM g) 18 s ls [a] m)) := by
  have hS := h.sto
  have hml := hS.mlt
  have hhi := h.hi
  have hlo := h.lo
  rw [encE_mk]
  have k1 := fun xs : List Ob => k_Are (ks := [6]) (f := false) (l := [a]) (hS.add xs) ⟨ha, trivial⟩ (by simp) (by simp)
  simp only [areW, Bool.and_true, List.map_cons, List.map_nil] at k1
  simp only [List.map_cons, List.map_nil]
  refine acalls_fit Tryd.func60 (by kernel_rfl) c60m rfl (by simp [a60m]) fun hfit => ?_
  clear hfit
  simp -implicitDefEqProofs (maxSteps := 2000000) (disch := omega) [-getElem?_pos, a60m]

  refine (k1 _).then fun r hr => ?_
  subst hr
  by_cases hk : kindV a = 6
  · obtain ⟨i, rfl⟩ := kind6 hk
    obtain ⟨v, hv⟩ : ∃ v, m.st[i]? = some v := ⟨_, List.getElem?_eq_getElem ha⟩
    obtain ⟨rest, hrest⟩ := hS.st i v hv
    rw [show doM (evM g) 18 s ls [.ref i] m = done ((m.st[i]?).getD zVl) m from rfl, hv]
    have hlt := (List.getElem?_eq_some_iff.1 hrest).1
    simp only [encP]
    simp -implicitDefEqProofs (maxSteps := 2000000) (disch := omega) [-getElem?_pos, hk]
    refine .mk (o := ψ i) ((List.getElem?_append_left hlt).trans hrest) ?_
    simp -implicitDefEqProofs (maxSteps := 2000000) (disch := omega) [-getElem?_pos, refC]
    exact ⟨_, _, WeakR.refl _ _ _, φ, ψ, by simp [done, resW], (Aft.refl hS).add _⟩
  · rw [show doM (evM g) 18 s ls [a] m = stuckM m by cases a <;> first | rfl | exact absurd rfl hk]
    simp -implicitDefEqProofs (maxSteps := 2000000) (disch := omega) [-getElem?_pos, hk]
    refine (k_Stuck (hS.add _)).mono fun r σ2 ⟨φ2, ψ2, hr, hA⟩ => ?_
    subst hr
    simp -implicitDefEqProofs (maxSteps := 2000000) (disch := omega) [-getElem?_pos]
    exact ⟨_, _, WeakR.refl _ _ _, φ2, ψ2, rfl, (hA.back hS)⟩

end Go.Proofs.YtbifjffjibnjjaaDoor
