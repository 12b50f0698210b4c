/-
  Core expressions, walked: a new reference. (Own work.)
-/
import Derived.Test.YtbifjffjibnjjaaDoorK12
set_option linter.unusedVariables false
set_option linter.unusedSimpArgs false
set_option maxHeartbeats 1000000
namespace Go.Proofs.YtbifjffjibnjjaaDoor
open Go Go.Abs

def upd1 (φ : Nat → Nat) (n b : Nat) (k : Nat) : Nat := if k = n then b else φ k
theorem upd1_lt {φ : Nat → Nat} {n b k : Nat} (h : k < n) : upd1 φ n b k = φ k := if_neg (by omega)
theorem upd1_self {φ : Nat → Nat} {n b : Nat} : upd1 φ n b n = b := if_pos rfl
/-- A slice's only value gets a reference. -/
theorem Aft.ref {mo tt : Nat} {φb ψb φ ψ : Nat → Nat} {mb m : Ms} {L o b : Nat} {v : Vl} {rest : List D} {σb σ : Sg} (hB : Aft mo tt φb ψb mb σb φ ψ m σ) (hst : mb.st.length ≤ m.st.length) (hok : okM L m) (hv : okV m.st.length L v) (ob : σb.objs.length ≤ o) (hm : mo ≠ o) (ho : σ.objs[o]? = some (.cells ((celW φ v).map .v ++ rest))) :
    Aft mo tt φb ψb mb σb (upd1 φ m.st.length b) (upd1 ψ m.st.length o) { m with st := m.st ++ [v] } ⟨σ.objs.set o (.known b ((celW φ v).map .v ++ rest)), σ.toks⟩ := by
  have hol := (List.getElem?_eq_some_iff.1 ho).1
  have hS := hB.sto
  have hx : ∀ w, okV m.st.length L w → celW (upd1 φ m.st.length b) w = celW φ w := fun w hw => celW_ext (fun k hk => upd1_lt hk) hw
  refine ⟨⟨?_, hS.tok, fun k w hk => ?_, fun i j hi hj he => ?_⟩, fun k hk => (upd1_lt (by omega)).trans (hB.fe k hk), fun k hk => (upd1_lt (by omega)).trans (hB.pe k hk), fun k h1 h2 => ?_, by simpa using hB.objs, fun i hi hmi hk => ?_, hB.toks, hB.ktok⟩
  · rw [List.getElem?_set_ne (Ne.symm hm)]; exact hS.mach
  · by_cases hkn : k = m.st.length
    · subst hkn
      rw [List.getElem?_append_right (Nat.le_refl _), Nat.sub_self] at hk
      cases hk
      rw [upd1_self, upd1_self, hx _ hv]
      exact ⟨rest, List.getElem?_set_self hol⟩
    · have hlt : k < m.st.length := by
        have := (List.getElem?_eq_some_iff.1 hk).1
        simp only [List.length_append, List.length_singleton] at this
        omega
      rw [List.getElem?_append_left hlt] at hk
      obtain ⟨r, hr⟩ := hS.st k w hk
      rw [upd1_lt hlt, upd1_lt hlt, hx _ (hok.st w (List.mem_of_getElem? hk))]
      exact ⟨r, by rw [List.getElem?_set_ne (Ne.symm (hS.ne hlt ho))]; exact hr⟩
  · simp only [List.length_append, List.length_singleton] at hi hj
    by_cases h1 : i = m.st.length <;> by_cases h2 : j = m.st.length
    · omega
    · rw [h1, upd1_self, upd1_lt (by omega)] at he
      exact absurd he.symm (hS.ne (by omega) ho)
    · rw [h2, upd1_self, upd1_lt (by omega)] at he
      exact absurd he (hS.ne (by omega) ho)
    · rw [upd1_lt (by omega), upd1_lt (by omega)] at he
      exact hS.inj i j (by omega) (by omega) he
  · simp only [List.length_append, List.length_singleton] at h2
    by_cases hkn : k = m.st.length
    · rw [hkn, upd1_self]; exact ob
    · rw [upd1_lt (by omega)]; exact hB.new k h1 (by omega)
  · show (σ.objs.set o _)[i]? = _
    rw [List.getElem?_set_ne (by omega)]
    exact hB.keep i hi hmi hk
theorem k_Do17 {mo tt g : Nat} {φb ψb φ ψ : Nat → Nat} {mb m : Ms} {L o c : Nat} {v : Vl} {rest : List D} {n : Int} {s t : Str} {ns : List Str} {l : List Co} {σb σ : Sg} (hB : Aft mo tt φb ψb mb σb φ ψ m σ) (hst : mb.st.length ≤ m.st.length) (hok : okM L m) (hv : okV m.st.length L v) (hmb : mo < σb.objs.length) (ob : σb.objs.length ≤ o) (ho : σ.objs[o]? = some (.cells ((celW φ v).map .v ++ rest))) :
    ACalls Tryd.prog 54 [.ptr mo 0, .v (.agg [.int .i64 17, .int .i64 n, .str s, .str t, .sl none false (ns.map .str), .sl (some 6) false (l.map encC)]), .msl o 0 1 (some 6) (some c)] σ (Outc mo tt φb ψb mb σb (doM (evM g) 17 s [v] m)) := by
  have hol := (List.getElem?_eq_some_iff.1 ho).1
  have hml := hB.sto.mlt
  obtain ⟨v0, v1, v2, v3, v4, v5, hcv⟩ := list6 (celW_len (φ := φ) v)
  have hr := fun b => hB.ref (b := b) hst hok hv ob (by omega) ho
  rw [hcv] at ho hr
  rw [show doM (evM g) 17 s [v] m = done (.ref m.st.length) { m with st := m.st ++ [v] } from rfl]
  refine acalls_fit Tryd.func54 (by kernel_rfl) c54M rfl (by simp [a54M]) fun hfit => ?_
  clear hfit
  simp -implicitDefEqProofs (maxSteps := 2000000) (disch := omega) [-getElem?_pos, a54M]

  simp -implicitDefEqProofs (maxSteps := 2000000) (disch := omega) [-getElem?_pos, List.getElem?_append_left, List.set_append_left, ho, hol]
  intro b
  refine ⟨_, _, WeakR.refl _ _ _, upd1 φ m.st.length b, upd1 ψ m.st.length o, by simp [done, resW, encW, celW, upd1_self], ?_⟩
  have := (hr b).add [Ob.cells [D.v (V.int .i64 17), D.v (V.int .i64 n), D.v (V.str s), D.v (V.str t), D.v (V.sl none false (ns.map .str)), D.v (V.sl (some 6) false (l.map encC))], Ob.cells [D.v (V.int .i64 6), D.v (V.int .i64 0), D.v (V.str []), D.v V.snil, D.v V.pnil, D.v (V.adr b 0)]]
  simpa [done] using this
end Go.Proofs.YtbifjffjibnjjaaDoor
