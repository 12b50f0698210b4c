/-
  A heap, walked: a word is set; a walk from a word. (Own work.)
-/
import Derived.Test.YtiomciifhkbklaaH11
set_option linter.unusedVariables false
set_option linter.unusedSimpArgs false
set_option maxHeartbeats 1000000
namespace Go.Proofs.Ytiomciifhkbklaa
open Go Go.Abs

def SetR (os os' : List Ho) (i : Nat) (w : Wd) : Prop := os' = os ∨ ∃ j, os' = setO os i j w
theorem k_Set {σ : Sg} {hp oL oH i : Nat} {half runs place I : Int} {os : List Ho} {dl dh : D} {w : Wd} (h : Hp σ hp oL oH half os runs dl dh) (ok : OkO os) (hi : idxAt os place = some i) (hw : fineW os w) :
    ACalls Try.prog 11 [.ptr hp 0, .v (.int .i64 place), .v (.int .i64 I), .v (wv w)] σ fun r σ' => (∃ v : V, r = .v v) ∧ ∃ os', Hp σ' hp oL oH half os' runs dl dh ∧ SetR os os' i w ∧ Fr σ σ' (HS hp oL oH os) := by
  obtain ⟨hil, hv⟩ := idxAt_iff.1 hi
  obtain ⟨o, ho⟩ : ∃ o, os[i]? = some o := ⟨_, List.getElem?_eq_getElem hil⟩
  have hs := fun (xs : List Ob) => k_Size (place := place) (h.on (σ' := ⟨σ.objs ++ xs, σ.toks⟩) on_app) ok
  rw [sizeO_some hi ho] at hs
  have hfi := fun (xs : List Ob) => k_Fine (l := [w]) (f := true) (h.on (σ' := ⟨σ.objs ++ xs, σ.toks⟩) on_app) ok
  rw [decide_eq_true (by simpa using hw)] at hfi
  have hc := h.cell
  have hsm := ok.small
  have hks := ok.k o (List.mem_of_getElem? ho)
  have hend := offs_end ho
  have hosz : osz o = 1 + o.l.length := rfl
  have hlw := wds_len os
  subst hv
  refine acalls_fit Try.func11 (by kernel_rfl) c11 rfl (by simp [a11]) fun hf => ?_
  clear hf
  simp -implicitDefEqProofs (maxSteps := 2000000) (disch := omega) [-getElem?_pos, a11]
  refine (hs _).then fun r hr => ?_
  subst hr
  by_cases h1 : I < 0
  · simp -implicitDefEqProofs (maxSteps := 2000000) (disch := omega) [-getElem?_pos, h1]
    exact ⟨_, _, WeakR.refl _ _ _, ⟨_, rfl⟩, os, h.on on_app, .inl rfl, by simpa using Fr.add σ _ [] _⟩
  obtain ⟨j, rfl⟩ : ∃ j : Nat, I = j := ⟨I.toNat, by omega⟩
  by_cases h2 : o.l.length ≤ j
  · simp -implicitDefEqProofs (maxSteps := 2000000) (disch := omega) [-getElem?_pos, h1, h2]
    exact ⟨_, _, WeakR.refl _ _ _, ⟨_, rfl⟩, os, h.on on_app, .inl rfl, by simpa using Fr.add σ _ [] _⟩
  simp -implicitDefEqProofs (maxSteps := 2000000) (disch := omega) [-getElem?_pos, h1, h2]
  refine (hfi _).then fun r hr => ?_
  subst hr
  have hset := wds_set (w := w) ho (j := j) (by omega)
  have hvw := h.vw
  have hws0 : wds os ≠ [] := wds_ne.2 (by rintro rfl; simp at hil)
  have hn1 := h.n1
  have hoLl := hvw.lt hws0
  have hnew : ∀ σ', σ'.objs[hp]? = σ.objs[hp]? → (∀ i, i ≠ oL → i < σ.objs.length → σ'.objs[i]? = σ.objs[i]?) → VW σ' oL dl (wds (setO os i j w)) → Hp σ' hp oL oH half (setO os i j w) runs dl dh := fun σ' e1 e2 e3 =>
    ⟨e1.trans hc, e3, by rw [hds_set]; exact h.vb.on fun hn => e2 oH (Ne.symm h.n3) (h.vb.lt hn), h.n1, h.n2, h.n3⟩
  generalize hws : wds os = ws at hvw hset hlw
  obtain ⟨p, v⟩ := w
  cases hvw with
  | nil => simp at hlw; omega
  | msl w1 w2 w3 w4 =>
  rename_i J c
  have hlt : offs os i + 1 + j < ws.length := by omega
  have hpr := put_row (ws := ws) (w := ⟨p, v⟩) (J := J) (i := offs os i + 1 + j) hlt
  replace hpr : List.take ((offs os i + 1 + j) * 2) (fl ws ++ J) ++ D.v (.bool p) :: D.v (.int .i64 v) :: List.drop ((offs os i + 1 + j) * 2 + 2) (fl ws ++ J) = fl (ws.set (offs os i + 1 + j) ⟨p, v⟩) ++ J := hpr
  have htn : ((offs os i : Int) + 1 + j).toNat = offs os i + 1 + j := by omega
  have hcl := (List.getElem?_eq_some_iff.1 hc).1
  simp -implicitDefEqProofs (maxSteps := 2000000) (disch := omega) [-getElem?_pos, hc, List.getElem?_append_left, List.set_append_left, w2, htn, hpr]
  refine ⟨by omega, by omega, by rw [fl_len]; omega, ⟨_, _, WeakR.refl _ _ _, ⟨_, rfl⟩, setO os i j ⟨p, v⟩, hnew _ ?_ ?_ ?_, .inr ⟨j, rfl⟩, ?_⟩⟩
  · refine (List.getElem?_append_left (by simpa using hcl)).trans ?_
    exact List.getElem?_set_ne hn1
  · intro k hk hkl
    refine (List.getElem?_append_left (by simpa using hkl)).trans ?_
    exact List.getElem?_set_ne (Ne.symm hk)
  · rw [← hset]
    have := VW.msl (σ := ⟨σ.objs.set oL (Ob.cells (fl (ws.set (offs os i + 1 + j) ⟨p, v⟩) ++ J)) ++ [Ob.cells [D.v (V.bool p), D.v (V.int IntKind.i64 v)]], σ.toks⟩) (o := oL) (ws := ws.set (offs os i + 1 + j) ⟨p, v⟩) (J := J) (c := c)
      (by intro e; have := congrArg List.length e; simp at this; exact w1 this) ((List.getElem?_append_left (by simpa using hoLl)).trans (List.getElem?_set_self hoLl)) (by rw [← w3]; simp [fl_len]) w4
    rwa [List.length_set] at this
  · exact Fr.setApp (.inr (.inl ⟨rfl, by rintro rfl; simp at hil⟩))
end Go.Proofs.Ytiomciifhkbklaa
