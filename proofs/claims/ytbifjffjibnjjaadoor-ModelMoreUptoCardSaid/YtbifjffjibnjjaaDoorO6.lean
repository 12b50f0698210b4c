/-
  Expressions, walked: records. (Own work.)
-/
import Derived.Test.YtbifjffjibnjjaaDoorO5
import Derived.Test.YtbifjffjibnjjaaDoorIter2
set_option linter.unusedVariables false
set_option linter.unusedSimpArgs false
set_option maxHeartbeats 1000000
namespace Go.Proofs.YtbifjffjibnjjaaDoor
open Go Go.Abs Go.Maps Go.Shelf

/-- A map that never changes any more is copied. -/
theorem k_Clone {es : List (V × V)} {σ : Sg} : ACalls Tryd.prog 104 [.v (.fmap es)] σ fun r σ' => r = .map σ.objs.length ∧ σ' = ⟨σ.objs ++ [.map (fmD es)], σ.toks⟩ := by
  refine ⟨⟨_, Tryd.func104, by kernel_rfl, by kernel_rfl⟩, fun m w us hI hlen hr => ?_⟩
  obtain ⟨u, rfl⟩ : ∃ u, us = [u] := by
    match us, hlen with
    | [u], _ => exact ⟨u, rfl⟩
  have h0 := hr 0 _ u rfl rfl
  have h1 := h0.v_inv
  cases h1 with
  | fmap _ b ms clock hh hF hd hl hk hv =>
  refine (Go.Proofs.AnyW.maps_Clone cloneLays b ms clock w hh).mono fun e w' ⟨he, hw⟩ => ?_
  subst hw
  have hX := Ext.add m w (.map ms clock)
  refine ⟨_, _, _, m.add w.heap.size, he, ⟨rfl, rfl⟩, hI.add (.map ms clock) (.map (fmD es)) ⟨ms, clock, heap_alloc_new w _, by simpa [fmD] using hl, fun i x e hx he2 => ?_, hd⟩, hX, .map _ w.heap.size (.inl (by simp [Gh.add, ← hI.lobj]))⟩
  rw [fmD, List.getElem?_map] at hx
  cases hq : es[i]? with
  | none => rw [hq] at hx; cases hx
  | some y =>
    rw [hq] at hx
    cases hx
    exact ⟨(hk i y e hq he2).mono hX.fz, .v _ _ ((hv i y e hq he2).mono hX.fz)⟩

theorem keys_F {φ : Nat → Nat} : ∀ l, keysOk .str (fmD (encF φ l)) = true
  | .nil => by simp [encF, fmD, keysOk]
  | .cons x v e => by
    have := keys_F (φ := φ) e
    simp only [encF, fmD, keysOk, List.map_cons, List.all_cons] at this ⊢
    rw [this]
    rfl
theorem keq_ne {s x : Str} (h : ¬ x = s) : keq (.str s) (.str x) = false := by simpa [keq] using fun e => h e.symm
theorem find_F {φ : Nat → Nat} {s : Str} : ∀ l, mfind (.str s) (fmD (encF φ l)) = (lookE l s).map fun v => D.v (encP φ v)
  | .nil => by simp [encF, fmD, mfind, lookE]
  | .cons x v e => by
    have ih := find_F (φ := φ) (s := s) e
    by_cases h : x = s
    · subst h; simp [encF, fmD, mfind, lookE, keq]
    · have hk := keq_ne h
      simp only [encF, fmD, List.map_cons, mfind, hk, lookE, h, if_false, Bool.false_eq_true] at ih ⊢
      exact ih
theorem set_F {φ : Nat → Nat} {s : Str} {w : Vl} : ∀ l, mset (.str s) (.v (encP φ w)) (fmD (encF φ l)) = fmD (encF φ (setE l s w))
  | .nil => by simp [encF, fmD, mset, setE]
  | .cons x v e => by
    have ih := set_F (φ := φ) (s := s) (w := w) e
    by_cases h : x = s
    · subst h; simp [encF, fmD, mset, setE, keq]
    · have hk := keq_ne h
      simp only [encF, fmD, List.map_cons, mset, hk, setE, h, if_false, Bool.false_eq_true] at ih ⊢
      rw [ih]
theorem del_F {φ : Nat → Nat} {s : Str} : ∀ l, merase (.str s) (fmD (encF φ l)) = fmD (encF φ (delE l s))
  | .nil => by simp [encF, fmD, merase, delE]
  | .cons x v e => by
    have ih := del_F (φ := φ) (s := s) e
    by_cases h : x = s
    · subst h; simp [encF, fmD, merase, delE, keq]
    · have hk := keq_ne h
      simp only [encF, fmD, List.map_cons, merase, hk, delE, h, if_false, Bool.false_eq_true] at ih ⊢
      rw [ih]
theorem kind4 {v : Vl} (h : kindV v = 4) : ∃ l, v = .rcd l := by cases v <;> simp [kindV] at h; exact ⟨_, rfl⟩
theorem beq_dec {k n : Int} : (k == n) = decide (k = n) := by by_cases h : k = n <;> simp [h]
theorem field_stuck {k : Int} {s : Str} {x r : Vl} {m : Ms} (h : ¬ kindV r = 4) : fieldM k s x r m = stuckM m := by
  cases r <;> first | rfl | exact absurd rfl h
theorem k_Field {mo tt : Nat} {φ ψ : Nat → Nat} {m : Ms} {L : Nat} {k p n : Int} {s t : Str} {ls ns : List Str} {l : List Ex} {vs : List Vl} {x r : Vl} {f : Bool} {σ : Sg} (h : Sto mo tt φ ψ m σ) (hv : okVs m.st.length L vs) (hvl : vs.length ≤ 100) (hr : vs[vs.length - 1]? = some r) (hx : k ≠ 9 → k ≠ 11 → vs[0]? = some x) :
    ACalls Tryd.prog 88 [.ptr mo 0, .v (encE (.mk k p n s t ls ns l)), .v (.sl none f (vs.map (encP φ)))] σ (Outc mo tt φ ψ m σ (fieldM k s x r m)) := by
  have hml := h.mlt
  have hvl2 := (List.getElem?_eq_some_iff.1 hr).1
  have hrv := okVs_iff.1 hv r (List.mem_of_getElem? hr)
  rw [encE_mk]
  refine acalls_fit Tryd.func88 (by kernel_rfl) c88m rfl (by simp [a88m]) fun hf => ?_
  clear hf
  simp -implicitDefEqProofs (maxSteps := 2000000) (disch := omega) [-getElem?_pos, a88m]
  refine ⟨by omega, by omega, fun y hy => ?_⟩
  rw [hr] at hy
  cases hy
  refine P_kind (h.add _) hrv ?_
  simp -implicitDefEqProofs (maxSteps := 2000000) (disch := omega) [-getElem?_pos]
  refine .mk (fun hk => ?_) fun hk => ?_
  rotate_left
  · rw [field_stuck hk]
    simp -implicitDefEqProofs (maxSteps := 2000000) (disch := omega) [-getElem?_pos]
    refine (k_Stuck (h.add _)).mono fun r σ2 ⟨φ2, ψ2, hr, hA⟩ => ?_
    subst hr
    simp -implicitDefEqProofs (maxSteps := 2000000) (disch := omega) [-getElem?_pos]
    exact ⟨_, _, WeakR.refl _ _ _, φ2, ψ2, rfl, (hA.back h)⟩

  obtain ⟨l2, rfl⟩ := kind4 hk
  simp only [encP, boxP]
  simp -implicitDefEqProofs (maxSteps := 2000000) (disch := omega) [-getElem?_pos, keys_F, find_F, keyOk, mgot]
  refine .mk (fun h10 => ?_) fun h10 => ?_
  · rw [show fieldM k s x (.rcd l2) m = stuckM m by simp [fieldM, h10, beq_dec]]
    simp -implicitDefEqProofs (maxSteps := 2000000) (disch := omega) [-getElem?_pos]
    refine (k_Stuck (h.add _)).mono fun r σ2 ⟨φ2, ψ2, hr, hA⟩ => ?_
    subst hr
    simp -implicitDefEqProofs (maxSteps := 2000000) (disch := omega) [-getElem?_pos]
    exact ⟨_, _, WeakR.refl _ _ _, φ2, ψ2, rfl, (hA.back h)⟩

  have hfm : fieldM k s x (.rcd l2) m = if k = 9 then done ((lookE l2 s).getD x) m else if k = 11 then done (.rcd (delE l2 s)) m else done (.rcd (setE l2 s x)) m := by
    rw [beq_dec] at h10
    simp only [fieldM]
    rw [if_neg h10]
  simp -implicitDefEqProofs (maxSteps := 2000000) (disch := omega) [-getElem?_pos]
  refine .mk (fun h9 => ?_) fun h9 => ?_
  · subst h9
    rw [hfm, if_pos rfl]
    obtain ⟨v, hv⟩ : ∃ v, lookE l2 s = some v := by
      cases hl : lookE l2 s with
      | none => rw [hl] at h10; exact absurd rfl h10
      | some v => exact ⟨v, rfl⟩
    simp -implicitDefEqProofs (maxSteps := 2000000) (disch := omega) [-getElem?_pos, hv]
    exact ⟨_, _, WeakR.refl _ _ _, φ, ψ, by simp [done, resW], (Aft.refl h).add _⟩
  rw [if_neg h9] at hfm
  simp -implicitDefEqProofs (maxSteps := 2000000) (disch := omega) [-getElem?_pos]
  refine k_Clone.mono fun r σ2 ⟨hr, hs⟩ => ?_
  subst hr hs
  simp -implicitDefEqProofs (maxSteps := 2000000) (disch := omega) [-getElem?_pos]
  refine .mk (fun h11 => ?_) fun h11 => ?_
  · rw [hfm, if_pos h11]
    simp -implicitDefEqProofs (maxSteps := 2000000) (disch := omega) [-getElem?_pos, keys_F, keyOk, del_F]
    exact .freezeP [.int .i64 4, .int .i64 0, .str [], .fmap (encF φ (delE l2 s)), .pnil, .pnil] (unitC (σ.objs.length + 1)) ⟨φ, ψ, by simp [done, resW, encP, boxP], Aft.refl h⟩ (by simp [unitC]) (by simp [unitC]) rfl (giv6 (.inr ⟨σ.objs.length + 1, encF φ (delE l2 s), rfl, by omega, by simp, rfl⟩))
  · rw [hfm, if_neg h11]
    simp -implicitDefEqProofs (maxSteps := 2000000) (disch := omega) [-getElem?_pos, keys_F, keyOk, set_F]
    refine ⟨by omega, fun y hy => ?_⟩
    rw [hx h9 h11] at hy
    cases hy
    exact .freezeP [.int .i64 4, .int .i64 0, .str [], .fmap (encF φ (setE l2 s x)), .pnil, .pnil] (unitC (σ.objs.length + 1)) ⟨φ, ψ, by simp [done, resW, encP, boxP], Aft.refl h⟩ (by simp [unitC]) (by simp [unitC]) rfl (giv6 (.inr ⟨σ.objs.length + 1, encF φ (setE l2 s x), rfl, by omega, by simp, rfl⟩))
end Go.Proofs.YtbifjffjibnjjaaDoor
