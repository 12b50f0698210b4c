/-
  Expressions, walked: what a match comes to. (Own work.)
-/
import Derived.Test.YtbifjffjibnjjaaDoorO7
set_option linter.unusedVariables false
set_option linter.unusedSimpArgs false
set_option maxHeartbeats 1000000
namespace Go.Proofs.YtbifjffjibnjjaaDoor
open Go Go.Abs

theorem idxF_le {s : Str} : ∀ {l : List Str} {i j : Nat}, idxF s l i = some j → i ≤ j ∧ j < i + l.length
  | [], i, j, h => by cases h
  | x :: l, i, j, h => by
    simp only [idxF] at h
    split at h
    · cases h; simp
    · have := idxF_le h
      simp only [List.length_cons]
      omega
def idxI : Option Nat → Int
  | some i => i
  | none => -1
theorem k_Index {ls : List Str} {s : Str} {f : Bool} {σ : Sg} (hl : ls.length ≤ 4000001) : ACalls Tryd.prog 85 [.v (.sl none f (ls.map .str)), .v (.str s)] σ fun r σ' => r = .v (.int .i64 (idxI (idxF s ls 0))) ∧ σ' = σ := by
  refine acalls_fit Tryd.func85 (by kernel_rfl) c85 rfl (by simp [a85]) fun hf => ?_
  clear hf
  simp -implicitDefEqProofs (maxSteps := 2000000) (disch := omega) [-getElem?_pos, a85]
  refine W_loop (α := Nat) 0 (fun i => ls.length - i) (fun i => ⟨[(0, .v (.sl none f (ls.map .str))), (1, .v (.str s)), (7, .v (.int .i64 ls.length)), (8, .v (.int .i64 i))], σ⟩) (fun i => i ≤ ls.length ∧ idxF s ls 0 = idxF s (ls.drop i) i) (.eq (by simp)) ⟨by simp, by simp⟩ fun i ⟨hi, he⟩ => ?_
  simp -implicitDefEqProofs (maxSteps := 2000000) (disch := omega) [-getElem?_pos]
  refine .mk (fun h => ?_) fun h => ?_
  · simp -implicitDefEqProofs (maxSteps := 2000000) (disch := omega) [-getElem?_pos]
    refine ⟨by omega, fun x hx => ?_⟩
    rw [drop_cons hx] at he
    simp only [idxF] at he
    refine .mk (fun hq => ?_) fun hq => ?_
    · simp -implicitDefEqProofs (maxSteps := 2000000) (disch := omega) [-getElem?_pos]
      refine .fin _ ⟨?_, rfl⟩ (.refl _)
      rw [he, if_pos hq.symm]
      rfl
    · simp -implicitDefEqProofs (maxSteps := 2000000) (disch := omega) [-getElem?_pos]
      rw [if_neg (fun e => hq e.symm)] at he
      exact ⟨i + 1, ⟨by omega, he⟩, by show ls.length - (i + 1) < ls.length - i; omega, .eq (by simp)⟩
  · simp -implicitDefEqProofs (maxSteps := 2000000) (disch := omega) [-getElem?_pos]
    refine .fin _ ⟨?_, rfl⟩ (.refl _)
    rw [he, List.drop_eq_nil_of_le (by omega)]
    rfl
theorem kind5 {v : Vl} (h : kindV v = 5) : ∃ s w, v = .tag s w := by cases v <;> simp [kindV] at h; exact ⟨_, _, rfl⟩
theorem arm_stuck {R : Rec} {env : En} {t : Str} {ls ns : List Str} {l : List Ex} {v : Vl} {m : Ms} (h : ¬ kindV v = 5) : armM R env t ls ns l v m = stuckM m := by
  cases v <;> first | rfl | exact absurd rfl h
theorem k_Match {mo tt g : Nat} {φ ψ : Nat → Nat} {m : Ms} {L : Nat} {env : En} {p n : Int} {s t : Str} {ls ns : List Str} {l : List Ex} {σ : Sg} (hR : EvCt mo tt g) (h : Okm mo tt φ ψ m L σ) (hc : okC L (.mk 14 p n s t ls ns l)) (hp : l.length = 1 + ls.length + (if t = [] then 0 else 1)) (hns : ns.length = ls.length) (hen : okE m.st.length L env) (hf0 : m.fuel < g) :
    ACalls Tryd.prog 59 [.ptr mo 0, .v (encE (.mk 14 p n s t ls ns l)), .v (encN φ env)] σ (Outc mo tt φ ψ m σ (matchM (evM g) env t ls ns l m)) := by
  have hS := h.sto
  have hml := hS.mlt
  have hhi := h.hi
  obtain ⟨hn, hs, hll, ht, hls, hls2, hns2⟩ := hc.num
  rw [encE_mk]
  refine acalls_fit Tryd.func59 (by kernel_rfl) c59m rfl (by simp [a59m]) fun hfit => ?_
  clear hfit
  simp -implicitDefEqProofs (maxSteps := 2000000) (disch := omega) [-getElem?_pos, a59m]

  refine ⟨by omega, fun a ha => ?_⟩
  have e0 : prt l 0 = a := by simp [prt, ha]
  have hca := hc.prt 0
  rw [e0] at hca
  refine (hR a env m φ ψ ⟨σ.objs ++ _, σ.toks⟩ L ⟨hS.add _, h.ok, h.lo, h.hi⟩ hca hen hf0).mono fun r σ2 ⟨φ2, ψ2, hr, hA⟩ => ?_
  have hA2 := hA.back hS
  obtain ⟨hf2, hs2, hv2, he2, hO2⟩ := h.after hca hen hA2
  unfold matchM
  rw [e0]
  generalize hrs : evM g a env m = rs at hr hA hA2 hf2 hs2 hv2 he2 hO2 ⊢
  obtain ⟨v, m2⟩ := rs
  dsimp only at hr hA hA2 hf2 hs2 hv2 he2 hO2
  have h0 : σ2.objs[σ.objs.length]? = some _ := hA.loc hS (j := 0) rfl
  have hl0 := (List.getElem?_eq_some_iff.1 h0).1
  cases v with
  | none =>
    subst hr
    unfold resW
    simp -implicitDefEqProofs (maxSteps := 2000000) (disch := omega) [-getElem?_pos, h0]
    exact ⟨_, _, WeakR.refl _ _ _, φ2, ψ2, rfl, hA2⟩
  | some v =>
    subst hr
    have hvo := hv2 v rfl
    rw [show resW φ2 (some v) = .v (encP φ2 v) from rfl]
    have hen2 := encN_ext (fun k hk => hA2.fe k hk) hen
    simp only [Rs.bind]
    simp -implicitDefEqProofs (maxSteps := 2000000) (disch := omega) [-getElem?_pos, h0]
    refine P_kind hO2.sto hvo ?_
    simp -implicitDefEqProofs (maxSteps := 2000000) (disch := omega) [-getElem?_pos, h0]
    refine .mk (fun hk => ?_) fun hk => ?_
    rotate_left
    · rw [arm_stuck hk]
      simp -implicitDefEqProofs (maxSteps := 2000000) (disch := omega) [-getElem?_pos]
      refine (k_Stuck hO2.sto).mono fun r σ3 ⟨φ3, ψ3, hr3, hA3⟩ => ?_
      subst hr3
      simp -implicitDefEqProofs (maxSteps := 2000000) (disch := omega) [-getElem?_pos]
      exact ⟨_, _, WeakR.refl _ _ _, φ3, ψ3, rfl, hA2.trans hA3 hs2⟩

    obtain ⟨s2, w, rfl⟩ := kind5 hk
    have hnc := fun e => encN_cells (φ := φ2) e
    have hno := fun e => encN_one (φ := φ2) e
    have hpc := fun v => encP_cells (φ := φ2) v
    have hpo := fun v => encP_one (φ := φ2) v
    simp only [V.cells] at hnc hpc
    simp only [V.one] at hno hpo
    rw [← hen2]
    simp only [encP, boxP]
    simp -implicitDefEqProofs (maxSteps := 2000000) (disch := omega) [-getElem?_pos, h0]
    refine (k_Index (by omega)).then fun r hr => ?_
    subst hr
    simp only [armM]
    cases hi : idxF s2 ls 0 with
    | some i =>
      have hib := idxF_le hi
      simp only [idxI]
      simp -implicitDefEqProofs (maxSteps := 2000000) (disch := omega) [-getElem?_pos, h0, hnc, hno, hpc, hpo]
      refine ⟨by omega, by omega, fun b hb => ⟨by omega, fun x hx => ?_⟩⟩
      have hb2 : prt l (i + 1) = b := by simp [prt, hb]
      have hx2 : nmq ns i = x := by simp [nmq, hx]
      have hcb := hc.prt (i + 1)
      have hnx := hns2 i
      rw [hb2] at hcb
      rw [hx2] at hnx
      rw [hb2, hx2]
      have hc2 := hR b (.cons x w env) m2 φ2 ψ2 σ2 _ hO2 (hcb.mono (by omega)) ⟨by omega, hvo.2, he2⟩ (by omega)
      simp only [encN] at hc2
      refine (hc2).mono fun r σ3 ⟨φ3, ψ3, hr3, hA3⟩ => ?_
      subst hr3
      simp -implicitDefEqProofs (maxSteps := 2000000) (disch := omega) [-getElem?_pos]
      exact ⟨_, _, WeakR.refl _ _ _, φ3, ψ3, rfl, hA2.trans hA3 hs2⟩

    | none =>
      simp only [idxI]
      simp -implicitDefEqProofs (maxSteps := 2000000) (disch := omega) [-getElem?_pos, h0]
      refine .mk (fun ht0 => ?_) fun ht0 => ?_
      · rw [if_pos ht0]
        simp -implicitDefEqProofs (maxSteps := 2000000) (disch := omega) [-getElem?_pos]
        refine (k_Stuck hO2.sto).mono fun r σ3 ⟨φ3, ψ3, hr3, hA3⟩ => ?_
        subst hr3
        simp -implicitDefEqProofs (maxSteps := 2000000) (disch := omega) [-getElem?_pos]
        exact ⟨_, _, WeakR.refl _ _ _, φ3, ψ3, rfl, hA2.trans hA3 hs2⟩

      · rw [if_neg ht0]
        rw [if_neg ht0] at hp
        simp -implicitDefEqProofs (maxSteps := 2000000) (disch := omega) [-getElem?_pos, h0, hnc, hno, hpc, hpo]
        refine ⟨by omega, by omega, fun b hb => ?_⟩
        have hb2 : prt l (l.length - 1) = b := by simp [prt, hb]
        have hcb := hc.prt (l.length - 1)
        rw [hb2] at hcb
        rw [hb2]
        have hc2 := hR b (.cons t (.tag s2 w) env) m2 φ2 ψ2 σ2 _ hO2 (hcb.mono (by omega)) ⟨by omega, hvo, he2⟩ (by omega)
        simp only [encN, encP, boxP] at hc2
        refine (hc2).mono fun r σ3 ⟨φ3, ψ3, hr3, hA3⟩ => ?_
        subst hr3
        simp -implicitDefEqProofs (maxSteps := 2000000) (disch := omega) [-getElem?_pos]
        exact ⟨_, _, WeakR.refl _ _ _, φ3, ψ3, rfl, hA2.trans hA3 hs2⟩

end Go.Proofs.YtbifjffjibnjjaaDoor
