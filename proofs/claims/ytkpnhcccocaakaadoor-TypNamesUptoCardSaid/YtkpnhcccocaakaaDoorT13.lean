/-
  Types: both texts. (Own work.)
-/
import Derived.Test.YtkpnhcccocaakaaDoorT12
set_option linter.unusedVariables false
set_option linter.unusedSimpArgs false
namespace Go.Proofs.YtkpnhcccocaakaaDoor
open Go Go.Abs

def txtOf (t : Tp) : Str := if (fineS t 0).1 = true then txt (vis t ⟨[], []⟩).ts (vis t ⟨[], []⟩).rs t else []
theorem txt0_len (t : Tp) (ht : tbk t ≤ 1048576) : (vis t ⟨[], []⟩).ts.length ≤ 3000000 ∧ (vis t ⟨[], []⟩).rs.length ≤ 3000000 := by
  have := vis_len t ⟨[], []⟩
  simp only [List.length_nil] at this
  omega
theorem k_Text (t : Tp) {σ : Sg} (ht : tbk t ≤ 1048576) : ACalls Tryd.prog 13 [.v (encT t)] σ fun r σ' => r = .v (.str (txtOf t)) ∧ σ' = σ := by
  have hts := tsz_tbk t
  have c1 := fun σ => k_May t (σ := σ) (by omega)
  have c2 := fun σ => k_Vars (t := t) (σ := σ) ht
  have hfm := fine_may t
  obtain ⟨hl1, hl2⟩ := txt0_len t ht
  have c3 := fun σ h => k_WText t hl1 hl2 (σ := σ) ht h
  obtain ⟨T, hT⟩ : ∃ T, T = txtOf t := ⟨_, rfl⟩
  rw [← hT]
  unfold txtOf at hT
  generalize vis t ⟨[], []⟩ = w at *
  generalize (fineS t 0).1 = fi at *
  generalize txt w.ts w.rs t = S at *
  cases t with
  | mk k n l ls tl =>
  rw [encT_mk] at c1 c2 c3 ⊢
  refine acalls_fit Tryd.func13 (by kernel_rfl) c13 rfl (by simp [a13]) fun hf => ?_
  clear hf
  simp -implicitDefEqProofs (maxSteps := 2000000) (disch := omega) [-getElem?_pos, a13]
  refine (c1 _).then fun r hr => ?_
  subst hr
  cases fi with
  | false =>
    simp -implicitDefEqProofs (maxSteps := 2000000) (disch := omega) [-getElem?_pos]
    exact .fin _ ⟨by rw [hT]; simp, rfl⟩ (.refl _)
  | true =>
    have hfr : fineR (.mk k n l ls tl) = true := by
      have := hfm.symm
      simp only [Bool.and_eq_true] at this
      exact this.1
    simp -implicitDefEqProofs (maxSteps := 2000000) (disch := omega) [-getElem?_pos]
    refine (c2 _).then fun r hr => ?_
    subst hr
    simp -implicitDefEqProofs (maxSteps := 2000000) (disch := omega) [-getElem?_pos]
    refine (c3 _ hfr).then fun r hr => ?_
    subst hr
    simp -implicitDefEqProofs (maxSteps := 2000000) (disch := omega) [-getElem?_pos]
    exact .fin _ ⟨by rw [hT]; simp, rfl⟩ (.refl _)
theorem k_Meet0 (t : Tp) {os : List Ob} {tk : List Nat} (ht : tbk t ≤ 1048576) : ACalls Tryd.prog 7 [.ptr os.length 0, .v (encT t)] ⟨os ++ [.cells [.tsl tk.length none [], .tsl (tk.length + 1) none []]], tk ++ [0, 0]⟩ fun r σ' => r = .tup [] ∧ σ' = ⟨os ++ [nmO tk.length (tk.length + 1) (vis t ⟨[], []⟩).ts (vis t ⟨[], []⟩).rs], tk ++ [(vis t ⟨[], []⟩).ts.length, (vis t ⟨[], []⟩).rs.length]⟩ := by
  have hVO : ∀ w : Vs, VO ⟨os ++ [.cells []], tk ++ [0, 0]⟩ os.length tk.length (tk.length + 1) w = ⟨os ++ [.cells [.tsl tk.length none (w.ts.map fun n => V.int .i64 n), .tsl (tk.length + 1) none (w.rs.map fun n => V.int .i64 n)]], tk ++ [w.ts.length, w.rs.length]⟩ := fun w => by
    simp [VO, List.set_append_right]
  have := k_Meet t (p := os.length) (a := tk.length) (b := tk.length + 1) (w := ⟨[], []⟩) (σ := ⟨os ++ [.cells []], tk ++ [0, 0]⟩) ht (by simp; omega) (by simp; omega) (by simp) (by simp) (by simp) (by simp)
  rw [hVO, hVO] at this
  exact this
theorem k_RText (t : Tp) {σ : Sg} (ht : tbk t ≤ 1048576) : ACalls Tryd.prog 14 [.v (encT t)] σ fun r σ' => r = .v (.str (txtOf t)) ∧ σ' = σ := by
  have c1 := fun σ => k_RMay t (σ := σ) ht
  have c2 := fun B => k_Meet0 t (os := σ.objs ++ [B]) (tk := σ.toks) ht
  simp only [nmO, List.append_assoc, List.cons_append, List.nil_append, List.length_append, List.length_cons, List.length_nil, Nat.zero_add] at c2
  have hfm := fine_may t
  obtain ⟨hl1, hl2⟩ := txt0_len t ht
  have c3 := fun p a b σ h h2 => k_RTextW t (p := p) (a := a) (b := b) hl1 hl2 (σ := σ) ht h h2
  obtain ⟨T, hT⟩ : ∃ T, T = txtOf t := ⟨_, rfl⟩
  rw [← hT]
  unfold txtOf at hT
  generalize vis t ⟨[], []⟩ = w at *
  generalize (fineS t 0).1 = fi at *
  generalize txt w.ts w.rs t = S at *
  cases t with
  | mk k n l ls tl =>
  rw [encT_mk] at c1 c2 c3 ⊢
  refine acalls_fit Tryd.func14 (by kernel_rfl) c14 rfl (by simp [a14]) fun hf => ?_
  clear hf
  simp -implicitDefEqProofs (maxSteps := 2000000) (disch := omega) [-getElem?_pos, a14]
  refine (c1 _).then fun r hr => ?_
  subst hr
  cases fi with
  | false =>
    simp -implicitDefEqProofs (maxSteps := 2000000) (disch := omega) [-getElem?_pos]
    exact .fin _ ⟨by rw [hT]; simp, rfl⟩ (.refl _)
  | true =>
    have hfr : fineR (.mk k n l ls tl) = true := by
      have := hfm.symm
      simp only [Bool.and_eq_true] at this
      exact this.1
    simp -implicitDefEqProofs (maxSteps := 2000000) (disch := omega) [-getElem?_pos]
    refine ACalls.tokObj (o := σ.objs.length + 1) (k := 0) none (by simp; rfl) (by simp) ?_
    refine ACalls.tokObj (o := σ.objs.length + 1) (k := 1) none (by simp; rfl) (by simp) ?_
    simp
    refine (c2 _).mono fun r σ' hr => ?_
    obtain ⟨rfl, rfl⟩ := hr
    simp -implicitDefEqProofs (maxSteps := 2000000) (disch := omega) [-getElem?_pos]
    refine (c3 (σ.objs.length + 1) σ.toks.length (σ.toks.length + 1) _ hfr (by simp [nmO])).then fun r hr => ?_
    subst hr
    simp -implicitDefEqProofs (maxSteps := 2000000) (disch := omega) [-getElem?_pos]
    exact .finS _ σ ⟨by rw [hT]; simp, rfl⟩ (.refl _) (fun ob h => .inl h) (by simp) (by simp) (by simp) (by simp) (by simp)
end Go.Proofs.YtkpnhcccocaakaaDoor
