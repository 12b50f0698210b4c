/-
  LexCuts: errors.As at a miss, Code, Of; the law. (Own work.)
-/
import Derived.Test.YtkfkifgfnlaceaaDoorL16
import Derived.Test.YtkfkifgfnlaceaaDoorL13
import Derived.Test.YtkfkifgfnlaceaaDoorAs2
set_option linter.unusedVariables false
set_option linter.unusedSimpArgs false
namespace Go.Proofs.YtkfkifgfnlaceaaDoor
open Go Go.Abs Go.RowKit

theorem k_AsMiss {c : Nat} {n : Int} {σ : Sg} (hc : σ.objs[c]? = some (.cells [.v .pnil])) : ACalls Tryd.prog 18 [.v (.iface 28 (.int .i64 n)), .iface 41 (.ptr c 0)] σ fun r σ' => r = .v (.bool false) ∧ σ' = σ := by
  refine ⟨⟨_, Tryd.func18, by kernel_rfl, by kernel_rfl⟩, fun m w us hI hlen hr => ?_⟩
  match us, hlen with
  | [u1, u2], _ =>
  have g1 := (hr 0 _ _ rfl rfl).v_inv
  have g2 := hr 1 _ _ rfl rfl
  cases g1 with
  | iface _ _ u1 g1 =>
  cases g2 with
  | iface _ _ u2 g2 =>
  cases g2 with
  | ptr _ _ bc hbc =>
  have hb := hI.live hc (by simp) hbc
  obtain ⟨us, ty, hh, hsz, hob, hone⟩ := hI.ob c _ bc hc hb
  simp only [List.length_cons, List.length_nil] at hsz
  obtain ⟨⟨cs, tyg, frg, hgh, rfl⟩, hgn⟩ := hI.glob (0, fun cs => cs = #[.iface 99 (.agg #[.pointer (some ⟨14, 30, none⟩)])]) (by simp [globs])
  have hg : w.cell? ⟨0, 0, none⟩ = some (.iface 99 (.agg #[.pointer (some ⟨14, 30, none⟩)])) := by rw [cell_of_row w 0 0 _ tyg frg hgh]; rfl
  have ht0 : w.cell? ⟨bc, 0, none⟩ = some us[0] := by rw [cell_of_row w bc 0 us ty _ hh]; exact Array.getElem?_eq_getElem (by omega)
  refine (as_miss u1 ⟨bc, 0, none⟩ us[0] w hg ht0).mono fun e w' ⟨he, hw⟩ => ?_
  subst hw
  obtain ⟨hI', hX⟩ := Inv.below hI ((((Below.refl _ w).alloc (Nat.le_refl _) _).alloc (by simp) _).alloc (by simp; omega) _)
  exact ⟨_, _, σ, m, he, ⟨rfl, rfl⟩, hI', hX, .v _ _ (.bool _)⟩
theorem k_Code0 {σ : Sg} : ACalls Tryd.prog 42 [.v .inil] σ fun r σ' => r = .v (.int .i64 0) ∧ σ' = σ := by
  refine acalls_fit Tryd.func42 (by kernel_rfl) c42 rfl (by simp [a42]) fun hf => ?_
  clear hf
  simp -implicitDefEqProofs (maxSteps := 2000000) (disch := omega) [-getElem?_pos, a42]
  exact .fin _ ⟨rfl, rfl⟩ (.refl _)
theorem k_Code6 {σ : Sg} : ACalls Tryd.prog 42 [.v (.iface 28 (.int .i64 6))] σ fun r σ' => r = .v (.int .i64 6) ∧ σ' = σ := by
  refine acalls_fit Tryd.func42 (by kernel_rfl) c42 rfl (by simp [a42]) fun hf => ?_
  clear hf
  simp -implicitDefEqProofs (maxSteps := 2000000) (disch := omega) [-getElem?_pos, a42]
  refine W_loop (α := Nat) 1 (fun k => 6 - k) (fun k => ⟨[(0, .v (.iface 28 (.int .i64 6))), (3, .v (.int .i64 k))], σ⟩) (fun k => 1 ≤ k ∧ k ≤ 6) (.eq (by simp)) ⟨by omega, by omega⟩ fun k ⟨h1, h6⟩ => ?_
  simp -implicitDefEqProofs (maxSteps := 2000000) (disch := omega) [-getElem?_pos]
  refine .mk (fun _ => ?_) fun h => absurd h (by omega)
  simp -implicitDefEqProofs (maxSteps := 2000000) (disch := omega) [-getElem?_pos]
  refine ⟨by kernel_rfl, ?_⟩
  refine .mk (fun h => ?_) fun h => ?_
  · simp -implicitDefEqProofs (maxSteps := 2000000) (disch := omega) [-getElem?_pos]
    exact .fin _ ⟨by simp; omega, rfl⟩ (.refl _)
  · simp -implicitDefEqProofs (maxSteps := 2000000) (disch := omega) [-getElem?_pos]
    exact ⟨k + 1, ⟨by omega, by omega⟩, by dsimp only; omega, .eq (by simp)⟩
theorem k_OfNil {σ : Sg} : ACalls Tryd.prog 24 [.v .inil] σ fun r σ' => r = .tup [.v (.int .i64 0), .v (.int .i64 (-1))] ∧ σ' = σ := by
  refine acalls_fit Tryd.func24 (by kernel_rfl) c24 rfl (by simp [a24]) fun hf => ?_
  clear hf
  simp -implicitDefEqProofs (maxSteps := 2000000) (disch := omega) [-getElem?_pos, a24]
  refine k_AsNil.then fun r hr => ?_
  subst hr
  simp -implicitDefEqProofs (maxSteps := 2000000) (disch := omega) [-getElem?_pos]
  refine k_Code0.then fun r hr => ?_
  subst hr
  simp -implicitDefEqProofs (maxSteps := 2000000) (disch := omega) [-getElem?_pos]
  exact .fin _ ⟨rfl, rfl⟩ (.refl _)
theorem k_Of6 {σ : Sg} : ACalls Tryd.prog 24 [.v (.iface 28 (.int .i64 6))] σ fun r σ' => r = .tup [.v (.int .i64 6), .v (.int .i64 (-1))] ∧ σ' = σ := by
  refine acalls_fit Tryd.func24 (by kernel_rfl) c24 rfl (by simp [a24]) fun hf => ?_
  clear hf
  simp -implicitDefEqProofs (maxSteps := 2000000) (disch := omega) [-getElem?_pos, a24]
  refine (k_AsMiss (by simp)).then fun r hr => ?_
  subst hr
  simp -implicitDefEqProofs (maxSteps := 2000000) (disch := omega) [-getElem?_pos]
  refine k_Code6.then fun r hr => ?_
  subst hr
  simp -implicitDefEqProofs (maxSteps := 2000000) (disch := omega) [-getElem?_pos]
  exact .fin _ ⟨rfl, rfl⟩ (.refl _)
theorem cutF_len {b : Str} : ∀ (f i : Nat) (acc l : List Tk), i ≤ b.length → cutF f b i acc = .ok l → l.length ≤ acc.length + (b.length - i)
  | 0, i, acc, l, hi, h => by cases h
  | f + 1, i, acc, l, hi, h => by
    rw [cutF] at h
    cases hc : b[spanE blaB b i]? with
    | none => rw [hc] at h; cases h; omega
    | some c =>
      rw [hc] at h
      dsimp only at h
      cases ho : oneL b (spanE blaB b i) c with
      | bad q => rw [ho] at h; cases h
      | tok t to =>
        rw [ho] at h
        have h1 := oneL_to hc ho
        have h2 := cutF_len f to _ l h1.2 h
        have h3 := spanE_ge blaB b i
        simp only [List.length_append, List.length_cons, List.length_nil] at h2
        omega
theorem k_Same0 {σ : Sg} : ACalls Tryd.prog 25 [.v (.sl (some 4) false []), .v .snil] σ fun r σ' => r = .v (.bool true) ∧ σ' = σ :=
  (k_Same (l := []) (by simp)).args rfl fun i d d' h1 h2 => by
    match i with
    | 0 => cases h1; cases h2; exact .refl _
    | 1 => cases h1; cases h2; exact .snil
    | i + 2 => simp at h1
theorem k_Cuts {b : Str} {σ : Sg} (hb : b.length ≤ 1048576) : ACalls Tryd.prog 6 [.v (vBs b)] σ fun r σ' => r = .v (.bool true) ∧ σ' = σ := by
  have c1 := k_Cut (σ := σ) hb
  have hlen : ∀ l, cutL b = .ok l → l.length ≤ 1048576 := fun l h => by
    unfold cutL at h
    split at h
    · cases h
    · have := cutF_len _ 0 [] l (Nat.zero_le _) h
      simp at this
      omega
  refine acalls_fit Tryd.func6 (by kernel_rfl) c6 rfl (by simp [a6]) fun hf => ?_
  clear hf
  simp -implicitDefEqProofs (maxSteps := 2000000) (disch := omega) [-getElem?_pos, a6]
  refine k_Up.then fun r hr => ?_
  subst hr
  simp -implicitDefEqProofs (maxSteps := 2000000) (disch := omega) [-getElem?_pos]
  refine .mk (fun h => ?_) fun h => ?_
  · simp -implicitDefEqProofs (maxSteps := 2000000) (disch := omega) [-getElem?_pos]
    exact .fin _ ⟨rfl, rfl⟩ (.refl _)
  simp -implicitDefEqProofs (maxSteps := 2000000) (disch := omega) [-getElem?_pos]
  cases hx : cutL b with
  | ok l =>
    rw [hx] at c1
    have hl := hlen l hx
    have c2 : ∀ σ, ACalls Tryd.prog 23 [.v (vBs b)] σ fun r σ' => r = .tup [.v (.sl (some 4) false (l.map encK)), .v (.int .i64 0), .v (.int .i64 (-1))] ∧ σ' = σ := fun σ => by
      have h := k_RCut (σ := σ) hb
      rw [hx] at h
      exact h
    refine (show ACalls Tryd.prog 22 [.v (vBs b)] σ fun r σ' => r = .tup [.v (.sl (some 4) false (l.map encK)), .v .inil] ∧ σ' = σ from c1).then fun r hr => ?_
    subst hr
    simp -implicitDefEqProofs (maxSteps := 2000000) (disch := omega) [-getElem?_pos]
    refine (c2 _).then fun r hr => ?_
    subst hr
    simp -implicitDefEqProofs (maxSteps := 2000000) (disch := omega) [-getElem?_pos]
    refine k_OfNil.then fun r hr => ?_
    subst hr
    simp -implicitDefEqProofs (maxSteps := 2000000) (disch := omega) [-getElem?_pos]
    refine (k_AsT hl).then fun r hr => ?_
    subst hr
    simp -implicitDefEqProofs (maxSteps := 2000000) (disch := omega) [-getElem?_pos]
    refine (k_Same hl).then fun r hr => ?_
    subst hr
    simp -implicitDefEqProofs (maxSteps := 2000000) (disch := omega) [-getElem?_pos]
    exact .fin _ ⟨rfl, rfl⟩ (.refl _)
  | bad q =>
    rw [hx] at c1
    have c2 : ∀ σ, ACalls Tryd.prog 23 [.v (vBs b)] σ fun r σ' => r = .tup [.v .snil, .v (.int .i64 2), .v (.int .i64 q)] ∧ σ' = σ := fun σ => by
      have h := k_RCut (σ := σ) hb
      rw [hx] at h
      exact h
    refine c1.mono fun r σ' hr => ?_
    obtain ⟨o, xs, ts, rfl, rfl, hxs⟩ := hr
    have hxs' : (σ.objs ++ xs)[σ.objs.length + o]? = some (spotO q 2) := by
      rw [List.getElem?_append_right (by omega), Nat.add_sub_cancel_left]; exact hxs
    simp -implicitDefEqProofs (maxSteps := 2000000) (disch := omega) [-getElem?_pos]
    refine (c2 _).then fun r hr => ?_
    subst hr
    simp -implicitDefEqProofs (maxSteps := 2000000) (disch := omega) [-getElem?_pos]
    refine (k_OfSpot (σ := ⟨σ.objs ++ xs, σ.toks ++ ts⟩) hxs').then fun r hr => ?_
    subst hr
    simp -implicitDefEqProofs (maxSteps := 2000000) (disch := omega) [-getElem?_pos]
    refine ((k_AsT (l := []) (by simp)).arg1 .snil).then fun r hr => ?_
    subst hr
    simp -implicitDefEqProofs (maxSteps := 2000000) (disch := omega) [-getElem?_pos]
    refine k_Same0.then fun r hr => ?_
    subst hr
    simp -implicitDefEqProofs (maxSteps := 2000000) (disch := omega) [-getElem?_pos]
    exact .fin _ ⟨rfl, rfl⟩ (.refl _)
  | great =>
    rw [hx] at c1
    have c2 : ∀ σ, ACalls Tryd.prog 23 [.v (vBs b)] σ fun r σ' => r = .tup [.v .snil, .v (.int .i64 6), .v (.int .i64 (-1))] ∧ σ' = σ := fun σ => by
      have h := k_RCut (σ := σ) hb
      rw [hx] at h
      exact h
    refine (show ACalls Tryd.prog 22 [.v (vBs b)] σ fun r σ' => r = .tup [.v .snil, .v (.iface 28 (.int .i64 6))] ∧ σ' = σ from c1).then fun r hr => ?_
    subst hr
    simp -implicitDefEqProofs (maxSteps := 2000000) (disch := omega) [-getElem?_pos]
    refine (c2 _).then fun r hr => ?_
    subst hr
    simp -implicitDefEqProofs (maxSteps := 2000000) (disch := omega) [-getElem?_pos]
    refine k_Of6.then fun r hr => ?_
    subst hr
    simp -implicitDefEqProofs (maxSteps := 2000000) (disch := omega) [-getElem?_pos]
    refine ((k_AsT (l := []) (by simp)).arg1 .snil).then fun r hr => ?_
    subst hr
    simp -implicitDefEqProofs (maxSteps := 2000000) (disch := omega) [-getElem?_pos]
    refine k_Same0.then fun r hr => ?_
    subst hr
    simp -implicitDefEqProofs (maxSteps := 2000000) (disch := omega) [-getElem?_pos]
    exact .fin _ ⟨rfl, rfl⟩ (.refl _)
end Go.Proofs.YtkfkifgfnlaceaaDoor
