/-
  Lexer: the reference's lexer walked; tokens compared. (Own work.)
-/
import Derived.Test.YtkfkifgfnlaceaaDoorL9
set_option linter.unusedVariables false
set_option linter.unusedSimpArgs false
namespace Go.Proofs.YtkfkifgfnlaceaaDoor
open Go Go.Abs

def RCutPost (x : CR) (r : D) : Prop := match x with
  | .ok l => r = .tup [.v (.sl (some 4) false (l.map encK)), .v (.int .i64 0), .v (.int .i64 (-1))]
  | .bad q => r = .tup [.v .snil, .v (.int .i64 2), .v (.int .i64 q)]
  | .great => r = .tup [.v .snil, .v (.int .i64 6), .v (.int .i64 (-1))]
theorem cutF_blank {f : Nat} {b : Str} {i : Nat} {c : UInt8} {acc : List Tk} (hc : b[i]? = some c) (hq : blaB c = true) : cutF f b i acc = cutF f b (i + 1) acc := by
  cases f with
  | zero => rfl
  | succ f => rw [cutF, cutF, spanE_hit hc hq]
theorem k_RCut {b : Str} {σ : Sg} (hb : b.length ≤ 1048576) : ACalls Tryd.prog 23 [.v (vBs b)] σ fun r σ' => RCutPost (cutL b) r ∧ σ' = σ := by
  unfold cutL
  refine acalls_fit Tryd.func23 (by kernel_rfl) c23 rfl (by simp [a23]) fun hf => ?_
  clear hf
  simp -implicitDefEqProofs (maxSteps := 2000000) (disch := omega) [-getElem?_pos, a23]
  refine .mk (fun h => ?_) fun h => ?_
  · rw [if_pos (by omega)]
    simp -implicitDefEqProofs (maxSteps := 2000000) (disch := omega) [-getElem?_pos]
    exact .fin _ ⟨rfl, rfl⟩ (.refl _)
  rw [if_neg (by omega)]
  simp -implicitDefEqProofs (maxSteps := 2000000) (disch := omega) [-getElem?_pos]
  refine W_loop (α := CSt) ⟨0, []⟩ (fun x => b.length - x.i) (fun x => ⟨[(0, .v (vBs b)), (5, .tsl σ.toks.length (some 4) (x.acc.map encK)), (6, .v (.int .i64 x.i))], ⟨σ.objs, σ.toks ++ [x.acc.length]⟩⟩)
    (fun x => CIn b x) (.trans (b := ⟨[(0, .v (vBs b)), (5, .tsl σ.toks.length (some 4) []), (6, .v (.int .i64 0))], _⟩) (.tok (i := 5) (sh := some 4) (by simp) (by simp)) (.eq2 rfl (by simp))) ⟨Nat.zero_le _, by simp, _, by omega, rfl⟩ fun ⟨i, acc⟩ ⟨hi, ha, f, hf, he⟩ => ?_
  dsimp only at hi ha hf he ⊢
  obtain ⟨f, rfl⟩ : ∃ f', f = f' + 1 := ⟨f - 1, by omega⟩
  simp -implicitDefEqProofs (maxSteps := 2000000) (disch := omega) [-getElem?_pos]
  refine .mk (fun h => ?_) fun h => ?_
  · obtain ⟨c, hc⟩ : ∃ c, b[i]? = some c := ⟨b[i]'(by omega), List.getElem?_eq_getElem _⟩
    simp -implicitDefEqProofs (maxSteps := 2000000) (disch := omega) [-getElem?_pos]
    refine ⟨by omega, fun c' hc' => ?_⟩
    rw [hc] at hc'
    cases hc'
    refine .mk (fun h32 => ?_) fun h32 => ?_
    · skip
      have hq : blaB c = true := by simp [blaB]; omega
      simp -implicitDefEqProofs (maxSteps := 2000000) (disch := omega) [-getElem?_pos]
      exact ⟨⟨i + 1, acc⟩, ⟨by show i + 1 ≤ b.length; omega, by dsimp only; omega, f + 1, by dsimp only; omega, by rw [he]; exact cutF_blank hc hq⟩, by dsimp only; omega, .eq2 (by simp) (by simp)⟩

    simp -implicitDefEqProofs (maxSteps := 2000000) (disch := omega) [-getElem?_pos]
    refine ⟨by omega, fun c' hc' => ?_⟩
    rw [hc] at hc'
    cases hc'
    refine .mk (fun h10 => ?_) fun h10 => ?_
    · skip
      have hq : blaB c = true := by simp [blaB]; omega
      simp -implicitDefEqProofs (maxSteps := 2000000) (disch := omega) [-getElem?_pos]
      exact ⟨⟨i + 1, acc⟩, ⟨by show i + 1 ≤ b.length; omega, by dsimp only; omega, f + 1, by dsimp only; omega, by rw [he]; exact cutF_blank hc hq⟩, by dsimp only; omega, .eq2 (by simp) (by simp)⟩

    simp -implicitDefEqProofs (maxSteps := 2000000) (disch := omega) [-getElem?_pos]
    refine ⟨by omega, fun c' hc' => ?_⟩
    rw [hc] at hc'
    cases hc'
    refine .mk (fun h9 => ?_) fun h9 => ?_
    · skip
      have hq : blaB c = true := by simp [blaB]; omega
      simp -implicitDefEqProofs (maxSteps := 2000000) (disch := omega) [-getElem?_pos]
      exact ⟨⟨i + 1, acc⟩, ⟨by show i + 1 ≤ b.length; omega, by dsimp only; omega, f + 1, by dsimp only; omega, by rw [he]; exact cutF_blank hc hq⟩, by dsimp only; omega, .eq2 (by simp) (by simp)⟩

    have hq : blaB c = false := by simp [blaB]; omega
    have hx0 : cutF (b.length + 1) b 0 [] = match oneL b i c with | .tok t to => cutF f b to (acc ++ [t]) | .bad q => .bad q := by
      rw [he, cutF, spanE_miss hc hq, hc]
      rfl
    simp -implicitDefEqProofs (maxSteps := 2000000) (disch := omega) [-getElem?_pos]
    refine (k_ROne (b := b) (i := i) (c := c) hc hb).then fun r hr => ?_
    cases hx : oneL b i c with
    | tok t to =>
      rw [hx] at hx0
      simp only [hx] at hr
      subst hr
      have ht := oneL_to hc hx
      simp -implicitDefEqProofs (maxSteps := 2000000) (disch := omega) [-getElem?_pos, encK]
      exact ⟨by omega, ⟨to, acc ++ [t]⟩, ⟨ht.2, by simp; omega, f, by dsimp only; omega, hx0⟩, by dsimp only; omega, .dropO (by simp) (by simp) (by simp [encK]) (by simp)⟩
    | bad q =>
      rw [hx] at hx0
      rw [hx0]
      simp only [hx] at hr
      obtain ⟨t, e, rfl⟩ := hr
      simp -implicitDefEqProofs (maxSteps := 2000000) (disch := omega) [-getElem?_pos, encK]
      exact .fin _ ⟨rfl, rfl⟩ (.refl _)
  · have hn : b[i]? = none := by rw [List.getElem?_eq_none_iff]; omega
    have he2 : cutF (b.length + 1) b 0 [] = .ok acc := by
      rw [he, cutF, spanE_end (by omega), hn]
    rw [he2]
    simp -implicitDefEqProofs (maxSteps := 2000000) (disch := omega) [-getElem?_pos]
    exact .fin _ ⟨rfl, rfl⟩ (.tup3 .tsl (.refl _) (.refl _))
theorem k_Same {l : List Tk} {σ : Sg} (hl : l.length ≤ 1048576) : ACalls Tryd.prog 25 [.v (.sl (some 4) false (l.map encK)), .v (.sl (some 4) false (l.map encK))] σ fun r σ' => r = .v (.bool true) ∧ σ' = σ := by
  refine acalls_fit Tryd.func25 (by kernel_rfl) c25 rfl (by simp [a25]) fun hf => ?_
  clear hf
  simp -implicitDefEqProofs (maxSteps := 2000000) (disch := omega) [-getElem?_pos, a25]
  refine W_loop (α := Nat) 0 (fun k => l.length - k) (fun k => ⟨[(0, .v (.sl (some 4) false (l.map encK))), (1, .v (.sl (some 4) false (l.map encK))), (5, .v (.int .i64 k))], σ⟩)
    (fun k => k ≤ l.length) (.eq (by simp)) (Nat.zero_le _) fun k hk => ?_
  simp -implicitDefEqProofs (maxSteps := 2000000) (disch := omega) [-getElem?_pos]
  refine .mk (fun h => ?_) fun h => ?_
  · obtain ⟨t, ht⟩ : ∃ t, l[k]? = some t := ⟨l[k]'(by omega), List.getElem?_eq_getElem _⟩
    have hte : (l.map encK)[k]? = some (.agg [.int .i64 t.k, .int .i64 t.i, .int .i64 t.n, .str t.s]) := by rw [List.getElem?_map, ht]; rfl
    simp -implicitDefEqProofs (maxSteps := 2000000) (disch := omega) [-getElem?_pos, hte, encK]
    exact ⟨by omega, k + 1, by omega, by dsimp only; omega, .eq (by simp)⟩
  · simp -implicitDefEqProofs (maxSteps := 2000000) (disch := omega) [-getElem?_pos]
    exact .fin _ ⟨rfl, rfl⟩ (.refl _)
theorem k_AsT {l : List Tk} {σ : Sg} (hl : l.length ≤ 1048576) : ACalls Tryd.prog 26 [.v (.sl (some 4) false (l.map encK))] σ fun r σ' => r = .v (.sl (some 4) false (l.map encK)) ∧ σ' = σ := by
  refine acalls_fit Tryd.func26 (by kernel_rfl) c26 rfl (by simp [a26]) fun hf => ?_
  clear hf
  simp -implicitDefEqProofs (maxSteps := 2000000) (disch := omega) [-getElem?_pos, a26]
  refine W_loop (α := Nat) 0 (fun k => l.length - k) (fun k => ⟨[(0, .v (.sl (some 4) false (l.map encK))), (3, .tsl σ.toks.length (some 4) ((l.take k).map encK)), (4, .v (.int .i64 k))], ⟨σ.objs, σ.toks ++ [k]⟩⟩)
    (fun k => k ≤ l.length) (.tok (i := 3) (sh := some 4) (by simp) (by simp)) (Nat.zero_le _) fun k hk => ?_
  simp -implicitDefEqProofs (maxSteps := 2000000) (disch := omega) [-getElem?_pos]
  refine .mk (fun h => ?_) fun h => ?_
  · obtain ⟨t, ht⟩ : ∃ t, l[k]? = some t := ⟨l[k]'(by omega), List.getElem?_eq_getElem _⟩
    have hte : (l.map encK)[k]? = some (.agg [.int .i64 t.k, .int .i64 t.i, .int .i64 t.n, .str t.s]) := by rw [List.getElem?_map, ht]; rfl
    simp -implicitDefEqProofs (maxSteps := 2000000) (disch := omega) [-getElem?_pos, hte, encK]
    have htk : (l.map encK).take (k + 1) = (l.map encK).take k ++ [.agg [.int .i64 t.k, .int .i64 t.i, .int .i64 t.n, .str t.s]] := by rw [List.take_add_one, hte]; rfl
    exact ⟨by omega, by omega, k + 1, by omega, by dsimp only; omega, .eq2 (by simp) (by simp [htk])⟩
  · simp -implicitDefEqProofs (maxSteps := 2000000) (disch := omega) [-getElem?_pos]
    rw [List.take_of_length_le (by simp; omega)]
    exact .fin _ ⟨rfl, rfl⟩ .tsl
end Go.Proofs.YtkfkifgfnlaceaaDoor
