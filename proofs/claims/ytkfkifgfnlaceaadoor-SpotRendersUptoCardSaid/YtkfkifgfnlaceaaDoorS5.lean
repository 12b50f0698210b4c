/-
  SpotWheres, SpotRenders: the laws. (Own work.)
-/
import Derived.Test.YtkfkifgfnlaceaaDoorS4
set_option linter.unusedVariables false
set_option linter.unusedSimpArgs false
namespace Go.Proofs.YtkfkifgfnlaceaaDoor
open Go Go.Abs

@[reducible] def vS (l : List Str) : V := .sl none false (l.map .str)
theorem k_Wheres {b : Str} {at_ : Int} {σ : Sg} (hb : b.length ≤ 1048576) : ACalls Tryd.prog 3 [.v (vBs b), .v (.int .i64 at_)] σ fun r σ' => r = .v (.bool true) ∧ σ' = σ := by
  refine acalls_fit Tryd.func3 (by kernel_rfl) c3 rfl (by simp [a3]) fun hf => ?_
  clear hf
  simp -implicitDefEqProofs (maxSteps := 2000000) (disch := omega) [-getElem?_pos, a3]
  refine k_Up.then fun r hr => ?_
  subst hr
  simp -implicitDefEqProofs (maxSteps := 2000000) (disch := omega) [-getElem?_pos]
  refine .mk (fun h => ?_) fun h => ?_
  · simp -implicitDefEqProofs (maxSteps := 2000000) (disch := omega) [-getElem?_pos]
    exact .fin _ ⟨rfl, rfl⟩ (.refl _)
  simp -implicitDefEqProofs (maxSteps := 2000000) (disch := omega) [-getElem?_pos]
  refine (k_Where hb).then fun r hr => ?_
  subst hr
  simp -implicitDefEqProofs (maxSteps := 2000000) (disch := omega) [-getElem?_pos]
  refine (k_RWhere hb).then fun r hr => ?_
  subst hr
  simp -implicitDefEqProofs (maxSteps := 2000000) (disch := omega) [-getElem?_pos]
  exact .fin _ ⟨rfl, rfl⟩ (.refl _)

/-- Where the loop over the stages stands: how many are done, the error, what lies in memory by now. -/
structure RSt where
  i : Nat
  d : D
  os : List Ob
structure RIn (σ : Sg) (stages : List Str) (p : Option (Nat × Int)) (n : Int) (x : RSt) : Prop where
  hi : x.i ≤ stages.length
  hd : Chn (σ.objs ++ x.os) x.d p n (stages.take x.i).reverse
  hl : (chT p n (stages.take x.i).reverse).length ≤ 100 + 102 * x.i
theorem baseT_len {p : Option (Nat × Int)} {n : Int} (h1 : (codeT n).length ≤ 27) (h2 : ∀ o a, p = some (o, a) → (Lib.itoa a).length ≤ 21) : (baseT p n).length ≤ 100 := by
  unfold baseT
  split
  · omega
  · rename_i o a
    have := h2 o a rfl
    simp
    omega
def tlX : Nat → X → X
  | 0, x => x
  | n + 1, .seq _ b => tlX n b
  | _, x => x
def loopX : X → X
  | .seq (.seq _ (.block _ l)) _ => l
  | x => x
def contX : X → X
  | .seq _ r => r
  | x => x
def RT (r : D) (_ : Sg) : Prop := r = .v (.bool true)
theorem Chn.form {os : List Ob} {d : D} {p : Option (Nat × Int)} {n : Int} {ss : List Str} (h : Chn os d p n ss) : ∃ x, d = .iface 39 x ∨ d = .iface 67 x ∨ ∃ n, d = .v (.iface 28 (.int .i64 n)) := by
  cases h with
  | code n => exact ⟨.junk, .inr (.inr ⟨n, rfl⟩)⟩
  | spot o a n h => exact ⟨_, .inl rfl⟩
  | wrap o s d p n ss h hd => exact ⟨_, .inr (.inl rfl)⟩
theorem rend_loop {b : Str} {at_ code : Int} {stages : List Str} {sp : Bool} {σ : Sg} {st : St} {d0 : D} {os0 : List Ob} {p : Option (Nat × Int)} (hb : b.length ≤ 5000) (hs : stages.length ≤ 20)
    (hp : (p = none ∧ sp = false) ∨ ∃ o, p = some (o, at_) ∧ sp = true) (hc : Chn (σ.objs ++ os0) d0 p code []) (hl : (baseT p code).length ≤ 100)
    (hw : Weak σ st ⟨[(0, .v (vBs b)), (1, .v (.int .i64 at_)), (3, .v (vS stages)), (4, .v (.bool sp)), (11, .v (.bool true)), (12, d0), (13, .v (.str (baseT p code))), (14, .v (.int .i64 0))], ⟨σ.objs ++ os0, σ.toks⟩⟩) :
    W Tryd.prog σ (loopX (tlX 6 a4.body)) (QBlk 0 (QSeq Tryd.prog σ (contX (tlX 6 a4.body)) (Post σ a4.res RT))) st := by
  refine W_loop (α := RSt) ⟨0, d0, os0⟩ (fun x => stages.length - x.i) (fun x => ⟨[(0, .v (vBs b)), (1, .v (.int .i64 at_)), (3, .v (vS stages)), (4, .v (.bool sp)), (11, .v (.bool true)), (12, x.d), (13, .v (.str (chT p code (stages.take x.i).reverse))), (14, .v (.int .i64 x.i))], ⟨σ.objs ++ x.os, σ.toks⟩⟩)
    (fun x => RIn σ stages p code x) hw ⟨Nat.zero_le _, hc, hl⟩ fun ⟨i, d, os⟩ ⟨hi, hd, hl⟩ => ?_
  dsimp only at hi hd hl ⊢
  obtain ⟨t, ht⟩ : ∃ t, chT p code (stages.take i).reverse = t := ⟨_, rfl⟩
  rw [ht] at hl ⊢
  simp -implicitDefEqProofs (maxSteps := 2000000) (disch := omega) [-getElem?_pos]
  refine .mk (fun h => ?_) fun h => ?_
  · obtain ⟨s, hg⟩ : ∃ s, stages[i]? = some s := ⟨stages[i], List.getElem?_eq_getElem (by omega)⟩
    have hrev : (stages.take (i + 1)).reverse = s :: (stages.take i).reverse := by rw [List.take_add_one, hg]; simp
    have hch : chT p code (stages.take (i + 1)).reverse = s ++ [58, 32] ++ t := by rw [hrev, ← ht]; rfl
    simp -implicitDefEqProofs (maxSteps := 2000000) (disch := omega) [-getElem?_pos, hg]
    refine ⟨by omega, .mk (fun h100 => ?_) fun h100 => ?_⟩
    · simp -implicitDefEqProofs (maxSteps := 2000000) (disch := omega) [-getElem?_pos]
      exact .fin _ rfl (.refl _)
    · simp -implicitDefEqProofs (maxSteps := 2000000) (disch := omega) [-getElem?_pos, hg]
      refine ⟨by omega, ?_⟩
      refine (k_Wrap hd).mono fun r σ' hr => ?_
      obtain ⟨rfl, rfl⟩ := hr
      simp -implicitDefEqProofs (maxSteps := 2000000) (disch := omega) [-getElem?_pos, hg]
      refine ⟨by omega, by omega, by omega, ⟨i + 1, .iface 67 (.ptr (σ.objs ++ os).length 0), os ++ [wrapO s d]⟩, ⟨by dsimp only; omega, ?_, ?_⟩, by dsimp only; omega, .eq2 (by simp) ?_⟩
      · dsimp only
        rw [hrev, ← List.append_assoc]
        exact .wrap _ _ _ _ _ _ (by simp) hd.more
      · dsimp only
        rw [hch]
        simp
        omega
      · dsimp only
        rw [hch]
        simp
  · have hie : i = stages.length := by omega
    have hd' := hd
    have ke := k_Err (σ := ⟨σ.objs ++ os, σ.toks⟩) hd' (by rw [ht]; omega)
    rw [ht] at ke
    have kr := k_Render (b := b) (σ := ⟨σ.objs ++ os, σ.toks⟩) (by omega) hd (by rw [ht]; omega)
    rw [ht] at kr
    rcases hp with ⟨rfl, rfl⟩ | ⟨o, rfl, rfl⟩
    · obtain ⟨x, rfl | rfl | ⟨n', rfl⟩⟩ := hd.form
      all_goals
        simp -implicitDefEqProofs (maxSteps := 2000000) (disch := omega) [-getElem?_pos, a4, tlX, contX]
        refine WInv.then ke fun r hr => ?_
        subst hr
        simp -implicitDefEqProofs (maxSteps := 2000000) (disch := omega) [-getElem?_pos]
        refine kr.then fun r hr => ?_
        subst hr
        simp -implicitDefEqProofs (maxSteps := 2000000) (disch := omega) [-getElem?_pos, renderT]
        exact .fin _ rfl (.refl _)
    · obtain ⟨x, rfl | rfl | ⟨n', rfl⟩⟩ := hd.form
      all_goals
        simp -implicitDefEqProofs (maxSteps := 2000000) (disch := omega) [-getElem?_pos, a4, tlX, contX]
        refine WInv.then ke fun r hr => ?_
        subst hr
        simp -implicitDefEqProofs (maxSteps := 2000000) (disch := omega) [-getElem?_pos]
        refine (k_RWhere (by omega)).then fun r hr => ?_
        subst hr
        simp -implicitDefEqProofs (maxSteps := 2000000) (disch := omega) [-getElem?_pos]
        refine k_Itoa.then fun r hr => ?_
        obtain ⟨rfl, hl1⟩ := hr
        simp -implicitDefEqProofs (maxSteps := 2000000) (disch := omega) [-getElem?_pos]
        refine ⟨by omega, ?_⟩
        refine k_Itoa.then fun r hr => ?_
        obtain ⟨rfl, hl2⟩ := hr
        simp -implicitDefEqProofs (maxSteps := 2000000) (disch := omega) [-getElem?_pos]
        refine ⟨by omega, by omega, by omega, ?_⟩
        refine kr.then fun r hr => ?_
        subst hr
        simp -implicitDefEqProofs (maxSteps := 2000000) (disch := omega) [-getElem?_pos, renderT]
        exact .fin _ rfl (.refl _)
theorem k_Renders {b : Str} {at_ code : Int} {stages : List Str} {sp : Bool} {σ : Sg} (hb : b.length ≤ 1048576) (hs : stages.length ≤ 1048576) :
    ACalls Tryd.prog 4 [.v (vBs b), .v (.int .i64 at_), .v (.int .i64 code), .v (vS stages), .v (.bool sp)] σ fun r σ' => r = .v (.bool true) := by
  refine acalls_fit Tryd.func4 (by kernel_rfl) c4 rfl (by simp [a4]) fun hf => ?_
  clear hf
  simp -implicitDefEqProofs (maxSteps := 2000000) (disch := omega) [-getElem?_pos, a4]
  refine k_Up.then fun r hr => ?_
  subst hr
  simp -implicitDefEqProofs (maxSteps := 2000000) (disch := omega) [-getElem?_pos]
  refine .mk (fun h => ?_) fun h => ?_
  rotate_left
  · simp -implicitDefEqProofs (maxSteps := 2000000) (disch := omega) [-getElem?_pos]
    exact .fin _ rfl (.refl _)
  simp -implicitDefEqProofs (maxSteps := 2000000) (disch := omega) [-getElem?_pos]
  refine .mk (fun h2 => ?_) fun h2 => ?_
  · simp -implicitDefEqProofs (maxSteps := 2000000) (disch := omega) [-getElem?_pos]
    exact .fin _ rfl (.refl _)
  simp -implicitDefEqProofs (maxSteps := 2000000) (disch := omega) [-getElem?_pos]
  refine k_CErr.then fun r hr => ?_
  obtain ⟨rfl, hlc⟩ := hr
  cases sp with
  | false =>
    simp -implicitDefEqProofs (maxSteps := 2000000) (disch := omega) [-getElem?_pos, a4, tlX, contX]
    exact rend_loop (b := b) (at_ := at_) (code := code) (stages := stages) (os0 := []) (p := none) (d0 := .v (.iface 28 (.int .i64 code))) (by omega) (by omega) (.inl ⟨rfl, rfl⟩) (.code _) (by simp [baseT]; omega) (.eq2 (by simp) (by simp [baseT]))
  | true =>
    simp -implicitDefEqProofs (maxSteps := 2000000) (disch := omega) [-getElem?_pos]
    refine k_At.mono fun r σ' hr => ?_
    obtain ⟨rfl, rfl⟩ := hr
    simp -implicitDefEqProofs (maxSteps := 2000000) (disch := omega) [-getElem?_pos]
    refine k_Itoa.then fun r hr => ?_
    obtain ⟨rfl, hla⟩ := hr
    simp -implicitDefEqProofs (maxSteps := 2000000) (disch := omega) [-getElem?_pos, a4, tlX, contX]
    exact ⟨by omega, by omega, rend_loop (b := b) (at_ := at_) (code := code) (stages := stages) (os0 := [spotO at_ code]) (p := some (σ.objs.length, at_)) (d0 := .iface 39 (.ptr σ.objs.length 0)) (by omega) (by omega) (.inr ⟨_, rfl, rfl⟩) (.spot _ _ _ (by simp)) (by simp [baseT]; omega) (.eq2 rfl (by simp [baseT]))⟩
end Go.Proofs.YtkfkifgfnlaceaaDoor
