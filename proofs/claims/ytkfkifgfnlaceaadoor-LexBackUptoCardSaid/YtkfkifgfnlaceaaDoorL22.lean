/-
  LexBack: the law. (Own work.)
-/
import Derived.Test.YtkfkifgfnlaceaaDoorL17
import Derived.Test.YtkfkifgfnlaceaaDoorL19
import Derived.Test.YtkfkifgfnlaceaaDoorL21
set_option linter.unusedVariables false
set_option linter.unusedSimpArgs false
namespace Go.Proofs.YtkfkifgfnlaceaaDoor
open Go Go.Abs

/-- What is left of the law's body at its loop over the tokens. -/
structure BkIn (b : Str) (l : List Tk) (i : Nat) : Prop where
  hi : i ≤ l.length
  hr : ∃ j, j ≤ b.length ∧ Runs b j (l.drop i)
theorem bk_step {b : Str} {l : List Tk} {i : Nat} (hb : b.length ≤ 4000) (h : BkIn b l i) (hi : i < l.length) : l[i].i < endL b (l.drop (i + 1)) ∧ endL b (l.drop (i + 1)) ≤ b.length ∧ cutL (segL b l[i].i (endL b (l.drop (i + 1)))) = .ok [⟨l[i].k, 0, l[i].n, l[i].s⟩] ∧ BkIn b l (i + 1) := by
  obtain ⟨h0, j, hj, hR⟩ := h
  rw [List.drop_eq_getElem_cons hi] at hR
  obtain ⟨a1, a2, a3⟩ := seg_cut hj hb hR
  refine ⟨a1, a2, a3, hi, ?_⟩
  obtain ⟨c, to, hc, ho, hR⟩ := hR
  exact ⟨to, (oneL_to hc ho).2, hR⟩
theorem endL_more {b : Str} {l : List Tk} {i : Nat} (hi : i < l.length) : endL b (l.drop i) = l[i].i := by rw [List.drop_eq_getElem_cons hi]; rfl
theorem endL_end {b : Str} {l : List Tk} {i : Nat} (hi : l.length ≤ i) : endL b (l.drop i) = b.length := by rw [List.drop_eq_nil_of_le hi]; rfl

def tlX : Nat → X → X
  | 0, x => x
  | n + 1, .seq _ b => tlX n b
  | _, x => x
def loopX : X → X
  | .seq (.seq _ (.block _ l)) _ => l
  | x => x
def contX : X → X
  | .seq _ r => r
  | x => x
def RT (r : D) (_ : Sg) : Prop := r = .v (.bool true)
theorem back_loop {b : Str} {l : List Tk} {σ : Sg} {st : St} (hb : b.length ≤ 3000) (hl : l.length ≤ 1048576) (hR : Runs b 0 l)
    (hw : Weak σ st ⟨[(1, .v (vBs b)), (5, .v (.bool true)), (10, .v (.sl (some 4) false (l.map encK))), (12, .v (.int .i64 0))], σ⟩) :
    W Tryd.prog σ (loopX (tlX 7 a8.body)) (QBlk 0 (QSeq Tryd.prog σ (contX (tlX 7 a8.body)) (Post σ a8.res RT))) st := by
  refine W_loop (α := Nat) 0 (fun i => l.length - i) (fun i => ⟨[(1, .v (vBs b)), (5, .v (.bool true)), (10, .v (.sl (some 4) false (l.map encK))), (12, .v (.int .i64 i))], σ⟩) (fun i => BkIn b l i) hw ⟨Nat.zero_le _, 0, Nat.zero_le _, hR⟩ fun i hi => ?_
  have hi0 := hi.hi
  simp -implicitDefEqProofs (maxSteps := 2000000) (disch := omega) [-getElem?_pos]
  refine .mk (fun h => ?_) fun h => ?_
  · have hlt : i < l.length := by omega
    obtain ⟨a1, a2, a3, a4⟩ := bk_step (by omega) hi hlt
    have hcut : ∀ σ, ACalls Tryd.prog 22 [.v (vBs (segL b l[i].i (endL b (l.drop (i + 1)))))] σ fun r σ' => r = .tup [.v (.sl (some 4) false [encK ⟨l[i].k, 0, l[i].n, l[i].s⟩]), .v .inil] ∧ σ' = σ := fun σ => by
      have hk := k_Cut (b := segL b l[i].i (endL b (l.drop (i + 1)))) (σ := σ) (by rw [segL_eq, List.length_take, List.length_drop]; omega)
      rw [a3] at hk
      exact hk
    obtain ⟨t, ht⟩ : ∃ t, l[i] = t := ⟨_, rfl⟩
    have hgi : l[i]? = some t := by rw [List.getElem?_eq_getElem hlt, ht]
    rw [ht] at a1 hcut
    obtain ⟨e, he⟩ : ∃ e, endL b (l.drop (i + 1)) = e := ⟨_, rfl⟩
    rw [he] at a1 a2 hcut
    simp -implicitDefEqProofs (maxSteps := 2000000) (disch := omega) [-getElem?_pos]
    refine .mk (fun h2 => ?_) fun h2 => ?_
    · have hlt2 : i + 1 < l.length := by omega
      obtain ⟨t2, ht2⟩ : ∃ t, l[i + 1] = t := ⟨_, rfl⟩
      have hgi2 : l[i + 1]? = some t2 := by rw [List.getElem?_eq_getElem hlt2, ht2]
      rw [endL_more hlt2, ht2] at he
      subst he
      simp -implicitDefEqProofs (maxSteps := 2000000) (disch := omega) [-getElem?_pos, hgi, hgi2, encK]
      refine ⟨by omega, by omega, hlt, .mk (fun hx => absurd hx (by omega)) fun hx => ?_⟩
      simp only [segL] at hcut
      simp -implicitDefEqProofs (maxSteps := 2000000) (disch := omega) [-getElem?_pos, hgi, hgi2, encK]
      refine ⟨hlt, by omega, by omega, ?_⟩
      refine (hcut _).then fun r hr => ?_
      subst hr
      simp -implicitDefEqProofs (maxSteps := 2000000) (disch := omega) [-getElem?_pos, hgi, hgi2, encK]
      exact ⟨hlt, i + 1, a4, by dsimp only; omega, .eq (by simp)⟩
    · rw [endL_end (by omega)] at he
      subst he
      simp -implicitDefEqProofs (maxSteps := 2000000) (disch := omega) [-getElem?_pos, hgi, encK]
      refine ⟨hlt, .mk (fun hx => absurd hx (by omega)) fun hx => ?_⟩
      simp only [segL] at hcut
      rw [List.take_length] at hcut
      simp -implicitDefEqProofs (maxSteps := 2000000) (disch := omega) [-getElem?_pos, hgi, encK]
      refine ⟨hlt, by omega, ?_⟩
      refine (hcut _).then fun r hr => ?_
      subst hr
      simp -implicitDefEqProofs (maxSteps := 2000000) (disch := omega) [-getElem?_pos, hgi, encK]
      exact ⟨hlt, i + 1, a4, by dsimp only; omega, .eq (by simp)⟩
  · simp -implicitDefEqProofs (maxSteps := 2000000) (disch := omega) [-getElem?_pos, tlX, contX, a8]
    exact .fin _ rfl (.refl _)

theorem k_Back {t b : Str} {σ : Sg} (ht : t.length ≤ 1048576) (hb : b.length ≤ 1048576) : ACalls Tryd.prog 8 [.v (.str t), .v (vBs b)] σ fun r σ' => r = .v (.bool true) := by
  refine acalls_fit Tryd.func8 (by kernel_rfl) c8 rfl (by simp [a8]) fun hf => ?_
  clear hf
  simp -implicitDefEqProofs (maxSteps := 2000000) (disch := omega) [-getElem?_pos, a8]
  refine k_Up.then fun r hr => ?_
  subst hr
  simp -implicitDefEqProofs (maxSteps := 2000000) (disch := omega) [-getElem?_pos]
  have cq := fun σ => k_Quote (b := t) (σ := σ) ht
  have c1 := fun σ => k_Cut (b := b) (σ := σ) hb
  refine .mk (fun h => ?_) fun h => ?_
  rotate_left
  · simp -implicitDefEqProofs (maxSteps := 2000000) (disch := omega) [-getElem?_pos]
    exact .fin _ rfl (.refl _)
  simp -implicitDefEqProofs (maxSteps := 2000000) (disch := omega) [-getElem?_pos]
  refine .mk (fun h3 => ?_) fun h3 => ?_
  · simp -implicitDefEqProofs (maxSteps := 2000000) (disch := omega) [-getElem?_pos]
    exact .fin _ rfl (.refl _)
  simp -implicitDefEqProofs (maxSteps := 2000000) (disch := omega) [-getElem?_pos]
  refine (cq _).then fun r hr => ?_
  unfold quoteE at hr
  rw [if_neg (by omega)] at hr
  have hrun : ∀ l, cutL b = .ok l → Runs b 0 l := fun l h => by
    unfold cutL at h
    split at h
    · cases h
    · obtain ⟨r, e, hr⟩ := cutF_runs (b := b) (b.length + 1) 0 [] l h
      rw [e]
      exact hr
  have hlen : ∀ l, cutL b = .ok l → l.length ≤ 1048576 := fun l h => by
    unfold cutL at h
    split at h
    · cases h
    · have := cutF_len _ 0 [] l (Nat.zero_le _) h
      simp at this
      omega
  cases hq : qL t [34] with
  | none =>
    rw [hq] at hr
    unfold QPost at hr
    dsimp only at hr
    subst hr
    simp -implicitDefEqProofs (maxSteps := 2000000) (disch := omega) [-getElem?_pos]
    cases hx : cutL b with
    | ok l =>
      have c2 := c1 σ
      rw [hx] at c2
      refine (show ACalls Tryd.prog 22 [.v (vBs b)] σ fun r σ' => r = .tup [.v (.sl (some 4) false (l.map encK)), .v .inil] ∧ σ' = σ from c2).then fun r hr => ?_
      subst hr
      simp -implicitDefEqProofs (maxSteps := 2000000) (disch := omega) [-getElem?_pos, a8, tlX, contX]
      exact back_loop (by omega) (hlen l hx) (hrun l hx) (.eq (by simp))
    | bad q =>
      have c2 := c1 σ
      rw [hx] at c2
      refine c2.mono fun r σ' hr => ?_
      obtain ⟨o, xs, ts, rfl, rfl, hxs⟩ := hr
      simp -implicitDefEqProofs (maxSteps := 2000000) (disch := omega) [-getElem?_pos]
      exact .fin _ rfl (.refl _)
    | great =>
      have c2 := c1 σ
      rw [hx] at c2
      refine (show ACalls Tryd.prog 22 [.v (vBs b)] σ fun r σ' => r = .tup [.v .snil, .v (.iface 28 (.int .i64 6))] ∧ σ' = σ from c2).then fun r hr => ?_
      subst hr
      simp -implicitDefEqProofs (maxSteps := 2000000) (disch := omega) [-getElem?_pos]
      exact .fin _ rfl (.refl _)
  | some s =>
    rw [hq] at hr
    unfold QPost at hr
    dsimp only at hr
    subst hr
    have hs : s.length ≤ 4000 := by
      obtain ⟨body, e, hbl, _⟩ := quote_body t _ s hq
      rw [e]
      simp
      omega
    have c2 : ∀ σ, ACalls Tryd.prog 22 [.v (vBs s)] σ fun r σ' => r = .tup [.v (.sl (some 4) false [encK ⟨5, 0, 0, t⟩]), .v .inil] ∧ σ' = σ := fun σ => by
      have h := k_Cut (b := s) (σ := σ) (by omega)
      rw [quote_cut (by omega) hq hs] at h
      exact h
    simp -implicitDefEqProofs (maxSteps := 2000000) (disch := omega) [-getElem?_pos]
    refine ⟨by omega, ?_⟩
    refine (c2 _).then fun r hr => ?_
    subst hr
    simp -implicitDefEqProofs (maxSteps := 2000000) (disch := omega) [-getElem?_pos, encK]
    cases hx : cutL b with
    | ok l =>
      have c2 := c1 σ
      rw [hx] at c2
      refine (show ACalls Tryd.prog 22 [.v (vBs b)] σ fun r σ' => r = .tup [.v (.sl (some 4) false (l.map encK)), .v .inil] ∧ σ' = σ from c2).then fun r hr => ?_
      subst hr
      simp -implicitDefEqProofs (maxSteps := 2000000) (disch := omega) [-getElem?_pos, a8, tlX, contX]
      exact back_loop (by omega) (hlen l hx) (hrun l hx) (.eq (by simp))
    | bad q =>
      have c2 := c1 σ
      rw [hx] at c2
      refine c2.mono fun r σ' hr => ?_
      obtain ⟨o, xs, ts, rfl, rfl, hxs⟩ := hr
      simp -implicitDefEqProofs (maxSteps := 2000000) (disch := omega) [-getElem?_pos]
      exact .fin _ rfl (.refl _)
    | great =>
      have c2 := c1 σ
      rw [hx] at c2
      refine (show ACalls Tryd.prog 22 [.v (vBs b)] σ fun r σ' => r = .tup [.v .snil, .v (.iface 28 (.int .i64 6))] ∧ σ' = σ from c2).then fun r hr => ?_
      subst hr
      simp -implicitDefEqProofs (maxSteps := 2000000) (disch := omega) [-getElem?_pos]
      exact .fin _ rfl (.refl _)
end Go.Proofs.YtkfkifgfnlaceaaDoor
