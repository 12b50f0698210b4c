/-
  Core expressions, walked: a run. (Own work.)
-/
import Derived.Test.YtbifjffjibnjjaaDoorK17
set_option linter.unusedVariables false
set_option linter.unusedSimpArgs false
set_option maxHeartbeats 1000000
namespace Go.Proofs.YtbifjffjibnjjaaDoor
open Go Go.Abs

/-- An object's empty slice may be appended to, from a call on. -/
theorem ACalls.tokObj {P : Program} {f : Nat} {ds : List D} {σ : Sg} {R : D → Sg → Prop} {o k : Nat} {cs : List D} (sh : Sh) (ho : σ.objs[o]? = some (.cells cs)) (hk : cs[k]? = some (.v .snil))
    (h : ACalls P f ds ⟨σ.objs.set o (.cells (cs.set k (.tsl σ.toks.length sh []))), σ.toks ++ [0]⟩ R) : ACalls P f ds σ R := by
  have hkl := (List.getElem?_eq_some_iff.1 hk).1
  refine ⟨h.1, fun m w us hI hl hr => ?_⟩
  obtain ⟨hI', hX'⟩ := hI.tadd sh 0 (Nat.zero_le _)
  have hI2 := hI'.obLe (o := o) (cs := cs) (cs' := cs.set k (.tsl σ.toks.length sh [])) ho (by rintro rfl; simp at hk) (by simp) (by
    intro i d d' hd hd' u hu
    rw [List.getElem?_set] at hd'
    split at hd'
    · rename_i e
      subst e
      cases hd'
      rw [hk] at hd
      cases hd
      cases hu with
      | v _ _ hv =>
        cases hv
        have h0 : RepV w (Fz m w) (.sl sh true []) (.slice none 0 0) := .slNil sh true none
        have := h0.tokd (m := m) hX'
        rw [show σ.toks.length = m.toks.length from hI.tok_len.symm]
        exact this
    · rw [hd] at hd'
      cases hd'
      exact hu)
  refine (h.2 _ w us hI2 hl fun i d u hd hu => (hr i d u hd hu).mono hX').mono fun e w' ⟨v, r, σ', m', he, hR, hI3, hX3, hrep⟩ => ⟨v, r, σ', m', he, hR, hI3, hX'.trans hX3, hrep⟩

/-- A struct of which some fields lie behind tokens. -/
theorem D.Le.aggW {ds : List D} {vs : List V} (hl : ds.length = vs.length) (h : ∀ (i : Nat) d v, ds[i]? = some d → vs[i]? = some v → D.Le d (.v v)) : D.Le (.agg ds) (.v (.agg vs)) := fun m w u hu => by
  cases hu with
  | agg _ us hl2 h1 hr =>
    have ha : ∀ xs : List V, allV (xs.map .v) = some xs := by
      intro xs
      induction xs with
      | nil => rfl
      | cons y ys ih => simp [allV, ih]
    have hm : mkAgg (vs.map .v) = .v (.agg vs) := by unfold mkAgg; rw [ha]
    rw [← hm]
    refine mkAgg_rep (by simp; omega) h1 fun i d u hd hu => ?_
    rw [List.getElem?_map] at hd
    cases hv : vs[i]? with
    | none => rw [hv] at hd; cases hd
    | some v =>
      rw [hv] at hd
      cases hd
      obtain ⟨d, hd⟩ : ∃ d, ds[i]? = some d := ⟨_, List.getElem?_eq_getElem (by rw [hl]; exact (List.getElem?_eq_some_iff.1 hv).1)⟩
      exact h i d v hd hv m w u (hr i d u hd hu)
theorem pre_of {α : Type} {l l' : List α} (h : ∀ i, i < l.length → l'[i]? = l[i]?) : l' = l ++ l'.drop l.length := by
  have ht : l'.take l.length = l := by
    refine List.ext_getElem? fun i => ?_
    rw [List.getElem?_take]
    split
    · rename_i hi
      exact h i hi
    · rename_i hi
      exact (List.getElem?_eq_none (by omega)).symm
  conv => lhs; rw [← List.take_append_drop l.length l', ht]
def ms0 (inp : List Str) (fuel : Nat) : Ms := ⟨inp, fuel, 0, 0, [], []⟩
def outV (m : Ms) : V := .agg [.int .i64 m.err, .int .i64 m.fault, .str [], .sl none false (m.tr.map .str)]
def valV (φ : Nat → Nat) : Option Vl → V
  | some v => encW φ v
  | none => zW
def runD (φ : Nat → Nat) (rs : Rs Vl) : D := .tup [.v (valV φ rs.v), .v (outV rs.m)]
def runM (e : Co) (inp : List Str) (fuel : Nat) : Rs Vl := evM (fuel + 1) e .nil (ms0 inp fuel)
theorem k_Run {e : Co} {inp : List Str} {fuel : Nat} {σ : Sg} (hc : okC 1048576 e) (hf0 : fuel ≤ 40000) :
    ACalls Tryd.prog 10 [.v (encC e), .v (vS inp), .v (.int .i64 fuel)] σ fun r σ' => (∃ φ, r = runD φ (runM e inp fuel)) ∧ σ' = σ := by
  obtain ⟨c0, c1, c2, c3, c4, c5, hco⟩ := list6 (show (coV e).length = 6 by cases e; rfl)
  have hec : encC e = .agg [c0, c1, c2, c3, c4, c5] := by rw [encC_coV, hco]
  have hev := k_Eval (mo := σ.objs.length + 3) (tt := σ.toks.length) (fuel + 1) e .nil (ms0 inp fuel) id id
  rw [hec, show encN id .nil = .pnil by simp [encN]] at hev
  rw [hec]
  refine acalls_fit Tryd.func10 (by kernel_rfl) c10 rfl (by simp [a10]) fun hf => ?_
  clear hf
  simp -implicitDefEqProofs (maxSteps := 2000000) (disch := omega) [-getElem?_pos, a10]
  refine ACalls.tokObj (o := σ.objs.length + 3) (k := 5) (cs := [D.v (vS inp), D.v (V.int .i64 fuel), D.v (V.int .i64 0), D.v (V.int .i64 0), D.v (V.str []), D.v V.snil]) none (by simp) rfl ?_
  have hset : (σ.objs ++ [Ob.cells [D.v c0, D.v c1, D.v c2, D.v c3, D.v c4, D.v c5], Ob.cells [D.v (V.int .i64 0), D.v (V.int .i64 0), D.v (V.str []), D.v V.snil, D.v V.pnil, D.v V.pnil], Ob.cells [D.v (V.int .i64 0), D.v (V.int .i64 0), D.v (V.str []), D.v V.snil], Ob.cells [D.v (vS inp), D.v (V.int .i64 fuel), D.v (V.int .i64 0), D.v (V.int .i64 0), D.v (V.str []), D.v V.snil]]).set (σ.objs.length + 3) (.cells ([D.v (vS inp), D.v (V.int .i64 fuel), D.v (V.int .i64 0), D.v (V.int .i64 0), D.v (V.str []), D.v V.snil].set 5 (.tsl σ.toks.length none []))) = σ.objs ++ [Ob.cells [D.v c0, D.v c1, D.v c2, D.v c3, D.v c4, D.v c5], Ob.cells [D.v (V.int .i64 0), D.v (V.int .i64 0), D.v (V.str []), D.v V.snil, D.v V.pnil, D.v V.pnil], Ob.cells [D.v (V.int .i64 0), D.v (V.int .i64 0), D.v (V.str []), D.v V.snil], Ob.cells [D.v (vS inp), D.v (V.int .i64 fuel), D.v (V.int .i64 0), D.v (V.int .i64 0), D.v (V.str []), .tsl σ.toks.length none []]] := by simp
  dsimp only
  rw [hset]
  have hSto : Sto (σ.objs.length + 3) σ.toks.length id id (ms0 inp fuel) ⟨σ.objs ++ [Ob.cells [D.v c0, D.v c1, D.v c2, D.v c3, D.v c4, D.v c5], Ob.cells [D.v (V.int .i64 0), D.v (V.int .i64 0), D.v (V.str []), D.v V.snil, D.v V.pnil, D.v V.pnil], Ob.cells [D.v (V.int .i64 0), D.v (V.int .i64 0), D.v (V.str []), D.v V.snil], Ob.cells [D.v (vS inp), D.v (V.int .i64 fuel), D.v (V.int .i64 0), D.v (V.int .i64 0), D.v (V.str []), .tsl σ.toks.length none []]], σ.toks ++ [0]⟩ := ⟨by simp [machOb, ms0], by simp [ms0], by simp [ms0], by simp [ms0]⟩
  refine (hev ⟨σ.objs ++ [Ob.cells [D.v c0, D.v c1, D.v c2, D.v c3, D.v c4, D.v c5], Ob.cells [D.v (V.int .i64 0), D.v (V.int .i64 0), D.v (V.str []), D.v V.snil, D.v V.pnil, D.v V.pnil], Ob.cells [D.v (V.int .i64 0), D.v (V.int .i64 0), D.v (V.str []), D.v V.snil], Ob.cells [D.v (vS inp), D.v (V.int .i64 fuel), D.v (V.int .i64 0), D.v (V.int .i64 0), D.v (V.str []), .tsl σ.toks.length none []]], σ.toks ++ [0]⟩ 1048576 ⟨hSto, ⟨by simp [ms0], by simp [ms0]⟩, by omega, by simp only [ms0]; omega⟩ hc trivial (by simp [ms0])).mono fun r σ2 ⟨φ2, ψ2, hr, hA⟩ => ?_
  have hk : ∀ (j : Nat) ob, j < 3 → [Ob.cells [D.v c0, D.v c1, D.v c2, D.v c3, D.v c4, D.v c5], Ob.cells [D.v (V.int .i64 0), D.v (V.int .i64 0), D.v (V.str []), D.v V.snil, D.v V.pnil, D.v V.pnil], Ob.cells [D.v (V.int .i64 0), D.v (V.int .i64 0), D.v (V.str []), D.v V.snil], Ob.cells [D.v (vS inp), D.v (V.int .i64 fuel), D.v (V.int .i64 0), D.v (V.int .i64 0), D.v (V.str []), .tsl σ.toks.length none []]][j]? = some ob → σ2.objs[σ.objs.length + j]? = some ob := fun j ob hj ho => by
    rw [hA.keep _ (by simp; omega) (by omega) (by simp [ms0]), List.getElem?_append_right (by omega), Nat.add_sub_cancel_left, ho]
  have h0 := hk 0 _ (by omega) rfl
  have h1 := hk 1 _ (by omega) rfl
  have h2 := hk 2 _ (by omega) rfl
  have h3 := hA.sto.mach
  have hold : ∀ i, i < σ.objs.length → σ2.objs[i]? = σ.objs[i]? := fun i hi => by
    rw [hA.keep i (by simp; omega) (by omega) (by simp [ms0]), List.getElem?_append_left hi]
  have holt : ∀ i, i < σ.toks.length → σ2.toks[i]? = σ.toks[i]? := fun i hi => by
    rw [hA.ktok i (by simp; omega) (by omega), List.getElem?_append_left hi]
  have hl3 := (List.getElem?_eq_some_iff.1 h3).1
  unfold machOb at h3
  show KO _ _ _ _ _ _ _
  unfold runM
  generalize evM (fuel + 1) e .nil (ms0 inp fuel) = rs at hr hA h3 ⊢
  obtain ⟨v, m2⟩ := rs
  dsimp only at hr hA h3
  have hle : D.Le (.agg [.v (.int .i64 m2.err), .v (.int .i64 m2.fault), .v (.str []), .tsl σ.toks.length none (m2.tr.map .str)]) (.v (outV m2)) := by
    refine D.Le.aggW rfl fun i d v hd hv => ?_
    match i with
    | 0 => cases hd; cases hv; exact .refl _
    | 1 => cases hd; cases hv; exact .refl _
    | 2 => cases hd; cases hv; exact .refl _
    | 3 => cases hd; cases hv; exact .tsl
    | n + 4 => simp at hd
  have gs : ∀ X (r : List Ob) i, i ≠ σ.objs.length + 1 → i < σ2.objs.length → (σ2.objs.set (σ.objs.length + 1) X ++ r)[i]? = σ2.objs[i]? := fun X r i h4 h5 => by
    rw [List.getElem?_append_left (by simpa using h5), List.getElem?_set_ne (Ne.symm h4)]
  have ss : ∀ X Y (r : List Ob), (σ2.objs.set (σ.objs.length + 1) X ++ r).set (σ.objs.length + 2) Y = (σ2.objs.set (σ.objs.length + 1) X).set (σ.objs.length + 2) Y ++ r := fun X Y r => List.set_append_left _ _ (by simp; omega)
  have ga : ∀ X Y (r : List Ob), ((σ2.objs.set (σ.objs.length + 1) X).set (σ.objs.length + 2) Y ++ r)[σ.objs.length + 1]? = some X := fun X Y r => by
    rw [List.getElem?_append_left (by simp; omega), List.getElem?_set_ne (by omega), List.getElem?_set_self (by omega)]
  have gb : ∀ X Y (r : List Ob), ((σ2.objs.set (σ.objs.length + 1) X).set (σ.objs.length + 2) Y ++ r)[σ.objs.length + 2]? = some Y := fun X Y r => by
    rw [List.getElem?_append_left (by simp; omega), List.getElem?_set_self (by simp; omega)]
  cases v with
  | none =>
    replace hr : r = .tup [.v zW, .v (.bool false)] := hr
    subst hr
    unfold zW
    simp -implicitDefEqProofs (maxSteps := 2000000) (disch := omega) [-getElem?_pos, h0, h1, h2, h3, hl3, List.getElem?_append_left, List.set_append_left]
    refine ⟨.inr (.inl ((gs _ _ _ (by omega) (by omega)).trans h3)), ?_⟩
    simp -implicitDefEqProofs (maxSteps := 2000000) (disch := omega) [-getElem?_pos, gs, ss, ga, gb, h2]
    refine .fin (runD φ2 ⟨none, m2⟩) ⟨⟨φ2, rfl⟩, rfl⟩ (.tup2 (.refl _) hle) (by simp [runD]) (pre_of fun i hi => ?_) (pre_of holt)
    dsimp only
    rw [List.getElem?_append_left (by simp; omega), List.getElem?_set_ne (by omega), List.getElem?_set_ne (by omega)]
    exact hold i hi
  | some v =>
    obtain ⟨d0, d1, d2, d3, d4, d5, hcv⟩ := list6 (celW_len (φ := φ2) v)
    have hvv : encW φ2 v = .agg [d0, d1, d2, d3, d4, d5] := by unfold encW; rw [hcv]
    replace hr : r = .tup [.v (encW φ2 v), .v (.bool true)] := hr
    subst hr
    rw [hvv]
    simp -implicitDefEqProofs (maxSteps := 2000000) (disch := omega) [-getElem?_pos, h0, h1, h2, h3, hl3, List.getElem?_append_left, List.set_append_left]
    refine ⟨.inr (.inl ((gs _ _ _ (by omega) (by omega)).trans h3)), ?_⟩
    simp -implicitDefEqProofs (maxSteps := 2000000) (disch := omega) [-getElem?_pos, gs, ss, ga, gb, h2]
    refine .fin (runD φ2 ⟨some v, m2⟩) ⟨⟨φ2, rfl⟩, rfl⟩ (.tup2 (by rw [show valV φ2 (some v) = .agg [d0, d1, d2, d3, d4, d5] from hvv]; exact .refl _) hle) (by simp [runD]) (pre_of fun i hi => ?_) (pre_of holt)
    dsimp only
    rw [List.getElem?_append_left (by simp; omega), List.getElem?_set_ne (by omega), List.getElem?_set_ne (by omega)]
    exact hold i hi
end Go.Proofs.YtbifjffjibnjjaaDoor
