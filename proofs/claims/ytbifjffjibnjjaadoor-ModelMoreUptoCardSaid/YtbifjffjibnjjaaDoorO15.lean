/-
  Expressions, walked: a run. (Own work.)
-/
import Derived.Test.YtbifjffjibnjjaaDoorO13
set_option linter.unusedVariables false
set_option linter.unusedSimpArgs false
set_option maxHeartbeats 1000000
namespace Go.Proofs.YtbifjffjibnjjaaDoor
open Go Go.Abs

/-- An object's empty slice may be appended to, from a call on. -/
theorem ACalls.tokObj {P : Program} {f : Nat} {ds : List D} {σ : Sg} {R : D → Sg → Prop} {o k : Nat} {cs : List D} (sh : Sh) (ho : σ.objs[o]? = some (.cells cs)) (hk : cs[k]? = some (.v .snil))
    (h : ACalls P f ds ⟨σ.objs.set o (.cells (cs.set k (.tsl σ.toks.length sh []))), σ.toks ++ [0]⟩ R) : ACalls P f ds σ R := by
  have hkl := (List.getElem?_eq_some_iff.1 hk).1
  refine ⟨h.1, fun m w us hI hl hr => ?_⟩
  obtain ⟨hI', hX'⟩ := hI.tadd sh 0 (Nat.zero_le _)
  have hI2 := hI'.obLe (o := o) (cs := cs) (cs' := cs.set k (.tsl σ.toks.length sh [])) ho (by rintro rfl; simp at hk) (by simp) (by
    intro i d d' hd hd' u hu
    rw [List.getElem?_set] at hd'
    split at hd'
    · rename_i e
      subst e
      cases hd'
      rw [hk] at hd
      cases hd
      cases hu with
      | v _ _ hv =>
        cases hv
        have h0 : RepV w (Fz m w) (.sl sh true []) (.slice none 0 0) := .slNil sh true none
        have := h0.tokd (m := m) hX'
        rw [show σ.toks.length = m.toks.length from hI.tok_len.symm]
        exact this
    · rw [hd] at hd'
      cases hd'
      exact hu)
  refine (h.2 _ w us hI2 hl fun i d u hd hu => (hr i d u hd hu).mono hX').mono fun e w' ⟨v, r, σ', m', he, hR, hI3, hX3, hrep⟩ => ⟨v, r, σ', m', he, hR, hI3, hX'.trans hX3, hrep⟩

/-- A struct of which some fields lie behind tokens. -/
theorem D.Le.aggW {ds : List D} {vs : List V} (hl : ds.length = vs.length) (h : ∀ (i : Nat) d v, ds[i]? = some d → vs[i]? = some v → D.Le d (.v v)) : D.Le (.agg ds) (.v (.agg vs)) := fun m w u hu => by
  cases hu with
  | agg _ us hl2 h1 hr =>
    have ha : ∀ xs : List V, allV (xs.map .v) = some xs := by
      intro xs
      induction xs with
      | nil => rfl
      | cons y ys ih => simp [allV, ih]
    have hm : mkAgg (vs.map .v) = .v (.agg vs) := by unfold mkAgg; rw [ha]
    rw [← hm]
    refine mkAgg_rep (by simp; omega) h1 fun i d u hd hu => ?_
    rw [List.getElem?_map] at hd
    cases hv : vs[i]? with
    | none => rw [hv] at hd; cases hd
    | some v =>
      rw [hv] at hd
      cases hd
      obtain ⟨d, hd⟩ : ∃ d, ds[i]? = some d := ⟨_, List.getElem?_eq_getElem (by rw [hl]; exact (List.getElem?_eq_some_iff.1 hv).1)⟩
      exact h i d v hd hv m w u (hr i d u hd hu)
theorem pre_of {α : Type} {l l' : List α} (h : ∀ i, i < l.length → l'[i]? = l[i]?) : l' = l ++ l'.drop l.length := by
  have ht : l'.take l.length = l := by
    refine List.ext_getElem? fun i => ?_
    rw [List.getElem?_take]
    split
    · rename_i hi
      exact h i hi
    · rename_i hi
      exact (List.getElem?_eq_none (by omega)).symm
  conv => lhs; rw [← List.take_append_drop l.length l', ht]

def ms0 (inp : List Str) (fuel : Nat) : Ms := ⟨inp, fuel, 0, 0, [], []⟩
def textR (rs : Rs Vl) : Str := match rs.v with
  | some v => textT rs.m.st 2001 [] v
  | none => []
def outV (rs : Rs Vl) : V := .agg [.int .i64 rs.m.err, .int .i64 rs.m.fault, .str (textR rs), .sl none false (rs.m.tr.map .str)]
def runM (e : Ex) (inp : List Str) (fuel : Nat) : Rs Vl := evM (fuel + 1) e .nil (ms0 inp fuel)
theorem k_Run {e : Ex} {inp : List Str} {fuel : Nat} {σ : Sg} (hc : okC 1048576 e) (hf0 : fuel ≤ 40000) :
    ACalls Tryd.prog 17 [.v (encE e), .v (vS inp), .v (.int .i64 fuel)] σ fun r σ' => r = .v (outV (runM e inp fuel)) ∧ σ' = σ := by
  obtain ⟨c0, c1, c2, c3, c4, c5, c6, c7, hco⟩ := list8 (show (exV e).length = 8 by cases e; rfl)
  have hec : encE e = .agg [c0, c1, c2, c3, c4, c5, c6, c7] := by rw [encE_exV, hco]
  have hev := k_Eval (mo := σ.objs.length + 2) (tt := σ.toks.length) (fuel + 1) e .nil (ms0 inp fuel) id id
  rw [hec, show encN id .nil = .pnil by simp [encN]] at hev
  rw [hec]
  obtain ⟨ce, hce⟩ : ∃ ce : List D, ce = [D.v c0, D.v c1, D.v c2, D.v c3, D.v c4, D.v c5, D.v c6, D.v c7] := ⟨_, rfl⟩
  refine acalls_fit Tryd.func17 (by kernel_rfl) c17 rfl (by simp [a17]) fun hf => ?_
  clear hf
  simp -implicitDefEqProofs (maxSteps := 2000000) (disch := omega) [-getElem?_pos, a17]
  refine ACalls.tokObj (o := σ.objs.length + 2) (k := 5) (cs := [D.v (vS inp), D.v (V.int .i64 fuel), D.v (V.int .i64 0), D.v (V.int .i64 0), D.v (V.str []), D.v V.snil]) none (by simp) rfl ?_
  rw [← hce]
  dsimp only
  rw [show (σ.objs ++ [Ob.cells ce, Ob.cells [D.v (V.int .i64 0), D.v (V.int .i64 0), D.v (V.str []), D.v V.snil], Ob.cells [D.v (vS inp), D.v (V.int .i64 fuel), D.v (V.int .i64 0), D.v (V.int .i64 0), D.v (V.str []), D.v V.snil]]).set (σ.objs.length + 2) (.cells ([D.v (vS inp), D.v (V.int .i64 fuel), D.v (V.int .i64 0), D.v (V.int .i64 0), D.v (V.str []), D.v V.snil].set 5 (.tsl σ.toks.length none []))) = σ.objs ++ [Ob.cells ce, Ob.cells [D.v (V.int .i64 0), D.v (V.int .i64 0), D.v (V.str []), D.v V.snil], machOb σ.toks.length (ms0 inp fuel)] by simp [machOb, ms0]]
  have hSto : Sto (σ.objs.length + 2) σ.toks.length id id (ms0 inp fuel) ⟨σ.objs ++ [Ob.cells ce, Ob.cells [D.v (V.int .i64 0), D.v (V.int .i64 0), D.v (V.str []), D.v V.snil], machOb σ.toks.length (ms0 inp fuel)], σ.toks ++ [0]⟩ := ⟨by simp, by simp [ms0], by simp [ms0], by simp [ms0]⟩
  refine (hev _ 1048576 ⟨hSto, ⟨by simp [ms0], by simp [ms0]⟩, by omega, by simp only [ms0]; omega⟩ hc trivial (by simp [ms0])).mono fun r σ2 ⟨φ2, ψ2, hr, hA⟩ => ?_
  have hk : ∀ (j : Nat) ob, j < 2 → [Ob.cells ce, Ob.cells [D.v (V.int .i64 0), D.v (V.int .i64 0), D.v (V.str []), D.v V.snil], machOb σ.toks.length (ms0 inp fuel)][j]? = some ob → σ2.objs[σ.objs.length + j]? = some ob := fun j ob hj ho => by
    rw [hA.keep _ (by simp; omega) (by omega) (by simp [ms0]), List.getElem?_append_right (by omega), Nat.add_sub_cancel_left, ho]
  have h0 := hk 0 _ (by omega) rfl
  have h1 := hk 1 _ (by omega) rfl
  have h3 := hA.sto.mach
  have hold : ∀ i, i < σ.objs.length → σ2.objs[i]? = σ.objs[i]? := fun i hi => by
    rw [hA.keep i (by simp; omega) (by omega) (by simp [ms0]), List.getElem?_append_left hi]
  have holt : ∀ i, i < σ.toks.length → σ2.toks[i]? = σ.toks[i]? := fun i hi => by
    rw [hA.ktok i (by simp; omega) (by omega), List.getElem?_append_left hi]
  have hl3 := (List.getElem?_eq_some_iff.1 h3).1
  have hok := ok_ev 2000 (Nat.le_refl _) (fuel + 1) fuel e .nil (ms0 inp fuel) 1048576 (by omega) hc trivial ⟨by simp [ms0], by simp [ms0]⟩ (by simp [ms0])
  show KO _ _ _ _ _ _ _
  unfold runM
  generalize evM (fuel + 1) e .nil (ms0 inp fuel) = rs at hr hA h3 hok ⊢
  obtain ⟨v, m2⟩ := rs
  have hof := hok.fuel
  have hoo := hok.ok
  have hov := hok.v
  dsimp only at hr hA h3 hof hoo hov
  have hmf : (ms0 inp fuel).fuel = fuel := rfl
  rw [hmf] at hof hoo hov
  have hle : ∀ x : Str, D.Le (.agg [.v (.int .i64 m2.err), .v (.int .i64 m2.fault), .v (.str x), .tsl σ.toks.length none (m2.tr.map .str)]) (.v (.agg [.int .i64 m2.err, .int .i64 m2.fault, .str x, .sl none false (m2.tr.map .str)])) := fun x => by
    refine D.Le.aggW rfl fun i d v hd hv => ?_
    match i with
    | 0 => cases hd; cases hv; exact .refl _
    | 1 => cases hd; cases hv; exact .refl _
    | 2 => cases hd; cases hv; exact .refl _
    | 3 => cases hd; cases hv; exact .tsl
    | n + 4 => simp at hd
  cases v with
  | none =>
    replace hr : r = .v .pnil := hr
    subst hr
    unfold machOb at h3
    simp -implicitDefEqProofs (maxSteps := 2000000) (disch := omega) [-getElem?_pos, h0, h1, h3, hl3]
    refine .fin (.v (outV ⟨none, m2⟩)) ⟨rfl, rfl⟩ (hle []) (by simp [outV]) (pre_of fun i hi => ?_) (pre_of holt)
    dsimp only
    rw [List.getElem?_set_ne (by omega)]
    exact hold i hi
  | some v =>
    replace hr : r = .v (encP φ2 v) := hr
    subst hr
    simp -implicitDefEqProofs (maxSteps := 2000000) (disch := omega) [-getElem?_pos, h0, h1]
    have hw : Wr σ2 σ2.objs.length ⟨σ2.objs ++ [.cells [.v .snil]], σ2.toks⟩ [] := ⟨Nat.le_refl _, ⟨_, by simp, .inl ⟨rfl, rfl⟩⟩, fun i hi => List.getElem?_append_left hi, fun _ _ => rfl, by simp, Nat.le_refl _⟩
    refine (k_Text hA.sto hoo (by omega) 2001 _ [] v _ hw (hov v rfl) (by simp)).mono fun r σ3 ⟨hr, hw3⟩ => ?_
    subst hr
    have hx : textR ⟨some v, m2⟩ = textT m2.st 2001 [] v := rfl
    unfold outV
    rw [hx]
    generalize textT m2.st 2001 [] v = b at hw3 ⊢
    have g1 := (hw3.objs _ (List.getElem?_eq_some_iff.1 h1).1).trans h1
    have g3 := (hw3.objs _ hl3).trans h3
    have gl3 := (List.getElem?_eq_some_iff.1 g3).1
    unfold machOb at g3
    have gb : ∀ X Y, ((σ3.objs.set (σ.objs.length + 2) X).set (σ.objs.length + 1) Y)[σ.objs.length + 1]? = some Y := fun X Y => List.getElem?_set_self (by rw [List.length_set]; omega)
    have hl2 : σ.toks.length < σ2.toks.length := (List.getElem?_eq_some_iff.1 hA.sto.tok).1
    have hol3 : ∀ i, i < σ.objs.length → σ3.objs[i]? = σ.objs[i]? := fun i hi => (hw3.objs i (by omega)).trans (hold i hi)
    have hot3 : ∀ i, i < σ.toks.length → σ3.toks[i]? = σ.toks[i]? := fun i hi => (hw3.toks i (by omega)).trans (holt i hi)
    obtain ⟨d, hd, ⟨rfl, rfl⟩ | ⟨tk, htk, rfl, ht⟩⟩ := hw3.ob
    · simp -implicitDefEqProofs (maxSteps := 2000000) (disch := omega) [-getElem?_pos, hd, g1, g3, gl3, gb]
      refine .fin (.v (.agg [.int .i64 m2.err, .int .i64 m2.fault, .str [], .sl none false (m2.tr.map .str)])) ⟨rfl, rfl⟩ (hle []) (by simp) (pre_of fun i hi => ?_) (pre_of hot3)
      dsimp only
      rw [List.getElem?_set_ne (by omega), List.getElem?_set_ne (by omega)]
      exact hol3 i hi
    · simp -implicitDefEqProofs (maxSteps := 2000000) (disch := omega) [-getElem?_pos, hd, g1, g3, gl3, gb]
      refine .fin (.v (.agg [.int .i64 m2.err, .int .i64 m2.fault, .str b, .sl none false (m2.tr.map .str)])) ⟨rfl, rfl⟩ (hle b) (by simp) (pre_of fun i hi => ?_) (pre_of hot3)
      dsimp only
      rw [List.getElem?_set_ne (by omega), List.getElem?_set_ne (by omega)]
      exact hol3 i hi
end Go.Proofs.YtbifjffjibnjjaaDoor
