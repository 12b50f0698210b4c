/-
  Layer 2: what roots reach is, but for places, what it was, behind any collection: the law walked. (Own work.)
-/
import Derived.Test.YtiomciifhkbklaaH14
set_option linter.unusedVariables false
set_option linter.unusedSimpArgs false
set_option maxHeartbeats 2000000
namespace Go.Proofs.Ytiomciifhkbklaa
open Go Go.Abs

structure De where
  what : Int
  kind : Int
  place : Int
  i : Int
  near : Bool
  w : Wd
  l : List Wd
@[reducible] def encD (x : De) : V := .agg [.int .i64 x.what, .int .i64 x.kind, .int .i64 x.place, .int .i64 x.i, .bool x.near, .bool x.w.p, .int .i64 x.w.v, .sl (some 2) false (x.l.map wv)]
structure LSt where
  σ : Sg
  i : Nat
  os : List Ho
  pl : List Wd
  oL : Nat
  oH : Nat
  dl : D
  dh : D
  runs : Int
structure ISt where
  σ : Sg
  l : List Wd
theorem k_HeapKeeps {half : Int} {d : List De} {keep : List Int} {σ : Sg} :
    ACalls Try.prog 3 [.v (.int .i64 half), .v (.sl (some 8) false (d.map encD)), .v (.sl none false (keep.map (.int .i64)))] σ fun r σ' => r = .v (.bool true) := by
  refine acalls_fit Try.func3 (by kernel_rfl) c3 rfl (by simp [a3]) fun hf => ?_
  clear hf
  simp -implicitDefEqProofs (maxSteps := 2000000) (disch := omega) [-getElem?_pos, a3]
  refine k_Up2.then fun r hr => ?_
  subst hr
  simp -implicitDefEqProofs (maxSteps := 2000000) (disch := omega) [-getElem?_pos]
  refine .mk (fun g1 => ?_) fun g1 => ?_
  rotate_left
  · simp -implicitDefEqProofs (maxSteps := 2000000) (disch := omega) [-getElem?_pos]
    exact .fin _ rfl (.refl _)
  simp -implicitDefEqProofs (maxSteps := 2000000) (disch := omega) [-getElem?_pos]
  refine .mk (fun g2 => ?_) fun g2 => ?_
  rotate_left
  · simp -implicitDefEqProofs (maxSteps := 2000000) (disch := omega) [-getElem?_pos]
    exact .fin _ rfl (.refl _)
  simp -implicitDefEqProofs (maxSteps := 2000000) (disch := omega) [-getElem?_pos]
  refine .mk (fun g3 => ?_) fun g3 => ?_
  · simp -implicitDefEqProofs (maxSteps := 2000000) (disch := omega) [-getElem?_pos]
    exact .fin _ rfl (.refl _)
  simp -implicitDefEqProofs (maxSteps := 2000000) (disch := omega) [-getElem?_pos]
  by_cases hh : half < 1 ∨ 268435456 < half
  · refine (k_NewBad hh).then fun r hq => ?_
    subst hq
    simp -implicitDefEqProofs (maxSteps := 2000000) (disch := omega) [-getElem?_pos]
    exact .fin _ rfl (.refl _)
  refine (k_New hh).mono fun r σ1 hq => ?_
  obtain ⟨rfl, hσ1⟩ := hq
  have h1 : Hp σ1 σ.objs.length (σ.objs.length + 1) (σ.objs.length + 2) half [] 0 (.v .snil) (.v .snil) := by
    rw [hσ1]
    exact ⟨by simp, .nil, .nil, by omega, by omega, by omega⟩
  generalize σ.objs.length = hp at h1 ⊢
  clear hσ1
  simp -implicitDefEqProofs (maxSteps := 2000000) (disch := omega) [-getElem?_pos]
  refine W_loop (α := LSt) ⟨σ1, 0, [], [], hp + 1, hp + 2, .v .snil, .v .snil, 0⟩ (fun x => d.length - x.i) (fun x => ⟨[(1, .v (.sl (some 8) false (d.map encD))), (2, .v (.sl none false (keep.map (.int .i64)))), (7, .v (.bool true)), (8, .ptr hp 0), (10, .v (.sl (some 2) false (x.pl.map wv))), (11, .v (.int .i64 x.i))], x.σ⟩)
    (fun x => x.i ≤ d.length ∧ Hp x.σ hp x.oL x.oH half x.os x.runs x.dl x.dh ∧ OkO x.os ∧ (∀ w ∈ x.pl, fineW x.os w) ∧ x.pl.length ≤ x.i)
    (.le (by simp)) ⟨Nat.zero_le _, h1, ok_nil, by simp, Nat.le_refl _⟩ fun ⟨σ2, i, os, pl, oL, oH, dl, dh, runs⟩ ⟨hi, hH, ok, hpl, hpi⟩ => ?_
  dsimp only at hi hH ok hpl hpi ⊢
  by_cases hid : i < d.length
  · obtain ⟨x, hx⟩ : ∃ x, d[i]? = some x := ⟨_, List.getElem?_eq_getElem hid⟩
    simp -implicitDefEqProofs (maxSteps := 2000000) (disch := omega) [-getElem?_pos, hid]
    refine W_loop (α := ISt) ⟨σ2.tadd 0, []⟩ (fun y => 20 - y.l.length) (fun y => ⟨[(1, .v (.sl (some 8) false (d.map encD))), (2, .v (.sl none false (keep.map (.int .i64)))), (7, .v (.bool true)), (8, .ptr hp 0), (10, .v (.sl (some 2) false (pl.map wv))), (11, .v (.int .i64 i)), (12, .tsl σ2.toks.length (some 2) (y.l.map wv)), (13, .v (.int .i64 y.l.length))], y.σ⟩)
      (fun y => y.l.length ≤ x.l.length ∧ y.l.length ≤ 20 ∧ (∀ w ∈ y.l, fineW os w) ∧ (∀ (j : Nat) ob, σ2.objs[j]? = some ob → y.σ.objs[j]? = some ob) ∧ σ2.toks.length < y.σ.toks.length ∧ y.σ.toks[σ2.toks.length]? = some y.l.length)
      (.tok (sh := some 2) (i := 12) (by simp) (by simp)) ⟨Nat.zero_le _, Nat.zero_le _, by simp, fun _ _ h => h, by simp [Sg.tadd], by simp [Sg.tadd]⟩ fun ⟨σ3, l⟩ ⟨hl1, hl2, hlf, hon, htl, htk⟩ => ?_
    dsimp only at hl1 hl2 hlf hon htl htk ⊢
    have hgx : ∀ a, d[i]? = some a → a = x := fun a h => by rw [hx] at h; exact (Option.some.inj h).symm
    by_cases hk1 : l.length < x.l.length
    · have hk2i : (l.length : Int) < 20 ∨ ¬ (l.length : Int) < 20 := by omega
      rcases hk2i with hk2 | hk2
      · obtain ⟨w, hw⟩ : ∃ w, x.l[l.length]? = some w := ⟨_, List.getElem?_eq_getElem hk1⟩
        simp -implicitDefEqProofs (maxSteps := 2000000) (disch := omega) [-getElem?_pos]
        refine ⟨hid, fun a ha => ?_⟩
        obtain rfl := hgx a ha
        simp -implicitDefEqProofs (maxSteps := 2000000) (disch := omega) [-getElem?_pos, hk1, hk2]
        refine ⟨hid, fun b hb => ?_⟩
        have hbx := hgx b hb
        subst hbx
        refine ⟨hk1, fun u hu => ?_⟩
        rw [hw] at hu
        cases hu
        obtain ⟨p, v⟩ := w
        cases p with
        | false =>
          simp -implicitDefEqProofs (maxSteps := 2000000) (disch := omega) [-getElem?_pos, htk]
          refine ⟨by omega, ⟨⟨σ3.objs ++ [Ob.cells [D.v (V.bool false), D.v (V.int IntKind.i64 v)]], σ3.toks.set σ2.toks.length (l.length + 1)⟩, l ++ [⟨false, v⟩]⟩, ⟨?_, ?_, ?_, ?_, ?_, ?_⟩, ?_, .eq (by simp)⟩
          · simp; omega
          · simp; omega
          · intro w hw2
            rcases List.mem_append.1 hw2 with hw2 | hw2
            · exact hlf w hw2
            · rw [List.mem_singleton.1 hw2]
              intro h; cases h
          · exact fun j ob hj => by
              show (σ3.objs ++ _)[j]? = _
              rw [List.getElem?_append_left (List.getElem?_eq_some_iff.1 (hon j ob hj)).1]
              exact hon j ob hj
          · show _ < (σ3.toks.set _ _).length
            rw [List.length_set]
            exact htl
          · show (σ3.toks.set _ _)[_]? = some (l ++ [_]).length
            rw [List.getElem?_set_self htl, List.length_append]
            rfl
          · show 20 - (l ++ [_]).length < 20 - l.length
            rw [List.length_append]
            simp only [List.length_cons, List.length_nil]
            omega

        | true =>
          simp -implicitDefEqProofs (maxSteps := 2000000) (disch := omega) [-getElem?_pos]
          refine (k_Int _ _).then fun r hr => ?_
          subst hr
          by_cases hp0 : pl = []
          · subst hp0
            simp -implicitDefEqProofs (maxSteps := 2000000) (disch := omega) [-getElem?_pos, htk]
            refine ⟨by omega, ⟨⟨σ3.objs ++ [Ob.cells [D.v (V.bool false), D.v (V.int IntKind.i64 v)]], σ3.toks.set σ2.toks.length (l.length + 1)⟩, l ++ [⟨false, v⟩]⟩, ⟨?_, ?_, ?_, ?_, ?_, ?_⟩, ?_, .eq (by simp)⟩
            · simp; omega
            · simp; omega
            · intro w hw2
              rcases List.mem_append.1 hw2 with hw2 | hw2
              · exact hlf w hw2
              · rw [List.mem_singleton.1 hw2]
                intro h; cases h
            · exact fun j ob hj => by
                show (σ3.objs ++ _)[j]? = _
                rw [List.getElem?_append_left (List.getElem?_eq_some_iff.1 (hon j ob hj)).1]
                exact hon j ob hj
            · show _ < (σ3.toks.set _ _).length
              rw [List.length_set]
              exact htl
            · show (σ3.toks.set _ _)[_]? = some (l ++ [_]).length
              rw [List.getElem?_set_self htl, List.length_append]
              rfl
            · show 20 - (l ++ [_]).length < 20 - l.length
              rw [List.length_append]
              simp only [List.length_cons, List.length_nil]
              omega

          · have hp1 : 0 < pl.length := List.length_pos_iff.2 hp0
            have hp1i : (0 : Int) < pl.length := by omega
            simp -implicitDefEqProofs (maxSteps := 2000000) (disch := omega) [-getElem?_pos, hp1, hp1i]
            refine (k_Pick hp1 (by omega)).then fun r hr => ?_
            obtain ⟨q, hq, rfl⟩ := hr
            simp -implicitDefEqProofs (maxSteps := 2000000) (disch := omega) [-getElem?_pos, hq]
            intro u hu
            simp -implicitDefEqProofs (maxSteps := 2000000) (disch := omega) [-getElem?_pos, htk]
            refine ⟨by omega, ⟨⟨σ3.objs ++ [Ob.cells [D.v (V.bool u.p), D.v (V.int IntKind.i64 u.v)]], σ3.toks.set σ2.toks.length (l.length + 1)⟩, l ++ [⟨u.p, u.v⟩]⟩, ⟨?_, ?_, ?_, ?_, ?_, ?_⟩, ?_, .eq (by simp)⟩
            · simp; omega
            · simp; omega
            · intro w hw2
              rcases List.mem_append.1 hw2 with hw2 | hw2
              · exact hlf w hw2
              · rw [List.mem_singleton.1 hw2]
                exact hpl u (List.mem_of_getElem? hu)
            · exact fun j ob hj => by
                show (σ3.objs ++ _)[j]? = _
                rw [List.getElem?_append_left (List.getElem?_eq_some_iff.1 (hon j ob hj)).1]
                exact hon j ob hj
            · show _ < (σ3.toks.set _ _).length
              rw [List.length_set]
              exact htl
            · show (σ3.toks.set _ _)[_]? = some (l ++ [_]).length
              rw [List.getElem?_set_self htl, List.length_append]
              rfl
            · show 20 - (l ++ [_]).length < 20 - l.length
              rw [List.length_append]
              simp only [List.length_cons, List.length_nil]
              omega

      · have hk2' : ¬ (l.length : Int) < 20 := hk2
        simp -implicitDefEqProofs (maxSteps := 2000000) (disch := omega) [-getElem?_pos]
        refine ⟨hid, fun a ha => ?_⟩
        have hbx := hgx a ha
        subst hbx
        simp -implicitDefEqProofs (maxSteps := 2000000) (disch := omega) [-getElem?_pos, hk1, hk2']
        refine ⟨hid, fun a ha => ?_⟩
        have hbx := hgx a ha
        subst hbx
        have hH3 := hH.on (σ' := σ3) hon
        have hargs : ∀ (i : Nat) d d', [D.ptr hp 0, D.v (V.int IntKind.i64 a.kind), D.tsl σ2.toks.length (some 2) (List.map wv l), D.v (V.sl (some 2) false (List.map wv pl))][i]? = some d →
            [D.ptr hp 0, D.v (V.int IntKind.i64 a.kind), D.v (V.sl (some 2) false (List.map wv l)), D.v (V.sl (some 2) false (List.map wv pl))][i]? = some d' → D.Le d d' := fun i d d' hd hd' => by
          match i with
          | 0 => cases hd; cases hd'; exact .refl _
          | 1 => cases hd; cases hd'; exact .refl _
          | 2 => cases hd; cases hd'; exact .tsl
          | 3 => cases hd; cases hd'; exact .refl _
          | n + 4 => simp at hd
        by_cases hk : headOk a.kind l.length
        · have hro := room_ok (half := half) ok hlf hpl
          refine ((k_Make (f := false) (g := false) hH3 ok hlf hpl (by omega) (by omega) (by omega) hk).args (ds := [D.ptr hp 0, D.v (V.int IntKind.i64 a.kind), D.tsl σ2.toks.length (some 2) (List.map wv l), D.v (V.sl (some 2) false (List.map wv pl))]) rfl hargs).mono fun r σ4 hq => ?_
          obtain ⟨oL4, oH4, dl4, dh4, runs4, os4, hH4, hFr4, _, _, ⟨g', hr⟩, _⟩ := hq
          generalize roomO half os l pl = m at hro hr
          obtain ⟨mo, ml, mr⟩ := m
          obtain ⟨ro1, ro2, ro3, ro4, ro5⟩ := hro
          dsimp only at ro1 ro2 ro3 ro4 ro5 hr
          rcases hr with ⟨_, rfl, rfl⟩ | ⟨hfu, rfl, rfl⟩
          · simp -implicitDefEqProofs (maxSteps := 2000000) (disch := omega) [-getElem?_pos]
            refine ⟨by kernel_rfl, ⟨σ4, i + 1, os4, mr, oL4, oH4, dl4, dh4, runs4⟩, ⟨hid, hH4, ro1, ro3, by dsimp only; omega⟩, by dsimp only; omega, .le (by cases g' <;> simp)⟩
          · have hfu' : (tot mo : Int) + ml.length + 1 ≤ half := by unfold fullO at hfu; dsimp only at hfu; omega
            have okn : OkO (mo ++ [⟨a.kind, ml⟩]) := ok_app ro1 (by unfold headOk at hk; dsimp only; omega) ro2 (by show tot mo + (1 + ml.length) ≤ 100000; omega)
            have hat : idxAt (mo ++ [⟨a.kind, ml⟩]) (tot mo) = some mo.length := idxAt_iff.2 ⟨by simp, by simp [offs]⟩
            have hfn : ∀ w ∈ mr ++ [⟨true, tot mo⟩], fineW (mo ++ [⟨a.kind, ml⟩]) w := fun w hw => by
              rcases List.mem_append.1 hw with hw | hw
              · exact fine_app (ro3 w hw)
              · rw [List.mem_singleton.1 hw]; exact fun _ => ⟨_, hat⟩
            simp -implicitDefEqProofs (maxSteps := 2000000) (disch := omega) [-getElem?_pos]
            refine ⟨by omega, ?_⟩
            refine (k_At _ _).then fun r hr => ?_
            subst hr
            cases mr with
            | nil =>
              simp -implicitDefEqProofs (maxSteps := 2000000) (disch := omega) [-getElem?_pos]
              refine ⟨⟨⟨σ4.objs, σ4.toks ++ [0 + 1]⟩, i + 1, mo ++ [⟨a.kind, ml⟩], [⟨true, tot mo⟩], oL4, oH4, dl4, dh4, runs4⟩, ⟨hid, hH4.on (σ' := ⟨σ4.objs, σ4.toks ++ [0 + 1]⟩) fun _ _ h => h, okn, by simpa using hfn, by simp⟩, by dsimp only; omega, .le2 (by simp) (by simp)⟩
            | cons m0 mr =>
              have hset := fun (ts : List Nat) => k_Set (I := a.i) (hH4.on (σ' := ⟨σ4.objs, σ4.toks ++ ts⟩) fun _ _ h => h) okn hat (hfn m0 (by simp))
              simp only [List.length_cons] at ro5
              simp -implicitDefEqProofs (maxSteps := 2000000) (disch := omega) [-getElem?_pos]
              refine ⟨by omega, .mk (fun hb => ?_) fun hb => absurd hb (by omega)⟩
              simp -implicitDefEqProofs (maxSteps := 2000000) (disch := omega) [-getElem?_pos]
              refine ⟨hid, fun b hb2 => ?_⟩
              have hbx := hgx b hb2
              subst hbx
              refine ⟨by omega, ?_⟩
              refine (hset _).mono fun r σ5 hq => ?_
              obtain ⟨⟨rv, rfl⟩, os5, hH5, hS5, _⟩ := hq
              simp -implicitDefEqProofs (maxSteps := 2000000) (disch := omega) [-getElem?_pos]
              have ok5 : OkO os5 := by
                rcases hS5 with rfl | ⟨j, rfl⟩
                · exact okn
                · exact ok_set okn (hfn m0 (by simp))
              have hf5 : ∀ w ∈ (m0 :: mr) ++ [⟨true, tot mo⟩], fineW os5 w := fun w hw => by
                rcases hS5 with rfl | ⟨j, rfl⟩
                · exact hfn w hw
                · exact fine_set.2 (hfn w hw)
              exact ⟨⟨σ5, i + 1, os5, (m0 :: mr) ++ [⟨true, tot mo⟩], oL4, oH4, dl4, dh4, runs4⟩, ⟨hid, hH5, ok5, hf5, by simp; omega⟩, by dsimp only; omega, .le (by simp)⟩
        · refine ((k_MakeBad (f := false) (dr := .v (.sl (some 2) false (pl.map wv))) hk).args (ds := [D.ptr hp 0, D.v (V.int IntKind.i64 a.kind), D.tsl σ2.toks.length (some 2) (List.map wv l), D.v (V.sl (some 2) false (List.map wv pl))]) rfl hargs).then fun r hr => ?_
          subst hr
          simp -implicitDefEqProofs (maxSteps := 2000000) (disch := omega) [-getElem?_pos]
          exact ⟨by kernel_rfl, ⟨σ3, i + 1, os, pl, oL, oH, dl, dh, runs⟩, ⟨hid, hH3, ok, hpl, by dsimp only; omega⟩, by dsimp only; omega, .eq (by simp)⟩

    · simp -implicitDefEqProofs (maxSteps := 2000000) (disch := omega) [-getElem?_pos]
      refine ⟨hid, fun a ha => ?_⟩
      have hbx := hgx a ha
      subst hbx
      simp -implicitDefEqProofs (maxSteps := 2000000) (disch := omega) [-getElem?_pos, hk1]
      refine ⟨hid, fun a ha => ?_⟩
      have hbx := hgx a ha
      subst hbx
      have hH3 := hH.on (σ' := σ3) hon
      have hargs : ∀ (i : Nat) d d', [D.ptr hp 0, D.v (V.int IntKind.i64 a.kind), D.tsl σ2.toks.length (some 2) (List.map wv l), D.v (V.sl (some 2) false (List.map wv pl))][i]? = some d →
          [D.ptr hp 0, D.v (V.int IntKind.i64 a.kind), D.v (V.sl (some 2) false (List.map wv l)), D.v (V.sl (some 2) false (List.map wv pl))][i]? = some d' → D.Le d d' := fun i d d' hd hd' => by
        match i with
        | 0 => cases hd; cases hd'; exact .refl _
        | 1 => cases hd; cases hd'; exact .refl _
        | 2 => cases hd; cases hd'; exact .tsl
        | 3 => cases hd; cases hd'; exact .refl _
        | n + 4 => simp at hd
      by_cases hk : headOk a.kind l.length
      · have hro := room_ok (half := half) ok hlf hpl
        refine ((k_Make (f := false) (g := false) hH3 ok hlf hpl (by omega) (by omega) (by omega) hk).args (ds := [D.ptr hp 0, D.v (V.int IntKind.i64 a.kind), D.tsl σ2.toks.length (some 2) (List.map wv l), D.v (V.sl (some 2) false (List.map wv pl))]) rfl hargs).mono fun r σ4 hq => ?_
        obtain ⟨oL4, oH4, dl4, dh4, runs4, os4, hH4, hFr4, _, _, ⟨g', hr⟩, _⟩ := hq
        generalize roomO half os l pl = m at hro hr
        obtain ⟨mo, ml, mr⟩ := m
        obtain ⟨ro1, ro2, ro3, ro4, ro5⟩ := hro
        dsimp only at ro1 ro2 ro3 ro4 ro5 hr
        rcases hr with ⟨_, rfl, rfl⟩ | ⟨hfu, rfl, rfl⟩
        · simp -implicitDefEqProofs (maxSteps := 2000000) (disch := omega) [-getElem?_pos]
          refine ⟨by kernel_rfl, ⟨σ4, i + 1, os4, mr, oL4, oH4, dl4, dh4, runs4⟩, ⟨hid, hH4, ro1, ro3, by dsimp only; omega⟩, by dsimp only; omega, .le (by cases g' <;> simp)⟩
        · have hfu' : (tot mo : Int) + ml.length + 1 ≤ half := by unfold fullO at hfu; dsimp only at hfu; omega
          have okn : OkO (mo ++ [⟨a.kind, ml⟩]) := ok_app ro1 (by unfold headOk at hk; dsimp only; omega) ro2 (by show tot mo + (1 + ml.length) ≤ 100000; omega)
          have hat : idxAt (mo ++ [⟨a.kind, ml⟩]) (tot mo) = some mo.length := idxAt_iff.2 ⟨by simp, by simp [offs]⟩
          have hfn : ∀ w ∈ mr ++ [⟨true, tot mo⟩], fineW (mo ++ [⟨a.kind, ml⟩]) w := fun w hw => by
            rcases List.mem_append.1 hw with hw | hw
            · exact fine_app (ro3 w hw)
            · rw [List.mem_singleton.1 hw]; exact fun _ => ⟨_, hat⟩
          simp -implicitDefEqProofs (maxSteps := 2000000) (disch := omega) [-getElem?_pos]
          refine ⟨by omega, ?_⟩
          refine (k_At _ _).then fun r hr => ?_
          subst hr
          cases mr with
          | nil =>
            simp -implicitDefEqProofs (maxSteps := 2000000) (disch := omega) [-getElem?_pos]
            refine ⟨⟨⟨σ4.objs, σ4.toks ++ [0 + 1]⟩, i + 1, mo ++ [⟨a.kind, ml⟩], [⟨true, tot mo⟩], oL4, oH4, dl4, dh4, runs4⟩, ⟨hid, hH4.on (σ' := ⟨σ4.objs, σ4.toks ++ [0 + 1]⟩) fun _ _ h => h, okn, by simpa using hfn, by simp⟩, by dsimp only; omega, .le2 (by simp) (by simp)⟩
          | cons m0 mr =>
            have hset := fun (ts : List Nat) => k_Set (I := a.i) (hH4.on (σ' := ⟨σ4.objs, σ4.toks ++ ts⟩) fun _ _ h => h) okn hat (hfn m0 (by simp))
            simp only [List.length_cons] at ro5
            simp -implicitDefEqProofs (maxSteps := 2000000) (disch := omega) [-getElem?_pos]
            refine ⟨by omega, .mk (fun hb => ?_) fun hb => absurd hb (by omega)⟩
            simp -implicitDefEqProofs (maxSteps := 2000000) (disch := omega) [-getElem?_pos]
            refine ⟨hid, fun b hb2 => ?_⟩
            have hbx := hgx b hb2
            subst hbx
            refine ⟨by omega, ?_⟩
            refine (hset _).mono fun r σ5 hq => ?_
            obtain ⟨⟨rv, rfl⟩, os5, hH5, hS5, _⟩ := hq
            simp -implicitDefEqProofs (maxSteps := 2000000) (disch := omega) [-getElem?_pos]
            have ok5 : OkO os5 := by
              rcases hS5 with rfl | ⟨j, rfl⟩
              · exact okn
              · exact ok_set okn (hfn m0 (by simp))
            have hf5 : ∀ w ∈ (m0 :: mr) ++ [⟨true, tot mo⟩], fineW os5 w := fun w hw => by
              rcases hS5 with rfl | ⟨j, rfl⟩
              · exact hfn w hw
              · exact fine_set.2 (hfn w hw)
            exact ⟨⟨σ5, i + 1, os5, (m0 :: mr) ++ [⟨true, tot mo⟩], oL4, oH4, dl4, dh4, runs4⟩, ⟨hid, hH5, ok5, hf5, by simp; omega⟩, by dsimp only; omega, .le (by simp)⟩
      · refine ((k_MakeBad (f := false) (dr := .v (.sl (some 2) false (pl.map wv))) hk).args (ds := [D.ptr hp 0, D.v (V.int IntKind.i64 a.kind), D.tsl σ2.toks.length (some 2) (List.map wv l), D.v (V.sl (some 2) false (List.map wv pl))]) rfl hargs).then fun r hr => ?_
        subst hr
        simp -implicitDefEqProofs (maxSteps := 2000000) (disch := omega) [-getElem?_pos]
        exact ⟨by kernel_rfl, ⟨σ3, i + 1, os, pl, oL, oH, dl, dh, runs⟩, ⟨hid, hH3, ok, hpl, by dsimp only; omega⟩, by dsimp only; omega, .eq (by simp)⟩

  · have hie : i = d.length := by omega
    subst hie
    simp -implicitDefEqProofs (maxSteps := 2000000) (disch := omega) [-getElem?_pos]
    refine W_loop (α := List Wd) [] (fun y => keep.length - y.length) (fun y => ⟨[(2, .v (.sl none false (keep.map (.int .i64)))), (7, .v (.bool true)), (8, .ptr hp 0), (10, .v (.sl (some 2) false (pl.map wv))), (19, .tsl σ2.toks.length (some 2) (y.map wv)), (20, .v (.int .i64 y.length))], ⟨σ2.objs, σ2.toks ++ [y.length]⟩⟩)
      (fun y => y.length ≤ keep.length ∧ ∀ w ∈ y, fineW os w)
      (.tok (sh := some 2) (i := 19) (by simp) (by simp)) ⟨Nat.zero_le _, by simp⟩ fun roots ⟨hrl, hrf⟩ => ?_
    by_cases hk1 : roots.length < keep.length
    · obtain ⟨kc, hkc⟩ : ∃ kc, keep[roots.length]? = some kc := ⟨_, List.getElem?_eq_getElem hk1⟩
      by_cases hp0 : pl = []
      · have hp0i : ¬ (0 : Int) < pl.length := by rw [hp0]; simp
        have hp0n : ¬ 0 < pl.length := by rw [hp0]; simp
        simp -implicitDefEqProofs (maxSteps := 2000000) (disch := omega) [-getElem?_pos, hk1, hp0i, hp0n]
        have hHa := hH.on (σ' := ⟨σ2.objs, σ2.toks ++ [roots.length]⟩) fun _ _ h => h
        generalize hσa : (⟨σ2.objs, σ2.toks ++ [roots.length]⟩ : Sg) = σa at hHa ⊢
        generalize σ2.toks.length = t19
        have hrm : roots.length ≤ 10 := by omega
        refine W_loop (α := Nat) 0 (fun j => roots.length - j) (fun j => ⟨[(7, .v (.bool true)), (8, .ptr hp 0), (19, .tsl t19 (some 2) (roots.map wv)), (21, .tsl σa.toks.length none ((roots.take j).map (walkV os 4))), (22, .v (.int .i64 j))], ⟨σa.objs, σa.toks ++ [j]⟩⟩)
          (fun j => j ≤ roots.length) (.tok (sh := none) (i := 21) (by simp) (by simp)) (Nat.zero_le _) fun j hj => ?_
        by_cases hj1 : j < roots.length
        · obtain ⟨w, hw⟩ : ∃ w, roots[j]? = some w := ⟨_, List.getElem?_eq_getElem hj1⟩
          have hwk := fun (ts : List Nat) => k_Walk ok 4 w ⟨σa.objs, σa.toks ++ ts⟩ (by omega) (hHa.on fun _ _ h => h)
          have htk : List.take (j + 1) (roots.map (walkV os 4)) = List.take j (roots.map (walkV os 4)) ++ [walkV os 4 w] := by rw [List.take_add_one, List.getElem?_map, hw]; rfl
          simp -implicitDefEqProofs (maxSteps := 2000000) (disch := omega) [-getElem?_pos, hj1]
          intro u hu
          rw [hw] at hu
          cases hu
          refine (hwk _).then fun r hr => ?_
          subst hr
          simp -implicitDefEqProofs (maxSteps := 2000000) (disch := omega) [-getElem?_pos]
          refine ⟨?_, by omega, ?_⟩
          · exact ⟨rfl, by simp [walkV]⟩
          exact ⟨j + 1, hj1, by dsimp only; omega, .eq2 (by simp) (by simp [htk])⟩
        have hje : j = roots.length := by omega
        subst hje
        rw [List.take_length]
        have hHb := hHa.on (σ' := ⟨σa.objs, σa.toks ++ [roots.length]⟩) fun _ _ h => h
        generalize hσb : (⟨σa.objs, σa.toks ++ [roots.length]⟩ : Sg) = σb at hHb ⊢
        generalize σa.toks.length = t21
        simp -implicitDefEqProofs (maxSteps := 2000000) (disch := omega) [-getElem?_pos]
        refine (k_Used hHb).then fun r hr => ?_
        subst hr
        simp -implicitDefEqProofs (maxSteps := 2000000) (disch := omega) [-getElem?_pos]
        have hargC : ∀ (i : Nat) d d', [D.ptr hp 0, D.tsl t19 (some 2) (List.map wv roots)][i]? = some d → [D.ptr hp 0, D.v (V.sl (some 2) false (List.map wv roots))][i]? = some d' → D.Le d d' := fun i d d' hd hd' => by
          match i with
          | 0 => cases hd; cases hd'; exact .refl _
          | 1 => cases hd; cases hd'; exact .tsl
          | n + 2 => simp at hd
        refine ((k_Collect (f := false) hHb ok hrf (by omega)).args (ds := [D.ptr hp 0, D.tsl t19 (some 2) (List.map wv roots)]) rfl hargC).mono fun r σc hq => ?_
        obtain ⟨rfl, oLc, oHc, dlc, dhc, hHc, _, _, _⟩ := hq
        have okc := ok_col (roots := roots) ok
        have hfc := fine_colR hrf
        have hle := tot_col os roots
        have hag := tot_again os roots
        have hnx : (colR os roots).length = roots.length := by simp [colR]
        have hwc : ∀ (j : Nat) u, (colR os roots)[j]? = some u → ∃ w, roots[j]? = some w ∧ walkO (colO os roots) 4 u = walkO os 4 w := fun j u hu => by
          unfold colR at hu
          rw [List.getElem?_map] at hu
          obtain ⟨w, hw, rfl⟩ := Option.map_eq_some_iff.1 hu
          refine ⟨w, hw, walk_col (fun i hi v hv => ?_) 4 w (ordF_roots os roots w (List.mem_of_getElem? hw)) (hrf w (List.mem_of_getElem? hw))⟩
          obtain ⟨o, ho⟩ : ∃ o, os[i]? = some o := ⟨_, List.getElem?_eq_getElem ((ordF_ok os roots).lt i hi)⟩
          have hwo : wOf os i = o.l := by simp [wOf, ho]
          rw [hwo] at hv
          exact ok.fine o (List.mem_of_getElem? ho) v hv
        have h00 : roots = [] → tot (colO os roots) = 0 := by rintro rfl; rw [col_none]; rfl
        generalize hox : colO os roots = ox at hHc okc hfc hle hag hwc h00
        generalize hnxd : colR os roots = nx at hfc hag hnx hwc ⊢
        have hnl : ¬ (tot os : Int) < tot ox := by omega
        simp -implicitDefEqProofs (maxSteps := 2000000) (disch := omega) [-getElem?_pos, hnx]
        refine (k_Used hHc).then fun r hr => ?_
        subst hr
        simp -implicitDefEqProofs (maxSteps := 2000000) (disch := omega) [-getElem?_pos, hnl]
        refine W_loop (α := Nat) 0 (fun j => nx.length - j) (fun j => ⟨[(7, .v (.bool true)), (8, .ptr hp 0), (19, .tsl t19 (some 2) (roots.map wv)), (21, .tsl t21 none (roots.map (walkV os 4))), (24, .v (.sl (some 2) false (nx.map wv))), (26, .v (.int .i64 j))], σc⟩)
          (fun j => j ≤ nx.length) (.eq (by simp)) (Nat.zero_le _) fun j hj => ?_
        by_cases hj1 : j < nx.length
        · obtain ⟨u, hu⟩ : ∃ u, nx[j]? = some u := ⟨_, List.getElem?_eq_getElem hj1⟩
          obtain ⟨w, hw, hwk⟩ := hwc j u hu
          have hwx := k_Walk okc 4 u σc (by omega) hHc
          unfold walkV at hwx
          rw [hwk] at hwx
          have hhad : ∀ v, (roots.map (walkV os 4))[j]? = some v → v = .sl none false ((walkO os 4 w).map (.int .i64)) := fun v hv => by
            rw [List.getElem?_map, hw] at hv
            exact (Option.some.inj hv).symm
          have hLl : (walkO os 4 w).length ≤ 1875 := walk_len os 4 w
          generalize walkO os 4 w = L at hwx hhad hLl
          simp -implicitDefEqProofs (maxSteps := 2000000) (disch := omega) [-getElem?_pos, hj1]
          intro u2 hu2
          rw [hu] at hu2
          cases hu2
          refine hwx.then fun r hr => ?_
          subst hr
          simp -implicitDefEqProofs (maxSteps := 2000000) (disch := omega) [-getElem?_pos]
          refine ⟨by omega, fun w2 hw2 => ?_⟩
          have hv2 := hhad (walkV os 4 w2) (by rw [List.getElem?_map, hw2]; rfl)
          rw [hv2]
          simp -implicitDefEqProofs (maxSteps := 2000000) (disch := omega) [-getElem?_pos]
          refine W_loop (α := Nat) 0 (fun q => L.length - q) (fun q => ⟨[(7, .v (.bool true)), (8, .ptr hp 0), (19, .tsl t19 (some 2) (roots.map wv)), (21, .tsl t21 none (roots.map (walkV os 4))), (24, .v (.sl (some 2) false (nx.map wv))), (26, .v (.int .i64 j)), (27, .v (.sl none false (L.map (.int .i64)))), (28, .v (.int .i64 q))], σc⟩)
            (fun q => q ≤ L.length) (.eq (by simp)) (Nat.zero_le _) fun q hq => ?_
          by_cases hq1 : q < L.length
          · obtain ⟨z, hz⟩ : ∃ z, L[q]? = some z := ⟨_, List.getElem?_eq_getElem hq1⟩
            simp -implicitDefEqProofs (maxSteps := 2000000) (disch := omega) [-getElem?_pos, hq1]
            intro z2 hz2
            rw [hz] at hz2
            cases hz2
            refine ⟨by omega, fun w3 hw3 => ?_⟩
            rw [hhad (walkV os 4 w3) (by rw [List.getElem?_map, hw3]; rfl)]
            simp -implicitDefEqProofs (maxSteps := 2000000) (disch := omega) [-getElem?_pos]
            refine ⟨hq1, fun z3 hz3 => ?_⟩
            rw [hz] at hz3
            cases hz3
            refine .mk (fun _ => ?_) fun h => absurd rfl h
            simp -implicitDefEqProofs (maxSteps := 2000000) (disch := omega) [-getElem?_pos]
            exact ⟨q + 1, hq1, by dsimp only; omega, .eq (by simp)⟩
          · simp -implicitDefEqProofs (maxSteps := 2000000) (disch := omega) [-getElem?_pos, hq1]
            exact ⟨j + 1, hj1, by dsimp only; omega, .eq (by simp)⟩
        have hje : j = nx.length := by omega
        subst hje
        simp -implicitDefEqProofs (maxSteps := 2000000) (disch := omega) [-getElem?_pos]
        refine (k_Used hHc).then fun r hr => ?_
        subst hr
        simp -implicitDefEqProofs (maxSteps := 2000000) (disch := omega) [-getElem?_pos]
        refine (k_Collect (f := false) hHc okc hfc (by omega)).mono fun r σd hq => ?_
        obtain ⟨rfl, oLd, oHd, dld, dhd, hHd, _, _, _⟩ := hq
        simp -implicitDefEqProofs (maxSteps := 2000000) (disch := omega) [-getElem?_pos]
        refine (k_Used hHd).then fun r hr => ?_
        subst hr
        rw [hag]
        by_cases hr0 : roots = []
        · have hx0 := h00 hr0
          have hr0l : roots.length = 0 := by rw [hr0]; rfl
          simp -implicitDefEqProofs (maxSteps := 2000000) (disch := omega) [-getElem?_pos, hr0l, hx0]
          exact ⟨_, _, WeakR.refl _ _ _, rfl⟩
        · have hr1 : 0 < roots.length := List.length_pos_iff.2 hr0
          have hr1i : (0 : Int) < roots.length := by omega
          simp -implicitDefEqProofs (maxSteps := 2000000) (disch := omega) [-getElem?_pos, hr1, hr1i]
          exact ⟨_, _, WeakR.refl _ _ _, rfl⟩

      · have hp1 : 0 < pl.length := List.length_pos_iff.2 hp0
        have hp1i : (0 : Int) < pl.length := by omega
        simp -implicitDefEqProofs (maxSteps := 2000000) (disch := omega) [-getElem?_pos, hk1, hp1, hp1i]
        intro c hc
        refine (k_Pick hp1 (by omega)).then fun r hr => ?_
        obtain ⟨q, hq, rfl⟩ := hr
        simp -implicitDefEqProofs (maxSteps := 2000000) (disch := omega) [-getElem?_pos, hq]
        intro u hu
        refine ⟨by omega, roots ++ [u], ⟨by simp; omega, fun w hw => ?_⟩, by simp; omega, .eq2 (by simp) (by simp)⟩
        rcases List.mem_append.1 hw with hw | hw
        · exact hrf w hw
        · rw [List.mem_singleton.1 hw]; exact hpl u (List.mem_of_getElem? hu)
    · simp -implicitDefEqProofs (maxSteps := 2000000) (disch := omega) [-getElem?_pos, hk1]
      have hHa := hH.on (σ' := ⟨σ2.objs, σ2.toks ++ [roots.length]⟩) fun _ _ h => h
      generalize hσa : (⟨σ2.objs, σ2.toks ++ [roots.length]⟩ : Sg) = σa at hHa ⊢
      generalize σ2.toks.length = t19
      have hrm : roots.length ≤ 10 := by omega
      refine W_loop (α := Nat) 0 (fun j => roots.length - j) (fun j => ⟨[(7, .v (.bool true)), (8, .ptr hp 0), (19, .tsl t19 (some 2) (roots.map wv)), (21, .tsl σa.toks.length none ((roots.take j).map (walkV os 4))), (22, .v (.int .i64 j))], ⟨σa.objs, σa.toks ++ [j]⟩⟩)
        (fun j => j ≤ roots.length) (.tok (sh := none) (i := 21) (by simp) (by simp)) (Nat.zero_le _) fun j hj => ?_
      by_cases hj1 : j < roots.length
      · obtain ⟨w, hw⟩ : ∃ w, roots[j]? = some w := ⟨_, List.getElem?_eq_getElem hj1⟩
        have hwk := fun (ts : List Nat) => k_Walk ok 4 w ⟨σa.objs, σa.toks ++ ts⟩ (by omega) (hHa.on fun _ _ h => h)
        have htk : List.take (j + 1) (roots.map (walkV os 4)) = List.take j (roots.map (walkV os 4)) ++ [walkV os 4 w] := by rw [List.take_add_one, List.getElem?_map, hw]; rfl
        simp -implicitDefEqProofs (maxSteps := 2000000) (disch := omega) [-getElem?_pos, hj1]
        intro u hu
        rw [hw] at hu
        cases hu
        refine (hwk _).then fun r hr => ?_
        subst hr
        simp -implicitDefEqProofs (maxSteps := 2000000) (disch := omega) [-getElem?_pos]
        refine ⟨?_, by omega, ?_⟩
        · exact ⟨rfl, by simp [walkV]⟩
        exact ⟨j + 1, hj1, by dsimp only; omega, .eq2 (by simp) (by simp [htk])⟩
      have hje : j = roots.length := by omega
      subst hje
      rw [List.take_length]
      have hHb := hHa.on (σ' := ⟨σa.objs, σa.toks ++ [roots.length]⟩) fun _ _ h => h
      generalize hσb : (⟨σa.objs, σa.toks ++ [roots.length]⟩ : Sg) = σb at hHb ⊢
      generalize σa.toks.length = t21
      simp -implicitDefEqProofs (maxSteps := 2000000) (disch := omega) [-getElem?_pos]
      refine (k_Used hHb).then fun r hr => ?_
      subst hr
      simp -implicitDefEqProofs (maxSteps := 2000000) (disch := omega) [-getElem?_pos]
      have hargC : ∀ (i : Nat) d d', [D.ptr hp 0, D.tsl t19 (some 2) (List.map wv roots)][i]? = some d → [D.ptr hp 0, D.v (V.sl (some 2) false (List.map wv roots))][i]? = some d' → D.Le d d' := fun i d d' hd hd' => by
        match i with
        | 0 => cases hd; cases hd'; exact .refl _
        | 1 => cases hd; cases hd'; exact .tsl
        | n + 2 => simp at hd
      refine ((k_Collect (f := false) hHb ok hrf (by omega)).args (ds := [D.ptr hp 0, D.tsl t19 (some 2) (List.map wv roots)]) rfl hargC).mono fun r σc hq => ?_
      obtain ⟨rfl, oLc, oHc, dlc, dhc, hHc, _, _, _⟩ := hq
      have okc := ok_col (roots := roots) ok
      have hfc := fine_colR hrf
      have hle := tot_col os roots
      have hag := tot_again os roots
      have hnx : (colR os roots).length = roots.length := by simp [colR]
      have hwc : ∀ (j : Nat) u, (colR os roots)[j]? = some u → ∃ w, roots[j]? = some w ∧ walkO (colO os roots) 4 u = walkO os 4 w := fun j u hu => by
        unfold colR at hu
        rw [List.getElem?_map] at hu
        obtain ⟨w, hw, rfl⟩ := Option.map_eq_some_iff.1 hu
        refine ⟨w, hw, walk_col (fun i hi v hv => ?_) 4 w (ordF_roots os roots w (List.mem_of_getElem? hw)) (hrf w (List.mem_of_getElem? hw))⟩
        obtain ⟨o, ho⟩ : ∃ o, os[i]? = some o := ⟨_, List.getElem?_eq_getElem ((ordF_ok os roots).lt i hi)⟩
        have hwo : wOf os i = o.l := by simp [wOf, ho]
        rw [hwo] at hv
        exact ok.fine o (List.mem_of_getElem? ho) v hv
      have h00 : roots = [] → tot (colO os roots) = 0 := by rintro rfl; rw [col_none]; rfl
      generalize hox : colO os roots = ox at hHc okc hfc hle hag hwc h00
      generalize hnxd : colR os roots = nx at hfc hag hnx hwc ⊢
      have hnl : ¬ (tot os : Int) < tot ox := by omega
      simp -implicitDefEqProofs (maxSteps := 2000000) (disch := omega) [-getElem?_pos, hnx]
      refine (k_Used hHc).then fun r hr => ?_
      subst hr
      simp -implicitDefEqProofs (maxSteps := 2000000) (disch := omega) [-getElem?_pos, hnl]
      refine W_loop (α := Nat) 0 (fun j => nx.length - j) (fun j => ⟨[(7, .v (.bool true)), (8, .ptr hp 0), (19, .tsl t19 (some 2) (roots.map wv)), (21, .tsl t21 none (roots.map (walkV os 4))), (24, .v (.sl (some 2) false (nx.map wv))), (26, .v (.int .i64 j))], σc⟩)
        (fun j => j ≤ nx.length) (.eq (by simp)) (Nat.zero_le _) fun j hj => ?_
      by_cases hj1 : j < nx.length
      · obtain ⟨u, hu⟩ : ∃ u, nx[j]? = some u := ⟨_, List.getElem?_eq_getElem hj1⟩
        obtain ⟨w, hw, hwk⟩ := hwc j u hu
        have hwx := k_Walk okc 4 u σc (by omega) hHc
        unfold walkV at hwx
        rw [hwk] at hwx
        have hhad : ∀ v, (roots.map (walkV os 4))[j]? = some v → v = .sl none false ((walkO os 4 w).map (.int .i64)) := fun v hv => by
          rw [List.getElem?_map, hw] at hv
          exact (Option.some.inj hv).symm
        have hLl : (walkO os 4 w).length ≤ 1875 := walk_len os 4 w
        generalize walkO os 4 w = L at hwx hhad hLl
        simp -implicitDefEqProofs (maxSteps := 2000000) (disch := omega) [-getElem?_pos, hj1]
        intro u2 hu2
        rw [hu] at hu2
        cases hu2
        refine hwx.then fun r hr => ?_
        subst hr
        simp -implicitDefEqProofs (maxSteps := 2000000) (disch := omega) [-getElem?_pos]
        refine ⟨by omega, fun w2 hw2 => ?_⟩
        have hv2 := hhad (walkV os 4 w2) (by rw [List.getElem?_map, hw2]; rfl)
        rw [hv2]
        simp -implicitDefEqProofs (maxSteps := 2000000) (disch := omega) [-getElem?_pos]
        refine W_loop (α := Nat) 0 (fun q => L.length - q) (fun q => ⟨[(7, .v (.bool true)), (8, .ptr hp 0), (19, .tsl t19 (some 2) (roots.map wv)), (21, .tsl t21 none (roots.map (walkV os 4))), (24, .v (.sl (some 2) false (nx.map wv))), (26, .v (.int .i64 j)), (27, .v (.sl none false (L.map (.int .i64)))), (28, .v (.int .i64 q))], σc⟩)
          (fun q => q ≤ L.length) (.eq (by simp)) (Nat.zero_le _) fun q hq => ?_
        by_cases hq1 : q < L.length
        · obtain ⟨z, hz⟩ : ∃ z, L[q]? = some z := ⟨_, List.getElem?_eq_getElem hq1⟩
          simp -implicitDefEqProofs (maxSteps := 2000000) (disch := omega) [-getElem?_pos, hq1]
          intro z2 hz2
          rw [hz] at hz2
          cases hz2
          refine ⟨by omega, fun w3 hw3 => ?_⟩
          rw [hhad (walkV os 4 w3) (by rw [List.getElem?_map, hw3]; rfl)]
          simp -implicitDefEqProofs (maxSteps := 2000000) (disch := omega) [-getElem?_pos]
          refine ⟨hq1, fun z3 hz3 => ?_⟩
          rw [hz] at hz3
          cases hz3
          refine .mk (fun _ => ?_) fun h => absurd rfl h
          simp -implicitDefEqProofs (maxSteps := 2000000) (disch := omega) [-getElem?_pos]
          exact ⟨q + 1, hq1, by dsimp only; omega, .eq (by simp)⟩
        · simp -implicitDefEqProofs (maxSteps := 2000000) (disch := omega) [-getElem?_pos, hq1]
          exact ⟨j + 1, hj1, by dsimp only; omega, .eq (by simp)⟩
      have hje : j = nx.length := by omega
      subst hje
      simp -implicitDefEqProofs (maxSteps := 2000000) (disch := omega) [-getElem?_pos]
      refine (k_Used hHc).then fun r hr => ?_
      subst hr
      simp -implicitDefEqProofs (maxSteps := 2000000) (disch := omega) [-getElem?_pos]
      refine (k_Collect (f := false) hHc okc hfc (by omega)).mono fun r σd hq => ?_
      obtain ⟨rfl, oLd, oHd, dld, dhd, hHd, _, _, _⟩ := hq
      simp -implicitDefEqProofs (maxSteps := 2000000) (disch := omega) [-getElem?_pos]
      refine (k_Used hHd).then fun r hr => ?_
      subst hr
      rw [hag]
      by_cases hr0 : roots = []
      · have hx0 := h00 hr0
        have hr0l : roots.length = 0 := by rw [hr0]; rfl
        simp -implicitDefEqProofs (maxSteps := 2000000) (disch := omega) [-getElem?_pos, hr0l, hx0]
        exact ⟨_, _, WeakR.refl _ _ _, rfl⟩
      · have hr1 : 0 < roots.length := List.length_pos_iff.2 hr0
        have hr1i : (0 : Int) < roots.length := by omega
        simp -implicitDefEqProofs (maxSteps := 2000000) (disch := omega) [-getElem?_pos, hr1, hr1i]
        exact ⟨_, _, WeakR.refl _ _ _, rfl⟩

end Go.Proofs.Ytiomciifhkbklaa
