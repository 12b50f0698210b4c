/-
  A heap, walked: New, Collect, Make. (Own work.)
-/
import Derived.Test.YtiomciifhkbklaaH9
set_option linter.unusedVariables false
set_option linter.unusedSimpArgs false
set_option maxHeartbeats 1000000
namespace Go.Proofs.Ytiomciifhkbklaa
open Go Go.Abs

theorem k_CloneW {l : List Wd} {f : Bool} {σ : Sg} (hl : l.length ≤ 1000000) : ACalls Try.prog 30 [.v (.sl (some 2) f (l.map wv))] σ fun r σ' => r = .v (.sl (some 2) false (l.map wv)) ∧ σ' = σ := by
  refine acalls_fit Try.func30 (by kernel_rfl) c30 rfl (by simp [a30]) fun hf => ?_
  clear hf
  simp -implicitDefEqProofs (maxSteps := 2000000) (disch := omega) [-getElem?_pos, a30]
  refine ⟨⟨by omega, ?_⟩, fun h => ?_⟩
  · exact .fin (.v (.sl (some 2) false (l.map wv))) ⟨rfl, rfl⟩ .tsl
  · subst h
    exact .fin (.v (.sl (some 2) false [])) ⟨rfl, rfl⟩ .snil
theorem k_NewBad {half : Int} {σ : Sg} (h : half < 1 ∨ 268435456 < half) : ACalls Try.prog 6 [.v (.int .i64 half)] σ fun r σ' => r = .tup [.v .pnil, .v argErr] ∧ σ' = σ := by
  refine acalls_fit Try.func6 (by kernel_rfl) c6 rfl (by simp [a6]) fun hf => ?_
  clear hf
  by_cases h1 : half < 1
  · simp -implicitDefEqProofs (maxSteps := 2000000) (disch := omega) [-getElem?_pos, a6, h1]
    exact .fin _ ⟨rfl, rfl⟩ (.refl _)
  have h2 : 268435456 < half := by omega
  simp -implicitDefEqProofs (maxSteps := 2000000) (disch := omega) [-getElem?_pos, a6, h1, h2]
  exact .fin _ ⟨rfl, rfl⟩ (.refl _)
theorem k_New {half : Int} {σ : Sg} (h : ¬ (half < 1 ∨ 268435456 < half)) : ACalls Try.prog 6 [.v (.int .i64 half)] σ fun r σ' =>
    r = .tup [.ptr σ.objs.length 0, .v .inil] ∧ σ' = ⟨σ.objs ++ [.cells [.v (.int .i64 half), .v .snil, .v .snil, .v (.int .i64 0)]], σ.toks⟩ := by
  refine acalls_fit Try.func6 (by kernel_rfl) c6 rfl (by simp [a6]) fun hf => ?_
  clear hf
  have h1 : ¬ half < 1 := by omega
  have h2 : ¬ 268435456 < half := by omega
  simp -implicitDefEqProofs (maxSteps := 2000000) (disch := omega) [-getElem?_pos, a6, h1, h2]
  exact ⟨_, _, WeakR.refl _ _ _, rfl, rfl⟩
theorem k_Collect {σ : Sg} {hp oL oH : Nat} {half runs : Int} {os : List Ho} {dl dh : D} {roots : List Wd} {f : Bool} (h : Hp σ hp oL oH half os runs dl dh) (ok : OkO os) (hr : ∀ w ∈ roots, fineW os w) (hrl : roots.length ≤ 1000000) :
    ACalls Try.prog 14 [.ptr hp 0, .v (.sl (some 2) f (roots.map wv))] σ fun r σ' => r = .tup [.v (.sl (some 2) false ((colR os roots).map wv)), .v .inil] ∧
      ∃ oL' oH' dl' dh', Hp σ' hp oL' oH' half (colO os roots) (IntKind.i64.wrap (runs + 1)) dl' dh' ∧ Fr σ σ' (HS hp oL oH os) ∧ σ.objs.length ≤ oL' ∧ σ.objs.length ≤ oH' := by
  have hfi := k_Fine (l := roots) (f := f) h ok
  rw [decide_eq_true hr] at hfi
  have hru := k_Run (f := f) h ok hr hrl
  refine acalls_fit Try.func14 (by kernel_rfl) c14 rfl (by simp [a14]) fun hf => ?_
  clear hf
  simp -implicitDefEqProofs (maxSteps := 2000000) (disch := omega) [-getElem?_pos, a14]
  refine hfi.then fun r hq => ?_
  subst hq
  simp -implicitDefEqProofs (maxSteps := 2000000) (disch := omega) [-getElem?_pos]
  refine hru.mono fun r σ' hq => ?_
  obtain ⟨rfl, oL', oH', dl', dh', q1, q2, q3, q4⟩ := hq
  simp -implicitDefEqProofs (maxSteps := 2000000) (disch := omega) [-getElem?_pos]
  exact ⟨_, _, WeakR.refl _ _ _, rfl, oL', oH', ⟨dl', dh', q1⟩, q2, q3, q4⟩
theorem idxAt_app {os x : List Ho} {p : Int} {i : Nat} (h : idxAt os p = some i) : idxAt (os ++ x) p = some i := by
  obtain ⟨h1, h2⟩ := idxAt_iff.1 h
  refine idxAt_iff.2 ⟨by simp; omega, ?_⟩
  rw [h2]
  unfold offs
  rw [List.take_append_of_le_length (by omega)]
theorem fine_app {os x : List Ho} {w : Wd} (h : fineW os w) : fineW (os ++ x) w := fun hp => by
  obtain ⟨i, hi⟩ := h hp
  exact ⟨i, idxAt_app hi⟩
theorem ok_app {os : List Ho} {o : Ho} (ok : OkO os) (h1 : 0 ≤ o.k ∧ o.k < 16 ∧ o.l.length ≤ 4000) (h2 : ∀ w ∈ o.l, fineW os w) (h3 : tot os + osz o ≤ 100000) : OkO (os ++ [o]) := by
  refine ⟨fun a ha => ?_, fun a ha w hw => ?_, by rw [tot_app]; simp only [tot]; omega⟩
  · rcases List.mem_append.1 ha with ha | ha
    · exact ok.k a ha
    · rw [List.mem_singleton.1 ha]; exact h1
  · rcases List.mem_append.1 ha with ha | ha
    · exact fine_app (ok.fine a ha w hw)
    · rw [List.mem_singleton.1 ha] at hw; exact fine_app (h2 w hw)
theorem wlen_VW {σ σ' : Sg} {o : Nat} {d : D} {ws : List Wd} {K : V → Prop} (h : VW σ o d ws) : WLen .sl d σ' K = K (.int .i64 ws.length) := by
  cases h with
  | nil => simp
  | msl w1 w2 w3 w4 => simp
theorem HS.lt {σ : Sg} {hp oL oH : Nat} {half runs : Int} {os : List Ho} {dl dh : D} (h : Hp σ hp oL oH half os runs dl dh) {i : Nat} (hi : HS hp oL oH os i) : i < σ.objs.length := by
  rcases hi with rfl | ⟨rfl, hn⟩ | ⟨rfl, hn⟩
  · exact (List.getElem?_eq_some_iff.1 h.cell).1
  · exact h.vw.lt (wds_ne.2 hn)
  · exact h.vb.lt (hds_ne.2 hn)
/-- A heap in which there is room, or that was collected. -/
structure Rm where
  os : List Ho
  l : List Wd
  r : List Wd
def roomO (half : Int) (os : List Ho) (l roots : List Wd) : Rm :=
  if half < (tot os : Int) + l.length + 1 then ⟨colO os (roots ++ l), (colR os (roots ++ l)).drop roots.length, (colR os (roots ++ l)).take roots.length⟩ else ⟨os, l, roots⟩
def fullO (half : Int) (m : Rm) : Prop := half < (tot m.os : Int) + m.l.length + 1
theorem room_ok {half : Int} {os : List Ho} {l roots : List Wd} (ok : OkO os) (hl : ∀ w ∈ l, fineW os w) (hr : ∀ w ∈ roots, fineW os w) :
    OkO (roomO half os l roots).os ∧ (∀ w ∈ (roomO half os l roots).l, fineW (roomO half os l roots).os w) ∧ (∀ w ∈ (roomO half os l roots).r, fineW (roomO half os l roots).os w) ∧ (roomO half os l roots).l.length = l.length ∧ (roomO half os l roots).r.length = roots.length := by
  unfold roomO
  split
  · have hall : ∀ w ∈ roots ++ l, fineW os w := fun w hw => (List.mem_append.1 hw).elim (hr w) (hl w)
    refine ⟨ok_col ok, fun w hw => fine_colR hall w (List.mem_of_mem_drop hw), fun w hw => fine_colR hall w (List.mem_of_mem_take hw), ?_, ?_⟩
    · simp [colR]
    · simp [colR]
  · exact ⟨ok, hl, hr, rfl, rfl⟩
def roomR (half : Int) (os : List Ho) (l : List Wd) (runs : Int) : Int := if half < (tot os : Int) + l.length + 1 then IntKind.i64.wrap (runs + 1) else runs
def MakeR (half kind : Int) (m : Rm) (os' : List Ho) (r : D) : Prop := ∃ g' : Bool,
  fullO half m ∧ os' = m.os ∧ r = .tup [.v (.int .i64 0), .v (.sl (some 2) false (m.l.map wv)), .v (.sl (some 2) g' (m.r.map wv)), .v fullErr] ∨
  ¬ fullO half m ∧ os' = m.os ++ [⟨kind, m.l⟩] ∧ r = .tup [.v (.int .i64 (tot m.os)), .v (.sl (some 2) false (m.l.map wv)), .v (.sl (some 2) g' (m.r.map wv)), .v .inil]
theorem k_Make {σ : Sg} {hp oL oH : Nat} {half runs kind : Int} {os : List Ho} {dl dh : D} {l roots : List Wd} {f g : Bool} (h : Hp σ hp oL oH half os runs dl dh) (ok : OkO os) (hl : ∀ w ∈ l, fineW os w) (hr : ∀ w ∈ roots, fineW os w) (hrl : roots.length ≤ 100000) (hll : l.length ≤ 4000) (hhalf : half ≤ 50000) (hk : headOk kind l.length) :
    ACalls Try.prog 9 [.ptr hp 0, .v (.int .i64 kind), .v (.sl (some 2) f (l.map wv)), .v (.sl (some 2) g (roots.map wv))] σ fun r σ' => ∃ oL' oH' dl' dh' runs', ∃ (os' : List Ho),
      Hp σ' hp oL' oH' half os' runs' dl' dh' ∧ Fr σ σ' (HS hp oL oH os) ∧ Nw σ oL oL' os ∧ Nw σ oH oH' os ∧ MakeR half kind (roomO half os l roots) os' r ∧ runs' = roomR half os l runs := by
  have hh := fun σ => k_Head kind l.length σ
  simp only [hk, if_true] at hh
  have hf1 := fun (xs : List Ob) => k_Fine (l := l) (f := f) (h.on (σ' := ⟨σ.objs ++ xs, σ.toks⟩) on_app) ok
  have hf2 := fun (xs : List Ob) => k_Fine (l := roots) (f := g) (h.on (σ' := ⟨σ.objs ++ xs, σ.toks⟩) on_app) ok
  rw [decide_eq_true hl] at hf1
  rw [decide_eq_true hr] at hf2
  have hc := h.cell
  have hlw := wds_len os
  refine acalls_fit Try.func9 (by kernel_rfl) c9 rfl (by simp [a9]) fun hf => ?_
  clear hf
  simp -implicitDefEqProofs (maxSteps := 2000000) (disch := omega) [-getElem?_pos, a9]
  refine (hh _).then fun r hq => ?_
  subst hq
  simp -implicitDefEqProofs (maxSteps := 2000000) (disch := omega) [-getElem?_pos]
  refine (hf1 _).then fun r hq => ?_
  subst hq
  simp -implicitDefEqProofs (maxSteps := 2000000) (disch := omega) [-getElem?_pos]
  refine (hf2 _).then fun r hq => ?_
  subst hq
  simp -implicitDefEqProofs (maxSteps := 2000000) (disch := omega) [-getElem?_pos]
  refine (k_CloneW (by omega)).then fun r hq => ?_
  subst hq
  simp -implicitDefEqProofs (maxSteps := 2000000) (disch := omega) [-getElem?_pos]
  refine (k_CloneW (by omega)).then fun r hq => ?_
  subst hq
  simp -implicitDefEqProofs (maxSteps := 2000000) (disch := omega) [-getElem?_pos]
  have hwl : ∀ (σ' : Sg) (K : V → Prop), WLen .sl dl σ' K = K (.int .i64 (tot os)) := fun σ' K => by rw [wlen_VW h.vw, hlw]
  have hcl := (List.getElem?_eq_some_iff.1 hc).1
  have hoz : ∀ x : List Wd, osz ⟨kind, x⟩ = 1 + x.length := fun _ => rfl
  have hsm := ok.small
  by_cases hfu : half < (tot os : Int) + l.length + 1
  · have hroom : roomO half os l roots = ⟨colO os (roots ++ l), (colR os (roots ++ l)).drop roots.length, (colR os (roots ++ l)).take roots.length⟩ := by rw [roomO, if_pos hfu]
    obtain ⟨cR, hcR⟩ : ∃ cR, cR = colR os (roots ++ l) := ⟨_, rfl⟩
    obtain ⟨os2, hos2⟩ : ∃ os2, os2 = colO os (roots ++ l) := ⟨_, rfl⟩
    obtain ⟨L1, hL1⟩ : ∃ L1, L1 = cR.drop roots.length := ⟨_, rfl⟩
    obtain ⟨R1, hR1⟩ : ∃ R1, R1 = cR.take roots.length := ⟨_, rfl⟩
    rw [← hcR, ← hos2, ← hL1, ← hR1] at hroom
    rw [hroom]
    have hall : ∀ w ∈ roots ++ l, fineW os w := fun w hw => (List.mem_append.1 hw).elim (hr w) (hl w)
    have hcat : catX [roots, l] = roots ++ l := by simp [catX]
    have hco := fun σ => k_ConcatAny (L := [roots, l]) (f := true) (σ := σ) (xs := [.sl (some 2) false (roots.map wv), .sl (some 2) false (l.map wv)]) rfl (by rw [hcat]; simp; omega) (by simp)
    rw [hcat] at hco
    have hru := fun (xs : List Ob) => k_Run (f := false) (h.on (σ' := ⟨σ.objs ++ xs, σ.toks⟩) on_app) ok hall (by simp; omega)
    simp only [List.map_append, ← hcR, ← hos2] at hru
    have hcRl : cR.length = roots.length + l.length := by rw [hcR]; simp [colR]
    have hdl : L1.length = l.length := by rw [hL1, List.length_drop]; omega
    have e2 : List.drop roots.length (List.take ((roots.length : Int) + l.length).toNat (cR.map wv)) = L1.map wv := by
      rw [show ((roots.length : Int) + l.length).toNat = (cR.map wv).length by simp; omega, List.take_length, hL1, List.map_drop]
    have e3 : List.take roots.length (cR.map wv) = R1.map wv := by rw [hR1, List.map_take]
    simp -implicitDefEqProofs (maxSteps := 2000000) (disch := omega) [-getElem?_pos, hc, List.getElem?_append_left, hwl, hfu]
    refine (hco _).then fun r hq => ?_
    subst hq
    unfold vX
    simp -implicitDefEqProofs (maxSteps := 2000000) (disch := omega) [-getElem?_pos]
    refine (hru _).mono fun r σ2 hq => ?_
    obtain ⟨rfl, oL2, oH2, dl2, dh2, hH2, hFr2, hn1, hn2⟩ := hq
    have hkd : σ2.objs[σ.objs.length]? = _ := hFr2.keep σ.objs.length (by simp) (fun e => Nat.lt_irrefl _ (HS.lt h e))
    simp only [List.getElem?_concat_length] at hkd
    have hlw2 := wds_len os2
    have hwl2 : ∀ (σ' : Sg) (K : V → Prop), WLen .sl dl2 σ' K = K (.int .i64 (tot os2)) := fun σ' K => by rw [wlen_VW hH2.vw, hlw2]
    have hc2 := hH2.cell
    have hsm2 : tot os2 ≤ 100000 := by rw [hos2]; exact Nat.le_trans (tot_col _ _) hsm
    rw [← hdl] at hkd
    simp only [List.length_append, List.length_cons, List.length_nil] at hn1 hn2
    have hFr3 : Fr σ σ2 (HS hp oL oH os) := by
      have g1 := Fr.add σ [Ob.cells [D.v (V.bool false), D.v (V.int IntKind.i64 (↑L1.length * 16 + kind))]] [] (HS hp oL oH os)
      rw [List.append_nil, hdl] at g1
      exact g1.trans hFr2 (fun _ _ h => h) fun _ _ h => h
    by_cases hf2 : half < (tot os2 : Int) + L1.length + 1
    · have hf2' : half < (tot os2 : Int) + l.length + 1 := by omega
      simp -implicitDefEqProofs (maxSteps := 2000000) (disch := omega) [-getElem?_pos, hcRl, e2, e3, hc2, hwl2, hdl, hf2']
      refine ⟨by omega, ?_⟩
      exact ⟨_, _, WeakR.refl _ _ _, oL2, oH2, dl2, dh2, _, _, hH2, hFr3, .inr (by omega), .inr (by omega), ⟨true, .inl ⟨hf2, rfl, rfl⟩⟩, by rw [roomR, if_pos hfu]⟩
    · have hf2' : ¬ half < (tot os2 : Int) + l.length + 1 := by omega
      have hpu := fun (ts : List Nat) (t : Nat) => (k_PutA (oS := 0) (off := 0) (cS := 0) (f := false) (cs := []) (hH2.on (σ' := ⟨σ2.objs, σ2.toks ++ ts⟩) (fun _ _ h => h)) (o := ⟨kind, L1⟩) (ys := headW ⟨kind, L1⟩ :: L1) rfl (by rw [hoz]; omega)).args (ds := [.ptr hp 0, .tsl t (some 2) (.agg [.bool false, .int .i64 (↑L1.length * 16 + kind)] :: L1.map wv)]) rfl fun i d d' hd hd' => by
        match i with
        | 0 => cases hd; cases hd'; exact .refl _
        | 1 => cases hd; cases hd'; exact .tsl
        | n + 2 => simp at hd
      simp -implicitDefEqProofs (maxSteps := 2000000) (disch := omega) [-getElem?_pos, hcRl, e2, e3, hc2, hwl2, hdl, hf2', hkd, mkAgg, allV]
      refine ⟨by omega, by omega, ?_⟩
      rw [hdl] at hpu
      refine (hpu _ _).mono fun r σ3 hq => ?_
      obtain ⟨oL3, oH3, dl3, dh3, hH3, hFr4, hn3, hn4⟩ := hq
      have hFr5 : Fr σ σ3 (HS hp oL oH os) := by
        have g2 : Fr σ2 ⟨σ2.objs, σ2.toks ++ [1 + l.length]⟩ (HS hp oL oH os) := by simpa using Fr.add σ2 [] [1 + l.length] (HS hp oL oH os)
        refine (hFr3.trans g2 (fun _ _ h => h) fun _ _ h => h).trans hFr4 (fun _ _ h => h) fun i hi e => ?_
        rcases e with e | ⟨e, _⟩ | ⟨e, _⟩
        · exact .inl e
        · omega
        · omega
      have hl23 := hFr3.len
      simp -implicitDefEqProofs (maxSteps := 2000000) (disch := omega) [-getElem?_pos]
      refine ⟨_, _, WeakR.refl _ _ _, oL3, oH3, dl3, dh3, _, _, hH3, hFr5, .inr ?_, .inr ?_, ⟨true, .inr ⟨hf2, rfl, rfl⟩⟩, by rw [roomR, if_pos hfu]⟩
      · rcases hn3 with ⟨e, _⟩ | e
        · omega
        · dsimp only at e; omega
      · rcases hn4 with ⟨e, _⟩ | e
        · omega
        · dsimp only at e; omega
  · have hroom : roomO half os l roots = ⟨os, l, roots⟩ := by rw [roomO, if_neg hfu]
    rw [hroom]
    have hpu := fun (xs : List Ob) (ts : List Nat) (t : Nat) => (k_PutA (oS := 0) (off := 0) (cS := 0) (f := false) (cs := []) (h.on (σ' := ⟨σ.objs ++ xs, σ.toks ++ ts⟩) on_app) (o := ⟨kind, l⟩) (ys := headW ⟨kind, l⟩ :: l) rfl (by rw [hoz]; omega)).args (ds := [.ptr hp 0, .tsl t (some 2) (.agg [.bool false, .int .i64 (↑l.length * 16 + kind)] :: l.map wv)]) rfl fun i d d' hd hd' => by
      match i with
      | 0 => cases hd; cases hd'; exact .refl _
      | 1 => cases hd; cases hd'; exact .tsl
      | n + 2 => simp at hd
    simp -implicitDefEqProofs (maxSteps := 2000000) (disch := omega) [-getElem?_pos, hc, List.getElem?_append_left, hwl, hfu]
    refine ⟨by omega, ?_⟩
    refine (hpu _ _ _).mono fun r σ3 hq => ?_
    obtain ⟨oL3, oH3, dl3, dh3, hH3, hFr4, hn3, hn4⟩ := hq
    have hFr5 : Fr σ σ3 (HS hp oL oH os) := (Fr.add σ _ _ _).trans hFr4 (fun _ _ h => h) fun _ _ h => h
    simp -implicitDefEqProofs (maxSteps := 2000000) (disch := omega) [-getElem?_pos]
    refine ⟨_, _, WeakR.refl _ _ _, oL3, oH3, dl3, dh3, _, _, hH3, hFr5, ?_, ?_, ⟨false, .inr ⟨hfu, rfl, rfl⟩⟩, by rw [roomR, if_neg hfu]⟩
    · rcases hn3 with e | e
      · exact .inl e
      · exact .inr (by simp at e; omega)
    · rcases hn4 with e | e
      · exact .inl e
      · exact .inr (by simp at e; omega)
theorem k_MakeBad {σ : Sg} {hp : Nat} {kind : Int} {l : List Wd} {f : Bool} {dr : D} (hk : ¬ headOk kind l.length) :
    ACalls Try.prog 9 [.ptr hp 0, .v (.int .i64 kind), .v (.sl (some 2) f (l.map wv)), dr] σ fun r σ' => r = .tup [.v (.int .i64 0), .v .snil, .v .snil, .v argErr] ∧ σ' = σ := by
  have hh := fun σ => k_Head kind l.length σ
  simp only [hk, if_false] at hh
  refine acalls_fit Try.func9 (by kernel_rfl) c9 rfl (by simp [a9]) fun hf => ?_
  clear hf
  simp -implicitDefEqProofs (maxSteps := 2000000) (disch := omega) [-getElem?_pos, a9]
  refine (hh _).then fun r hq => ?_
  subst hq
  simp -implicitDefEqProofs (maxSteps := 2000000) (disch := omega) [-getElem?_pos]
  exact .fin _ ⟨rfl, rfl⟩ (.refl _)
end Go.Proofs.Ytiomciifhkbklaa
