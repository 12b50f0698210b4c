/-
  The document's heap: an object is made. (Own work.)
-/
import Derived.Test.YtiomciifhkbklaaH21
set_option linter.unusedVariables false
set_option linter.unusedSimpArgs false
set_option maxHeartbeats 2000000
namespace Go.Proofs.Ytiomciifhkbklaa
open Go Go.Abs

theorem k_RHead (k z : Int) (hz : -4000000 ≤ z ∧ z ≤ 4000000) (σ : Sg) : ∃ w : Wd, ACalls Try.prog 35 [.v (.int .i64 k), .v (.int .i64 z)] σ fun r σ' => r = .tup [.v (wv w), .v (.bool (decide (headOk k z)))] ∧ σ' = σ := by
  by_cases hh : headOk k z
  · obtain ⟨h1, h2, h3, h4⟩ := hh
    refine ⟨⟨false, 16 * z + k⟩, ?_⟩
    rw [decide_eq_true ⟨h1, h2, h3, h4⟩]
    refine acalls_fit Try.func35 (by kernel_rfl) c35 rfl (by simp [a35]) fun hf => ?_
    clear hf
    have g1 : ¬ k < 0 := by omega
    have g2 : ¬ 15 < k := by omega
    have g3 : ¬ z < 0 := by omega
    have g4 : ¬ 4000 < z := by omega
    simp -implicitDefEqProofs (maxSteps := 2000000) (disch := omega) [-getElem?_pos, a35, g1, g2, g3, g4]
    exact .fin _ ⟨rfl, rfl⟩ (.refl _)
  · refine ⟨⟨false, 0⟩, ?_⟩
    rw [decide_eq_false hh]
    refine acalls_fit Try.func35 (by kernel_rfl) c35 rfl (by simp [a35]) fun hf => ?_
    clear hf
    by_cases g1 : k < 0
    · simp -implicitDefEqProofs (maxSteps := 2000000) (disch := omega) [-getElem?_pos, a35, g1]
      exact .fin _ ⟨rfl, rfl⟩ (.refl _)
    by_cases g2 : 15 < k
    · simp -implicitDefEqProofs (maxSteps := 2000000) (disch := omega) [-getElem?_pos, a35, g1, g2]
      exact .fin _ ⟨rfl, rfl⟩ (.refl _)
    by_cases g3 : z < 0
    · simp -implicitDefEqProofs (maxSteps := 2000000) (disch := omega) [-getElem?_pos, a35, g1, g2, g3]
      exact .fin _ ⟨rfl, rfl⟩ (.refl _)
    have g4 : 4000 < z := by unfold headOk at hh; omega
    simp -implicitDefEqProofs (maxSteps := 2000000) (disch := omega) [-getElem?_pos, a35, g1, g2, g3, g4]
    exact .fin _ ⟨rfl, rfl⟩ (.refl _)
theorem new_VI {σ : Sg} {l : List Wd} {K : D → Sg → Prop} (hn : l.length ≤ 1000000) (key : ∀ id d σ', VI σ' id d l → σ.objs.length ≤ id → Fr σ σ' (fun _ => False) → K d σ') : WApmV (some 2) 16 (.v (.sl (some 2) true [])) (l.map wv) σ K := by
  by_cases hl : l = []
  · subst hl
    rw [List.map_nil, WApmV_full, WM0_go]
    refine .mk (fun _ => ?_) fun e => absurd rfl e
    rw [TMn_go]
    exact key σ.objs.length _ _ .emp (Nat.le_refl _) (.refl _ _)
  · refine appm_VI (o := σ.objs.length) (ws := []) .emp hl (by simp; omega) fun o' d' σ' h1 h2 h3 => ?_
    refine key o' d' σ' (by simpa using h1) ?_ (h2.mono fun i _ e => absurd rfl e.2)
    rcases h3 with ⟨_, e⟩ | e
    · exact absurd rfl e
    · omega
theorem VR.fr {σ σ' : Sg} {o : Nat} {d : D} {os : List Ho} {rs : List Rr} {S : Nat → Prop} (h : VR σ o d os rs) (k : Fr σ σ' S) (hS : os ≠ [] → ¬ S o) : VR σ' o d os rs := h.on fun hn => k.keep o (h.lt hn) (hS hn)
def badR : D := .tup [.v (.int .i64 0), .v .snil, .v .snil, .v (.int .i64 1)]
theorem k_RMakeBad {σ : Sg} {m oT : Nat} {half runs kind : Int} {os : List Ho} {dT : D} {rs : List Rr} {l roots : List Wd} {f g : Bool} (h : RH σ m oT half os runs dT rs) (ho : os.length ≤ 100000) (hll : l.length ≤ 1000000) (hrl : roots.length ≤ 1000000)
    (hbad : ¬ (headOk kind l.length ∧ (∀ w ∈ l, fineW os w) ∧ ∀ w ∈ roots, fineW os w)) :
    ACalls Try.prog 16 [.ptr m 0, .v (.int .i64 kind), .v (.sl (some 2) f (l.map wv)), .v (.sl (some 2) g (roots.map wv))] σ fun r σ' => r = badR ∧ σ' = σ := by
  unfold badR
  obtain ⟨hw, hh⟩ := k_RHead kind l.length (by omega) σ
  have hf1 := fun xs => k_RFine (l := l) (f := f) (h.app xs σ.toks) ho hll
  have hf2 := fun xs => k_RFine (l := roots) (f := g) (h.app xs σ.toks) ho hrl
  refine acalls_fit Try.func16 (by kernel_rfl) c16m rfl (by simp [a16m]) fun hf => ?_
  clear hf
  simp -implicitDefEqProofs (maxSteps := 2000000) (disch := omega) [-getElem?_pos, a16m]
  refine hh.then fun r hq => ?_
  subst hq
  simp -implicitDefEqProofs (maxSteps := 2000000) (disch := omega) [-getElem?_pos]
  refine (hf1 _).then fun r hq => ?_
  subst hq
  simp -implicitDefEqProofs (maxSteps := 2000000) (disch := omega) [-getElem?_pos]
  refine (hf2 _).then fun r hq => ?_
  subst hq
  by_cases b1 : headOk kind l.length
  · by_cases b2 : ∀ w ∈ l, fineW os w
    · have b3 : ¬ ∀ w ∈ roots, fineW os w := fun b3 => hbad ⟨b1, b2, b3⟩
      rw [decide_eq_true b1, decide_eq_true b2, decide_eq_false b3]
      simp -implicitDefEqProofs (maxSteps := 2000000) (disch := omega) [-getElem?_pos]
      exact .fin _ ⟨rfl, rfl⟩ (.refl _)
    · rw [decide_eq_true b1, decide_eq_false b2]
      simp -implicitDefEqProofs (maxSteps := 2000000) (disch := omega) [-getElem?_pos]
      exact .fin _ ⟨rfl, rfl⟩ (.refl _)
  · rw [decide_eq_false b1]
    simp -implicitDefEqProofs (maxSteps := 2000000) (disch := omega) [-getElem?_pos]
    exact .fin _ ⟨rfl, rfl⟩ (.refl _)
def MakeRR (half kind : Int) (m : Rm) (os' : List Ho) (r : D) : Prop := ∃ f1 g1 : Bool,
  fullO half m ∧ os' = m.os ∧ r = .tup [.v (.int .i64 0), .v (.sl (some 2) f1 (m.l.map wv)), .v (.sl (some 2) g1 (m.r.map wv)), .v (.int .i64 7)] ∨
  ¬ fullO half m ∧ os' = m.os ++ [⟨kind, m.l⟩] ∧ r = .tup [.v (.int .i64 (tot m.os)), .v (.sl (some 2) f1 (m.l.map wv)), .v (.sl (some 2) g1 (m.r.map wv)), .v (.int .i64 0)]
theorem k_RMake {σ : Sg} {m oT : Nat} {half runs kind : Int} {os : List Ho} {dT : D} {rs : List Rr} {l roots : List Wd} {f g : Bool} (h : RH σ m oT half os runs dT rs) (ok : OkO os) (hl : ∀ w ∈ l, fineW os w) (hr : ∀ w ∈ roots, fineW os w) (hrl : roots.length ≤ 100000) (hll : l.length ≤ 4000) (hhalf : half ≤ 50000) (hk : headOk kind l.length) :
    ACalls Try.prog 16 [.ptr m 0, .v (.int .i64 kind), .v (.sl (some 2) f (l.map wv)), .v (.sl (some 2) g (roots.map wv))] σ fun r σ' => ∃ oT' dT' rs' os' runs', RH σ' m oT' half os' runs' dT' rs' ∧ Fr σ σ' (fun i => i = m) ∧
      (∀ i, RS m oT' os' rs' i → RS m oT os rs i ∨ σ.objs.length ≤ i) ∧ MakeRR half kind (roomO half os l roots) os' r ∧ runs' = roomR half os l runs := by
  obtain ⟨hw, hh⟩ := k_RHead kind l.length (by omega) σ
  rw [decide_eq_true hk] at hh
  have hsm := ok.small
  have hlo := len_tot os
  have hf1 := fun xs => k_RFine (l := l) (f := f) (h.app xs σ.toks) (by omega) (by omega)
  have hf2 := fun xs => k_RFine (l := roots) (f := g) (h.app xs σ.toks) (by omega) (by omega)
  rw [decide_eq_true hl] at hf1
  rw [decide_eq_true hr] at hf2
  have hus := fun xs => k_RUsed (h.app xs σ.toks) hsm
  have hc := h.cell
  have hml := (List.getElem?_eq_some_iff.1 hc).1
  have hrk := (room_ok (half := half) ok hl hr)
  refine acalls_fit Try.func16 (by kernel_rfl) c16m rfl (by simp [a16m]) fun hf => ?_
  clear hf
  simp -implicitDefEqProofs (maxSteps := 2000000) (disch := omega) [-getElem?_pos, a16m]
  refine hh.then fun r hq => ?_
  subst hq
  simp -implicitDefEqProofs (maxSteps := 2000000) (disch := omega) [-getElem?_pos]
  refine (hf1 _).then fun r hq => ?_
  subst hq
  simp -implicitDefEqProofs (maxSteps := 2000000) (disch := omega) [-getElem?_pos]
  refine (hf2 _).then fun r hq => ?_
  subst hq
  simp -implicitDefEqProofs (maxSteps := 2000000) (disch := omega) [-getElem?_pos, hc, List.getElem?_append_left]
  refine (hus _).then fun r hq => ?_
  subst hq
  by_cases hfu : half < (tot os : Int) + l.length + 1
  · obtain ⟨cR, hcR⟩ : ∃ cR, cR = colR os (roots ++ l) := ⟨_, rfl⟩
    obtain ⟨os1, hos1⟩ : ∃ os1, os1 = colO os (roots ++ l) := ⟨_, rfl⟩
    obtain ⟨l1, hl1⟩ : ∃ l1, l1 = cR.drop roots.length := ⟨_, rfl⟩
    obtain ⟨r1, hr1⟩ : ∃ r1, r1 = cR.take roots.length := ⟨_, rfl⟩
    have hroom : roomO half os l roots = ⟨os1, l1, r1⟩ := by rw [roomO, if_pos hfu, ← hcR, ← hos1, ← hl1, ← hr1]
    have hrun : roomR half os l runs = IntKind.i64.wrap (runs + 1) := by rw [roomR, if_pos hfu]
    rw [hroom, hrun]
    have hall : ∀ w ∈ roots ++ l, fineW os w := fun w hw => (List.mem_append.1 hw).elim (hr w) (hl w)
    have hco := fun (xs : List Ob) (ts : List Nat) => k_RCollect (f := false) (h.app xs (σ.toks ++ ts)) ok hall (by simp; omega)
    simp only [List.map_append, ← hcR, ← hos1] at hco
    have hcRl : cR.length = roots.length + l.length := by rw [hcR]; simp [colR]
    have hll1 : l1.length = l.length := by rw [hl1, List.length_drop]; omega
    have e2 : List.drop roots.length (cR.map wv) = l1.map wv := by rw [hl1, List.map_drop]
    have e3 : List.take roots.length (cR.map wv) = r1.map wv := by rw [hr1, List.map_take]
    simp -implicitDefEqProofs (maxSteps := 2000000) (disch := omega) [-getElem?_pos, hc, List.getElem?_append_left, hfu]
    refine ⟨by omega, by omega, ?_⟩
    refine ((hco _ _).args (ds := [.ptr m 0, .tsl σ.toks.length (some 2) (roots.map wv ++ l.map wv)]) rfl fun i d d' hd hd' => by
      match i with
      | 0 => cases hd; cases hd'; exact .refl _
      | 1 => cases hd; cases hd'; exact .tsl
      | n + 2 => simp at hd).mono fun r σ1 hq => ?_
    obtain ⟨rfl, oT1, dT1, rs1, hR1, hFr0, hRS0⟩ := hq
    have hFr1 : Fr σ σ1 (fun k => k = m) := by
      have g1 : Fr σ ⟨σ.objs ++ [Ob.cells [D.v (V.bool hw.p), D.v (V.int IntKind.i64 hw.v)]], σ.toks ++ [roots.length + l.length]⟩ (fun k => k = m) := Fr.add σ _ _ _
      exact g1.trans hFr0 (fun _ _ e => e) fun _ _ e => e
    have hRS1 : ∀ i, RS m oT1 os1 rs1 i → RS m oT os rs i ∨ σ.objs.length ≤ i := fun i e => (hRS0 i e).elim (fun e => .inl (.inl e)) fun e => .inr (by simp at e; omega)
    have hsm1 : tot os1 ≤ 100000 := by rw [hos1]; exact Nat.le_trans (tot_col _ _) hsm
    obtain ⟨runs1, hruns1⟩ : ∃ runs1, runs1 = IntKind.i64.wrap (runs + 1) := ⟨_, rfl⟩
    have hrun1 : runs1 = runs1 := rfl
    rw [← hruns1] at hR1
    rw [← hruns1]
    have hr1l : r1.length = roots.length := by rw [hr1, List.length_take]; omega
    have e4 : List.drop r1.length (List.take ((roots.length : Int) + l.length).toNat (cR.map wv)) = l1.map wv := by
      rw [hr1l, show ((roots.length : Int) + l.length).toNat = (cR.map wv).length by simp; omega, List.take_length, e2]
    simp -implicitDefEqProofs (maxSteps := 2000000) (disch := omega) [-getElem?_pos, hcRl, e4, e3, hll1]
    refine ⟨by omega, by omega, ?_⟩
    have hu1 := k_RUsed hR1 hsm1
    have hlo1 := len_tot os1
    have hc1 := hR1.cell
    have hml1 := (List.getElem?_eq_some_iff.1 hc1).1
    refine hu1.then fun r hq => ?_
    subst hq
    by_cases hf2 : half < (tot os1 : Int) + l1.length + 1
    · simp -implicitDefEqProofs (maxSteps := 2000000) (disch := omega) [-getElem?_pos, hc1, hf2]; exact ⟨_, _, WeakR.refl _ _ _, oT1, dT1, rs1, _, _, hR1, hFr1, hRS1, ⟨_, _, .inl ⟨hf2, rfl, rfl⟩⟩, hrun1⟩
    · simp -implicitDefEqProofs (maxSteps := 2000000) (disch := omega) [-getElem?_pos, hc1, hf2, -WApdV_full, -WApmV_full, -mkAgg, -D.cells, -D.lies]
      refine copy_VR hR1.top (by omega) fun d2 σ2 hV2 hF2 => ?_
      simp -implicitDefEqProofs (maxSteps := 2000000) (disch := omega) [-getElem?_pos, -WApdV_full, -WApmV_full, -mkAgg, -D.cells, -D.lies]
      refine new_VI (by omega) fun id d3 σ3 hV3 hid hF3 => ?_
      obtain ⟨hr1, hr2⟩ := hV3.cell
      obtain ⟨B, hB⟩ : ∃ B, B = mkAgg [.v (.int .i64 (tot os1)), .v (.int .i64 kind), d3] := ⟨_, rfl⟩
      have hB1 : B.cells = [.v (.int .i64 (tot os1)), .v (.int .i64 kind), d3] := by rw [hB, mkAgg_cells]
      have hB2 : B.lies = true := by rw [hB, mkAgg_lies]
      simp -implicitDefEqProofs (maxSteps := 2000000) (disch := omega) [-getElem?_pos, cells_int, lies_v, hr1, hr2, ← hB, hB1, hB2, -WApdV_full, -mkAgg, -D.cells, -D.lies]
      have hl12 := hF2.len
      have hl23 := hF3.len
      have hV4 : VR ⟨σ3.objs ++ [.cells [.v (.int .i64 (tot os1)), .v (.int .i64 kind), d3]], σ3.toks⟩ σ1.objs.length d2 os1 rs1 := hV2.on fun hn => by
        have := hV2.lt hn
        exact (List.getElem?_append_left (by omega)).trans (hF3.keep _ this fun e => e)
      have hF4 : Fr σ1 ⟨σ3.objs ++ [.cells [.v (.int .i64 (tot os1)), .v (.int .i64 kind), d3]], σ3.toks⟩ (fun _ => False) := (hF2.trans hF3 (U := fun _ => False) (fun _ _ e => e) fun _ _ e => e).trans (by simpa using Fr.add σ3 [.cells [.v (.int .i64 (tot os1)), .v (.int .i64 kind), d3]] [] (fun _ => False)) (fun _ _ e => e) fun _ _ e => e
      have hVI4 : VI ⟨σ3.objs ++ [.cells [.v (.int .i64 (tot os1)), .v (.int .i64 kind), d3]], σ3.toks⟩ id d3 l1 := hV3.on fun hn => List.getElem?_append_left (hV3.lt hn)
      refine appd_VR (o := ⟨kind, l1⟩) (r := ⟨id, d3⟩) hV4 (by omega) fun o5 d5 σ5 f1 f2 f3 => ?_
      have hB5 := RB.snoc (base := 0) (dN := d2) (oN := σ1.objs.length) ⟨hV4, fun k a q k1 k2 => (hR1.inn k a q k1 k2).fr hF4 fun _ e => e, fun _ => Nat.zero_le _, fun k a q k1 k2 k3 => ⟨Nat.zero_le _, by have := (hR1.inn k a q k1 k2).lt k3; omega⟩, hR1.nd⟩ (o := ⟨kind, l1⟩) hVI4 (Nat.zero_le _)
        (fun hn => ⟨fun hn2 => by have := hV2.lt hn2; omega, fun k a q k1 k2 k3 => by have := (hR1.inn k a q k1 k2).lt k3; omega⟩) f1 f2 f3 (Nat.zero_le _)
      have hl4 := hF4.len
      have hF15 := hF4.trans f2 (U := fun i => False) (fun _ _ e => e) fun k hk e => absurd e.1 (by omega)
      have hc5 : σ5.objs[m]? = _ := (hF15.keep m hml1 fun e => e).trans hc1
      have hml5 := (List.getElem?_eq_some_iff.1 hc5).1
      obtain ⟨hN1, hN2⟩ := hB5.top.cell
      simp -implicitDefEqProofs (maxSteps := 2000000) (disch := omega) [-getElem?_pos, hc5, hN1, hN2, cells_int, lies_v, -mkAgg, -D.cells, -D.lies]
      have hfs : Fr σ5 ⟨σ5.objs.set m (Ob.cells [.v (.int .i64 half), d5, .v (.int .i64 runs1)]), σ5.toks⟩ (fun k => k = m) := Fr.set rfl
      have ho5 : o5 ≠ m := by
        rcases f3 with ⟨e, _⟩ | e
        · omega
        · simp at e; omega
      have hnm : ∀ (k : Nat) a q, (os1 ++ [⟨kind, l1⟩])[k]? = some a → (rs1 ++ [⟨id, d3⟩])[k]? = some q → a.l ≠ [] → q.id ≠ m := fun k a q k1 k2 k3 => by
        have hrl := hR1.top.len
        rcases snoc_get k1 with ⟨g1, g2⟩ | ⟨g1, g2⟩
        · rw [List.getElem?_append_left (by omega)] at k2
          exact (hR1.nm k a q g2 k2 k3).1
        · subst g1 g2
          rw [← hrl] at k2
          simp at k2
          subst k2
          dsimp only
          omega
      refine ⟨_, _, WeakR.refl _ _ _, o5, d5, rs1 ++ [⟨id, d3⟩], os1 ++ [⟨kind, l1⟩], runs1, ⟨List.getElem?_set_self hml5, hB5.top.fr hfs fun _ e => ho5 e, fun k a q k1 k2 => (hB5.inn k a q k1 k2).fr hfs fun hn e => hnm k a q k1 k2 hn e, fun _ => ho5, fun k a q k1 k2 k3 => ⟨hnm k a q k1 k2 k3, (hB5.nm k a q k1 k2 k3).2⟩, hB5.nd⟩, ?_, ?_, ⟨_, _, .inr ⟨hf2, rfl, rfl⟩⟩, hrun1⟩
      · exact (hFr1.trans hF15 (U := fun k => k = m) (fun _ _ e => e) fun _ _ e => e.elim).trans hfs (fun _ _ e => e) fun _ _ e => e
      · have hl1 := hFr1.len
        rintro k (e | ⟨e, hn⟩ | ⟨q, a, z, k1, k2, k3, e⟩)
        · exact .inl (.inl e)
        · refine .inr ?_
          rcases f3 with ⟨e', _⟩ | e'
          · omega
          · simp at e'; omega
        · have hrl := hR1.top.len
          rcases snoc_get k1 with ⟨g1, g2⟩ | ⟨g1, g2⟩
          · rw [List.getElem?_append_left (by omega)] at k2
            exact hRS1 k (.inr (.inr ⟨q, a, z, g2, k2, k3, e⟩))
          · subst g1 g2
            rw [← hrl] at k2
            simp at k2
            subst k2
            subst e
            exact .inr (by omega)

  · have hroom : roomO half os l roots = ⟨os, l, roots⟩ := by rw [roomO, if_neg hfu]
    rw [hroom]
    have hrun : roomR half os l runs = runs := by rw [roomR, if_neg hfu]
    rw [hrun]
    simp -implicitDefEqProofs (maxSteps := 2000000) (disch := omega) [-getElem?_pos, hc, List.getElem?_append_left, hfu]
    have hR1 := h.app [Ob.cells [D.v (V.bool hw.p), D.v (V.int IntKind.i64 hw.v)]] σ.toks
    have hFr1 : Fr σ ⟨σ.objs ++ [Ob.cells [D.v (V.bool hw.p), D.v (V.int IntKind.i64 hw.v)]], σ.toks⟩ (fun k => k = m) := by simpa using Fr.add σ _ [] _
    generalize (⟨σ.objs ++ [Ob.cells [D.v (V.bool hw.p), D.v (V.int IntKind.i64 hw.v)]], σ.toks⟩ : Sg) = σ1 at hR1 hFr1 ⊢
    have hRS1 : ∀ i, RS m oT os rs i → RS m oT os rs i ∨ σ.objs.length ≤ i := fun i e => .inl e
    have hsm1 := hsm
    have hrun1 : runs = runs := rfl
    have hu1 := k_RUsed hR1 hsm1
    have hlo1 := len_tot os
    have hc1 := hR1.cell
    have hml1 := (List.getElem?_eq_some_iff.1 hc1).1
    refine hu1.then fun r hq => ?_
    subst hq
    by_cases hf2 : half < (tot os : Int) + l.length + 1
    · exact absurd hf2 hfu
    · simp -implicitDefEqProofs (maxSteps := 2000000) (disch := omega) [-getElem?_pos, hc1, hf2, -WApdV_full, -WApmV_full, -mkAgg, -D.cells, -D.lies]
      refine copy_VR hR1.top (by omega) fun d2 σ2 hV2 hF2 => ?_
      simp -implicitDefEqProofs (maxSteps := 2000000) (disch := omega) [-getElem?_pos, -WApdV_full, -WApmV_full, -mkAgg, -D.cells, -D.lies]
      refine new_VI (by omega) fun id d3 σ3 hV3 hid hF3 => ?_
      obtain ⟨hr1, hr2⟩ := hV3.cell
      obtain ⟨B, hB⟩ : ∃ B, B = mkAgg [.v (.int .i64 (tot os)), .v (.int .i64 kind), d3] := ⟨_, rfl⟩
      have hB1 : B.cells = [.v (.int .i64 (tot os)), .v (.int .i64 kind), d3] := by rw [hB, mkAgg_cells]
      have hB2 : B.lies = true := by rw [hB, mkAgg_lies]
      simp -implicitDefEqProofs (maxSteps := 2000000) (disch := omega) [-getElem?_pos, cells_int, lies_v, hr1, hr2, ← hB, hB1, hB2, -WApdV_full, -mkAgg, -D.cells, -D.lies]
      have hl12 := hF2.len
      have hl23 := hF3.len
      have hV4 : VR ⟨σ3.objs ++ [.cells [.v (.int .i64 (tot os)), .v (.int .i64 kind), d3]], σ3.toks⟩ σ1.objs.length d2 os rs := hV2.on fun hn => by
        have := hV2.lt hn
        exact (List.getElem?_append_left (by omega)).trans (hF3.keep _ this fun e => e)
      have hF4 : Fr σ1 ⟨σ3.objs ++ [.cells [.v (.int .i64 (tot os)), .v (.int .i64 kind), d3]], σ3.toks⟩ (fun _ => False) := (hF2.trans hF3 (U := fun _ => False) (fun _ _ e => e) fun _ _ e => e).trans (by simpa using Fr.add σ3 [.cells [.v (.int .i64 (tot os)), .v (.int .i64 kind), d3]] [] (fun _ => False)) (fun _ _ e => e) fun _ _ e => e
      have hVI4 : VI ⟨σ3.objs ++ [.cells [.v (.int .i64 (tot os)), .v (.int .i64 kind), d3]], σ3.toks⟩ id d3 l := hV3.on fun hn => List.getElem?_append_left (hV3.lt hn)
      refine appd_VR (o := ⟨kind, l⟩) (r := ⟨id, d3⟩) hV4 (by omega) fun o5 d5 σ5 f1 f2 f3 => ?_
      have hB5 := RB.snoc (base := 0) (dN := d2) (oN := σ1.objs.length) ⟨hV4, fun k a q k1 k2 => (hR1.inn k a q k1 k2).fr hF4 fun _ e => e, fun _ => Nat.zero_le _, fun k a q k1 k2 k3 => ⟨Nat.zero_le _, by have := (hR1.inn k a q k1 k2).lt k3; omega⟩, hR1.nd⟩ (o := ⟨kind, l⟩) hVI4 (Nat.zero_le _)
        (fun hn => ⟨fun hn2 => by have := hV2.lt hn2; omega, fun k a q k1 k2 k3 => by have := (hR1.inn k a q k1 k2).lt k3; omega⟩) f1 f2 f3 (Nat.zero_le _)
      have hl4 := hF4.len
      have hF15 := hF4.trans f2 (U := fun i => False) (fun _ _ e => e) fun k hk e => absurd e.1 (by omega)
      have hc5 : σ5.objs[m]? = _ := (hF15.keep m hml1 fun e => e).trans hc1
      have hml5 := (List.getElem?_eq_some_iff.1 hc5).1
      obtain ⟨hN1, hN2⟩ := hB5.top.cell
      simp -implicitDefEqProofs (maxSteps := 2000000) (disch := omega) [-getElem?_pos, hc5, hN1, hN2, cells_int, lies_v, -mkAgg, -D.cells, -D.lies]
      have hfs : Fr σ5 ⟨σ5.objs.set m (Ob.cells [.v (.int .i64 half), d5, .v (.int .i64 runs)]), σ5.toks⟩ (fun k => k = m) := Fr.set rfl
      have ho5 : o5 ≠ m := by
        rcases f3 with ⟨e, _⟩ | e
        · omega
        · simp at e; omega
      have hnm : ∀ (k : Nat) a q, (os ++ [⟨kind, l⟩])[k]? = some a → (rs ++ [⟨id, d3⟩])[k]? = some q → a.l ≠ [] → q.id ≠ m := fun k a q k1 k2 k3 => by
        have hrl := hR1.top.len
        rcases snoc_get k1 with ⟨g1, g2⟩ | ⟨g1, g2⟩
        · rw [List.getElem?_append_left (by omega)] at k2
          exact (hR1.nm k a q g2 k2 k3).1
        · subst g1 g2
          rw [← hrl] at k2
          simp at k2
          subst k2
          dsimp only
          omega
      refine ⟨_, _, WeakR.refl _ _ _, o5, d5, rs ++ [⟨id, d3⟩], os ++ [⟨kind, l⟩], runs, ⟨List.getElem?_set_self hml5, hB5.top.fr hfs fun _ e => ho5 e, fun k a q k1 k2 => (hB5.inn k a q k1 k2).fr hfs fun hn e => hnm k a q k1 k2 hn e, fun _ => ho5, fun k a q k1 k2 k3 => ⟨hnm k a q k1 k2 k3, (hB5.nm k a q k1 k2 k3).2⟩, hB5.nd⟩, ?_, ?_, ⟨_, _, .inr ⟨hf2, rfl, rfl⟩⟩, hrun1⟩
      · exact (hFr1.trans hF15 (U := fun k => k = m) (fun _ _ e => e) fun _ _ e => e.elim).trans hfs (fun _ _ e => e) fun _ _ e => e
      · have hl1 := hFr1.len
        rintro k (e | ⟨e, hn⟩ | ⟨q, a, z, k1, k2, k3, e⟩)
        · exact .inl (.inl e)
        · refine .inr ?_
          rcases f3 with ⟨e', _⟩ | e'
          · omega
          · simp at e'; omega
        · have hrl := hR1.top.len
          rcases snoc_get k1 with ⟨g1, g2⟩ | ⟨g1, g2⟩
          · rw [List.getElem?_append_left (by omega)] at k2
            exact hRS1 k (.inr (.inr ⟨q, a, z, g2, k2, k3, e⟩))
          · subst g1 g2
            rw [← hrl] at k2
            simp at k2
            subst k2
            subst e
            exact .inr (by omega)

theorem k_RAs (w : Wd) (σ : Sg) : ACalls Try.prog 22 [.v (wv w)] σ fun r σ' => r = .v (wv w) ∧ σ' = σ := by
  refine acalls_fit Try.func22 (by kernel_rfl) c22 rfl (by simp [a22]) fun hf => ?_
  clear hf
  simp -implicitDefEqProofs (maxSteps := 2000000) (disch := omega) [-getElem?_pos, a22]
  exact .fin _ ⟨rfl, rfl⟩ (.refl _)
theorem k_RAll {σ : Sg} {l : List Wd} {f : Bool} (hl : l.length ≤ 1000000) : ACalls Try.prog 17 [.v (.sl (some 2) f (l.map wv))] σ fun r σ' => r = .v (.sl (some 2) false (l.map wv)) ∧ σ' = σ := by
  obtain ⟨OW, hOW⟩ : ∃ OW, OW = l.map wv := ⟨_, rfl⟩
  have hOl : OW.length = l.length := by rw [hOW]; simp
  have hOi : ∀ (i : Nat) w, l[i]? = some w → OW.take (i + 1) = OW.take i ++ [wv w] := fun i w hw => by
    rw [hOW, List.take_add_one, List.getElem?_map, hw]
    rfl
  refine acalls_fit Try.func17 (by kernel_rfl) c17 rfl (by simp [a17]) fun hf => ?_
  clear hf
  simp -implicitDefEqProofs (maxSteps := 2000000) (disch := omega) [-getElem?_pos, a17]
  refine W_loop (α := Nat) 0 (fun x => l.length - x) (fun x => ⟨[(0, .v (.sl (some 2) f (l.map wv))), (3, .tsl σ.toks.length (some 2) (OW.take x)), (4, .v (.int .i64 x))], ⟨σ.objs, σ.toks ++ [x]⟩⟩)
    (fun x => x ≤ l.length) (.tok (sh := some 2) (i := 3) (by simp) (by simp)) (Nat.zero_le _) fun i hi => ?_
  have hOt : (OW.take i).length = i := by rw [List.length_take, hOl]; omega
  simp -implicitDefEqProofs (maxSteps := 2000000) (disch := omega) [-getElem?_pos]
  refine .mk (fun hlt => ?_) fun hlt => ?_
  · have hlt' : i < l.length := by omega
    obtain ⟨x, hx⟩ : ∃ x, l[i]? = some x := ⟨_, List.getElem?_eq_getElem hlt'⟩
    have hon := hOi i x hx
    have hka := k_RAs x ⟨σ.objs, σ.toks ++ [i]⟩
    simp -implicitDefEqProofs (maxSteps := 2000000) (disch := omega) [-getElem?_pos, hx]
    refine ⟨hlt', ?_⟩
    refine hka.then fun r hq => ?_
    subst hq
    simp -implicitDefEqProofs (maxSteps := 2000000) (disch := omega) [-getElem?_pos, hOt]
    exact ⟨by omega, i + 1, hlt', by dsimp only; omega, .eq (by simp [hon])⟩
  · have hie : i = l.length := by omega
    subst hie
    have hOe : OW.take l.length = OW := List.take_of_length_le (by omega)
    rw [hOe, ← hOW]
    simp -implicitDefEqProofs (maxSteps := 2000000) (disch := omega) [-getElem?_pos]
    exact .fin (.v (.sl (some 2) false OW)) ⟨rfl, rfl⟩ .tsl
theorem k_RSameA {σ : Sg} {a b : List Wd} {f g : Bool}     (hl : a.length ≤ 1000000) : ACalls Try.prog 19 [.v (.sl (some 2) f (a.map wv)), .v (.sl (some 2) g (b.map wv))] σ fun r σ' => r = .v (.bool (decide (a = b))) ∧ σ' = σ := by
  skip
  refine acalls_fit Try.func19 (by kernel_rfl) c19 rfl (by simp [a19]) fun hf => ?_
  clear hf
  by_cases hlen : a.length = b.length
  · simp -implicitDefEqProofs (maxSteps := 2000000) (disch := omega) [-getElem?_pos, a19, hlen, wv]
    refine W_loop (α := Nat) 0 (fun x => b.length - x) (fun x => ⟨[(0, .v (.sl (some 2) f (a.map wv))), (1, .v (.sl (some 2) g (b.map wv))), (4, .v (.bool false)), (5, .v (.int .i64 x))], σ⟩)
      (fun x => x ≤ b.length ∧ a.take x = b.take x) (.eq (by simp)) ⟨Nat.zero_le _, by simp⟩ fun i ⟨hi, hn⟩ => ?_
    simp -implicitDefEqProofs (maxSteps := 2000000) (disch := omega) [-getElem?_pos, hlen]
    refine .mk (fun hlt => ?_) fun hlt => ?_
    · have hlt' : i < b.length := by omega
      obtain ⟨y, hy⟩ : ∃ y, b[i]? = some y := ⟨_, List.getElem?_eq_getElem hlt'⟩
      obtain ⟨x, hx⟩ : ∃ x, a[i]? = some x := ⟨_, List.getElem?_eq_getElem (by omega)⟩
      skip
      obtain ⟨p, v⟩ := x
      obtain ⟨q, u⟩ := y
      by_cases he : (⟨p, v⟩ : Wd) = ⟨q, u⟩
      · injection he with e1 e2
        subst e1 e2
        simp -implicitDefEqProofs (maxSteps := 2000000) (disch := omega) [-getElem?_pos, hx, hy, hlen, wv]
        exact ⟨hlt',  i + 1, ⟨hlt', by rw [List.take_add_one, List.take_add_one, hx, hy, hn]⟩, by dsimp only; omega, .eq (by simp)⟩
      · have hd : decide (a = b) = false := decide_eq_false fun e => by
          subst e
          rw [hx] at hy
          exact he (Option.some.inj hy)
        rw [hd]
        have hne : ¬ p = q ∨ ¬ v = u := by
          by_cases e1 : p = q
          · exact .inr fun e2 => he (by rw [e1, e2])
          · exact .inl e1
        simp -implicitDefEqProofs (maxSteps := 2000000) (disch := omega) [-getElem?_pos, hx, hy, hlen, wv]
        refine ⟨hlt',  .mk (fun _ => ?_) fun e => absurd hne e⟩
        simp -implicitDefEqProofs (maxSteps := 2000000) (disch := omega) [-getElem?_pos]
        exact .fin _ ⟨rfl, rfl⟩ (.refl _)
    · have hie : i = b.length := by omega
      subst hie
      rw [List.take_length, ← hlen, List.take_length] at hn
      rw [decide_eq_true hn]
      simp -implicitDefEqProofs (maxSteps := 2000000) (disch := omega) [-getElem?_pos]
      exact .fin _ ⟨rfl, rfl⟩ (.refl _)
  · have hd : decide (a = b) = false := decide_eq_false fun e => hlen (by rw [e])
    rw [hd]
    have hlen' : ¬ (a.length : Int) = b.length := by omega
    simp -implicitDefEqProofs (maxSteps := 2000000) (disch := omega) [-getElem?_pos, a19, hlen, hlen', wv]
    exact .fin _ ⟨rfl, rfl⟩ (.refl _)

theorem k_RSameB {σ : Sg} {a b : List Wd} {f g : Bool} {o : Nat} {dW : D} (hv : VI σ o dW b) (hl : a.length ≤ 1000000) : ACalls Try.prog 19 [.v (.sl (some 2) f (a.map wv)), dW] σ fun r σ' => r = .v (.bool (decide (a = b))) ∧ σ' = σ := by
  have hwv : ∀ (σ' : Sg) (K : V → Prop), WLen .sl dW σ' K = K (.int .i64 b.length) := fun σ' K => wlen_VI hv
  refine acalls_fit Try.func19 (by kernel_rfl) c19 rfl (by simp [a19]) fun hf => ?_
  clear hf
  by_cases hlen : a.length = b.length
  · simp -implicitDefEqProofs (maxSteps := 2000000) (disch := omega) [-getElem?_pos, a19, hlen, hwv]
    refine W_loop (α := Nat) 0 (fun x => b.length - x) (fun x => ⟨[(0, .v (.sl (some 2) f (a.map wv))), (1, dW), (4, .v (.bool false)), (5, .v (.int .i64 x))], σ⟩)
      (fun x => x ≤ b.length ∧ a.take x = b.take x) (.eq (by simp)) ⟨Nat.zero_le _, by simp⟩ fun i ⟨hi, hn⟩ => ?_
    simp -implicitDefEqProofs (maxSteps := 2000000) (disch := omega) [-getElem?_pos, hlen]
    refine .mk (fun hlt => ?_) fun hlt => ?_
    · have hlt' : i < b.length := by omega
      obtain ⟨y, hy⟩ : ∃ y, b[i]? = some y := ⟨_, List.getElem?_eq_getElem hlt'⟩
      obtain ⟨x, hx⟩ : ∃ x, a[i]? = some x := ⟨_, List.getElem?_eq_getElem (by omega)⟩
      obtain ⟨c, cs, rfl, h2, h3, h4, h5, h6⟩ := hv.row hy
      obtain ⟨p, v⟩ := x
      obtain ⟨q, u⟩ := y
      by_cases he : (⟨p, v⟩ : Wd) = ⟨q, u⟩
      · injection he with e1 e2
        subst e1 e2
        simp -implicitDefEqProofs (maxSteps := 2000000) (disch := omega) [-getElem?_pos, hx, hy, hlen, h2, h3, h4, h5, mkAgg, allV]
        exact ⟨hlt', by omega, i + 1, ⟨hlt', by rw [List.take_add_one, List.take_add_one, hx, hy, hn]⟩, by dsimp only; omega, .eq (by simp)⟩
      · have hd : decide (a = b) = false := decide_eq_false fun e => by
          subst e
          rw [hx] at hy
          exact he (Option.some.inj hy)
        rw [hd]
        have hne : ¬ p = q ∨ ¬ v = u := by
          by_cases e1 : p = q
          · exact .inr fun e2 => he (by rw [e1, e2])
          · exact .inl e1
        simp -implicitDefEqProofs (maxSteps := 2000000) (disch := omega) [-getElem?_pos, hx, hy, hlen, h2, h3, h4, h5, mkAgg, allV]
        refine ⟨hlt', by omega, .mk (fun _ => ?_) fun e => absurd hne e⟩
        simp -implicitDefEqProofs (maxSteps := 2000000) (disch := omega) [-getElem?_pos]
        exact .fin _ ⟨rfl, rfl⟩ (.refl _)
    · have hie : i = b.length := by omega
      subst hie
      rw [List.take_length, ← hlen, List.take_length] at hn
      rw [decide_eq_true hn]
      simp -implicitDefEqProofs (maxSteps := 2000000) (disch := omega) [-getElem?_pos]
      exact .fin _ ⟨rfl, rfl⟩ (.refl _)
  · have hd : decide (a = b) = false := decide_eq_false fun e => hlen (by rw [e])
    rw [hd]
    have hlen' : ¬ (a.length : Int) = b.length := by omega
    simp -implicitDefEqProofs (maxSteps := 2000000) (disch := omega) [-getElem?_pos, a19, hlen, hlen', hwv]
    exact .fin _ ⟨rfl, rfl⟩ (.refl _)

theorem k_RCode0 (σ : Sg) : ACalls Try.prog 18 [.v .inil] σ fun r σ' => r = .v (.int .i64 0) ∧ σ' = σ := by
  refine acalls_fit Try.func18 (by kernel_rfl) c18 rfl (by simp [a18]) fun hf => ?_
  clear hf
  simp -implicitDefEqProofs (maxSteps := 2000000) (disch := omega) [-getElem?_pos, a18]
  exact .fin _ ⟨rfl, rfl⟩ (.refl _)
theorem k_RCode (c : Nat) (h1 : 1 ≤ c) (h2 : c ≤ 11) (σ : Sg) : ACalls Try.prog 18 [.v (.iface 39 (.int .i64 c))] σ fun r σ' => r = .v (.int .i64 c) ∧ σ' = σ := by
  refine acalls_fit Try.func18 (by kernel_rfl) c18 rfl (by simp [a18]) fun hf => ?_
  clear hf
  simp -implicitDefEqProofs (maxSteps := 2000000) (disch := omega) [-getElem?_pos, a18]
  refine W_loop (α := Nat) 1 (fun x => 12 - x) (fun x => ⟨[(0, .v (.iface 39 (.int .i64 c))), (3, .v (.int .i64 x))], σ⟩)
    (fun x => 1 ≤ x ∧ x ≤ c) (.eq (by simp)) ⟨by omega, h1⟩ fun i ⟨hi, hn⟩ => ?_
  have h11 : (i : Int) ≤ 11 := by omega
  by_cases he : i = c
  · subst he
    simp -implicitDefEqProofs (maxSteps := 2000000) (disch := omega) [-getElem?_pos, h11]
    exact ⟨by kernel_rfl, .fin _ ⟨rfl, rfl⟩ (.refl _)⟩
  · have he' : ¬ (c : Int) = i := by omega
    simp -implicitDefEqProofs (maxSteps := 2000000) (disch := omega) [-getElem?_pos, h11, he']
    exact ⟨by kernel_rfl, i + 1, ⟨by omega, by omega⟩, by dsimp only; omega, .eq (by simp)⟩
end Go.Proofs.Ytiomciifhkbklaa
