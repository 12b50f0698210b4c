/-
  A heap, walked: an object is put behind the others. (Own work.)
-/
import Derived.Test.YtiomciifhkbklaaH6
set_option linter.unusedVariables false
set_option linter.unusedSimpArgs false
set_option maxHeartbeats 1000000
namespace Go.Proofs.Ytiomciifhkbklaa
open Go Go.Abs

theorem appm_VW {σ : Sg} {o : Nat} {d : D} {ws ys : List Wd} {K : D → Sg → Prop} (h : VW σ o d ws) (hy : ys ≠ []) (hn : (ws.length + ys.length) * 16 ≤ 140737488355328)
    (key : ∀ o' d' σ', VW σ' o' d' (ws ++ ys) → Fr σ σ' (fun i => i = o ∧ ws ≠ []) → (o' = o ∧ ws ≠ [] ∨ o' = σ.objs.length) → K d' σ') : WApmV (some 2) 16 d (ys.map wv) σ K := by
  have hfl : (V.flat (ys.map wv)).map D.v = fl ys := by rw [flat_wv]; rfl
  have hy1 : 0 < ys.length := List.length_pos_iff.2 hy
  cases h with
  | nil =>
    rw [WApmV_snil, WM0_go]
    refine .mk (fun e => absurd (List.map_eq_nil_iff.1 e) hy) fun _ => ?_
    rw [TMs_go]
    refine ⟨by simp at hn ⊢; omega, fun c => ?_⟩
    rw [TM0_go]
    intro h1 h2
    rw [hfl]
    rw [List.length_map] at h1 ⊢
    refine key _ _ _ (.msl (J := List.replicate ((c - ys.length) * shn (some 2)) .junk) (by simpa using hy) (by simp [Sg.add]) ?_ h2) (by simpa [Sg.add] using Fr.add σ _ [] _) (.inr rfl)
    rw [List.length_append, fl_len, List.length_replicate]
    show ys.length * 2 + (c - ys.length) * 2 = c * 2
    omega
  | msl w1 w2 w3 w4 =>
    rename_i J c
    have hl := (List.getElem?_eq_some_iff.1 w2).1
    have hap := put_app (ws := ws) (ys := ys) (J := J)
    rw [WApmV_msl, WM1_go, w2]
    rw [List.length_append, fl_len] at w3
    refine .mk (fun h1 => ?_) fun h1 => ?_
    · rw [TR1_go, hfl]
      rw [List.length_map] at h1 ⊢
      refine ⟨by simp [fl_len, shn]; omega, ?_⟩
      rw [show 0 + ws.length * shn (some 2) = ws.length * 2 by simp [shn], hap]
      have hv := VW.msl (σ := σ.put o (.cells (fl (ws ++ ys) ++ List.drop (ys.length * 2) J))) (o := o) (ws := ws ++ ys) (J := List.drop (ys.length * 2) J) (c := c) (by simp [w1]) (by simp [Sg.put, hl]) (by rw [List.length_append, fl_len, List.length_drop, List.length_append]; omega) w4
      rw [List.length_append] at hv
      refine key _ _ _ hv ?_ (.inl ⟨rfl, w1⟩)
      refine ⟨by simp [Sg.put], fun j hj hn => ?_, Nat.le_refl _, fun _ _ => rfl⟩
      show (σ.objs.set o _)[j]? = _
      exact List.getElem?_set_ne (fun e => hn ⟨e.symm, w1⟩)
    · rw [TG1_go, hfl]
      rw [List.length_map] at h1 ⊢
      refine ⟨by simp [fl_len, shn], hn, fun c' h2 h3 => ?_⟩
      have hpa := fl_part (ws := ws) (a := 0) (n := ws.length) (J := J) (by omega)
      simp only [Nat.zero_mul, List.drop_zero, List.take_length] at hpa
      rw [List.drop_zero, show ws.length * shn (some 2) = ws.length * 2 by simp [shn], hpa, ← List.append_assoc, ← fl_app]
      have hv := VW.msl (σ := σ.add (.cells (fl (ws ++ ys) ++ List.replicate ((c' - (ws.length + ys.length)) * shn (some 2)) .junk))) (o := σ.objs.length) (ws := ws ++ ys) (J := List.replicate ((c' - (ws.length + ys.length)) * shn (some 2)) .junk) (c := c') (by simp [w1]) (by simp [Sg.add])
        (by rw [List.length_append, fl_len, List.length_replicate, List.length_append]; show _ + (c' - (ws.length + ys.length)) * 2 = _; omega) h3
      rw [List.length_append] at hv
      exact key _ _ _ hv (by simpa [Sg.add] using Fr.add σ _ [] _) (.inr rfl)
theorem appm_VB {σ : Sg} {o : Nat} {d : D} {ws ys : List Bool} {K : D → Sg → Prop} (h : VB σ o d ws) (hy : ws ++ ys ≠ []) (hn : (ws.length + ys.length) * 1 ≤ 140737488355328)
    (key : ∀ o' d' σ', VB σ' o' d' (ws ++ ys) → Fr σ σ' (fun i => i = o ∧ ws ≠ []) → (o' = o ∧ ws ≠ [] ∨ o' = σ.objs.length) → K d' σ') : WApmV none 1 d (ys.map .bool) σ K := by
  have hfl : (V.flat (ys.map V.bool)).map D.v = ys.map fun b => .v (.bool b) := by
    rw [V.flat, List.flatMap_map]
    clear key hn hy
    induction ys with
    | nil => rfl
    | cons y ys ih =>
      rw [List.flatMap_cons, List.map_append, List.map_cons, ih]
      rfl
  cases h with
  | nil =>
    rw [List.nil_append] at hy
    have hy1 : 0 < ys.length := List.length_pos_iff.2 hy
    rw [WApmV_snil, WM0_go]
    refine .mk (fun e => absurd (List.map_eq_nil_iff.1 e) hy) fun _ => ?_
    rw [TMs_go]
    refine ⟨by simp at hn ⊢; omega, fun c => ?_⟩
    rw [TM0_go]
    intro h1 h2
    rw [hfl]
    rw [List.length_map] at h1 ⊢
    refine key _ _ _ (.msl (J := List.replicate ((c - ys.length) * shn none) .junk) (by simpa using hy) (by simp [Sg.add]) ?_ h2) (by simpa [Sg.add] using Fr.add σ _ [] _) (.inr rfl)
    rw [List.length_replicate]
    show ys.length + (c - ys.length) * 1 = c
    omega
  | msl w1 w2 w3 w4 =>
    rename_i J c
    have hl := (List.getElem?_eq_some_iff.1 w2).1
    rw [WApmV_msl, WM1_go, w2]
    refine .mk (fun h1 => ?_) fun h1 => ?_
    · rw [TR1_go, hfl]
      rw [List.length_map] at h1 ⊢
      refine ⟨by simp [shn]; omega, ?_⟩
      have hap : putAt (ws.map (fun b => D.v (.bool b)) ++ J) (0 + ws.length * shn none) (ys.map fun b => D.v (.bool b)) = (ws ++ ys).map (fun b => D.v (.bool b)) ++ J.drop ys.length := by
        unfold putAt
        rw [show 0 + ws.length * shn none = (ws.map fun b => D.v (.bool b)).length by simp [shn], List.take_left' rfl, ← List.drop_drop, List.drop_left' rfl]
        simp
      rw [hap]
      have hv := VB.msl (σ := σ.put o (.cells ((ws ++ ys).map (fun b => D.v (.bool b)) ++ J.drop ys.length))) (o := o) (hs := ws ++ ys) (J := J.drop ys.length) (c := c) (by simp [w1]) (by simp [Sg.put, hl]) (by rw [List.length_drop, List.length_append]; omega) w4
      rw [List.length_append] at hv
      refine key _ _ _ hv ?_ (.inl ⟨rfl, w1⟩)
      refine ⟨by simp [Sg.put], fun j hj hn => ?_, Nat.le_refl _, fun _ _ => rfl⟩
      show (σ.objs.set o _)[j]? = _
      exact List.getElem?_set_ne (fun e => hn ⟨e.symm, w1⟩)
    · rw [TG1_go, hfl]
      rw [List.length_map] at h1 ⊢
      refine ⟨by simp [shn], hn, fun c' h2 h3 => ?_⟩
      rw [List.drop_zero, show ws.length * shn none = (ws.map fun b => D.v (.bool b)).length by simp [shn], List.take_left' rfl, ← List.append_assoc, ← List.map_append]
      have hv := VB.msl (σ := σ.add (.cells ((ws ++ ys).map (fun b => D.v (.bool b)) ++ List.replicate ((c' - (ws.length + ys.length)) * shn none) .junk))) (o := σ.objs.length) (hs := ws ++ ys) (J := List.replicate ((c' - (ws.length + ys.length)) * shn none) .junk) (c := c') (by simp [w1]) (by simp [Sg.add])
        (by rw [List.length_replicate, List.length_append]; show _ + (c' - (ws.length + ys.length)) * 1 = _; omega) h3
      rw [List.length_append] at hv
      exact key _ _ _ hv (by simpa [Sg.add] using Fr.add σ _ [] _) (.inr rfl)
theorem VW.fr {σ σ' : Sg} {o : Nat} {d : D} {ws : List Wd} {S : Nat → Prop} (h : VW σ o d ws) (k : Fr σ σ' S) (hn : ws ≠ [] → ¬ S o) : VW σ' o d ws := h.on fun hw => by
  cases h with
  | nil => exact absurd rfl hw
  | msl w1 w2 w3 w4 => exact k.keep o (List.getElem?_eq_some_iff.1 w2).1 (hn hw)
theorem VB.fr {σ σ' : Sg} {o : Nat} {d : D} {ws : List Bool} {S : Nat → Prop} (h : VB σ o d ws) (k : Fr σ σ' S) (hn : ws ≠ [] → ¬ S o) : VB σ' o d ws := h.on fun hw => by
  cases h with
  | nil => exact absurd rfl hw
  | msl w1 w2 w3 w4 => exact k.keep o (List.getElem?_eq_some_iff.1 w2).1 (hn hw)
theorem VW.lt {σ : Sg} {o : Nat} {d : D} {ws : List Wd} (h : VW σ o d ws) (hw : ws ≠ []) : o < σ.objs.length := by
  cases h with
  | nil => exact absurd rfl hw
  | msl w1 w2 w3 w4 => exact (List.getElem?_eq_some_iff.1 w2).1
theorem VB.lt {σ : Sg} {o : Nat} {d : D} {ws : List Bool} (h : VB σ o d ws) (hw : ws ≠ []) : o < σ.objs.length := by
  cases h with
  | nil => exact absurd rfl hw
  | msl w1 w2 w3 w4 => exact (List.getElem?_eq_some_iff.1 w2).1
theorem VW.dest {σ : Sg} {o : Nat} {d : D} {ws : List Wd} (h : VW σ o d ws) (hw : ws ≠ []) : ∃ c, d = .msl o 0 ws.length (some 2) (some c) := by
  cases h with
  | nil => exact absurd rfl hw
  | msl w1 w2 w3 w4 => exact ⟨_, rfl⟩
theorem VB.dest {σ : Sg} {o : Nat} {d : D} {ws : List Bool} (h : VB σ o d ws) (hw : ws ≠ []) : ∃ c, d = .msl o 0 ws.length none (some c) := by
  cases h with
  | nil => exact absurd rfl hw
  | msl w1 w2 w3 w4 => exact ⟨_, rfl⟩
theorem Fr.set {σ : Sg} {o : Nat} {X : Ob} {S : Nat → Prop} (h : S o) : Fr σ ⟨σ.objs.set o X, σ.toks⟩ S :=
  ⟨by simp, fun j hj hn => List.getElem?_set_ne (by rintro rfl; exact hn h), Nat.le_refl _, fun j hj => rfl⟩
/-- What a heap may change. -/
def HS (hp oL oH : Nat) (os : List Ho) (i : Nat) : Prop := i = hp ∨ i = oL ∧ os ≠ [] ∨ i = oH ∧ os ≠ []
/-- Its rows lie where they lay, or are new. -/
def Nw (σ : Sg) (o o' : Nat) (os : List Ho) : Prop := o' = o ∧ os ≠ [] ∨ σ.objs.length ≤ o'
theorem k_PutA {σ : Sg} {hp oL oH oS off cS : Nat} {half runs : Int} {os : List Ho} {dl dh : D} {o : Ho} {ys : List Wd} {f : Bool} {cs : List D} (h : Hp σ hp oL oH half os runs dl dh) (hy : ys = headW o :: o.l) (hz : tot os + osz o ≤ 1000000)   :
    ACalls Try.prog 33 [.ptr hp 0, .v (.sl (some 2) f (ys.map wv))] σ fun r σ' => ∃ oL' oH' dl' dh', Hp σ' hp oL' oH' half (os ++ [o]) runs dl' dh' ∧ Fr σ σ' (HS hp oL oH os) ∧ Nw σ oL oL' os ∧ Nw σ oH oH' os := by
  have hc := h.cell
  have hcl := (List.getElem?_eq_some_iff.1 hc).1
  have hyl : ys.length = 1 + o.l.length := by rw [hy]; simp; omega
  have hlw := wds_len os
  have hlh := hds_len os
  have hosz : osz o = 1 + o.l.length := rfl
  have hyl0 : ¬ ys.length = 0 := by omega
  have hyn : ys ≠ [] := by rw [hy]; simp
  have hcs0 : ¬ (1 + o.l.length = 0) := by omega
  refine acalls_fit Try.func33 (by kernel_rfl) c33m rfl (by simp [a33m]) fun hf => ?_
  clear hf
  simp -implicitDefEqProofs (maxSteps := 2000000) (disch := omega) [-getElem?_pos, a33m, hc,   hyl0]
  skip
  refine appm_VW h.vw hyn (by omega) fun o1 d1 σ1 hv1 hf1 hn1 => ?_
  have hhd : hds os ≠ [] ↔ wds os ≠ [] := by rw [hds_ne, wds_ne]
  have hc1 : σ1.objs[hp]? = _ := (hf1.keep hp hcl fun e => h.n1 e.1.symm).trans hc
  have hcl1 := (List.getElem?_eq_some_iff.1 hc1).1
  have hs1 : ∀ X : Ob, (σ1.objs.set hp X)[hp]? = some X := fun X => List.getElem?_set_self hcl1
  have ho1 : o1 < σ1.objs.length := hv1.lt (by simp [hyn])
  have ho1p : o1 ≠ hp := by
    rcases hn1 with ⟨e, _⟩ | e
    · rw [e]; exact h.n1
    · omega
  obtain ⟨c1, hd1⟩ := hv1.dest (by simp [hyn])
  rw [List.length_append] at hd1
  subst hd1
  simp -implicitDefEqProofs (maxSteps := 2000000) (disch := omega) [-getElem?_pos, hc1, hs1]
  have hf2 : Fr σ1 ⟨σ1.objs.set hp (.cells [.v (.int .i64 half), .msl o1 0 ((wds os).length + ys.length) (some 2) (some c1), dh, .v (.int .i64 runs)]), σ1.toks⟩ (fun i => i = hp) := .set rfl
  have hvb2 := (h.vb.fr hf1 fun hw e => h.n3 e.1.symm).fr hf2 fun _ e => h.n2 e
  have hv2 := hv1.fr hf2 fun _ e => ho1p e
  refine appm_VB (ys := [true]) hvb2 (by simp) (by simp [hds_len]; omega) fun o3 d3 σ3 hv3 hf3 hn3 => ?_
  have ho13 : o3 ≠ o1 := by
    rcases hn3 with ⟨e, hw⟩ | e
    · rcases hn1 with ⟨e1, _⟩ | e1
      · rw [e, e1]; exact Ne.symm h.n3
      · have := h.vb.lt hw; omega
    · simp at e; omega
  have hv3w := hv2.fr hf3 fun _ e => by
    rcases hn1 with ⟨e1, _⟩ | e1
    · exact h.n3 (by rw [← e1]; exact e.1)
    · have := h.vb.lt e.2; omega
  have hc3 : σ3.objs[hp]? = _ := (hf3.keep hp (by simpa using hcl1) fun e => h.n2 e.1.symm).trans (hs1 _)
  have hcl3 := (List.getElem?_eq_some_iff.1 hc3).1
  have hs3 : ∀ X : Ob, (σ3.objs.set hp X)[hp]? = some X := fun X => List.getElem?_set_self hcl3
  have ho3p : o3 ≠ hp := by
    rcases hn3 with ⟨e, _⟩ | e
    · rw [e]; exact h.n2
    · simp at e; omega
  simp -implicitDefEqProofs (maxSteps := 2000000) (disch := omega) [-getElem?_pos, hyl]
  refine ⟨by omega, by omega, ?_⟩
  have hrep : List.replicate ((1 + (o.l.length : Int)).toNat - 1) (zrow none [V.bool false]) = (List.replicate o.l.length false).map V.bool := by
    rw [show (1 + (o.l.length : Int)).toNat - 1 = o.l.length by omega, List.map_replicate]
    rfl
  rw [hrep]
  refine appm_VB hv3 (by simp) (by simp [hds_len]; omega) fun o4 d4 σ4 hv4 hf4 hn4 => ?_
  have ho3l := hv3.lt (by simp)
  have ho14 : o4 ≠ o1 := by
    rcases hn4 with ⟨e, _⟩ | e
    · rw [e]; exact ho13
    · have := hv3w.lt (by simp [hyn]); omega
  have hv4w := hv3w.fr hf4 fun _ e => ho13 e.1.symm
  have hc4 : σ4.objs[hp]? = _ := (hf4.keep hp hcl3 fun e => ho3p e.1.symm).trans hc3
  have hcl4 := (List.getElem?_eq_some_iff.1 hc4).1
  have ho4p : o4 ≠ hp := by
    rcases hn4 with ⟨e, _⟩ | e
    · rw [e]; exact ho3p
    · omega
  obtain ⟨c4, hd4⟩ := hv4.dest (by simp)
  subst hd4
  have hl4 : ((hds os ++ [true]) ++ List.replicate o.l.length false).length = tot os + (1 + o.l.length) := by simp [hds_len]; omega
  simp -implicitDefEqProofs (maxSteps := 2000000) (disch := omega) [-getElem?_pos, hc4, hyl]
  have hf5 : ∀ X : Ob, Fr σ4 ⟨σ4.objs.set hp X, σ4.toks⟩ (fun i => i = hp) := fun X => .set rfl
  have hlen3 : σ1.objs.length ≤ σ3.objs.length := by have := hf3.len; simpa using this
  have hFr : ∀ X : Ob, Fr σ ⟨σ4.objs.set hp X, σ4.toks⟩ (HS hp oL oH os) := fun X => by
    have g1 : Fr σ σ1 (HS hp oL oH os) := hf1.trans (.refl _ (fun _ => False)) (fun i _ e => .inr (.inl ⟨e.1, wds_ne.1 e.2⟩)) (fun i _ e => e.elim)
    have g2 := g1.trans hf2 (fun _ _ h => h) (fun i _ e => .inl e)
    have g3 := g2.trans hf3 (fun _ _ h => h) (fun i _ e => .inr (.inr ⟨e.1, hds_ne.1 e.2⟩))
    have g4 := g3.trans hf4 (U := HS hp oL oH os) (fun _ _ h => h) (fun i hi e => by
      rcases hn3 with ⟨e3, hw⟩ | e3
      · exact .inr (.inr ⟨e.1.trans e3, hds_ne.1 hw⟩)
      · have := hf1.len
        simp at e3
        omega)
    exact g4.trans (hf5 X) (fun _ _ h => h) (fun i _ e => .inl e)
  refine ⟨_, _, WeakR.refl _ _ _, o1, o4, ⟨_, _, ⟨List.getElem?_set_self hcl4, ?_, ?_, ho1p, ho4p, Ne.symm ho14⟩⟩, hFr _, ?_, ?_⟩
  · have : wds (os ++ [o]) = wds os ++ ys := by rw [wds_app, hy]; simp [wds]
    rw [this]
    rw [hyl] at hv4w
    exact hv4w.fr (hf5 _) fun _ e => ho1p e
  · have : hds (os ++ [o]) = hds os ++ [true] ++ List.replicate o.l.length false := by rw [hds_app]; simp [hds]
    rw [this]
    have h9 : (hds os ++ [true] ++ List.replicate o.l.length false).length = (hds os).length + (o.l.length + 1) := by simp
    rw [h9] at hv4
    exact hv4.fr (hf5 _) fun _ e => ho4p e
  · rcases hn1 with ⟨e, hw⟩ | e
    · exact .inl ⟨e, wds_ne.1 hw⟩
    · exact .inr (by omega)
  · rcases hn4 with ⟨e, _⟩ | e
    · rcases hn3 with ⟨e3, hw⟩ | e3
      · exact .inl ⟨e.trans e3, hds_ne.1 hw⟩
      · have := hf1.len
        simp at e3
        exact .inr (by omega)
    · have := hf1.len
      exact .inr (by omega)

theorem k_PutB {σ : Sg} {hp oL oH oS off cS : Nat} {half runs : Int} {os : List Ho} {dl dh : D} {o : Ho} {ys : List Wd} {f : Bool} {cs : List D} (h : Hp σ hp oL oH half os runs dl dh) (hy : ys = headW o :: o.l) (hz : tot os + osz o ≤ 1000000) (hs : σ.objs[oS]? = some (.cells cs)) (hd : (cs.drop off).take (ys.length * 2) = fl ys) (ho : off + ys.length * 2 ≤ cs.length) :
    ACalls Try.prog 33 [.ptr hp 0, .msl oS off ys.length (some 2) (some cS)] σ fun r σ' => ∃ oL' oH' dl' dh', Hp σ' hp oL' oH' half (os ++ [o]) runs dl' dh' ∧ Fr σ σ' (HS hp oL oH os) ∧ Nw σ oL oL' os ∧ Nw σ oH oH' os := by
  have hc := h.cell
  have hcl := (List.getElem?_eq_some_iff.1 hc).1
  have hyl : ys.length = 1 + o.l.length := by rw [hy]; simp; omega
  have hlw := wds_len os
  have hlh := hds_len os
  have hosz : osz o = 1 + o.l.length := rfl
  have hyl0 : ¬ ys.length = 0 := by omega
  have hyn : ys ≠ [] := by rw [hy]; simp
  have hcs0 : ¬ (1 + o.l.length = 0) := by omega
  refine acalls_fit Try.func33 (by kernel_rfl) c33m rfl (by simp [a33m]) fun hf => ?_
  clear hf
  simp -implicitDefEqProofs (maxSteps := 2000000) (disch := omega) [-getElem?_pos, a33m, hc, hs, hd, ho, allV_fl, rowsV, chunk_fl, hyl0]
  refine ⟨by intro e; rw [e] at ho; simp at ho; omega, ?_⟩
  refine appm_VW h.vw hyn (by omega) fun o1 d1 σ1 hv1 hf1 hn1 => ?_
  have hhd : hds os ≠ [] ↔ wds os ≠ [] := by rw [hds_ne, wds_ne]
  have hc1 : σ1.objs[hp]? = _ := (hf1.keep hp hcl fun e => h.n1 e.1.symm).trans hc
  have hcl1 := (List.getElem?_eq_some_iff.1 hc1).1
  have hs1 : ∀ X : Ob, (σ1.objs.set hp X)[hp]? = some X := fun X => List.getElem?_set_self hcl1
  have ho1 : o1 < σ1.objs.length := hv1.lt (by simp [hyn])
  have ho1p : o1 ≠ hp := by
    rcases hn1 with ⟨e, _⟩ | e
    · rw [e]; exact h.n1
    · omega
  obtain ⟨c1, hd1⟩ := hv1.dest (by simp [hyn])
  rw [List.length_append] at hd1
  subst hd1
  simp -implicitDefEqProofs (maxSteps := 2000000) (disch := omega) [-getElem?_pos, hc1, hs1]
  have hf2 : Fr σ1 ⟨σ1.objs.set hp (.cells [.v (.int .i64 half), .msl o1 0 ((wds os).length + ys.length) (some 2) (some c1), dh, .v (.int .i64 runs)]), σ1.toks⟩ (fun i => i = hp) := .set rfl
  have hvb2 := (h.vb.fr hf1 fun hw e => h.n3 e.1.symm).fr hf2 fun _ e => h.n2 e
  have hv2 := hv1.fr hf2 fun _ e => ho1p e
  refine appm_VB (ys := [true]) hvb2 (by simp) (by simp [hds_len]; omega) fun o3 d3 σ3 hv3 hf3 hn3 => ?_
  have ho13 : o3 ≠ o1 := by
    rcases hn3 with ⟨e, hw⟩ | e
    · rcases hn1 with ⟨e1, _⟩ | e1
      · rw [e, e1]; exact Ne.symm h.n3
      · have := h.vb.lt hw; omega
    · simp at e; omega
  have hv3w := hv2.fr hf3 fun _ e => by
    rcases hn1 with ⟨e1, _⟩ | e1
    · exact h.n3 (by rw [← e1]; exact e.1)
    · have := h.vb.lt e.2; omega
  have hc3 : σ3.objs[hp]? = _ := (hf3.keep hp (by simpa using hcl1) fun e => h.n2 e.1.symm).trans (hs1 _)
  have hcl3 := (List.getElem?_eq_some_iff.1 hc3).1
  have hs3 : ∀ X : Ob, (σ3.objs.set hp X)[hp]? = some X := fun X => List.getElem?_set_self hcl3
  have ho3p : o3 ≠ hp := by
    rcases hn3 with ⟨e, _⟩ | e
    · rw [e]; exact h.n2
    · simp at e; omega
  simp -implicitDefEqProofs (maxSteps := 2000000) (disch := omega) [-getElem?_pos, hyl]
  refine ⟨by omega, by omega, ?_⟩
  have hrep : List.replicate ((1 + (o.l.length : Int)).toNat - 1) (zrow none [V.bool false]) = (List.replicate o.l.length false).map V.bool := by
    rw [show (1 + (o.l.length : Int)).toNat - 1 = o.l.length by omega, List.map_replicate]
    rfl
  rw [hrep]
  refine appm_VB hv3 (by simp) (by simp [hds_len]; omega) fun o4 d4 σ4 hv4 hf4 hn4 => ?_
  have ho3l := hv3.lt (by simp)
  have ho14 : o4 ≠ o1 := by
    rcases hn4 with ⟨e, _⟩ | e
    · rw [e]; exact ho13
    · have := hv3w.lt (by simp [hyn]); omega
  have hv4w := hv3w.fr hf4 fun _ e => ho13 e.1.symm
  have hc4 : σ4.objs[hp]? = _ := (hf4.keep hp hcl3 fun e => ho3p e.1.symm).trans hc3
  have hcl4 := (List.getElem?_eq_some_iff.1 hc4).1
  have ho4p : o4 ≠ hp := by
    rcases hn4 with ⟨e, _⟩ | e
    · rw [e]; exact ho3p
    · omega
  obtain ⟨c4, hd4⟩ := hv4.dest (by simp)
  subst hd4
  have hl4 : ((hds os ++ [true]) ++ List.replicate o.l.length false).length = tot os + (1 + o.l.length) := by simp [hds_len]; omega
  simp -implicitDefEqProofs (maxSteps := 2000000) (disch := omega) [-getElem?_pos, hc4, hyl]
  have hf5 : ∀ X : Ob, Fr σ4 ⟨σ4.objs.set hp X, σ4.toks⟩ (fun i => i = hp) := fun X => .set rfl
  have hlen3 : σ1.objs.length ≤ σ3.objs.length := by have := hf3.len; simpa using this
  have hFr : ∀ X : Ob, Fr σ ⟨σ4.objs.set hp X, σ4.toks⟩ (HS hp oL oH os) := fun X => by
    have g1 : Fr σ σ1 (HS hp oL oH os) := hf1.trans (.refl _ (fun _ => False)) (fun i _ e => .inr (.inl ⟨e.1, wds_ne.1 e.2⟩)) (fun i _ e => e.elim)
    have g2 := g1.trans hf2 (fun _ _ h => h) (fun i _ e => .inl e)
    have g3 := g2.trans hf3 (fun _ _ h => h) (fun i _ e => .inr (.inr ⟨e.1, hds_ne.1 e.2⟩))
    have g4 := g3.trans hf4 (U := HS hp oL oH os) (fun _ _ h => h) (fun i hi e => by
      rcases hn3 with ⟨e3, hw⟩ | e3
      · exact .inr (.inr ⟨e.1.trans e3, hds_ne.1 hw⟩)
      · have := hf1.len
        simp at e3
        omega)
    exact g4.trans (hf5 X) (fun _ _ h => h) (fun i _ e => .inl e)
  refine ⟨_, _, WeakR.refl _ _ _, o1, o4, ⟨_, _, ⟨List.getElem?_set_self hcl4, ?_, ?_, ho1p, ho4p, Ne.symm ho14⟩⟩, hFr _, ?_, ?_⟩
  · have : wds (os ++ [o]) = wds os ++ ys := by rw [wds_app, hy]; simp [wds]
    rw [this]
    rw [hyl] at hv4w
    exact hv4w.fr (hf5 _) fun _ e => ho1p e
  · have : hds (os ++ [o]) = hds os ++ [true] ++ List.replicate o.l.length false := by rw [hds_app]; simp [hds]
    rw [this]
    have h9 : (hds os ++ [true] ++ List.replicate o.l.length false).length = (hds os).length + (o.l.length + 1) := by simp
    rw [h9] at hv4
    exact hv4.fr (hf5 _) fun _ e => ho4p e
  · rcases hn1 with ⟨e, hw⟩ | e
    · exact .inl ⟨e, wds_ne.1 hw⟩
    · exact .inr (by omega)
  · rcases hn4 with ⟨e, _⟩ | e
    · rcases hn3 with ⟨e3, hw⟩ | e3
      · exact .inl ⟨e.trans e3, hds_ne.1 hw⟩
      · have := hf1.len
        simp at e3
        exact .inr (by omega)
    · have := hf1.len
      exact .inr (by omega)

end Go.Proofs.Ytiomciifhkbklaa
