/-
  A heap, walked: it is collected. (Own work.)
-/
import Derived.Test.YtiomciifhkbklaaH7
set_option linter.unusedVariables false
set_option linter.unusedSimpArgs false
set_option maxHeartbeats 1000000
namespace Go.Proofs.Ytiomciifhkbklaa
open Go Go.Abs

theorem fine_turn {os : List Ho} {roots : List Wd} {w : Wd} (hf : fineW os w) (hh : Has os (ordF os roots) w) : fineW (colO os roots) (turnW os (ordF os roots) w) := by
  intro hp
  by_cases hw : w.p = true
  · obtain ⟨i, hi⟩ := hf hw
    obtain ⟨q, hq⟩ := List.mem_iff_getElem?.1 (hh i hw hi)
    have ht : turnW os (ordF os roots) w = ⟨true, newp os (ordF os roots) i⟩ := by unfold turnW; rw [if_pos hw, hi]
    rw [ht]
    exact ⟨q, col_at hq⟩
  · have ht : turnW os (ordF os roots) w = w := by unfold turnW; rw [if_neg hw]
    rw [ht] at hp
    exact absurd hp hw
theorem pickO_mem {os : List Ho} {F : List Nat} {o : Ho} (h : o ∈ pickO os F) : ∃ i, i ∈ F ∧ os[i]? = some o := by
  obtain ⟨i, hi, ho⟩ := List.mem_filterMap.1 h
  exact ⟨i, hi, ho⟩
theorem ok_col {os : List Ho} {roots : List Wd} (ok : OkO os) : OkO (colO os roots) := by
  refine ⟨fun o ho => ?_, fun o ho w hw => ?_, Nat.le_trans (tot_col os roots) ok.small⟩
  · obtain ⟨a, ha, rfl⟩ := List.mem_map.1 ho
    obtain ⟨i, _, hi⟩ := pickO_mem ha
    have := ok.k a (List.mem_of_getElem? hi)
    simpa [turnO] using this
  · obtain ⟨a, ha, rfl⟩ := List.mem_map.1 ho
    obtain ⟨i, hiF, hi⟩ := pickO_mem ha
    obtain ⟨u, hu, rfl⟩ := List.mem_map.1 hw
    have hwo : wOf os i = a.l := by simp [wOf, hi]
    exact fine_turn (ok.fine a (List.mem_of_getElem? hi) u hu) (ordF_closed os roots i hiF u (by rw [hwo]; exact hu))
theorem fine_colR {os : List Ho} {roots : List Wd} (hr : ∀ w ∈ roots, fineW os w) : ∀ w ∈ colR os roots, fineW (colO os roots) w := fun w hw => by
  obtain ⟨u, hu, rfl⟩ := List.mem_map.1 hw
  exact fine_turn (hr u hu) (ordF_roots os roots u hu)
theorem WeakR.leR {B σ : Sg} {r r' : D} (h : D.Le r r') : WeakR B r σ r' σ := fun m0 m w0 w u _ hX hI hR => ⟨m, hI, h _ _ _ hR, hX⟩
theorem reachL_snoc (os : List Ho) (ord : List Nat) (l : List Wd) (w : Wd) : reachL os ord (l ++ [w]) = reach1 os (reachL os ord l) w := by simp [reachL]
theorem from_nil {os : List Ho} {F : List Nat} : fromW os [] F = wds os := by
  unfold fromW
  rw [wds_H os 0 os fun i o h => by rwa [Nat.zero_add]]
  exact wdsH_congr os 0 fun i _ _ => by simp [headF]
structure RSt where
  σ : Sg
  i : Nat
  dT : D
structure PSt where
  σ : Sg
  k : Nat
  oL : Nat
  oH : Nat
  dl : D
  dh : D
theorem k_Run {σ : Sg} {hp oL oH : Nat} {half runs : Int} {os : List Ho} {dl dh : D} {roots : List Wd} {f : Bool} (h : Hp σ hp oL oH half os runs dl dh) (ok : OkO os) (hr : ∀ w ∈ roots, fineW os w) (hrl : roots.length ≤ 1000000) :
    ACalls Try.prog 31 [.ptr hp 0, .v (.sl (some 2) f (roots.map wv))] σ fun r σ' => r = .v (.sl (some 2) false ((colR os roots).map wv)) ∧
      ∃ oL' oH' dl' dh', Hp σ' hp oL' oH' half (colO os roots) (IntKind.i64.wrap (runs + 1)) dl' dh' ∧ Fr σ σ' (HS hp oL oH os) ∧ σ.objs.length ≤ oL' ∧ σ.objs.length ≤ oH' := by
  have hc := h.cell
  have hcl := (List.getElem?_eq_some_iff.1 hc).1
  have hlw := wds_len os
  have hsm := ok.small
  refine acalls_fit Try.func31 (by kernel_rfl) c31 rfl (by simp [a31]) fun hf => ?_
  clear hf
  by_cases h0 : os = []
  · have hdl : dl = .v .snil := by
      have := h.vw
      rw [show wds os = [] by rw [h0]; rfl] at this
      cases this with
      | nil => rfl
      | msl w1 _ _ _ => exact absurd rfl w1
    subst hdl
    have hC0 : Cp ⟨σ.objs ++ [Ob.cells [.v .snil, .v (.sl (some 2) true [])]], σ.toks⟩ σ.objs.length (σ.objs.length + 1) (σ.objs.length + 2) (wds os) [] (tot os) (.v .snil) (.v (.sl (some 2) true [])) := by
      rw [h0]
      exact ⟨by simp, .nil, .none, by simp, by simp, by omega⟩
    have hFr0 : Fr σ ⟨σ.objs ++ [Ob.cells [.v .snil, .v (.sl (some 2) true [])]], σ.toks⟩ (fun i => i = oL ∧ os ≠ []) := by simpa using Fr.add σ _ [] _
    have hF1 : σ.objs.length + 1 = oL ∧ os ≠ [] ∨ σ.objs.length ≤ σ.objs.length + 1 := .inr (by omega)
    have hcp : σ.objs.length ≤ σ.objs.length := Nat.le_refl _
    have hoT : σ.objs.length ≤ σ.objs.length + 2 := by omega
    generalize hoF : σ.objs.length + 1 = oF at hC0 hF1
    generalize hoTd : σ.objs.length + 2 = oT at hC0 hoT
    obtain ⟨dF, hdF⟩ : ∃ dF, dF = D.v V.snil := ⟨_, rfl⟩
    obtain ⟨dT0, hdT⟩ : ∃ dT0, dT0 = D.v (V.sl (some 2) true []) := ⟨_, rfl⟩
    replace hC0 : Cp ⟨σ.objs ++ [Ob.cells [.v .snil, .v (.sl (some 2) true [])]], σ.toks⟩ σ.objs.length oF oT (wds os) [] (tot os) dF dT0 := by rw [hdF, hdT]; exact hC0
    simp -implicitDefEqProofs (maxSteps := 2000000) (disch := omega) [-getElem?_pos, a31, hc, List.getElem?_append_left]
    obtain ⟨F, hFd⟩ : ∃ F, F = ordF os roots := ⟨_, rfl⟩
    have hFo : Okd os F := hFd ▸ ordF_ok os roots
    obtain ⟨OW, hOW⟩ : ∃ OW, OW = (colR os roots).map wv := ⟨_, rfl⟩
    have hOl : OW.length = roots.length := by rw [hOW]; simp [colR]
    have hOi : ∀ (i : Nat) w, roots[i]? = some w → OW.take (i + 1) = OW.take i ++ [wv (turnW os F w)] := fun i w hw => by
      rw [hOW, List.take_add_one, List.getElem?_map, colR, List.getElem?_map, hw, ← hFd]
      rfl
    rw [← hOW]
    generalize hσ1 : (⟨σ.objs ++ [Ob.cells [.v .snil, .v (.sl (some 2) true [])]], σ.toks⟩ : Sg) = σ1 at hC0 hFr0 ⊢
    have ht1 : σ1.toks = σ.toks := by rw [← hσ1]
    rw [← from_nil (F := F)] at hC0
    refine W_loop (α := RSt) ⟨σ1.tadd 0, 0, dT0⟩ (fun x => roots.length - x.i) (fun x => ⟨[(0, .ptr hp 0), (5, .ptr (σ.objs.length) 0), (6, .tsl σ.toks.length (some 2) (OW.take x.i)), (25, .v (.sl (some 2) f (roots.map wv))), (26, .v (.int .i64 roots.length)), (27, .v (.int .i64 x.i))], x.σ⟩)
      (fun x => x.i ≤ roots.length ∧ Cp x.σ (σ.objs.length) oF oT (fromW os (reachL os [] (roots.take x.i)) F) (wds (pickO os (reachL os [] (roots.take x.i)))) (tot os) dF x.dT ∧ Fr σ x.σ (fun i => i = oL ∧ os ≠ []) ∧ σ.toks.length < x.σ.toks.length ∧ x.σ.toks[σ.toks.length]? = some x.i ∧ σ1.objs.length ≤ x.σ.objs.length)
      (by rw [← ht1]; exact .tok (sh := some 2) (i := 6) (by simp) (by simp)) ⟨Nat.zero_le _, by simpa [reachL, pickO, wds] using hC0.on (σ' := σ1.tadd 0) (fun i ob h => h), (hFr0.trans (S := fun i => i = oL ∧ os ≠ []) (T := fun i => i = oL ∧ os ≠ []) (U := fun i => i = oL ∧ os ≠ []) (c := σ1.tadd 0) ⟨Nat.le_refl _, fun _ _ _ => rfl, by simp [Sg.tadd], fun i hi => by simp [Sg.tadd, List.getElem?_append_left hi]⟩ (fun _ _ h => h) fun _ _ h => h), by simp [Sg.tadd, ht1], by simp [Sg.tadd, ht1], Nat.le_refl _⟩ fun ⟨σ2, i, dT2⟩ ⟨hi, hC2, hFr2, htl, htk, hln⟩ => ?_
    dsimp only at hi hC2 hFr2 htl htk hln ⊢
    have hOt : (OW.take i).length = i := by rw [List.length_take, hOl]; omega
    simp -implicitDefEqProofs (maxSteps := 2000000) (disch := omega) [-getElem?_pos]
    refine .mk (fun hlt => ?_) fun hlt => ?_
    · simp -implicitDefEqProofs (maxSteps := 2000000) (disch := omega) [-getElem?_pos]
      refine ⟨by omega, fun w hw => ?_⟩
      have hwm := List.mem_of_getElem? hw
      have hord2 : Okd os (reachL os [] (roots.take i)) := reachL_ok _ ⟨by simp, by simp⟩
      have hsn : reachL os [] (roots.take (i + 1)) = reach1 os (reachL os [] (roots.take i)) w := by
        rw [List.take_add_one, hw]
        exact reachL_snoc os [] _ w
      have hpre : reach1 os (reachL os [] (roots.take i)) w <+: F := by
        rw [← hsn, hFd]
        have h1 : reachL os [] (roots.take (i + 1)) <+: reachL os [] roots := by
          have h2 := reachL_pre os (roots.drop (i + 1)) (reachL os [] (roots.take (i + 1)))
          have h3 : reachL os (reachL os [] (roots.take (i + 1))) (roots.drop (i + 1)) = reachL os [] roots := by
            unfold reachL
            rw [← List.foldl_append, List.take_append_drop]
          rwa [h3] at h2
        exact h1.trans (scanO_pre _ _ _ _)
      have hmv := fun (xs : List Ob) => k_Move (hC2.on (σ' := ⟨σ2.objs ++ xs, σ2.toks⟩) on_app) ok (hr w hwm) hord2 hFo hpre (wds_len _) rfl
      have hon := hOi i w hw
      refine (hmv _).mono fun r σ3 hq => ?_
      obtain ⟨rfl, ⟨dT3, hC3⟩, hFr3⟩ := hq
      have htk3 : σ3.toks[σ.toks.length]? = some i := by rw [hFr3.tkeep _ htl]; exact htk
      have hl3 := hFr3.len
      have htl3 := hFr3.tlen
      simp at hl3
      generalize turnW os F w = w' at hon
      obtain ⟨p', v'⟩ := w'
      simp -implicitDefEqProofs (maxSteps := 2000000) (disch := omega) [-getElem?_pos, htk3, hOt]
      have hS : ∀ j, j < σ.objs.length → (j = (σ.objs.length) ∨ j = oF ∨ j = oT) → j = oL ∧ os ≠ [] := fun j hj e => by
        rcases e with e | e | e
        · omega
        · rcases hF1 with ⟨e1, e2⟩ | e1
          · exact ⟨by omega, e2⟩
          · omega
        · omega
      refine ⟨by omega, ⟨⟨σ3.objs, σ3.toks.set σ.toks.length (i + 1)⟩, i + 1, dT3⟩, ⟨hlt, ?_, ?_, ?_, ?_, ?_⟩, by dsimp only; omega, .eq (by simp [hon])⟩
      · dsimp only
        have had := add_drop (w := w) (Nat.zero_le _) hord2
        simp only [List.drop_zero] at had
        rw [hsn, had]
        exact hC3.on fun i ob h => h
      · have g1 := hFr2.trans (Fr.add σ2 [Ob.cells [D.v (V.bool w.p), D.v (V.int IntKind.i64 w.v)]] [] (fun _ => False)) (U := fun i => i = oL ∧ os ≠ []) (fun _ _ h => h) fun _ _ e => e.elim
        rw [List.append_nil] at g1
        have g2 := g1.trans hFr3 (U := fun i => i = oL ∧ os ≠ []) (fun _ _ h => h) hS
        exact ⟨g2.len, g2.keep, by simpa using g2.tlen, fun j hj => by show (σ3.toks.set _ _)[j]? = _; rw [List.getElem?_set_ne (by omega)]; exact g2.tkeep j hj⟩
      · show σ.toks.length < (σ3.toks.set _ _).length
        rw [List.length_set]
        dsimp only at htl3
        omega
      · show (σ3.toks.set σ.toks.length (i + 1))[σ.toks.length]? = some (i + 1)
        exact List.getElem?_set_self (by dsimp only at htl3; omega)
      · dsimp only; omega
    · have hie : i = roots.length := by omega
      subst hie
      rw [List.take_length] at hC2
      have hOe : OW.take roots.length = OW := List.take_of_length_le (by omega)
      rw [hOe]
      simp -implicitDefEqProofs (maxSteps := 2000000) (disch := omega) [-getElem?_pos]
      refine (k_Scan hC2 ok (reachL_ok _ ⟨by simp, by simp⟩) hFd.symm rfl).mono fun r σ3 hq => ?_
      obtain ⟨⟨dT3, hC3⟩, hFr3⟩ := hq
      have hS : ∀ j, j < σ.objs.length → (j = (σ.objs.length) ∨ j = oF ∨ j = oT) → j = oL ∧ os ≠ [] := fun j hj e => by
        rcases e with e | e | e
        · omega
        · rcases hF1 with ⟨e1, e2⟩ | e1
          · exact ⟨by omega, e2⟩
          · omega
        · omega
      have hFr4 := hFr2.trans hFr3 (U := fun i => i = oL ∧ os ≠ []) (fun _ _ h => h) hS
      have hc3 : σ3.objs[hp]? = _ := (hFr4.keep hp hcl fun e => h.n1 e.1.symm).trans hc
      have hcl3 := (List.getElem?_eq_some_iff.1 hc3).1
      have hs3 : ∀ X : Ob, (σ3.objs.set hp X)[hp]? = some X := fun X => List.getElem?_set_self hcl3
      rw [show wds ((pickO os F).map (turnO os F)) = wds (colO os roots) by rw [hFd]; rfl] at hC3
      simp -implicitDefEqProofs (maxSteps := 2000000) (disch := omega) [-getElem?_pos, hc3, hs3]
      obtain ⟨new, hnew⟩ : ∃ new, new = colO os roots := ⟨_, rfl⟩
      have htn : tot new ≤ 100000 := by rw [hnew]; exact Nat.le_trans (tot_col os roots) hsm
      have hokn : OkO new := by rw [hnew]; exact ok_col ok
      rw [← hnew] at hC3 ⊢
      have hlnew := wds_len new
      have hcc3 := hC3.cell
      have hccl3 := (List.getElem?_eq_some_iff.1 hcc3).1
      have hvt3 := hC3.vt
      have hvtl := fun (hn : new ≠ []) => hvt3
      generalize hσ4 : (⟨σ3.objs.set hp _, σ3.toks⟩ : Sg) = σ4
      have ho4 : σ4.objs = σ3.objs.set hp (.cells [.v (.int .i64 half), .v .snil, .v .snil, .v (.int .i64 runs)]) := by rw [← hσ4]
      have hFr5 : Fr σ σ4 (HS hp oL oH os) := by
        rw [← hσ4]
        exact hFr4.trans (Fr.set (S := fun i => i = hp) rfl) (fun _ _ e => .inr (.inl e)) fun _ _ e => .inl e
      have hl4 : σ4.objs.length = σ3.objs.length := by rw [ho4, List.length_set]
      refine W_loop (α := PSt) ⟨σ4, 0, σ3.objs.length, σ3.objs.length + 1, .v .snil, .v .snil⟩ (fun x => new.length - x.k) (fun x => ⟨[(0, .ptr hp 0), (5, .ptr (σ.objs.length) 0), (6, .tsl σ.toks.length (some 2) OW), (9, .v (.int .i64 (tot (new.take x.k))))], x.σ⟩)
        (fun x => x.k ≤ new.length ∧ Hp x.σ hp x.oL x.oH half (new.take x.k) runs x.dl x.dh ∧ x.σ.objs[σ.objs.length]? = σ3.objs[σ.objs.length]? ∧ x.σ.objs[oT]? = σ3.objs[oT]? ∧ Fr σ x.σ (HS hp oL oH os) ∧ σ3.objs.length ≤ x.oL ∧ σ3.objs.length ≤ x.oH ∧ σ3.objs.length ≤ x.σ.objs.length)
        (.eq (by simp [tot])) ⟨Nat.zero_le _, ⟨by rw [ho4]; exact hs3 _, .nil, .nil, by dsimp only; omega, by dsimp only; omega, by dsimp only; omega⟩, by dsimp only; rw [ho4]; exact List.getElem?_set_ne (by omega), by dsimp only; rw [ho4]; exact List.getElem?_set_ne (by omega), hFr5, Nat.le_refl _, Nat.le_succ _, by dsimp only; omega⟩ fun ⟨σ5, k, oL5, oH5, dl5, dh5⟩ ⟨hk, hH5, hcp5, hoT5, hFr6, hoL5, hoH5, hl5⟩ => ?_
      dsimp only at hk hH5 hcp5 hoT5 hFr6 hoL5 hoH5 hl5 ⊢
      have hcc5 : σ5.objs[σ.objs.length]? = _ := hcp5.trans hcc3
      have hH5c := hH5.cell
      have hhpl5 := (List.getElem?_eq_some_iff.1 hH5c).1
      by_cases hkn : k < new.length
      · obtain ⟨o, ho⟩ : ∃ o, new[k]? = some o := ⟨_, List.getElem?_eq_getElem hkn⟩
        have hend := offs_end ho
        have hosz : osz o = 1 + o.l.length := rfl
        have hks := hokn.k o (List.mem_of_getElem? ho)
        have hpa := headW_parts hks
        have hkp := fun σ => k_Parts (headW o).p (headW o).v σ
        rw [hpa] at hkp
        have hat := wds_at ho
        have htk1 : new.take (k + 1) = new.take k ++ [o] := by rw [List.take_add_one, ho]; rfl
        have hof : tot (new.take k) = offs new k := rfl
        have htk2 : tot (new.take (k + 1)) = offs new k + osz o := by rw [htk1, tot_app, hof]; simp [tot]
        rw [hof]
        have htco := tot_col os roots
        rw [← hnew] at htco
        generalize htoc : tot os = ct at hvt3 htco
        generalize hwn : wds new = ws at hvt3 hat hlnew
        have hrow := fun J => fl_row (J := J) (get_drop hat)
        cases hvt3 with
        | none => simp at hat
        | msl t1 t2 t3 t4 =>
        rename_i J
        have ht5 : σ5.objs[oT]? = _ := hoT5.trans t2
        have hlt : offs new k < ws.length := by omega
        have hlt' : (offs new k : Int) < ws.length := by omega
        have hnn : ((offs new k : Int) + o.l.length + 1).toNat - offs new k = 1 + o.l.length := by omega
        have hnn2 : ((offs new k : Int) + (o.l.length + 1)).toNat - offs new k = 1 + o.l.length := by omega
        have hYl : (headW o :: o.l).length = 1 + o.l.length := by simp; omega
        have hpar : ((fl ws ++ J).drop (offs new k * 2)).take ((headW o :: o.l).length * 2) = fl (headW o :: o.l) := by
          rw [fl_part (by rw [hYl]; omega), hat, show headW o :: (o.l ++ wds (new.drop (k + 1))) = (headW o :: o.l) ++ wds (new.drop (k + 1)) by simp, List.take_left' rfl]
        have hput := k_PutB (oS := oT) (off := offs new k * 2) (cS := ct - offs new k) (f := true) hH5 (o := o) rfl (by rw [hof]; omega) ht5 hpar (by rw [hYl, List.length_append, fl_len]; omega)
        rw [hYl] at hput
        simp -implicitDefEqProofs (maxSteps := 2000000) (disch := omega) [-getElem?_pos, hcc5, ht5, hlt, hlt', hrow, mkAgg, allV]
        refine ⟨by rw [fl_len]; omega, ?_⟩
        refine (hkp _).then fun r hr => ?_
        subst hr
        simp -implicitDefEqProofs (maxSteps := 2000000) (disch := omega) [-getElem?_pos, hcc5, ht5, hnn, hnn2]
        refine ⟨by omega, by omega, ?_⟩
        refine hput.mono fun r σ6 hq => ?_
        obtain ⟨oL6, oH6, dl6, dh6, hH6, hFr7, hN1, hN2⟩ := hq
        have hl34 := hFr4.len
        have hl56 := hFr7.len
        have hoTl := (List.getElem?_eq_some_iff.1 t2).1
        simp -implicitDefEqProofs (maxSteps := 2000000) (disch := omega) [-getElem?_pos]
        refine ⟨⟨σ6, k + 1, oL6, oH6, dl6, dh6⟩, ⟨hkn, by rw [htk1]; exact hH6, ?_, ?_, ?_, ?_, ?_, ?_⟩, by dsimp only; omega, .eq (by simp [htk2]; omega)⟩
        · dsimp only
          rw [hFr7.keep _ (by omega) (by rintro (e | ⟨e, _⟩ | ⟨e, _⟩) <;> omega)]
          exact hcp5
        · dsimp only
          rw [hFr7.keep _ (by omega) (by rintro (e | ⟨e, _⟩ | ⟨e, _⟩) <;> omega)]
          exact hoT5
        · refine hFr6.trans hFr7 (fun _ _ h => h) fun j hj e => ?_
          rcases e with e | ⟨e, _⟩ | ⟨e, _⟩
          · exact .inl e
          · omega
          · omega
        · dsimp only
          rcases hN1 with ⟨e, _⟩ | e <;> omega
        · dsimp only
          rcases hN2 with ⟨e, _⟩ | e <;> omega
        · dsimp only; omega
      · have hke : k = new.length := by omega
        subst hke
        rw [List.take_length] at hH5 ⊢
        have hl34 := hFr4.len
        have hnl : ¬ (tot new : Int) < (wds new).length := by omega
        have hfin : Hp ⟨σ5.objs.set hp (.cells [.v (.int .i64 half), dl5, dh5, .v (.int .i64 (IntKind.i64.wrap (runs + 1)))]), σ5.toks⟩ hp oL5 oH5 half new (IntKind.i64.wrap (runs + 1)) dl5 dh5 :=
          ⟨List.getElem?_set_self hhpl5, hH5.vw.fr (Fr.set (S := fun i => i = hp) rfl) fun _ e => hH5.n1 e, hH5.vb.fr (Fr.set (S := fun i => i = hp) rfl) fun _ e => hH5.n2 e, hH5.n1, hH5.n2, hH5.n3⟩
        have hfr := hFr6.trans (Fr.set (σ := σ5) (o := hp) (X := .cells [.v (.int .i64 half), dl5, dh5, .v (.int .i64 (IntKind.i64.wrap (runs + 1)))]) (S := fun i => i = hp) rfl) (fun _ _ h => h) fun _ _ e => .inl e
        generalize htoc : tot os = ct at hvt3
        generalize hwn : wds new = ws at hvt3 hnl
        cases hvt3 with
        | none =>
          have hnl0 : ¬ (tot new : Int) < 0 := by omega
          simp -implicitDefEqProofs (maxSteps := 2000000) (disch := omega) [-getElem?_pos, hcc5, hH5c, hnl0]
          exact ⟨_, _, WeakR.leR .tsl, rfl, oL5, oH5, ⟨dl5, dh5, hfin⟩, hfr, by omega, by omega⟩
        | msl t1 t2 t3 t4 =>
          have hnl' : ¬ tot new < ws.length := by omega
          simp -implicitDefEqProofs (maxSteps := 2000000) (disch := omega) [-getElem?_pos, hcc5, hH5c, hnl, hnl']
          exact ⟨_, _, WeakR.leR .tsl, rfl, oL5, oH5, ⟨dl5, dh5, hfin⟩, hfr, by omega, by omega⟩

  · obtain ⟨c, hd⟩ := h.vw.dest (wds_ne.2 h0)
    subst hd
    have hw0 : ¬ wds os = [] := wds_ne.2 h0
    have hoLl := h.vw.lt hw0
    have hz : (zerosV [V.bool false, V.int .i64 0] (wds os).length).length = (wds os).length * 2 := by simp [zerosV]
    have hC0 : Cp ⟨σ.objs ++ [Ob.cells ((zerosV [V.bool false, V.int .i64 0] (wds os).length).map D.v), Ob.cells [.msl oL 0 (wds os).length (some 2) (some c), .msl σ.objs.length 0 0 (some 2) (some (wds os).length)]], σ.toks⟩
        (σ.objs.length + 1) oL σ.objs.length (wds os) [] (tot os) (.msl oL 0 (wds os).length (some 2) (some c)) (.msl σ.objs.length 0 0 (some 2) (some (wds os).length)) := by
      have hvw := h.vw.on (σ' := ⟨σ.objs ++ [Ob.cells ((zerosV [V.bool false, V.int .i64 0] (wds os).length).map D.v), Ob.cells [.msl oL 0 (wds os).length (some 2) (some c), .msl σ.objs.length 0 0 (some 2) (some (wds os).length)]], σ.toks⟩) fun _ => List.getElem?_append_left hoLl
      refine ⟨by simp, hvw, ?_, by omega, by omega, by omega⟩
      rw [hlw] at hz ⊢
      refine VT.msl (to := []) (J := (zerosV [V.bool false, V.int .i64 0] (tot os)).map D.v) ?_ (by simp [fl_nil]) (by rw [fl_nil, List.nil_append, List.length_map, hz]) (by unfold maxLen; omega)
      have := List.length_pos_iff.2 hw0
      omega
    have hFr0 : Fr σ ⟨σ.objs ++ [Ob.cells ((zerosV [V.bool false, V.int .i64 0] (wds os).length).map D.v), Ob.cells [.msl oL 0 (wds os).length (some 2) (some c), .msl σ.objs.length 0 0 (some 2) (some (wds os).length)]], σ.toks⟩ (fun i => i = oL ∧ os ≠ []) := by simpa using Fr.add σ _ [] _
    obtain ⟨oF, hoF⟩ : ∃ oF, oF = oL := ⟨_, rfl⟩
    have hF1 : oF = oL ∧ os ≠ [] ∨ σ.objs.length ≤ oF := .inl ⟨hoF, h0⟩
    obtain ⟨oT, hoTd⟩ : ∃ oT, oT = σ.objs.length := ⟨_, rfl⟩
    have hoT : σ.objs.length ≤ oT := by omega
    obtain ⟨dF, hdF⟩ : ∃ dF, dF = D.msl oL 0 (wds os).length (some 2) (some c) := ⟨_, rfl⟩
    obtain ⟨dT0, hdT⟩ : ∃ dT0, dT0 = D.msl σ.objs.length 0 0 (some 2) (some (wds os).length) := ⟨_, rfl⟩
    replace hC0 : Cp ⟨σ.objs ++ [Ob.cells ((zerosV [V.bool false, V.int .i64 0] (wds os).length).map D.v), Ob.cells [.msl oL 0 (wds os).length (some 2) (some c), .msl σ.objs.length 0 0 (some 2) (some (wds os).length)]], σ.toks⟩
        (σ.objs.length + 1) oF oT (wds os) [] (tot os) dF dT0 := by rw [hoF, hoTd, hdF, hdT]; exact hC0
    simp -implicitDefEqProofs (maxSteps := 2000000) (disch := omega) [-getElem?_pos, a31, hc, List.getElem?_append_left, hw0]
    refine ⟨by omega, ?_⟩
    obtain ⟨F, hFd⟩ : ∃ F, F = ordF os roots := ⟨_, rfl⟩
    have hFo : Okd os F := hFd ▸ ordF_ok os roots
    obtain ⟨OW, hOW⟩ : ∃ OW, OW = (colR os roots).map wv := ⟨_, rfl⟩
    have hOl : OW.length = roots.length := by rw [hOW]; simp [colR]
    have hOi : ∀ (i : Nat) w, roots[i]? = some w → OW.take (i + 1) = OW.take i ++ [wv (turnW os F w)] := fun i w hw => by
      rw [hOW, List.take_add_one, List.getElem?_map, colR, List.getElem?_map, hw, ← hFd]
      rfl
    rw [← hOW]
    generalize hσ1 : (⟨σ.objs ++ [Ob.cells ((zerosV [V.bool false, V.int .i64 0] (wds os).length).map D.v), Ob.cells [.msl oL 0 (wds os).length (some 2) (some c), .msl σ.objs.length 0 0 (some 2) (some (wds os).length)]], σ.toks⟩ : Sg) = σ1 at hC0 hFr0 ⊢
    have ht1 : σ1.toks = σ.toks := by rw [← hσ1]
    rw [← from_nil (F := F)] at hC0
    refine W_loop (α := RSt) ⟨σ1.tadd 0, 0, dT0⟩ (fun x => roots.length - x.i) (fun x => ⟨[(0, .ptr hp 0), (5, .ptr (σ.objs.length + 1) 0), (6, .tsl σ.toks.length (some 2) (OW.take x.i)), (25, .v (.sl (some 2) f (roots.map wv))), (26, .v (.int .i64 roots.length)), (27, .v (.int .i64 x.i))], x.σ⟩)
      (fun x => x.i ≤ roots.length ∧ Cp x.σ (σ.objs.length + 1) oF oT (fromW os (reachL os [] (roots.take x.i)) F) (wds (pickO os (reachL os [] (roots.take x.i)))) (tot os) dF x.dT ∧ Fr σ x.σ (fun i => i = oL ∧ os ≠ []) ∧ σ.toks.length < x.σ.toks.length ∧ x.σ.toks[σ.toks.length]? = some x.i ∧ σ1.objs.length ≤ x.σ.objs.length)
      (by rw [← ht1]; exact .tok (sh := some 2) (i := 6) (by simp) (by simp)) ⟨Nat.zero_le _, by simpa [reachL, pickO, wds] using hC0.on (σ' := σ1.tadd 0) (fun i ob h => h), (hFr0.trans (S := fun i => i = oL ∧ os ≠ []) (T := fun i => i = oL ∧ os ≠ []) (U := fun i => i = oL ∧ os ≠ []) (c := σ1.tadd 0) ⟨Nat.le_refl _, fun _ _ _ => rfl, by simp [Sg.tadd], fun i hi => by simp [Sg.tadd, List.getElem?_append_left hi]⟩ (fun _ _ h => h) fun _ _ h => h), by simp [Sg.tadd, ht1], by simp [Sg.tadd, ht1], Nat.le_refl _⟩ fun ⟨σ2, i, dT2⟩ ⟨hi, hC2, hFr2, htl, htk, hln⟩ => ?_
    dsimp only at hi hC2 hFr2 htl htk hln ⊢
    have hOt : (OW.take i).length = i := by rw [List.length_take, hOl]; omega
    simp -implicitDefEqProofs (maxSteps := 2000000) (disch := omega) [-getElem?_pos]
    refine .mk (fun hlt => ?_) fun hlt => ?_
    · simp -implicitDefEqProofs (maxSteps := 2000000) (disch := omega) [-getElem?_pos]
      refine ⟨by omega, fun w hw => ?_⟩
      have hwm := List.mem_of_getElem? hw
      have hord2 : Okd os (reachL os [] (roots.take i)) := reachL_ok _ ⟨by simp, by simp⟩
      have hsn : reachL os [] (roots.take (i + 1)) = reach1 os (reachL os [] (roots.take i)) w := by
        rw [List.take_add_one, hw]
        exact reachL_snoc os [] _ w
      have hpre : reach1 os (reachL os [] (roots.take i)) w <+: F := by
        rw [← hsn, hFd]
        have h1 : reachL os [] (roots.take (i + 1)) <+: reachL os [] roots := by
          have h2 := reachL_pre os (roots.drop (i + 1)) (reachL os [] (roots.take (i + 1)))
          have h3 : reachL os (reachL os [] (roots.take (i + 1))) (roots.drop (i + 1)) = reachL os [] roots := by
            unfold reachL
            rw [← List.foldl_append, List.take_append_drop]
          rwa [h3] at h2
        exact h1.trans (scanO_pre _ _ _ _)
      have hmv := fun (xs : List Ob) => k_Move (hC2.on (σ' := ⟨σ2.objs ++ xs, σ2.toks⟩) on_app) ok (hr w hwm) hord2 hFo hpre (wds_len _) rfl
      have hon := hOi i w hw
      refine (hmv _).mono fun r σ3 hq => ?_
      obtain ⟨rfl, ⟨dT3, hC3⟩, hFr3⟩ := hq
      have htk3 : σ3.toks[σ.toks.length]? = some i := by rw [hFr3.tkeep _ htl]; exact htk
      have hl3 := hFr3.len
      have htl3 := hFr3.tlen
      simp at hl3
      generalize turnW os F w = w' at hon
      obtain ⟨p', v'⟩ := w'
      simp -implicitDefEqProofs (maxSteps := 2000000) (disch := omega) [-getElem?_pos, htk3, hOt]
      have hS : ∀ j, j < σ.objs.length → (j = (σ.objs.length + 1) ∨ j = oF ∨ j = oT) → j = oL ∧ os ≠ [] := fun j hj e => by
        rcases e with e | e | e
        · omega
        · rcases hF1 with ⟨e1, e2⟩ | e1
          · exact ⟨by omega, e2⟩
          · omega
        · omega
      refine ⟨by omega, ⟨⟨σ3.objs, σ3.toks.set σ.toks.length (i + 1)⟩, i + 1, dT3⟩, ⟨hlt, ?_, ?_, ?_, ?_, ?_⟩, by dsimp only; omega, .eq (by simp [hon])⟩
      · dsimp only
        have had := add_drop (w := w) (Nat.zero_le _) hord2
        simp only [List.drop_zero] at had
        rw [hsn, had]
        exact hC3.on fun i ob h => h
      · have g1 := hFr2.trans (Fr.add σ2 [Ob.cells [D.v (V.bool w.p), D.v (V.int IntKind.i64 w.v)]] [] (fun _ => False)) (U := fun i => i = oL ∧ os ≠ []) (fun _ _ h => h) fun _ _ e => e.elim
        rw [List.append_nil] at g1
        have g2 := g1.trans hFr3 (U := fun i => i = oL ∧ os ≠ []) (fun _ _ h => h) hS
        exact ⟨g2.len, g2.keep, by simpa using g2.tlen, fun j hj => by show (σ3.toks.set _ _)[j]? = _; rw [List.getElem?_set_ne (by omega)]; exact g2.tkeep j hj⟩
      · show σ.toks.length < (σ3.toks.set _ _).length
        rw [List.length_set]
        dsimp only at htl3
        omega
      · show (σ3.toks.set σ.toks.length (i + 1))[σ.toks.length]? = some (i + 1)
        exact List.getElem?_set_self (by dsimp only at htl3; omega)
      · dsimp only; omega
    · have hie : i = roots.length := by omega
      subst hie
      rw [List.take_length] at hC2
      have hOe : OW.take roots.length = OW := List.take_of_length_le (by omega)
      rw [hOe]
      simp -implicitDefEqProofs (maxSteps := 2000000) (disch := omega) [-getElem?_pos]
      refine (k_Scan hC2 ok (reachL_ok _ ⟨by simp, by simp⟩) hFd.symm rfl).mono fun r σ3 hq => ?_
      obtain ⟨⟨dT3, hC3⟩, hFr3⟩ := hq
      have hS : ∀ j, j < σ.objs.length → (j = (σ.objs.length + 1) ∨ j = oF ∨ j = oT) → j = oL ∧ os ≠ [] := fun j hj e => by
        rcases e with e | e | e
        · omega
        · rcases hF1 with ⟨e1, e2⟩ | e1
          · exact ⟨by omega, e2⟩
          · omega
        · omega
      have hFr4 := hFr2.trans hFr3 (U := fun i => i = oL ∧ os ≠ []) (fun _ _ h => h) hS
      have hc3 : σ3.objs[hp]? = _ := (hFr4.keep hp hcl fun e => h.n1 e.1.symm).trans hc
      have hcl3 := (List.getElem?_eq_some_iff.1 hc3).1
      have hs3 : ∀ X : Ob, (σ3.objs.set hp X)[hp]? = some X := fun X => List.getElem?_set_self hcl3
      rw [show wds ((pickO os F).map (turnO os F)) = wds (colO os roots) by rw [hFd]; rfl] at hC3
      simp -implicitDefEqProofs (maxSteps := 2000000) (disch := omega) [-getElem?_pos, hc3, hs3]
      obtain ⟨new, hnew⟩ : ∃ new, new = colO os roots := ⟨_, rfl⟩
      have htn : tot new ≤ 100000 := by rw [hnew]; exact Nat.le_trans (tot_col os roots) hsm
      have hokn : OkO new := by rw [hnew]; exact ok_col ok
      rw [← hnew] at hC3 ⊢
      have hlnew := wds_len new
      have hcc3 := hC3.cell
      have hccl3 := (List.getElem?_eq_some_iff.1 hcc3).1
      have hvt3 := hC3.vt
      have hvtl := fun (hn : new ≠ []) => hvt3
      generalize hσ4 : (⟨σ3.objs.set hp _, σ3.toks⟩ : Sg) = σ4
      have ho4 : σ4.objs = σ3.objs.set hp (.cells [.v (.int .i64 half), .v .snil, .v .snil, .v (.int .i64 runs)]) := by rw [← hσ4]
      have hFr5 : Fr σ σ4 (HS hp oL oH os) := by
        rw [← hσ4]
        exact hFr4.trans (Fr.set (S := fun i => i = hp) rfl) (fun _ _ e => .inr (.inl e)) fun _ _ e => .inl e
      have hl4 : σ4.objs.length = σ3.objs.length := by rw [ho4, List.length_set]
      refine W_loop (α := PSt) ⟨σ4, 0, σ3.objs.length, σ3.objs.length + 1, .v .snil, .v .snil⟩ (fun x => new.length - x.k) (fun x => ⟨[(0, .ptr hp 0), (5, .ptr (σ.objs.length + 1) 0), (6, .tsl σ.toks.length (some 2) OW), (9, .v (.int .i64 (tot (new.take x.k))))], x.σ⟩)
        (fun x => x.k ≤ new.length ∧ Hp x.σ hp x.oL x.oH half (new.take x.k) runs x.dl x.dh ∧ x.σ.objs[σ.objs.length + 1]? = σ3.objs[σ.objs.length + 1]? ∧ x.σ.objs[oT]? = σ3.objs[oT]? ∧ Fr σ x.σ (HS hp oL oH os) ∧ σ3.objs.length ≤ x.oL ∧ σ3.objs.length ≤ x.oH ∧ σ3.objs.length ≤ x.σ.objs.length)
        (.eq (by simp [tot])) ⟨Nat.zero_le _, ⟨by rw [ho4]; exact hs3 _, .nil, .nil, by dsimp only; omega, by dsimp only; omega, by dsimp only; omega⟩, by dsimp only; rw [ho4]; exact List.getElem?_set_ne (by omega), by dsimp only; rw [ho4]; exact List.getElem?_set_ne (by omega), hFr5, Nat.le_refl _, Nat.le_succ _, by dsimp only; omega⟩ fun ⟨σ5, k, oL5, oH5, dl5, dh5⟩ ⟨hk, hH5, hcp5, hoT5, hFr6, hoL5, hoH5, hl5⟩ => ?_
      dsimp only at hk hH5 hcp5 hoT5 hFr6 hoL5 hoH5 hl5 ⊢
      have hcc5 : σ5.objs[σ.objs.length + 1]? = _ := hcp5.trans hcc3
      have hH5c := hH5.cell
      have hhpl5 := (List.getElem?_eq_some_iff.1 hH5c).1
      by_cases hkn : k < new.length
      · obtain ⟨o, ho⟩ : ∃ o, new[k]? = some o := ⟨_, List.getElem?_eq_getElem hkn⟩
        have hend := offs_end ho
        have hosz : osz o = 1 + o.l.length := rfl
        have hks := hokn.k o (List.mem_of_getElem? ho)
        have hpa := headW_parts hks
        have hkp := fun σ => k_Parts (headW o).p (headW o).v σ
        rw [hpa] at hkp
        have hat := wds_at ho
        have htk1 : new.take (k + 1) = new.take k ++ [o] := by rw [List.take_add_one, ho]; rfl
        have hof : tot (new.take k) = offs new k := rfl
        have htk2 : tot (new.take (k + 1)) = offs new k + osz o := by rw [htk1, tot_app, hof]; simp [tot]
        rw [hof]
        have htco := tot_col os roots
        rw [← hnew] at htco
        generalize htoc : tot os = ct at hvt3 htco
        generalize hwn : wds new = ws at hvt3 hat hlnew
        have hrow := fun J => fl_row (J := J) (get_drop hat)
        cases hvt3 with
        | none => simp at hat
        | msl t1 t2 t3 t4 =>
        rename_i J
        have ht5 : σ5.objs[oT]? = _ := hoT5.trans t2
        have hlt : offs new k < ws.length := by omega
        have hlt' : (offs new k : Int) < ws.length := by omega
        have hnn : ((offs new k : Int) + o.l.length + 1).toNat - offs new k = 1 + o.l.length := by omega
        have hnn2 : ((offs new k : Int) + (o.l.length + 1)).toNat - offs new k = 1 + o.l.length := by omega
        have hYl : (headW o :: o.l).length = 1 + o.l.length := by simp; omega
        have hpar : ((fl ws ++ J).drop (offs new k * 2)).take ((headW o :: o.l).length * 2) = fl (headW o :: o.l) := by
          rw [fl_part (by rw [hYl]; omega), hat, show headW o :: (o.l ++ wds (new.drop (k + 1))) = (headW o :: o.l) ++ wds (new.drop (k + 1)) by simp, List.take_left' rfl]
        have hput := k_PutB (oS := oT) (off := offs new k * 2) (cS := ct - offs new k) (f := true) hH5 (o := o) rfl (by rw [hof]; omega) ht5 hpar (by rw [hYl, List.length_append, fl_len]; omega)
        rw [hYl] at hput
        simp -implicitDefEqProofs (maxSteps := 2000000) (disch := omega) [-getElem?_pos, hcc5, ht5, hlt, hlt', hrow, mkAgg, allV]
        refine ⟨by rw [fl_len]; omega, ?_⟩
        refine (hkp _).then fun r hr => ?_
        subst hr
        simp -implicitDefEqProofs (maxSteps := 2000000) (disch := omega) [-getElem?_pos, hcc5, ht5, hnn, hnn2]
        refine ⟨by omega, by omega, ?_⟩
        refine hput.mono fun r σ6 hq => ?_
        obtain ⟨oL6, oH6, dl6, dh6, hH6, hFr7, hN1, hN2⟩ := hq
        have hl34 := hFr4.len
        have hl56 := hFr7.len
        have hoTl := (List.getElem?_eq_some_iff.1 t2).1
        simp -implicitDefEqProofs (maxSteps := 2000000) (disch := omega) [-getElem?_pos]
        refine ⟨⟨σ6, k + 1, oL6, oH6, dl6, dh6⟩, ⟨hkn, by rw [htk1]; exact hH6, ?_, ?_, ?_, ?_, ?_, ?_⟩, by dsimp only; omega, .eq (by simp [htk2]; omega)⟩
        · dsimp only
          rw [hFr7.keep _ (by omega) (by rintro (e | ⟨e, _⟩ | ⟨e, _⟩) <;> omega)]
          exact hcp5
        · dsimp only
          rw [hFr7.keep _ (by omega) (by rintro (e | ⟨e, _⟩ | ⟨e, _⟩) <;> omega)]
          exact hoT5
        · refine hFr6.trans hFr7 (fun _ _ h => h) fun j hj e => ?_
          rcases e with e | ⟨e, _⟩ | ⟨e, _⟩
          · exact .inl e
          · omega
          · omega
        · dsimp only
          rcases hN1 with ⟨e, _⟩ | e <;> omega
        · dsimp only
          rcases hN2 with ⟨e, _⟩ | e <;> omega
        · dsimp only; omega
      · have hke : k = new.length := by omega
        subst hke
        rw [List.take_length] at hH5 ⊢
        have hl34 := hFr4.len
        have hnl : ¬ (tot new : Int) < (wds new).length := by omega
        have hfin : Hp ⟨σ5.objs.set hp (.cells [.v (.int .i64 half), dl5, dh5, .v (.int .i64 (IntKind.i64.wrap (runs + 1)))]), σ5.toks⟩ hp oL5 oH5 half new (IntKind.i64.wrap (runs + 1)) dl5 dh5 :=
          ⟨List.getElem?_set_self hhpl5, hH5.vw.fr (Fr.set (S := fun i => i = hp) rfl) fun _ e => hH5.n1 e, hH5.vb.fr (Fr.set (S := fun i => i = hp) rfl) fun _ e => hH5.n2 e, hH5.n1, hH5.n2, hH5.n3⟩
        have hfr := hFr6.trans (Fr.set (σ := σ5) (o := hp) (X := .cells [.v (.int .i64 half), dl5, dh5, .v (.int .i64 (IntKind.i64.wrap (runs + 1)))]) (S := fun i => i = hp) rfl) (fun _ _ h => h) fun _ _ e => .inl e
        generalize htoc : tot os = ct at hvt3
        generalize hwn : wds new = ws at hvt3 hnl
        cases hvt3 with
        | none =>
          have hnl0 : ¬ (tot new : Int) < 0 := by omega
          simp -implicitDefEqProofs (maxSteps := 2000000) (disch := omega) [-getElem?_pos, hcc5, hH5c, hnl0]
          exact ⟨_, _, WeakR.leR .tsl, rfl, oL5, oH5, ⟨dl5, dh5, hfin⟩, hfr, by omega, by omega⟩
        | msl t1 t2 t3 t4 =>
          have hnl' : ¬ tot new < ws.length := by omega
          simp -implicitDefEqProofs (maxSteps := 2000000) (disch := omega) [-getElem?_pos, hcc5, hH5c, hnl, hnl']
          exact ⟨_, _, WeakR.leR .tsl, rfl, oL5, oH5, ⟨dl5, dh5, hfin⟩, hfr, by omega, by omega⟩

end Go.Proofs.Ytiomciifhkbklaa
