/-
  The document's heap: words, as they point then. (Own work.)
-/
import Derived.Test.YtiomciifhkbklaaH18
set_option linter.unusedVariables false
set_option linter.unusedSimpArgs false
set_option maxHeartbeats 1000000
namespace Go.Proofs.Ytiomciifhkbklaa
open Go Go.Abs

theorem VW.vi {σ : Sg} {o : Nat} {d : D} {ws : List Wd} (h : VW σ o d ws) : VI σ o d ws := by
  cases h with
  | nil => exact .nil
  | msl h1 h2 h3 h4 => exact .msl h1 h2 h3 h4
theorem appm_VI {σ : Sg} {o : Nat} {d : D} {ws ys : List Wd} {K : D → Sg → Prop} (h : VI σ o d ws) (hy : ys ≠ []) (hn : (ws.length + ys.length) * 16 ≤ 140737488355328)
    (key : ∀ o' d' σ', VI σ' o' d' (ws ++ ys) → Fr σ σ' (fun i => i = o ∧ ws ≠ []) → (o' = o ∧ ws ≠ [] ∨ o' = σ.objs.length) → K d' σ') : WApmV (some 2) 16 d (ys.map wv) σ K := by
  cases h with
  | nil => exact appm_VW .nil hy hn fun o' d' σ' h1 h2 h3 => key o' d' σ' h1.vi h2 h3
  | emp =>
    have := appm_VW (K := K) (VW.nil (σ := σ) (o := o)) hy hn fun o' d' σ' h1 h2 h3 => key o' d' σ' h1.vi h2 h3
    rw [WApmV_snil] at this
    rw [WApmV_full]
    exact this
  | msl h1 h2 h3 h4 => exact appm_VW (.msl h1 h2 h3 h4) hy hn fun o' d' σ' h1 h2 h3 => key o' d' σ' h1.vi h2 h3
/-- Where objects lie then, those of the first i. -/
def plc (os : List Ho) (F : List Nat) (i : Nat) : List D := (List.range os.length).map fun j => .v (.int .i64 (if j ∈ F.take i then (newp os F j : Int) else 0))
theorem plc_len (os : List Ho) (F : List Nat) (i : Nat) : (plc os F i).length = os.length := by simp [plc]
theorem plc_get {os : List Ho} {F : List Nat} {j : Nat} (hj : j < os.length) (hm : j ∈ F) : (plc os F F.length)[j]? = some (.v (.int .i64 (newp os F j))) := by
  simp [plc, hj, hm]
inductive PL (σ : Sg) (oP : Nat) : D → List Ho → List Nat → Prop
  | nil {F : List Nat} : PL σ oP (.v (.sl none true [])) [] F
  | msl {os : List Ho} {F : List Nat} : os ≠ [] → σ.objs[oP]? = some (.cells (plc os F F.length)) → PL σ oP (.msl oP 0 os.length none (some os.length)) os F
theorem PL.on {σ σ' : Sg} {o : Nat} {d : D} {os : List Ho} {F : List Nat} (h : PL σ o d os F) (k : os ≠ [] → σ'.objs[o]? = σ.objs[o]?) : PL σ' o d os F := by
  cases h with
  | nil => exact .nil
  | msl h1 h2 => exact .msl h1 (by rw [k h1]; exact h2)
theorem PL.lt {σ : Sg} {o : Nat} {d : D} {os : List Ho} {F : List Nat} (h : PL σ o d os F) (k : os ≠ []) : o < σ.objs.length := by
  cases h with
  | nil => exact absurd rfl k
  | msl h1 h2 => exact (List.getElem?_eq_some_iff.1 h2).1
theorem PL.low {σ : Sg} {o : Nat} {d : D} {os : List Ho} {F : List Nat} (h : PL σ o d os F) (t : Nat) : D.low σ.objs.length t d := by
  cases h with
  | nil => simp
  | msl h1 h2 => simpa using (List.getElem?_eq_some_iff.1 h2).1
theorem PL.row {σ : Sg} {o : Nat} {d : D} {os : List Ho} {F : List Nat} (h : PL σ o d os F) {j : Nat} (hj : j < os.length) (hm : j ∈ F) :
    ∃ cs : List D, d = .msl o 0 os.length none (some os.length) ∧ σ.objs[o]? = some (.cells cs) ∧ cs[j]? = some (.v (.int .i64 (newp os F j))) := by
  cases h with
  | nil => simp at hj
  | msl h1 h2 => exact ⟨_, rfl, h2, plc_get hj hm⟩
theorem k_TurnA {σ : Sg} {m oT oP : Nat} {half runs : Int} {os : List Ho} {dT dP : D} {rs : List Rr} {F : List Nat} {g : Bool} {ws : List Wd} (h : RH σ m oT half os runs dT rs) (hl : os.length ≤ 100000) (hP : PL σ oP dP os F) (hws : ∀ w ∈ ws, fineW os w ∧ Has os F w) (hwl : ws.length ≤ 1000000) :
    ACalls Try.prog 39 [.ptr m 0, .v (.sl (some 2) g (ws.map wv)), dP] σ fun r σ' => r = .v (.sl (some 2) false ((ws.map (turnW os F)).map wv)) ∧ σ' = σ := by
  obtain ⟨OW, hOW⟩ : ∃ OW, OW = (ws.map (turnW os F)).map wv := ⟨_, rfl⟩
  have hOl : OW.length = ws.length := by rw [hOW]; simp
  have hOi : ∀ (i : Nat) w, ws[i]? = some w → OW.take (i + 1) = OW.take i ++ [wv (turnW os F w)] := fun i w hw => by
    rw [hOW, List.take_add_one, List.getElem?_map, List.getElem?_map, hw]
    rfl
  rw [← hOW]
  have hml := (List.getElem?_eq_some_iff.1 h.cell).1
  have hlow := hP.low (σ.toks.length + 1)
  refine acalls_fit Try.func39 (by kernel_rfl) c39 rfl (by simp [a39]) fun hf => ?_
  clear hf
  simp -implicitDefEqProofs (maxSteps := 2000000) (disch := omega) [-getElem?_pos, a39]
  refine W_loop (α := Nat) 0 (fun x => ws.length - x) (fun x => ⟨[(0, .ptr m 0), (1, .v (.sl (some 2) g (ws.map wv))), (2, dP), (7, .tsl σ.toks.length (some 2) (OW.take x)), (8, .v (.int .i64 x))], ⟨σ.objs, σ.toks ++ [x]⟩⟩)
    (fun x => x ≤ ws.length) (.tok (sh := some 2) (i := 7) (by simp) (by simp)) (Nat.zero_le _) fun i hi => ?_
  have hOt : (OW.take i).length = i := by rw [List.length_take, hOl]; omega
  simp -implicitDefEqProofs (maxSteps := 2000000) (disch := omega) [-getElem?_pos]
  refine .mk (fun hlt => ?_) fun hlt => ?_
  · have hlt' : i < ws.length := by omega
    obtain ⟨x, hx⟩ : ∃ x, ws[i]? = some x := ⟨_, List.getElem?_eq_getElem hlt'⟩
    obtain ⟨hfw, hhw⟩ := hws x (List.mem_of_getElem? hx)
    have hon := hOi i x hx
    obtain ⟨p, v⟩ := x
    cases p with
    | false =>
      have ht : turnW os F ⟨false, v⟩ = ⟨false, v⟩ := rfl
      rw [ht] at hon
      simp -implicitDefEqProofs (maxSteps := 2000000) (disch := omega) [-getElem?_pos, hx, hOt, mkAgg, allV]
      exact ⟨hlt', by omega, i + 1, hlt', by dsimp only; omega, .dropO rfl (by simp) (by simp [hon]) (by simp [hml, hlow])⟩
    | true =>
      obtain ⟨n, hn⟩ := hfw rfl
      dsimp only at hn
      have hm := hhw n rfl hn
      have hnl := (idxAt_iff.1 hn).1
      obtain ⟨cs, rfl, hcs, hcn⟩ := hP.row hnl hm
      have ht : turnW os F ⟨true, v⟩ = ⟨true, newp os F n⟩ := by simp [turnW, hn]
      rw [ht] at hon
      have hr := fun xs => k_RAt (place := v) (h.app xs (σ.toks ++ [i])) hl
      have hid : idxR os v = n := by simp [idxR, hn]
      rw [hid] at hr
      have hcl := (List.getElem?_eq_some_iff.1 hcs).1
      have hg : ∀ X : Ob, (σ.objs ++ [X])[oP]? = some (.cells cs) := fun X => (List.getElem?_append_left hcl).trans hcs
      have hnl2 := (List.getElem?_eq_some_iff.1 hcn).1
      simp -implicitDefEqProofs (maxSteps := 2000000) (disch := omega) [-getElem?_pos, hx, hOt, mkAgg, allV]
      refine ⟨hlt', ?_⟩
      refine (hr _).then fun r hq => ?_
      subst hq
      simp -implicitDefEqProofs (maxSteps := 2000000) (disch := omega) [-getElem?_pos, hg, hcn, hOt, mkAgg, allV]
      exact ⟨by omega, by omega, i + 1, hlt', by dsimp only; omega, .dropO rfl (by simp) (by simp [hon]) (by simp [hml, hlow])⟩
  · have hie : i = ws.length := by omega
    subst hie
    have hOe : OW.take ws.length = OW := List.take_of_length_le (by omega)
    rw [hOe]
    simp -implicitDefEqProofs (maxSteps := 2000000) (disch := omega) [-getElem?_pos]
    exact .fin (.v (.sl (some 2) false OW)) ⟨rfl, rfl⟩ .tsl
structure TuS where
  σ : Sg
  i : Nat
  id : Nat
  d : D
theorem Fr.mono {σ σ' : Sg} {S T : Nat → Prop} (h : Fr σ σ' S) (k : ∀ i, i < σ.objs.length → S i → T i) : Fr σ σ' T := ⟨h.len, fun i hi hn => h.keep i hi fun e => hn (k i hi e), h.tlen, h.tkeep⟩
theorem RH.fr {σ σ' : Sg} {m oT : Nat} {half runs : Int} {os : List Ho} {dT : D} {rs : List Rr} {S : Nat → Prop} (h : RH σ m oT half os runs dT rs) (k : Fr σ σ' S) (hS : ∀ i, RS m oT os rs i → ¬ S i) : RH σ' m oT half os runs dT rs :=
  h.on fun i hi => k.keep i (h.lt hi) (hS i hi)
theorem PL.fr {σ σ' : Sg} {o : Nat} {d : D} {os : List Ho} {F : List Nat} {S : Nat → Prop} (h : PL σ o d os F) (k : Fr σ σ' S) (hS : os ≠ [] → ¬ S o) : PL σ' o d os F := h.on fun hn => k.keep o (h.lt hn) (hS hn)
theorem VI.fr {σ σ' : Sg} {o : Nat} {d : D} {ws : List Wd} {S : Nat → Prop} (h : VI σ o d ws) (k : Fr σ σ' S) (hS : ws ≠ [] → ¬ S o) : VI σ' o d ws := h.on fun hn => k.keep o (h.lt hn) (hS hn)
theorem k_TurnB {σ : Sg} {m oT oP oW : Nat} {half runs : Int} {os : List Ho} {dT dP dW : D} {rs : List Rr} {F : List Nat} {ws : List Wd} (h : RH σ m oT half os runs dT rs) (hl : os.length ≤ 100000) (hP : PL σ oP dP os F) (hv : VI σ oW dW ws) (hws : ∀ w ∈ ws, fineW os w ∧ Has os F w) (hwl : ws.length ≤ 1000000) :
    ACalls Try.prog 39 [.ptr m 0, dW, dP] σ fun r σ' => ∃ id, VI σ' id r (ws.map (turnW os F)) ∧ σ.objs.length ≤ id ∧ Fr σ σ' (fun _ => False) := by
  have hwv : ∀ (σ' : Sg) (K : V → Prop), WLen .sl dW σ' K = K (.int .i64 ws.length) := fun σ' K => wlen_VI hv
  obtain ⟨OW, hOW⟩ : ∃ OW, OW = ws.map (turnW os F) := ⟨_, rfl⟩
  have hOl : OW.length = ws.length := by rw [hOW]; simp
  have hOi : ∀ (i : Nat) w, ws[i]? = some w → OW.take (i + 1) = OW.take i ++ [turnW os F w] := fun i w hw => by
    rw [hOW, List.take_add_one, List.getElem?_map, hw]
    rfl
  rw [← hOW]
  have hml := (List.getElem?_eq_some_iff.1 h.cell).1
  refine acalls_fit Try.func39 (by kernel_rfl) c39m rfl (by simp [a39m]) fun hf => ?_
  clear hf
  simp -implicitDefEqProofs (maxSteps := 2000000) (disch := omega) [-getElem?_pos, a39m]
  refine W_loop (α := TuS) ⟨σ, 0, σ.objs.length, .v .snil⟩ (fun x => ws.length - x.i) (fun x => ⟨[(0, .ptr m 0), (1, dW), (2, dP), (7, x.d), (8, .v (.int .i64 x.i))], x.σ⟩)
    (fun x => x.i ≤ ws.length ∧ VI x.σ x.id x.d (OW.take x.i) ∧ σ.objs.length ≤ x.id ∧ Fr σ x.σ (fun _ => False)) (.eq (by simp)) ⟨Nat.zero_le _, .nil, Nat.le_refl _, .refl _ _⟩ fun ⟨σ2, i, id, d⟩ ⟨hi, hV, hid, hFr⟩ => ?_
  dsimp only at hi hV hid hFr ⊢
  have h2 := h.fr hFr fun _ _ e => e
  have hP2 := hP.fr hFr fun _ e => e
  have hv2 := hv.fr hFr fun _ e => e
  have hOt : (OW.take i).length = i := by rw [List.length_take, hOl]; omega
  simp -implicitDefEqProofs (maxSteps := 2000000) (disch := omega) [-getElem?_pos, hwv]
  refine .mk (fun hlt => ?_) fun hlt => ?_
  · have hlt' : i < ws.length := by omega
    obtain ⟨x, hx⟩ : ∃ x, ws[i]? = some x := ⟨_, List.getElem?_eq_getElem hlt'⟩
    obtain ⟨hfw, hhw⟩ := hws x (List.mem_of_getElem? hx)
    have hon := hOi i x hx
    obtain ⟨cw, cw2, rfl, hw2, hw3, hw4, hw5, hw6⟩ := hv2.row hx
    have hwl2 := (List.getElem?_eq_some_iff.1 hw2).1
    obtain ⟨p, v⟩ := x
    have fin : ∀ (q : Bool) (u : Int) (Y : List Ob), OW.take (i + 1) = OW.take i ++ [⟨q, u⟩] → ∀ o' d' (σ' : Sg), VI σ' o' d' (OW.take i ++ [⟨q, u⟩]) → Fr ⟨σ2.objs ++ Y, σ2.toks⟩ σ' (fun j => j = id ∧ OW.take i ≠ []) → (o' = id ∧ OW.take i ≠ [] ∨ o' = (σ2.objs ++ Y).length) →
        VI σ' o' d' (OW.take (i + 1)) ∧ σ.objs.length ≤ o' ∧ Fr σ σ' (fun _ => False) := fun q u Y e o' d' σ' f1 f2 f3 => by
      refine ⟨by rw [e]; exact f1, ?_, ?_⟩
      · have := hFr.len
        rcases f3 with ⟨f3, _⟩ | f3
        · omega
        · rw [List.length_append] at f3; omega
      · have g1 : Fr σ2 ⟨σ2.objs ++ Y, σ2.toks⟩ (fun _ => False) := by simpa using Fr.add σ2 Y [] (fun _ => False)
        exact (hFr.trans g1 (fun _ _ e => e) fun _ _ e => e).trans f2 (fun _ _ e => e) fun j hj e => by omega
    cases p with
    | false =>
      have ht : turnW os F ⟨false, v⟩ = ⟨false, v⟩ := rfl
      rw [ht] at hon
      have hV2 : ∀ X, VI ⟨σ2.objs ++ [X], σ2.toks⟩ id d (OW.take i) := fun X => hV.on fun hn => List.getElem?_append_left (hV.lt hn)
      simp -implicitDefEqProofs (maxSteps := 2000000) (disch := omega) [-getElem?_pos, hw2, hw3, hw4, hw5, hOt, mkAgg, allV]
      refine ⟨hlt', by omega, appm_VI (ys := [⟨false, v⟩]) (hV2 _) (by simp) (by simp [hOt]; omega) fun o' d' σ' f1 f2 f3 => ?_⟩
      have hf := fin false v _ hon o' d' σ' f1 f2 f3
      simp -implicitDefEqProofs (maxSteps := 2000000) (disch := omega) [-getElem?_pos]
      exact ⟨⟨σ', i + 1, o', d'⟩, ⟨hlt', hf⟩, by dsimp only; omega, .eq (by simp)⟩
    | true =>
      obtain ⟨n, hn⟩ := hfw rfl
      dsimp only at hn
      have hm := hhw n rfl hn
      have hnl := (idxAt_iff.1 hn).1
      obtain ⟨cs, rfl, hcs, hcn⟩ := hP2.row hnl hm
      have ht : turnW os F ⟨true, v⟩ = ⟨true, newp os F n⟩ := by simp [turnW, hn]
      rw [ht] at hon
      have hr := fun xs => k_RAt (place := v) (h2.app xs σ2.toks) hl
      have hidx : idxR os v = n := by simp [idxR, hn]
      rw [hidx] at hr
      have hcl := (List.getElem?_eq_some_iff.1 hcs).1
      have hg : ∀ X : Ob, (σ2.objs ++ [X])[oP]? = some (.cells cs) := fun X => (List.getElem?_append_left hcl).trans hcs
      have hnl2 := (List.getElem?_eq_some_iff.1 hcn).1
      have hV2 : ∀ X, VI ⟨σ2.objs ++ [X], σ2.toks⟩ id d (OW.take i) := fun X => hV.on fun hn => List.getElem?_append_left (hV.lt hn)
      simp -implicitDefEqProofs (maxSteps := 2000000) (disch := omega) [-getElem?_pos, hw2, hw3, hw4, hw5, hOt, mkAgg, allV]
      refine ⟨hlt', by omega, ?_⟩
      refine (hr _).then fun r hq => ?_
      subst hq
      simp -implicitDefEqProofs (maxSteps := 2000000) (disch := omega) [-getElem?_pos, hg, hcn, hOt, mkAgg, allV]
      refine ⟨by omega, appm_VI (ys := [⟨true, newp os F n⟩]) (hV2 _) (by simp) (by simp [hOt]; omega) fun o' d' σ' f1 f2 f3 => ?_⟩
      have hf := fin true (newp os F n) _ hon o' d' σ' f1 f2 f3
      simp -implicitDefEqProofs (maxSteps := 2000000) (disch := omega) [-getElem?_pos]
      exact ⟨⟨σ', i + 1, o', d'⟩, ⟨hlt', hf⟩, by dsimp only; omega, .eq (by simp)⟩
  · have hie : i = ws.length := by omega
    subst hie
    have hOe : OW.take ws.length = OW := List.take_of_length_le (by omega)
    rw [hOe] at hV
    simp -implicitDefEqProofs (maxSteps := 2000000) (disch := omega) [-getElem?_pos]
    exact ⟨_, _, WeakR.refl _ _ _, id, hV, hid, hFr⟩
theorem mkAgg_cells (ds : List D) : (mkAgg ds).cells = ds := by
  unfold mkAgg
  split
  · rename_i xs hx
    have := allV_map hx
    subst this
    rfl
  · rfl
theorem mkAgg_lies (ds : List D) : (mkAgg ds).lies = true := by
  unfold mkAgg
  split <;> rfl
/-- An object of the document's, as its cells. -/
def rowD (p : Nat) (o : Ho) (d : D) : List D := [.v (.int .i64 p), .v (.int .i64 o.k), d]
theorem cellsR_snoc {p : Nat} {os : List Ho} {rs : List Rr} {o : Ho} {r : Rr} (h : rs.length = os.length) : cellsR p (os ++ [o]) (rs ++ [r]) = cellsR p os rs ++ rowD (p + tot os) o r.d := by
  rw [cellsR_app h]
  rfl
theorem put_cellsR {p : Nat} {os : List Ho} {rs : List Rr} {J : List D} {o : Ho} {r : Rr} (h : rs.length = os.length) : putAt (cellsR p os rs ++ J) (os.length * 3) (rowD (p + tot os) o r.d) = cellsR p (os ++ [o]) (rs ++ [r]) ++ J.drop 3 := by
  have hl := cellsR_len (p := p) h
  unfold putAt
  rw [List.take_left' hl, show os.length * 3 + (rowD (p + tot os) o r.d).length = (cellsR p os rs).length + 3 by rw [hl]; rfl, ← List.drop_drop, List.drop_left, cellsR_snoc h, List.append_assoc]
theorem appd_VR {σ : Sg} {oN : Nat} {d : D} {os : List Ho} {rs : List Rr} {o : Ho} {r : Rr} {K : D → Sg → Prop} (h : VR σ oN d os rs) (hn : os.length ≤ 100000)
    (key : ∀ o' d' σ', VR σ' o' d' (os ++ [o]) (rs ++ [r]) → Fr σ σ' (fun i => i = oN ∧ os ≠ []) → (o' = oN ∧ os ≠ [] ∨ o' = σ.objs.length) → K d' σ') : WApdV (some 3) 40 d 1 (rowD (tot os) o r.d) σ K := by
  have new : WApdV (some 3) 40 (.v .snil) 1 (rowD (tot ([] : List Ho)) o r.d) σ K ∨ ¬ (os = [] ∧ rs = []) := by
    by_cases he : os = [] ∧ rs = []
    · obtain ⟨rfl, rfl⟩ := he
      refine .inl ?_
      rw [WApdV_snil]
      refine .mk (fun e => by omega) fun _ => ?_
      rw [TDs_go]
      refine ⟨by omega, fun c => ?_⟩
      rw [TD0_go]
      intro h1 h2
      refine key _ _ _ (.msl (os := [] ++ [o]) (rs := [] ++ [r]) (J := List.replicate ((c - 1) * shn (some 3)) .junk) (by simp) (by simp [Sg.add, cellsR, rowD, tot]) rfl ?_ h2) (by simpa [Sg.add] using Fr.add σ _ [] _) (.inr rfl)
      rw [List.length_append, cellsR_len rfl, List.length_replicate]
      show 1 * 3 + (c - 1) * 3 = c * 3
      omega
    · exact .inr he
  cases h with
  | nil => exact new.resolve_right fun e => e ⟨rfl, rfl⟩
  | emp =>
    have := new.resolve_right fun e => e ⟨rfl, rfl⟩
    rw [WApdV_snil] at this
    rw [WApdV_full]
    exact this
  | msl w1 w2 w3 w4 w5 =>
    rename_i J c
    have hl := (List.getElem?_eq_some_iff.1 w2).1
    have hcl := cellsR_len (p := 0) w3
    have hap := put_cellsR (p := 0) (J := J) (o := o) (r := r) w3
    rw [Nat.zero_add] at hap
    rw [WApdV_msl, w2]
    rw [List.length_append, hcl] at w4
    have hsn : (rs ++ [r]).length = (os ++ [o]).length := by simp [w3]
    refine .mk (fun h1 => ?_) fun h1 => ?_
    · rw [TDr_go]
      refine ⟨by simp [hcl, shn]; omega, ?_⟩
      rw [show 0 + os.length * shn (some 3) = os.length * 3 by simp [shn], hap]
      have hv := VR.msl (σ := σ.put oN (.cells (cellsR 0 (os ++ [o]) (rs ++ [r]) ++ List.drop 3 J))) (oT := oN) (os := os ++ [o]) (rs := rs ++ [r]) (J := List.drop 3 J) (c := c) (by simp) (by simp [Sg.put, hl]) hsn (by rw [List.length_append, cellsR_len hsn, List.length_drop, List.length_append, List.length_singleton]; omega) w5
      rw [List.length_append, List.length_singleton] at hv
      refine key _ _ _ hv ?_ (.inl ⟨rfl, w1⟩)
      refine ⟨by simp [Sg.put], fun j hj hn => ?_, Nat.le_refl _, fun _ _ => rfl⟩
      show (σ.objs.set oN _)[j]? = _
      exact List.getElem?_set_ne (fun e => hn ⟨e.symm, w1⟩)
    · rw [TDg_go]
      refine ⟨by simp [hcl, shn], by omega, fun c' h2 h3 => ?_⟩
      rw [List.drop_zero, show os.length * shn (some 3) = os.length * 3 by simp [shn], List.take_left' hcl, ← List.append_assoc]
      have hsc := cellsR_snoc (p := 0) (o := o) (r := r) w3
      rw [Nat.zero_add] at hsc
      rw [← hsc]
      have hv := VR.msl (σ := σ.add (.cells (cellsR 0 (os ++ [o]) (rs ++ [r]) ++ List.replicate ((c' - (os.length + 1)) * shn (some 3)) .junk))) (oT := σ.objs.length) (os := os ++ [o]) (rs := rs ++ [r]) (J := List.replicate ((c' - (os.length + 1)) * shn (some 3)) .junk) (c := c') (by simp) (by simp [Sg.add]) hsn
        (by rw [List.length_append, cellsR_len hsn, List.length_replicate, List.length_append, List.length_singleton]; show _ + (c' - (os.length + 1)) * 3 = _; omega) h3
      rw [List.length_append, List.length_singleton] at hv
      exact key _ _ _ hv (by simpa [Sg.add] using Fr.add σ _ [] _) (.inr rfl)
/-- A copy of a row. -/
theorem copy_VR {σ : Sg} {oN : Nat} {d : D} {os : List Ho} {rs : List Rr} {K : D → Sg → Prop} (h : VR σ oN d os rs) (hn : os.length ≤ 100000)
    (key : ∀ d' σ', VR σ' σ.objs.length d' os rs → Fr σ σ' (fun _ => False) → K d' σ') : WS2 (srcD σ (some 3) d) fun n yd => WApdV (some 3) 40 (.v (.sl (some 3) true [])) n yd σ K := by
  have emp : os = [] → rs = [] → WApdV (some 3) 40 (.v (.sl (some 3) true [])) 0 [] σ K := by
    rintro rfl rfl
    rw [WApdV_full]
    refine .mk (fun _ => ?_) fun e => absurd rfl e
    rw [TMn_go]
    exact key _ _ .emp (.refl _ _)
  cases h with
  | nil => rw [srcD_snil]; exact emp rfl rfl
  | emp => rw [srcD_nil]; exact emp rfl rfl
  | msl w1 w2 w3 w4 w5 =>
    rename_i J c
    have hcl := cellsR_len (p := 0) w3
    have hos : 0 < os.length := List.length_pos_iff.2 w1
    rw [srcD_msl]
    refine .mk (fun e => by omega) fun _ => ?_
    rw [WSrcD_go, w2]
    refine ⟨by rw [List.length_append, hcl]; omega, by rw [List.length_append, hcl]; simp [shn], ?_⟩
    rw [List.drop_zero, show os.length * shn (some 3) = os.length * 3 by simp [shn], List.take_left' hcl, WApdV_full]
    refine .mk (fun e => by omega) fun _ => ?_
    rw [TDs_go]
    refine ⟨by omega, fun c => ?_⟩
    rw [TD0_go]
    intro h1 h2
    refine key _ _ (.msl (J := List.replicate ((c - os.length) * shn (some 3)) .junk) w1 (by simp [Sg.add]) w3 ?_ h2) (by simpa [Sg.add] using Fr.add σ _ [] _)
    rw [List.length_append, hcl, List.length_replicate]
    show os.length * 3 + (c - os.length) * 3 = c * 3
    omega
/-- Where objects lie then: some of them are told. -/
inductive PI (σ : Sg) (oP : Nat) : D → List Ho → List Nat → Nat → Prop
  | nil {F : List Nat} {i : Nat} : PI σ oP (.v (.sl none true [])) [] F i
  | msl {os : List Ho} {F : List Nat} {i : Nat} : os ≠ [] → σ.objs[oP]? = some (.cells (plc os F i)) → PI σ oP (.msl oP 0 os.length none (some os.length)) os F i
theorem plc_zero (os : List Ho) (F : List Nat) : plc os F 0 = (zerosV [.int .i64 0] os.length).map .v := by
  have hz : zerosV [V.int .i64 0] os.length = List.replicate os.length (.int .i64 0) := by
    unfold zerosV
    induction os.length with
    | zero => rfl
    | succ n ih => rw [List.replicate_succ, List.flatten_cons, ih]; rfl
  rw [hz]
  unfold plc
  refine List.ext_getElem? fun i => ?_
  simp [List.getElem?_replicate]
  by_cases hi : i < os.length
  · simp [hi]
  · simp [hi]
theorem plc_set {os : List Ho} {F : List Nat} {i j : Nat} (hj : F[i]? = some j) (hl : j < os.length) : (plc os F i).take j ++ .v (.int .i64 (newp os F j)) :: (plc os F i).drop (j + 1) = plc os F (i + 1) := by
  have h1 : (plc os F i).set j (.v (.int .i64 (newp os F j))) = plc os F (i + 1) := by
    unfold plc
    refine List.ext_getElem? fun k => ?_
    rw [List.getElem?_set]
    simp only [List.length_map, List.length_range, hl, if_true, List.getElem?_map]
    by_cases hk : j = k
    · subst hk
      rw [if_pos rfl, List.getElem?_range hl]
      have : j ∈ F.take (i + 1) := by rw [List.take_add_one, hj]; simp
      simp [this]
    · rw [if_neg hk]
      by_cases hkl : k < os.length
      · rw [List.getElem?_range hkl]
        have : k ∈ F.take (i + 1) ↔ k ∈ F.take i := by
          rw [List.take_add_one, hj]
          simp only [Option.toList, List.mem_append, List.mem_singleton]
          exact ⟨fun h => h.resolve_right fun e => hk e.symm, .inl⟩
        simp [this]
      · rw [List.getElem?_eq_none (by simpa using hkl)]
        rfl
  rw [← h1, List.set_eq_take_append_cons_drop, if_pos (by rw [plc_len]; exact hl)]
theorem mkvec_PI {σ : Sg} {os : List Ho} {F : List Nat} {K : D → Sg → Prop} (hl : os.length ≤ 100000) (key : ∀ d σ', PI σ' σ.objs.length d os F 0 → Fr σ σ' (fun _ => False) → K d σ') :
    WX (.mkvec none 8 [.int .i64 0]) [.v (.int .i64 os.length), .v (.int .i64 os.length)] σ K := by
  rw [WX_mkvec]
  refine ⟨by omega, by omega, by omega, .mk (fun e => ?_) fun e => ?_⟩
  · have : os = [] := List.length_eq_zero_iff.1 (by omega)
    subst this
    exact key _ _ .nil (.refl _ _)
  · have hne : os ≠ [] := by rintro rfl; simp at e
    rw [TV1_go]
    refine key _ _ ?_ (by simpa [Sg.add] using Fr.add σ _ [] _)
    simp only [Int.toNat_natCast]
    exact .msl hne (by rw [plc_zero]; simp [Sg.add])
end Go.Proofs.Ytiomciifhkbklaa
