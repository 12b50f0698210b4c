/-
  Closed functions: all of an expression's, by definition, given out for good. (Own work.)
-/
import Derived.Test.YtppdghfpbliaeaaB17
set_option linter.unusedVariables false
set_option linter.unusedSimpArgs false
namespace Go.Proofs.Ytppdghfpbliaeaa
open Go Go.Abs

/-- A slice that could be written to stays as it is. -/
theorem thaw_core {σ : Sg} {m : Gh} {w : World} (hI : Inv σ m w) {o : Nat} {sh : Sh} {xs : List V} {cp : Option Nat} {cs : List D} {e : Value} (hs : ∀ x ∈ xs, x.shape = sh) (h1 : ∀ c ∈ V.flat xs, c.one = true)
    (hcs : σ.objs[o]? = some (.cells cs)) (hne : cs ≠ []) (hx : cs.take (xs.length * shn sh) = (V.flat xs).map .v) (hr : RepD m w (.msl o 0 xs.length sh cp) e) :
    ∃ m', Inv (σ.put o (.cells [])) m' w ∧ Ext m w m' w ∧ RepD m' w (.v (.sl sh false xs)) e := by
  have hflen := V.flat_length hs
  cases hr with
  | msl _ _ _ _ _ aa cap hol hbb hlc hcm hcc =>
  rcases hbb with ⟨b, rfl, hb⟩ | ⟨h0, hc0⟩
  · have hb := hI.live hcs (by rintro e; cases e; exact hne rfl) hb
    obtain ⟨us', ty, hh, hsz, hob, _⟩ := hI.ob o _ b hcs hb
    obtain ⟨hI2, hX2⟩ := endObj hI hb
    refine ⟨_, hI2, hX2, .v _ _ ?_⟩
    have nd : m.objb.Nodup := (List.nodup_append.1 hI.nodup).1
    have hnm : ∀ off, ¬ (goneM m o).mut b off := by
      rintro off (h | ⟨tk, h, h2, _⟩)
      · exact goneM_not nd hb h
      · exact Gh.own_not_obj hI.nodup h h2 (Gh.mem_objb.2 (List.mem_of_getElem? hb))
    have hbs : b < w.heap.size := (Array.getElem?_eq_some_iff.1 hh).1
    have hat : ∀ (i : Nat) c, (V.flat xs)[i]? = some c → ∃ u, us'[i]? = some u ∧ RepV w (Fz m w) c u := by
      intro i c hc
      have hil := (List.getElem?_eq_some_iff.1 hc).1
      have h3 : (cs.take (xs.length * shn sh))[i]? = some (.v c) := by rw [hx, List.getElem?_map, hc]; rfl
      rw [List.getElem?_take_of_lt (by omega)] at h3
      have hlt : i < us'.size := Nat.lt_of_lt_of_le (List.getElem?_eq_some_iff.1 h3).1 hsz
      obtain ⟨q1, q2⟩ := hob i _ us'[i] h3 (Array.getElem?_eq_getElem hlt)
      exact ⟨_, Array.getElem?_eq_getElem hlt, q1.v_inv⟩
    refine .sl sh false xs b 0 cap (fun i => us'.getD i undef) hs h1 hlc hcm (fun h => by cases h) (fun i hi => ?_) fun i c hc => ?_
    · obtain ⟨u, h3, _⟩ := hat i _ (List.getElem?_eq_getElem (by omega))
      refine ⟨?_, hbs, hnm _⟩
      rw [cell_of_row w b (0 + i) us' ty (0, 0) hh, Nat.zero_add, h3]
      simp [Array.getD_eq_getD_getElem?, h3]
    · obtain ⟨u, h3, h4⟩ := hat i c hc
      have e : us'.getD i undef = u := by simp [Array.getD_eq_getD_getElem?, h3]
      show RepV _ _ c (us'.getD i undef)
      rw [e]
      exact h4.mono fun b' off' hf => hX2.fz b' off' hf
  · have : xs = [] := List.length_eq_zero_iff.1 h0
    subst this
    have hlt : o < m.objs.length := hol
    obtain ⟨x, hx2⟩ : ∃ x, m.objs[o]? = some x := ⟨_, List.getElem?_eq_getElem hlt⟩
    cases x with
    | none =>
      have := hI.gone o hx2
      rw [hcs] at this
      cases this
      exact absurd rfl hne
    | some b =>
      obtain ⟨hI2, hX2⟩ := endObj hI hx2
      subst hc0
      exact ⟨_, hI2, hX2, .v _ _ (.slNil _ _ _)⟩

/-- What is given out, with one thing more, is given out for good. -/
theorem ACalls.thaw2 {P : Program} {f : Nat} {ds : List D} {σ : Sg} {R : D → Sg → Prop}
    (h : ACalls P f ds σ fun r σ' => R r σ' ∨ ∃ o sh xs cs cp d2 r', (∀ x ∈ xs, V.shape x = sh) ∧ (∀ c ∈ V.flat xs, c.one = true) ∧ r = .tup [.msl o 0 xs.length sh cp, .v d2] ∧ σ'.objs[o]? = some (.cells cs) ∧ cs ≠ [] ∧ cs.take (xs.length * shn sh) = (V.flat xs).map .v ∧ D.Le (.tup [.v (.sl sh false xs), .v d2]) r' ∧ R r' (σ'.put o (.cells []))) : ACalls P f ds σ R := by
  refine ⟨h.1, fun m w us hI hl hr => (h.2 m w us hI hl hr).mono fun e w' ⟨v, r, σ', m', he, hq, hI', hX, hrep⟩ => ?_⟩
  rcases hq with hq | ⟨o, sh, xs, cs, cp, d2, r', hs, h1, hr', hcs, hne, hx, hle, hR⟩
  · exact ⟨v, r, σ', m', he, hq, hI', hX, hrep⟩
  subst hr'
  cases hrep with
  | tup _ us2 hl2 hr2 =>
  match us2, hl2 with
  | [u1, u2], _ =>
    have k1 := hr2 0 _ u1 rfl rfl
    have k2 := hr2 1 _ u2 rfl rfl
    obtain ⟨m2, hI2, hX2, hk⟩ := thaw_core hI' hs h1 hcs hne hx k1
    refine ⟨_, r', _, m2, he, hR, hI2, hX.trans hX2, hle _ _ _ (.tup _ _ rfl fun i c u hc hu => ?_)⟩
    match i with
    | 0 => cases hc; cases hu; exact hk
    | 1 => cases hc; cases hu; exact k2.mono hX2
    | j + 2 => simp at hc

/-- A function as it is given out. -/
def co0 : Co := .mk 0 0 [] [] [] []
def encU (f : Fu) : V := .agg (.str f.s :: .str f.t :: vS (f.caps.getD []) :: coV (f.part.getD co0))
def fuE (f : Fu) : V := .agg (fuV f)
theorem encU_shape (f : Fu) : (encU f).shape = some 9 := by simp [encU, V.shape, coV_len]
theorem fuE_shape (f : Fu) : (fuE f).shape = some 9 := by simp [fuE, V.shape, fuV_len]
theorem coV_one2 {e : Co} {y : V} (h : y ∈ coV e) : y.one = true := coV_one e y h
theorem encU_one {f : Fu} : ∀ c ∈ (encU f).cells, c.one = true := by
  intro c hc
  simp only [encU, V.cells, List.mem_cons] at hc
  rcases hc with rfl | rfl | rfl | hc
  · rfl
  · rfl
  · rfl
  · exact coV_one2 hc
theorem fuV_one {f : Fu} : ∀ c ∈ fuV f, c.one = true := by
  intro c hc
  simp only [fuV, List.mem_cons] at hc
  rcases hc with rfl | rfl | rfl | hc
  · rfl
  · rfl
  · cases f.caps <;> rfl
  · cases hp : f.part with
    | none => rw [hp] at hc; simp [partV] at hc; rcases hc with rfl | rfl | rfl | rfl <;> rfl
    | some e => rw [hp] at hc; exact coV_one2 hc
theorem flat_one {xs : List V} (h : ∀ x ∈ xs, ∀ c ∈ x.cells, c.one = true) : ∀ c ∈ V.flat xs, c.one = true := by
  intro c hc
  obtain ⟨x, hx, hc⟩ := List.mem_flatMap.1 hc
  exact h x hx c hc
theorem flat_fuE (fs : List Fu) : (V.flat (fs.map fuE)).map D.v = funD fs := by
  unfold funD V.flat
  rw [List.flatMap_map]
  rfl
theorem VLes.refl : ∀ xs : List V, VLes xs xs
  | [] => trivial
  | x :: xs => ⟨.refl _, VLes.refl xs⟩
theorem VLes.app : ∀ {xs ys xs' ys' : List V}, VLes xs ys → VLes xs' ys' → VLes (xs ++ xs') (ys ++ ys')
  | [], [], _, _, _, h => h
  | x :: xs, y :: ys, _, _, h, k => ⟨h.1, VLes.app h.2 k⟩
  | [], _ :: _, _, _, h, _ => h.elim
  | _ :: _, [], _, _, h, _ => h.elim
theorem fu_les (f : Fu) : VLes (fuV f) (.str f.s :: .str f.t :: vS (f.caps.getD []) :: coV (f.part.getD co0)) := by
  refine ⟨.refl _, .refl _, ?_, ?_⟩
  · cases f.caps with
    | none => exact .snil
    | some l => exact .refl _
  · cases f.part with
    | none => exact ⟨.refl _, .refl _, .refl _, .refl _, .snil, .snil, trivial⟩
    | some e => exact VLes.refl _
theorem fus_les : ∀ fs : List Fu, VLes (V.flat (fs.map fuE)) (V.flat (fs.map encU))
  | [] => trivial
  | f :: l => by
    simp only [List.map_cons, V.flat, List.flatMap_cons]
    exact VLes.app (fu_les f) (fus_les l)
theorem fus_le (fs : List Fu) : VLe (.sl (some 9) false (fs.map fuE)) (.sl (some 9) false (fs.map encU)) := by
  refine VLe.sl (by simp) (fun y hy => ?_) (flat_one fun x hx => ?_) (fus_les fs)
  · obtain ⟨f, _, rfl⟩ := List.mem_map.1 hy
    exact encU_shape f
  · obtain ⟨f, _, rfl⟩ := List.mem_map.1 hx
    exact encU_one

/-- The caller's memory has grown. -/
structure Grew (σ σ' : Sg) : Prop where
  len : σ.objs.length ≤ σ'.objs.length
  objs : ∀ i, i < σ.objs.length → σ'.objs[i]? = σ.objs[i]?
  toks : ∃ ts, σ'.toks = σ.toks ++ ts
theorem Grew.get {σ σ' : Sg} (h : Grew σ σ') {i : Nat} {x : Ob} (k : σ.objs[i]? = some x) : σ'.objs[i]? = some x := (h.objs i (List.getElem?_eq_some_iff.1 k).1).trans k

theorem Grew.add (σ : Sg) (xs : List Ob) : Grew σ ⟨σ.objs ++ xs, σ.toks⟩ := ⟨by simp, fun i hi => List.getElem?_append_left hi, [], by simp⟩
def fu0 : Fu := ⟨[], [], none, none⟩
def cw (e : Co) : Co × Ws := wk e ⟨[fu0], false⟩
def closeE (e : Co) : Int := if ofS (fvs e) ≠ [] then 4 else if (cw e).2.bad then 4 else if 2000 < (cw e).2.fs.length then 6 else 0
def closeL (e : Co) : List Fu := if closeE e = 0 then setPart (cw e).2.fs 0 (cw e).1 else []
def errV (n : Int) : V := if n = 0 then .inil else .iface 47 (.int .i64 n)
def CloseP (σ : Sg) (e : Co) (r : D) (σ' : Sg) : Prop := r = .tup [.v (.sl (some 9) false ((closeL e).map encU)), .v (errV (closeE e))] ∧ Grew σ σ'
def ClosePre (σ : Sg) (e : Co) (r : D) (σ' : Sg) : Prop := CloseP σ e r σ' ∨ ∃ o sh xs cs cp d2 r', (∀ x ∈ xs, V.shape x = sh) ∧ (∀ c ∈ V.flat xs, c.one = true) ∧ r = .tup [.msl o 0 xs.length sh cp, .v d2] ∧ σ'.objs[o]? = some (.cells cs) ∧ cs ≠ [] ∧ cs.take (xs.length * shn sh) = (V.flat xs).map .v ∧ D.Le (.tup [.v (.sl sh false xs), .v d2]) r' ∧ CloseP σ e r' (σ'.put o (.cells []))
set_option maxHeartbeats 2000000 in
theorem k_Close (e : Co) {σ : Sg} (he : csz e ≤ 1048576) : ACalls Try.prog 9 [.v (encC e)] σ (CloseP σ e) := by
  refine ACalls.thaw2 (?_ : ACalls Try.prog 9 [.v (encC e)] σ (ClosePre σ e))
  have hcw := wk_len e ⟨[fu0], false⟩
  have hfr := fun σ => k_Free e (σ := σ) he
  have hwk := fun c o cap rest σ => k_Walk e (c := c) (o := o) (cap := cap) (rest := rest) (w := ⟨[fu0], false⟩) (σ := σ) he (by simp; omega)
  cases e with
  | mk k n s t ns l =>
  rw [encC_mk] at hfr hwk ⊢
  refine acalls_fit Try.func9 (by kernel_rfl) c9 rfl (by simp [a9]) fun hf => ?_
  clear hf
  simp -implicitDefEqProofs (maxSteps := 2000000) (disch := omega) [-getElem?_pos, a9]
  refine (hfr _).then fun r hr => ?_
  subst hr
  simp -implicitDefEqProofs (maxSteps := 2000000) (disch := omega) [-getElem?_pos]
  obtain ⟨e0, he0⟩ : ∃ e0, e0 = Co.mk k n s t ns l := ⟨_, rfl⟩
  rw [← he0] at hfr hwk hcw ⊢
  refine .mk (fun h => ?_) fun h => ?_
  · have hE : closeE e0 = 4 := by
      unfold closeE
      rw [if_pos (by intro e; rw [e] at h; simp at h)]
    simp -implicitDefEqProofs (maxSteps := 2000000) (disch := omega) [-getElem?_pos]
    refine ⟨.tup [.v (.sl (some 9) false ((closeL e0).map encU)), .v (errV (closeE e0))], _, weakR_le ?_, .inl ⟨rfl, Grew.add _ _⟩⟩
    rw [show closeL e0 = [] by simp [closeL, hE], hE]
    exact .tup2 .snil (.refl _)
  have hfe : ofS (fvs e0) = [] := List.eq_nil_of_length_eq_zero (by omega)
  simp -implicitDefEqProofs (maxSteps := 2000000) (disch := omega) [-getElem?_pos]
  refine (hwk (σ.objs.length + 2) (σ.objs.length + 1) 1 [] _ ⟨by simp [fu0], by simp [zerosV, funD, fuV, fu0, capV, partV], by omega, by simp, by simp⟩).mono fun r σ1 hr => ?_
  obtain ⟨rfl, o', cap', rest', hC, hF, ho'⟩ := hr
  obtain ⟨W, hW⟩ : ∃ W, W = cw e0 := ⟨_, rfl⟩
  have hW' : wk e0 ⟨[fu0], false⟩ = W := hW.symm
  rw [hW'] at hC hcw ⊢
  have hLe : closeE e0 = if W.2.bad then 4 else if 2000 < W.2.fs.length then 6 else 0 := by
    unfold closeE
    rw [if_neg (by simp [hfe]), hW]
  have hLl : closeL e0 = if closeE e0 = 0 then setPart W.2.fs 0 W.1 else [] := by
    unfold closeL
    rw [hW]
  clear hW hW'
  obtain ⟨p, fs, bad⟩ := W
  cases p with
  | mk k1 n1 s1 t1 ns1 l1 =>
  rw [encC_mk]
  dsimp only at hC hcw hLe hLl
  obtain ⟨z1, z2, z3, z4, z5⟩ := hC
  obtain ⟨f1, f2, ts1, f3⟩ := hF
  simp only [List.length_append, List.length_cons, List.length_nil] at f1 f2 f3 ho' hcw
  have hcl := (List.getElem?_eq_some_iff.1 z1).1
  have hol := (List.getElem?_eq_some_iff.1 z2).1
  have a1 : ∀ X, (σ1.objs ++ X)[σ.objs.length + 2]? = some (Ob.cells [D.msl o' 0 fs.length (some 9) (some cap'), D.v (V.bool bad)]) := fun X => by rw [List.getElem?_append_left hcl, z1]
  have a2 : ∀ X, (σ1.objs ++ X)[o']? = some (Ob.cells (funD fs ++ rest')) := fun X => by rw [List.getElem?_append_left hol, z2]
  have hG : ∀ X, Grew σ ⟨σ1.objs ++ X, σ1.toks⟩ := fun X => ⟨by simp; omega, fun i hi => by
    dsimp only
    rw [List.getElem?_append_left (by omega), f2 i (by omega) (by omega) (by omega), List.getElem?_append_left hi], ts1, f3⟩
  simp -implicitDefEqProofs (maxSteps := 2000000) (disch := omega) [-getElem?_pos, a1, a2]
  refine .mk (fun hb => ?_) fun hb => ?_
  · rw [if_pos hb] at hLe
    simp -implicitDefEqProofs (maxSteps := 2000000) (disch := omega) [-getElem?_pos]
    refine ⟨.tup [.v (.sl (some 9) false ((closeL e0).map encU)), .v (errV (closeE e0))], _, weakR_le ?_, .inl ⟨rfl, hG _⟩⟩
    rw [hLl, hLe]
    exact .tup2 .snil (.refl _)
  rw [if_neg hb] at hLe
  simp -implicitDefEqProofs (maxSteps := 2000000) (disch := omega) [-getElem?_pos, a1, a2]
  refine .mk (fun hn => ?_) fun hn => ?_
  · rw [if_pos (by omega)] at hLe
    simp -implicitDefEqProofs (maxSteps := 2000000) (disch := omega) [-getElem?_pos]
    refine ⟨.tup [.v (.sl (some 9) false ((closeL e0).map encU)), .v (errV (closeE e0))], _, weakR_le ?_, .inl ⟨rfl, hG _⟩⟩
    rw [hLl, hLe]
    exact .tup2 .snil (.refl _)
  rw [if_neg (by omega)] at hLe
  rw [if_pos hLe] at hLl
  have hfl := funD_len fs
  simp -implicitDefEqProofs (maxSteps := 2000000) (disch := omega) [-getElem?_pos, a1, a2]
  refine ⟨by omega, by omega, ?_⟩
  have hput := putPart fs 0 (.mk k1 n1 s1 t1 ns1 l1) rest' (by omega)
  rw [← hLl] at hput
  simp only [putAt, coV_mk, List.map_cons, List.map_nil, List.append_assoc, List.cons_append, List.nil_append, List.length_cons, List.length_nil, Nat.zero_mul, Nat.zero_add, Nat.reduceAdd] at hput
  rw [hput]
  have a3 : ∀ X Y, (σ1.objs.set o' X ++ Y)[σ.objs.length + 2]? = some (Ob.cells [D.msl o' 0 fs.length (some 9) (some cap'), D.v (V.bool bad)]) := fun X Y => by rw [List.getElem?_append_left (by simpa using hcl), List.getElem?_set_ne z3, z1]
  have hlen : (closeL e0).length = fs.length := by rw [hLl, setPart_len]
  have hfl2 := funD_len (closeL e0)
  simp -implicitDefEqProofs (maxSteps := 2000000) (disch := omega) [-getElem?_pos, a3]
  refine ⟨_, _, WeakR.refl _ _ _, .inr ⟨o', some 9, (closeL e0).map fuE, funD (closeL e0) ++ rest', some cap', .inil, .tup [.v (.sl (some 9) false ((closeL e0).map encU)), .v (errV (closeE e0))], fun x hx => ?_, flat_one fun x hx => ?_, by rw [List.length_map, hlen], by simp [List.getElem?_append_left, hol], ?_, ?_, ?_, rfl, ?_⟩⟩
  · obtain ⟨f, _, rfl⟩ := List.mem_map.1 hx
    exact fuE_shape f
  · obtain ⟨f, _, rfl⟩ := List.mem_map.1 hx
    exact fuV_one
  · intro e
    have := congrArg List.length e
    simp only [List.length_append, List.length_nil] at this
    omega
  · rw [List.length_map, flat_fuE]
    exact List.take_left' (by rw [hfl2]; rfl)
  · rw [hLe]
    exact .tup2 (fus_le _).d (.refl _)
  · refine ⟨by simp [Sg.put]; omega, fun i hi => ?_, ts1, f3⟩
    simp only [Sg.put]
    rw [List.getElem?_set_ne (by omega), List.getElem?_append_left (by simp; omega), List.getElem?_set_ne (by omega), f2 i (by omega) (by omega) (by omega), List.getElem?_append_left hi]
end Go.Proofs.Ytppdghfpbliaeaa
