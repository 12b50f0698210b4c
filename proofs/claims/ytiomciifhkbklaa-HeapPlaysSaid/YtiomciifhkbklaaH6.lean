/-
  A heap, walked: what was copied is looked through. (Own work.)
-/
import Derived.Test.YtiomciifhkbklaaH5
set_option linter.unusedVariables false
set_option linter.unusedSimpArgs false
set_option maxHeartbeats 1000000
namespace Go.Proofs.Ytiomciifhkbklaa
open Go Go.Abs

theorem Cp.on {σ σ' : Sg} {cp oF oT c : Nat} {fr to : List Wd} {dF dT : D} (h : Cp σ cp oF oT fr to c dF dT) (k : ∀ (i : Nat) ob, σ.objs[i]? = some ob → σ'.objs[i]? = some ob) : Cp σ' cp oF oT fr to c dF dT := by
  refine ⟨k _ _ h.cell, h.vf.on fun hn => ?_, h.vt.on fun hn => ?_, h.n1, h.n2, h.n3⟩
  · have := h.vf
    cases this with
    | nil => exact absurd rfl hn
    | msl w1 w2 w3 w4 => rw [w2]; exact k _ _ w2
  · have := h.vt
    cases this with
    | none => exact absurd hn (by omega)
    | msl w1 w2 w3 w4 => rw [w2]; exact k _ _ w2
/-- A word of what was copied is set. -/
theorem Cp.setT {σ : Sg} {cp oF oT c i : Nat} {fr to : List Wd} {dF dT : D} {J : List D} {w : Wd} (h : Cp σ cp oF oT fr to c dF dT) (hi : i < to.length) (hJ : σ.objs[oT]? = some (.cells (fl to ++ J))) :
    Cp ⟨σ.objs.set oT (.cells (fl (to.set i w) ++ J)), σ.toks⟩ cp oF oT fr (to.set i w) c dF dT := by
  have hl := (List.getElem?_eq_some_iff.1 hJ).1
  refine ⟨(List.getElem?_set_ne h.n2).trans h.cell, h.vf.on fun _ => List.getElem?_set_ne (Ne.symm h.n3), ?_, h.n1, h.n2, h.n3⟩
  have := h.vt
  cases this with
  | none => simp at hi
  | msl t1 t2 t3 t4 =>
    rename_i K
    have hJK : J = K := by
      rw [hJ] at t2
      injection t2 with t2
      injection t2 with t2
      exact List.append_cancel_left t2
    subst hJK
    have := VT.msl (σ := ⟨σ.objs.set oT (.cells (fl (to.set i w) ++ J)), σ.toks⟩) (o := oT) (to := to.set i w) (J := J) t1 (List.getElem?_set_self hl) (by rw [← t3]; simp [fl_len]) t4
    rwa [List.length_set] at this
theorem wds_turn_len (os : List Ho) (F : List Nat) (l : List Ho) : (wds (l.map (turnO os F))).length = tot l := by rw [wds_len, tot_turn]
theorem add_drop {os : List Ho} {ord : List Nat} {w : Wd} {m : Nat} (h : m ≤ ord.length) (ok : Okd os ord) : wds (pickO os ((reach1 os ord w).drop m)) = wds (pickO os (ord.drop m)) ++ addW os ord w := by
  by_cases hp : w.p = true
  · cases hi : idxAt os w.v with
    | none => simp [reach1, addW, hp, hi]
    | some i =>
      by_cases hm : i ∈ ord
      · simp [reach1, addW, hp, hi, hm]
      · have h1 : reach1 os ord w = ord ++ [i] := by simp [reach1, hp, hi, hm]
        have h2 : addW os ord w = hdOf os i :: wOf os i := by simp [addW, hp, hi, hm]
        rw [h1, h2, List.drop_append_of_le_length h, pickO_app, wds_app]
        obtain ⟨o, ho⟩ : ∃ o, os[i]? = some o := ⟨_, List.getElem?_eq_getElem (idxAt_iff.1 hi).1⟩
        congr 1
        simp [pickO, ho, wds, hdOf, wOf]
  · simp [reach1, addW, hp]
/-- What was copied, of which k objects were looked through. -/
def toS (os : List Ho) (F ord : List Nat) (k : Nat) : List Wd := wds ((pickO os (ord.take k)).map (turnO os F)) ++ wds (pickO os (ord.drop k))
theorem toS_len {os : List Ho} {F ord : List Nat} {k : Nat} : (toS os F ord k).length = tot (pickO os ord) := by
  unfold toS
  rw [List.length_append, wds_turn_len, wds_len, ← tot_app, ← pickO_app, List.take_append_drop]
/-- The same, and t words of the next object. -/
def toT (os : List Ho) (F ord : List Nat) (k t : Nat) (o : Ho) : List Wd := wds ((pickO os (ord.take k)).map (turnO os F)) ++ (headW o :: ((o.l.take t).map (turnW os F) ++ (o.l.drop t ++ wds (pickO os (ord.drop (k + 1))))))
theorem toT_zero {os : List Ho} {F ord : List Nat} {k i : Nat} {o : Ho} (hk : ord[k]? = some i) (ho : os[i]? = some o) : toT os F ord k 0 o = toS os F ord k := by
  unfold toT toS
  rw [drop_cons hk]
  have : pickO os (i :: ord.drop (k + 1)) = o :: pickO os (ord.drop (k + 1)) := by simp [pickO, ho]
  rw [this, wds_cons]
  simp
theorem toT_end {os : List Ho} {F ord : List Nat} {k i : Nat} {o : Ho} (hk : ord[k]? = some i) (ho : os[i]? = some o) : toT os F ord k o.l.length o = toS os F ord (k + 1) := by
  unfold toT toS
  rw [List.take_add_one, hk]
  simp only [Option.toList, pickO_app, List.map_append, wds_app]
  have : pickO os [i] = [o] := by simp [pickO, ho]
  rw [this]
  simp [wds, turnO, headW]
theorem toT_len {os : List Ho} {F ord : List Nat} {k t : Nat} {o : Ho} (ht : t ≤ o.l.length) : (toT os F ord k t o).length = tot (pickO os (ord.take k)) + (1 + o.l.length) + tot (pickO os (ord.drop (k + 1))) := by
  unfold toT
  simp only [List.length_append, wds_turn_len, List.length_cons, List.length_map, List.length_take, List.length_drop, wds_len, tot_turn]
  omega
theorem toT_get {os : List Ho} {F ord : List Nat} {k t : Nat} {o : Ho} {w : Wd} (hw : o.l[t]? = some w) : (toT os F ord k t o)[tot (pickO os (ord.take k)) + (1 + t)]? = some w := by
  have ht := (List.getElem?_eq_some_iff.1 hw).1
  unfold toT
  rw [List.getElem?_append_right (by rw [wds_turn_len]; omega), wds_turn_len, show tot (pickO os (ord.take k)) + (1 + t) - tot (pickO os (ord.take k)) = t + 1 by omega, List.getElem?_cons_succ,
    List.getElem?_append_right (by simp; omega), List.length_map, List.length_take, show t - min t o.l.length = 0 by omega, drop_cons hw]
  rfl
theorem toT_next {os : List Ho} {F ord : List Nat} {k t : Nat} {o : Ho} {w : Wd} (hw : o.l[t]? = some w) (hk : k < ord.length) (ok : Okd os ord) :
    (toT os F ord k t o ++ addW os ord w).set (tot (pickO os (ord.take k)) + (1 + t)) (turnW os F w) = toT os F (reach1 os ord w) k (t + 1) o := by
  have ht := (List.getElem?_eq_some_iff.1 hw).1
  have htk : (reach1 os ord w).take k = ord.take k := by
    obtain ⟨r, hr⟩ := reach1_pre os ord w
    rw [← hr, List.take_append_of_le_length (by omega)]
  unfold toT
  rw [add_drop (by omega) ok, htk, List.append_assoc, List.set_append_right _ _ (by rw [wds_turn_len]; omega), wds_turn_len, show tot (pickO os (ord.take k)) + (1 + t) - tot (pickO os (ord.take k)) = t + 1 by omega]
  congr 1
  rw [List.cons_append, List.set_cons_succ, List.append_assoc, List.set_append_right _ _ (by simp; omega), List.length_map, List.length_take, show t - min t o.l.length = 0 by omega, drop_cons hw]
  simp only [List.cons_append, List.set_cons_zero]
  rw [List.take_add_one, hw]
  simp
theorem scanO_end {os : List Ho} {f : Nat} {ord : List Nat} {k : Nat} (h : ord.length ≤ k) : scanO os f ord k = ord := by
  cases f with
  | zero => rfl
  | succ f => rw [scanO, List.getElem?_eq_none h]
theorem Fr.setApp {σ : Sg} {o : Nat} {X : Ob} {xs : List Ob} {S : Nat → Prop} (h : S o) : Fr σ ⟨σ.objs.set o X ++ xs, σ.toks⟩ S := by
  refine ⟨by simp, fun j hj hn => ?_, Nat.le_refl _, fun j hj => rfl⟩
  refine (List.getElem?_append_left (by simpa using hj)).trans ?_
  exact List.getElem?_set_ne (by rintro rfl; exact hn h)
structure SSt where
  σ : Sg
  ord : List Nat
  k : Nat
  dT : D
structure TSt where
  σ : Sg
  ord : List Nat
  t : Nat
  dT : D
theorem k_Scan {σ : Sg} {cp oF oT c : Nat} {os : List Ho} {ord F : List Nat} {dF dT : D} (hC : Cp σ cp oF oT (fromW os ord F) (wds (pickO os ord)) c dF dT) (ok : OkO os) (hord : Okd os ord) (hF : scanO os os.length ord 0 = F) (hcap : c = tot os) :
    ACalls Try.prog 43 [.ptr cp 0] σ fun r σ' => (∃ dT', Cp σ' cp oF oT (fromW os F F) (wds ((pickO os F).map (turnO os F))) c dF dT') ∧ Fr σ σ' (fun i => i = cp ∨ i = oF ∨ i = oT) := by
  have hFo : Okd os F := hF ▸ scanO_ok _ _ hord
  have hsm := ok.small
  refine acalls_fit Try.func43 (by kernel_rfl) c43 rfl (by simp [a43]) fun hf => ?_
  clear hf
  simp -implicitDefEqProofs (maxSteps := 2000000) (disch := omega) [-getElem?_pos, a43]
  refine W_loop (α := SSt) ⟨σ, ord, 0, dT⟩ (fun x => os.length - x.k) (fun x => ⟨[(0, .ptr cp 0), (2, .v (.int .i64 (tot (pickO os (x.ord.take x.k)))))], x.σ⟩)
    (fun x => Cp x.σ cp oF oT (fromW os x.ord F) (toS os F x.ord x.k) c dF x.dT ∧ Fr σ x.σ (fun i => i = cp ∨ i = oF ∨ i = oT) ∧ Okd os x.ord ∧ x.k ≤ x.ord.length ∧ scanO os (os.length - x.k) x.ord x.k = F)
    (.eq (by simp [pickO, tot])) ⟨by simpa [toS, pickO, wds] using hC, .refl _ _, hord, Nat.zero_le _, by simpa using hF⟩ fun ⟨σ1, ord, k, dT⟩ ⟨hC, hFr, hord, hk, hF⟩ => ?_
  dsimp only at hC hFr hord hk hF ⊢
  have hc := hC.cell
  have hvt := hC.vt
  have hlen := toS_len (os := os) (F := F) (ord := ord) (k := k)
  have hordl := hord.len
  by_cases hkl : k < ord.length
  · obtain ⟨i, hi⟩ : ∃ i, ord[k]? = some i := ⟨_, List.getElem?_eq_getElem hkl⟩
    obtain ⟨o, ho⟩ : ∃ o, os[i]? = some o := ⟨_, List.getElem?_eq_getElem (hord.lt i (List.mem_of_getElem? hi))⟩
    have hwo : wOf os i = o.l := by simp [wOf, ho]
    have hom := List.mem_of_getElem? ho
    have hz := toT_zero (F := F) hi ho
    rw [← hz] at hC hvt hlen
    have hl0 := toT_len (os := os) (F := F) (ord := ord) (k := k) (t := 0) (o := o) (Nat.zero_le _)
    have htt := tot_pick hord
    have hrow0 : (toT os F ord k 0 o)[tot (pickO os (ord.take k))]? = some (headW o) := by
      unfold toT
      rw [List.getElem?_append_right (by rw [wds_turn_len]; exact Nat.le_refl _), wds_turn_len, Nat.sub_self]
      rfl
    have hks := ok.k o hom
    have hpa := headW_parts hks
    have hkp := fun σ => k_Parts (headW o).p (headW o).v σ
    rw [hpa] at hkp
    generalize hto : toT os F ord k 0 o = to at hvt
    rw [hto] at hrow0 hl0 hC hlen
    have hrow := fun J => fl_row (J := J) hrow0
    cases hvt with
    | none => simp at hl0; omega
    | msl t1 t2 t3 t4 =>
    rename_i J
    have hlt : tot (pickO os (ord.take k)) < to.length := by omega
    have hlt' : (tot (pickO os (ord.take k)) : Int) < to.length := by omega
    simp -implicitDefEqProofs (maxSteps := 2000000) (disch := omega) [-getElem?_pos, hc, hlt, hlt', t2, hrow, mkAgg, allV]
    refine ⟨by rw [fl_len]; omega, ?_⟩
    refine (hkp _).then fun r hr => ?_
    subst hr
    simp -implicitDefEqProofs (maxSteps := 2000000) (disch := omega) [-getElem?_pos]
    obtain ⟨A, hA⟩ : ∃ A, A = tot (pickO os (ord.take k)) := ⟨_, rfl⟩
    have hF2 : scanO os (os.length - (k + 1)) (reachL os ord o.l) (k + 1) = F := by
      rw [← hF, show os.length - k = (os.length - (k + 1)) + 1 by omega, scanO, hi]
      dsimp only
      rw [hwo]
    rw [← hto] at hC
    rw [← hA]
    refine W_loop (α := TSt) ⟨σ1, ord, 0, .msl oT 0 to.length (some 2) (some c)⟩ (fun x => o.l.length - x.t) (fun x => ⟨[(0, .ptr cp 0), (2, .v (.int .i64 A)), (4, .v (.int .i64 o.l.length)), (6, .v (.int .i64 (A + 1 + x.t : Nat)))], x.σ⟩)
      (fun x => Cp x.σ cp oF oT (fromW os x.ord F) (toT os F x.ord k x.t o) c dF x.dT ∧ Fr σ x.σ (fun i => i = cp ∨ i = oF ∨ i = oT) ∧ Okd os x.ord ∧ x.t ≤ o.l.length ∧ reachL os x.ord (o.l.drop x.t) = reachL os ord o.l ∧ x.ord.take k = ord.take k ∧ x.ord[k]? = some i)
      (.eq (by simp)) ⟨by rw [← hto]; exact hC, hFr, hord, Nat.zero_le _, rfl, rfl, hi⟩ fun ⟨σ2, ord2, t, dT2⟩ ⟨hC2, hFr2, hord2, ht, hre, htk, hik⟩ => ?_
    dsimp only at hC2 hFr2 hord2 ht hre htk hik ⊢
    have hc2 := hC2.cell
    have hvt2 := hC2.vt
    have hk2 : k < ord2.length := (List.getElem?_eq_some_iff.1 hik).1
    generalize hB : A + 1 + t = B
    by_cases htl : t < o.l.length
    · obtain ⟨w, hw⟩ : ∃ w, o.l[t]? = some w := ⟨_, List.getElem?_eq_getElem htl⟩
      have hget := toT_get (os := os) (F := F) (ord := ord2) (k := k) hw
      have hnxt := toT_next (F := F) hw hk2 hord2
      have hl2 := toT_len (os := os) (F := F) (ord := ord2) (k := k) (t := t) (o := o) ht
      rw [htk, ← hA, show A + (1 + t) = B by omega] at hget hnxt
      rw [htk, ← hA] at hl2
      rw [drop_cons hw] at hre
      have hpre : reach1 os ord2 w <+: F := by
        have h1 := (reachL_pre os (o.l.drop (t + 1)) (reach1 os ord2 w))
        have h2 : reachL os (reach1 os ord2 w) (o.l.drop (t + 1)) = reachL os ord o.l := hre
        rw [h2] at h1
        have h3 := scanO_pre os (os.length - (k + 1)) (reachL os ord o.l) (k + 1)
        rw [hF2] at h3
        exact h1.trans h3
      have hlto : (toT os F ord2 k t o).length = tot (pickO os ord2) := by
        rw [hl2]
        have h1 := congrArg (fun l => tot (pickO os l)) (List.take_append_drop k ord2)
        simp only [pickO_app, tot_app] at h1
        rw [htk, ← hA, drop_cons hik] at h1
        have h2 : tot (pickO os (i :: ord2.drop (k + 1))) = osz o + tot (pickO os (ord2.drop (k + 1))) := by simp [pickO, ho, tot]
        rw [h2] at h1
        have : osz o = 1 + o.l.length := rfl
        omega
      have hmv := k_Move hC2 ok (ok.fine o hom w (List.mem_of_getElem? hw)) hord2 hFo hpre hlto hcap
      have htt2 := tot_pick hord2
      generalize hto2 : toT os F ord2 k t o = to2 at hC2 hvt2 hget hnxt hl2 hlto hmv
      have hrow2 := fun J => fl_row (J := J) hget
      cases hvt2 with
      | none => simp at hl2; omega
      | msl t5 t6 t7 t8 =>
      rename_i J2
      have hlt2 : B < to2.length := (List.getElem?_eq_some_iff.1 hget).1
      have hle : (B : Int) ≤ A + o.l.length := by omega
      simp -implicitDefEqProofs (maxSteps := 2000000) (disch := omega) [-getElem?_pos, hc2, hle, hlt2, t6, hrow2, mkAgg, allV]
      refine ⟨by rw [fl_len]; omega, ?_⟩
      refine hmv.mono fun r σ3 hr => ?_
      obtain ⟨rfl, ⟨dT3, hC3⟩, hFr3⟩ := hr
      have hc3 := hC3.cell
      have hvt3 := hC3.vt
      have hl3 : B < (to2 ++ addW os ord2 w).length := by simp; omega
      generalize hto3 : to2 ++ addW os ord2 w = to3 at hC3 hvt3 hnxt hl3
      cases hvt3 with
      | none => simp at hl3
      | msl u1 u2 u3 u4 =>
      rename_i J3
      have hcl3 := (List.getElem?_eq_some_iff.1 hc3).1
      have hol3 := (List.getElem?_eq_some_iff.1 u2).1
      generalize turnW os F w = w' at hnxt
      obtain ⟨p', v'⟩ := w'
      have hpr := put_row (ws := to3) (w := ⟨p', v'⟩) (J := J3) (i := B) hl3
      replace hpr : List.take (B * 2) (fl to3 ++ J3) ++ D.v (.bool p') :: D.v (.int .i64 v') :: List.drop (B * 2 + 2) (fl to3 ++ J3) = fl (to3.set B ⟨p', v'⟩) ++ J3 := hpr
      simp -implicitDefEqProofs (maxSteps := 2000000) (disch := omega) [-getElem?_pos, hc3, u2, List.getElem?_append_left, List.set_append_left, hpr]
      refine ⟨hl3, by rw [fl_len]; omega, ⟨⟨σ3.objs.set oT (Ob.cells (fl (to3.set B ⟨p', v'⟩) ++ J3)) ++ [Ob.cells [D.v (V.bool p'), D.v (V.int IntKind.i64 v')]], σ3.toks⟩, reach1 os ord2 w, t + 1, .msl oT 0 to3.length (some 2) (some c)⟩,
        ⟨?_, ?_, reach1_ok hord2 w, htl, hre, ?_, ?_⟩, by dsimp only; omega, .eq (by simp [← hB]; omega)⟩
      · dsimp only
        rw [← hnxt]
        exact (hC3.setT hl3 u2).on on_app
      · exact (hFr2.trans (hFr3.trans (Fr.setApp (S := fun i => i = cp ∨ i = oF ∨ i = oT) (.inr (.inr rfl))) (fun _ _ h => h) fun _ _ h => h) (fun _ _ h => h) fun _ _ h => h)
      · dsimp only
        obtain ⟨r, hr⟩ := reach1_pre os ord2 w
        rw [← hr, List.take_append_of_le_length (by omega), htk]
      · dsimp only
        rw [pre_get (reach1_pre os ord2 w) hk2, hik]
    · have hte : t = o.l.length := by omega
      subst hte
      have hen := toT_end (F := F) hik ho
      rw [hen] at hC2
      rw [List.drop_length] at hre
      replace hre : ord2 = reachL os ord o.l := hre
      have hat : tot (pickO os (ord2.take (k + 1))) = A + (1 + o.l.length) := by
        rw [List.take_add_one, hik, pickO_app, tot_app, htk, ← hA]
        simp [pickO, ho, tot, osz]
      have hle : ¬ (B : Int) ≤ A + o.l.length := by omega
      simp -implicitDefEqProofs (maxSteps := 2000000) (disch := omega) [-getElem?_pos, hle]
      refine ⟨⟨σ2, ord2, k + 1, dT2⟩, ⟨hC2, hFr2, hord2, hk2, by dsimp only; rw [hre]; exact hF2⟩, by dsimp only; omega, .eq (by simp [hat]; omega)⟩
  · have hke : k = ord.length := by omega
    subst hke
    rw [scanO_end (Nat.le_refl _)] at hF
    subst hF
    have hts : toS os ord ord ord.length = wds ((pickO os ord).map (turnO os ord)) := by simp [toS, pickO, wds]
    rw [hts] at hC hvt hlen
    rw [List.take_length]
    generalize hto : wds ((pickO os ord).map (turnO os ord)) = to at hC hvt hlen
    have hnl : ¬ (tot (pickO os ord) : Int) < to.length := by omega
    have hnl' : ¬ tot (pickO os ord) < to.length := by omega
    cases hvt with
    | none =>
      have hnl0 : ¬ (tot (pickO os ord) : Int) < 0 := by omega
      simp -implicitDefEqProofs (maxSteps := 2000000) (disch := omega) [-getElem?_pos, hc, hnl0]
      exact ⟨_, _, WeakR.refl _ _ _, ⟨_, hC⟩, hFr⟩
    | msl t1 t2 t3 t4 =>
      simp -implicitDefEqProofs (maxSteps := 2000000) (disch := omega) [-getElem?_pos, hc, hnl, hnl']
      exact ⟨_, _, WeakR.refl _ _ _, ⟨_, hC⟩, hFr⟩
end Go.Proofs.Ytiomciifhkbklaa
