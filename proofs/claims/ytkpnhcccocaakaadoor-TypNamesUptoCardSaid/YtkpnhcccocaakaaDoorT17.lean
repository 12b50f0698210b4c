/-
  A slice that could be written to is given out for good, in a type. (Own work.)
-/
import Derived.Test.YtkpnhcccocaakaaDoorT16
set_option linter.unusedVariables false
set_option linter.unusedSimpArgs false
namespace Go.Proofs.YtkpnhcccocaakaaDoor
open Go Go.Abs

/-- An object is no more: its cells stay as they are. -/
def goneM (m : Gh) (o : Nat) : Gh := { m with objs := m.objs.set o none }
theorem goneM_objb {m : Gh} {o b : Nat} (h : m.objs[o]? = some (some b)) {c : Nat} : c ∈ (goneM m o).objb → c ∈ m.objb := by
  intro hc
  have h1 := Gh.mem_objb.1 hc
  simp only [goneM] at h1
  rcases List.mem_or_eq_of_mem_set h1 with h2 | h2
  · exact Gh.mem_objb.2 h2
  · cases h2
theorem goneM_not {m : Gh} {o b : Nat} (hn : m.objb.Nodup) (h : m.objs[o]? = some (some b)) : b ∉ (goneM m o).objb := by
  intro hc
  have h1 := Gh.mem_objb.1 hc
  simp only [goneM] at h1
  obtain ⟨i, hi⟩ := List.mem_iff_getElem?.1 h1
  rw [List.getElem?_set] at hi
  split at hi
  · split at hi <;> cases hi
  · rename_i hne
    exact hne (objb_inj hn h hi)

theorem set_none_sub : ∀ (l : List (Option Nat)) (o : Nat), List.Sublist ((l.set o none).filterMap id) (l.filterMap id)
  | [], o => by simp
  | x :: l, 0 => by
    cases x with
    | none => simp
    | some y => simp
  | x :: l, o + 1 => by
    have := set_none_sub l o
    cases x with
    | none => simpa using this
    | some y => simpa using this
theorem endObj {σ : Sg} {m : Gh} {w : World} (h : Inv σ m w) {o b : Nat} (hb : m.objs[o]? = some (some b)) : Inv (σ.put o (.cells [])) (goneM m o) w ∧ Ext m w (goneM m o) w := by
  have hlt : o < m.objs.length := (List.getElem?_eq_some_iff.1 hb).1
  have hmut : ∀ c off, (goneM m o).mut c off → m.mut c off := by
    intro c off hm
    rcases hm with hm | hm
    · exact .inl (goneM_objb hb hm)
    · exact .inr hm
  have nd : m.objb.Nodup := (List.nodup_append.1 h.nodup).1
  have e : Ext m w (goneM m o) w := by
    refine ⟨rfl, rfl, rfl, Nat.le_refl _, fun i x hi => ?_, fun _ tk h => ⟨tk, h, rfl, Nat.le_refl _, fun _ => rfl⟩, fun c off f => ⟨rfl, fun hm => f.2 (hmut c off hm)⟩, fun c hc hn => ⟨rfl, fun hm => ?_⟩⟩
    · simp only [goneM, List.getElem?_set]
      by_cases hio : o = i
      · subst hio
        simp [hlt]
      · simp [hio, hi]
    · rcases List.mem_append.1 hm with hm | hm
      · exact hn (List.mem_append.2 (.inl (goneM_objb hb hm)))
      · exact hn (List.mem_append.2 (.inr hm))
  refine ⟨⟨by simp [goneM, Sg.put, h.lobj], h.ltok, ?_, fun i ob c hi hc => ?_, fun i hi => ?_, h.tk, h.glob.mono e⟩, e⟩
  · refine List.Sublist.nodup ?_ h.nodup
    exact List.Sublist.append (set_none_sub m.objs o) (List.Sublist.refl _)
  · simp only [Sg.put, List.getElem?_set] at hi
    simp only [goneM, List.getElem?_set] at hc
    by_cases hio : o = i
    · subst hio; simp [hlt] at hc
    · rw [if_neg hio] at hi hc
      exact (h.ob i ob c hi hc).mono e rfl
  · simp only [goneM, List.getElem?_set] at hi
    simp only [Sg.put, List.getElem?_set]
    by_cases hio : o = i
    · subst hio
      rw [if_pos rfl, if_pos (by rw [← h.lobj]; exact hlt)]
    · rw [if_neg hio] at hi
      rw [if_neg hio]
      exact h.gone i hi

/-- A slice that could be written to stays as it is. -/
theorem thaw_core {σ : Sg} {m : Gh} {w : World} (hI : Inv σ m w) {o : Nat} {sh : Sh} {xs : List V} {cp : Option Nat} {cs : List D} {e : Value} (hs : ∀ x ∈ xs, x.shape = sh) (h1 : ∀ c ∈ V.flat xs, c.one = true)
    (hcs : σ.objs[o]? = some (.cells cs)) (hne : cs ≠ []) (hx : cs.take (xs.length * shn sh) = (V.flat xs).map .v) (hr : RepD m w (.msl o 0 xs.length sh cp) e) :
    ∃ m', Inv (σ.put o (.cells [])) m' w ∧ Ext m w m' w ∧ RepD m' w (.v (.sl sh false xs)) e := by
  have hflen := V.flat_length hs
  cases hr with
  | msl _ _ _ _ _ aa cap hol hbb hlc hcm hcc =>
  rcases hbb with ⟨b, rfl, hb⟩ | ⟨h0, hc0⟩
  · have hb := hI.live hcs (by rintro e; cases e; exact hne rfl) hb
    obtain ⟨us', ty, hh, hsz, hob, _⟩ := hI.ob o _ b hcs hb
    obtain ⟨hI2, hX2⟩ := endObj hI hb
    refine ⟨_, hI2, hX2, .v _ _ ?_⟩
    have nd : m.objb.Nodup := (List.nodup_append.1 hI.nodup).1
    have hnm : ∀ off, ¬ (goneM m o).mut b off := by
      rintro off (h | ⟨tk, h, h2, _⟩)
      · exact goneM_not nd hb h
      · exact Gh.own_not_obj hI.nodup h h2 (Gh.mem_objb.2 (List.mem_of_getElem? hb))
    have hbs : b < w.heap.size := (Array.getElem?_eq_some_iff.1 hh).1
    have hat : ∀ (i : Nat) c, (V.flat xs)[i]? = some c → ∃ u, us'[i]? = some u ∧ RepV w (Fz m w) c u := by
      intro i c hc
      have hil := (List.getElem?_eq_some_iff.1 hc).1
      have h3 : (cs.take (xs.length * shn sh))[i]? = some (.v c) := by rw [hx, List.getElem?_map, hc]; rfl
      rw [List.getElem?_take_of_lt (by omega)] at h3
      have hlt : i < us'.size := Nat.lt_of_lt_of_le (List.getElem?_eq_some_iff.1 h3).1 hsz
      obtain ⟨q1, q2⟩ := hob i _ us'[i] h3 (Array.getElem?_eq_getElem hlt)
      exact ⟨_, Array.getElem?_eq_getElem hlt, q1.v_inv⟩
    refine .sl sh false xs b 0 cap (fun i => us'.getD i undef) hs h1 hlc hcm (fun h => by cases h) (fun i hi => ?_) fun i c hc => ?_
    · obtain ⟨u, h3, _⟩ := hat i _ (List.getElem?_eq_getElem (by omega))
      refine ⟨?_, hbs, hnm _⟩
      rw [cell_of_row w b (0 + i) us' ty (0, 0) hh, Nat.zero_add, h3]
      simp [Array.getD_eq_getD_getElem?, h3]
    · obtain ⟨u, h3, h4⟩ := hat i c hc
      have e : us'.getD i undef = u := by simp [Array.getD_eq_getD_getElem?, h3]
      show RepV _ _ c (us'.getD i undef)
      rw [e]
      exact h4.mono fun b' off' hf => hX2.fz b' off' hf
  · have : xs = [] := List.length_eq_zero_iff.1 h0
    subst this
    have hlt : o < m.objs.length := hol
    obtain ⟨x, hx2⟩ : ∃ x, m.objs[o]? = some x := ⟨_, List.getElem?_eq_getElem hlt⟩
    cases x with
    | none =>
      have := hI.gone o hx2
      rw [hcs] at this
      cases this
      exact absurd rfl hne
    | some b =>
      obtain ⟨hI2, hX2⟩ := endObj hI hx2
      subst hc0
      exact ⟨_, hI2, hX2, .v _ _ (.slNil _ _ _)⟩

theorem PostV.thawA {B : Sg} {a b c d : V} {o len : Nat} {sh : Sh} {cp : Option Nat} {R : D → Sg → Prop} (xs : List V) (cs : List D) {σ : Sg} (r' : D) (h : R r' B) (hle : D.Le (.agg [.v a, .v b, .v (.sl sh false xs), .v c, .v d]) r') (hb : r'.low B.objs.length B.toks.length)
    (hcs : σ.objs[o]? = some (.cells cs)) (hne : cs ≠ []) (hx : cs.take (len * shn sh) = (V.flat xs).map .v) (hl : xs.length = len) (hs : ∀ x ∈ xs, x.shape = sh) (h1 : ∀ c ∈ V.flat xs, c.one = true) (ho : B.objs.length ≤ o)
    (hos : σ.objs = B.objs ++ σ.objs.drop B.objs.length) (hts : σ.toks = B.toks ++ σ.toks.drop B.toks.length) : PostV B (.agg [.v a, .v b, .msl o 0 len sh cp, .v c, .v d]) σ R := by
  subst hl
  refine ⟨r', B, fun m0 m w0 w u hB hX hI hR => ?_, h⟩
  obtain ⟨us, hl2, hone, hr⟩ : ∃ us : List Value, u = .agg us.toArray ∧ (∀ u ∈ us, u.oneCell' = true) ∧ us.length = 5 ∧ (∀ (i : Nat) (e : D) u, [D.v a, .v b, .msl o 0 xs.length sh cp, .v c, .v d][i]? = some e → us[i]? = some u → RepD m w e u) := by
    cases hR with
    | agg _ us hl h1 hr => exact ⟨us, rfl, h1, hl.symm, hr⟩
  obtain ⟨h5, hr⟩ := hr
  subst hl2
  match us, h5 with
  | [u0, u1, u2, u3, u4], _ =>
  have k2 := hr 2 _ u2 rfl rfl
  obtain ⟨m2, hI2, hX2, hk⟩ := thaw_core hI hs h1 hcs hne hx k2
  have hR2 : RepD m2 w (.agg [.v a, .v b, .v (.sl sh false xs), .v c, .v d]) (.agg [u0, u1, u2, u3, u4].toArray) := .agg _ _ rfl hone fun i c' u hc hu => by
    match i with
    | 0 => cases hc; cases hu; exact (hr 0 _ u0 rfl rfl).mono hX2
    | 1 => cases hc; cases hu; exact (hr 1 _ u1 rfl rfl).mono hX2
    | 2 => cases hc; cases hu; exact hk
    | 3 => cases hc; cases hu; exact (hr 3 _ u3 rfl rfl).mono hX2
    | 4 => cases hc; cases hu; exact (hr 4 _ u4 rfl rfl).mono hX2
    | j + 5 => simp at hc
  have e : σ.put o (.cells []) = ⟨B.objs ++ (σ.objs.drop B.objs.length).set (o - B.objs.length) (.cells []), B.toks ++ σ.toks.drop B.toks.length⟩ := by
    simp only [Sg.put]
    rw [← hts]
    congr 1
    rw [← List.set_append_right _ _ ho, ← hos]
  rw [e] at hI2
  exact WeakR.all hle hb m0 m2 w0 w _ hB (hX.trans hX2) hI2 hR2
end Go.Proofs.YtkpnhcccocaakaaDoor
