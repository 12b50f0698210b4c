/-
  Closed functions: a set given out for good; one function noted. (Own work.)
-/
import Derived.Test.YtppdghfpbliaeaaB13
set_option linter.unusedVariables false
set_option linter.unusedSimpArgs false
namespace Go.Proofs.Ytppdghfpbliaeaa
open Go Go.Abs

/-- An object is no more: its cells stay as they are. -/
def goneM (m : Gh) (o : Nat) : Gh := { m with objs := m.objs.set o none }
theorem goneM_objb {m : Gh} {o b : Nat} (h : m.objs[o]? = some (some b)) {c : Nat} : c ∈ (goneM m o).objb → c ∈ m.objb := by
  intro hc
  have h1 := Gh.mem_objb.1 hc
  simp only [goneM] at h1
  rcases List.mem_or_eq_of_mem_set h1 with h2 | h2
  · exact Gh.mem_objb.2 h2
  · cases h2
theorem goneM_not {m : Gh} {o b : Nat} (hn : m.objb.Nodup) (h : m.objs[o]? = some (some b)) : b ∉ (goneM m o).objb := by
  intro hc
  have h1 := Gh.mem_objb.1 hc
  simp only [goneM] at h1
  obtain ⟨i, hi⟩ := List.mem_iff_getElem?.1 h1
  rw [List.getElem?_set] at hi
  split at hi
  · split at hi <;> cases hi
  · rename_i hne
    exact hne (objb_inj hn h hi)

theorem set_none_sub : ∀ (l : List (Option Nat)) (o : Nat), List.Sublist ((l.set o none).filterMap id) (l.filterMap id)
  | [], o => by simp
  | x :: l, 0 => by
    cases x with
    | none => simp
    | some y => simp
  | x :: l, o + 1 => by
    have := set_none_sub l o
    cases x with
    | none => simpa using this
    | some y => simpa using this
theorem flat_none : ∀ {xs : List V}, (∀ x ∈ xs, x.shape = none) → V.flat xs = xs
  | [], _ => rfl
  | x :: l, hs => by
    have h1 := hs x (by simp)
    have h2 := flat_none (xs := l) fun y hy => hs y (by simp [hy])
    simp only [V.flat, List.flatMap_cons] at *
    rw [h2]
    cases x <;> first | rfl | (simp [V.shape] at h1)
theorem endObj {σ : Sg} {m : Gh} {w : World} (h : Inv σ m w) {o b : Nat} (hb : m.objs[o]? = some (some b)) : Inv (σ.put o (.cells [])) (goneM m o) w ∧ Ext m w (goneM m o) w := by
  have hlt : o < m.objs.length := (List.getElem?_eq_some_iff.1 hb).1
  have hmut : ∀ c off, (goneM m o).mut c off → m.mut c off := by
    intro c off hm
    rcases hm with hm | hm
    · exact .inl (goneM_objb hb hm)
    · exact .inr hm
  have nd : m.objb.Nodup := (List.nodup_append.1 h.nodup).1
  have e : Ext m w (goneM m o) w := by
    refine ⟨rfl, rfl, rfl, Nat.le_refl _, fun i x hi => ?_, fun _ tk h => ⟨tk, h, rfl, Nat.le_refl _, fun _ => rfl⟩, fun c off f => ⟨rfl, fun hm => f.2 (hmut c off hm)⟩, fun c hc hn => ⟨rfl, fun hm => ?_⟩⟩
    · simp only [goneM, List.getElem?_set]
      by_cases hio : o = i
      · subst hio
        simp [hlt]
      · simp [hio, hi]
    · rcases List.mem_append.1 hm with hm | hm
      · exact hn (List.mem_append.2 (.inl (goneM_objb hb hm)))
      · exact hn (List.mem_append.2 (.inr hm))
  refine ⟨⟨by simp [goneM, Sg.put, h.lobj], h.ltok, ?_, fun i ob c hi hc => ?_, fun i hi => ?_, h.tk⟩, e⟩
  · refine List.Sublist.nodup ?_ h.nodup
    exact List.Sublist.append (set_none_sub m.objs o) (List.Sublist.refl _)
  · simp only [Sg.put, List.getElem?_set] at hi
    simp only [goneM, List.getElem?_set] at hc
    by_cases hio : o = i
    · subst hio; simp [hlt] at hc
    · rw [if_neg hio] at hi hc
      exact (h.ob i ob c hi hc).mono e rfl
  · simp only [goneM, List.getElem?_set] at hi
    simp only [Sg.put, List.getElem?_set]
    by_cases hio : o = i
    · subst hio
      rw [if_pos rfl, if_pos (by rw [← h.lobj]; exact hlt)]
    · rw [if_neg hio] at hi
      rw [if_neg hio]
      exact h.gone i hi

/-- A slice that could be written to is given out for good. -/
theorem ACalls.thaw {P : Program} {f : Nat} {ds : List D} {σ : Sg} {R : D → Sg → Prop} {o : Nat} {xs : List V} (hs : ∀ x ∈ xs, x.shape = none)
    (h : ACalls P f ds σ fun r σ' => ∃ cs cp σ0, r = .msl o 0 xs.length none cp ∧ σ' = σ0 ∧ σ'.objs[o]? = some (.cells cs) ∧ cs ≠ [] ∧ cs.take xs.length = xs.map .v ∧ R (.v (.sl none false xs)) (σ'.put o (.cells []))) : ACalls P f ds σ R := by
  refine ⟨h.1, fun m w us hI hl hr => (h.2 m w us hI hl hr).mono fun e w' ⟨v, r, σ', m', he, ⟨cs, cp, σ0, hr', _, hcs, hne, hx, hR⟩, hI', hX, hrep⟩ => ?_⟩
  subst hr'
  cases hrep with
  | msl _ _ _ _ _ aa cap hol hbb hlc hcm hcc =>
  have hflat := flat_none hs
  rcases hbb with ⟨b, rfl, hb⟩ | ⟨h0, h1⟩
  · have hb := hI'.live hcs (by rintro e; cases e; exact hne rfl) hb
    obtain ⟨us', ty, hh, hsz, hob, _⟩ := hI'.ob o _ b hcs hb
    obtain ⟨hI2, hX2⟩ := endObj hI' hb
    refine ⟨_, _, _, _, he, hR, hI2, hX.trans hX2, .v _ _ ?_⟩
    have nd : m'.objb.Nodup := (List.nodup_append.1 hI'.nodup).1
    have hnm : ∀ off, ¬ (goneM m' o).mut b off := by
      rintro off (h | ⟨tk, h, h2, _⟩)
      · exact goneM_not nd hb h
      · exact Gh.own_not_obj hI'.nodup h h2 (Gh.mem_objb.2 (List.mem_of_getElem? hb))
    have hbs : b < w'.heap.size := (Array.getElem?_eq_some_iff.1 hh).1
    have hat : ∀ (i : Nat) c, xs[i]? = some c → ∃ u, us'[i]? = some u ∧ RepV w' (Fz m' w') c u ∧ u.oneCell' = true := by
      intro i c hc
      have hil := (List.getElem?_eq_some_iff.1 hc).1
      have h3 : (cs.take xs.length)[i]? = some (.v c) := by rw [hx, List.getElem?_map, hc]; rfl
      rw [List.getElem?_take_of_lt hil] at h3
      have hlt : i < us'.size := Nat.lt_of_lt_of_le (List.getElem?_eq_some_iff.1 h3).1 hsz
      obtain ⟨q1, q2⟩ := hob i _ us'[i] h3 (Array.getElem?_eq_getElem hlt)
      exact ⟨_, Array.getElem?_eq_getElem hlt, q1.v_inv, q2⟩
    refine .sl none false xs b 0 cap (fun i => us'.getD i undef) hs (fun c hc => ?_) hlc hcm (fun h => by cases h) (fun i hi => ?_) fun i c hc => ?_
    · rw [hflat] at hc
      obtain ⟨i, hi⟩ := List.mem_iff_getElem?.1 hc
      obtain ⟨u, _, h3, h4⟩ := hat i c hi
      cases h3 <;> first | rfl | (simp [Value.oneCell'] at h4)
    · simp only [shn, Nat.mul_one] at hi
      obtain ⟨u, h3, _⟩ := hat i _ (List.getElem?_eq_getElem hi)
      refine ⟨?_, hbs, hnm _⟩
      rw [cell_of_row w' b (0 + i) us' ty (0, 0) hh, Nat.zero_add, h3]
      simp [Array.getD_eq_getD_getElem?, h3]
    · rw [hflat] at hc
      obtain ⟨u, h3, h4, _⟩ := hat i c hc
      have e : us'.getD i undef = u := by simp [Array.getD_eq_getD_getElem?, h3]
      show RepV _ _ c (us'.getD i undef)
      rw [e]
      exact h4.mono fun b' off' hf => hX2.fz b' off' hf
  · have : xs = [] := List.length_eq_zero_iff.1 h0
    subst this
    have hlt : o < m'.objs.length := hol
    obtain ⟨x, hx2⟩ : ∃ x, m'.objs[o]? = some x := ⟨_, List.getElem?_eq_getElem hlt⟩
    cases x with
    | none =>
      have := hI'.gone o hx2
      rw [hcs] at this
      cases this
      exact absurd rfl hne
    | some b =>
      obtain ⟨hI2, hX2⟩ := endObj hI' hx2
      subst h1
      exact ⟨_, _, _, _, he, hR, hI2, hX.trans hX2, .v _ _ (.slNil _ _ _)⟩
end Go.Proofs.Ytppdghfpbliaeaa
