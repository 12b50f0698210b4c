/-
  Sets of names that may be written to. (Own work.)
-/
import Derived.Test.YtppdghfpbliaeaaB12
set_option linter.unusedVariables false
set_option linter.unusedSimpArgs false
namespace Go.Proofs.Ytppdghfpbliaeaa
open Go Go.Abs Go.Maps Go.Sort Go.RowKit Go.Shelf Go.WideElems

/-- A block that came to be becomes an object. -/
theorem Inv.adopt {σ : Sg} {m : Gh} {w w' : World} (h : Inv σ m w) (b : Below w.heap.size w w') {g : Nat} (hg : w.heap.size ≤ g) (ob : Ob) (r : ObRep (m.add g) w' ob g) : Inv (σ.add ob) (m.add g) w' ∧ Ext m w (m.add g) w' := by
  have hmut : ∀ c off, c < w.heap.size → (m.add g).mut c off → m.mut c off := by
    intro c off hc hm
    rcases hm with hm | hm
    · rw [Gh.add_objb, List.mem_append, List.mem_singleton] at hm
      rcases hm with hm | rfl
      · exact .inl hm
      · omega
    · exact .inr hm
  have hgb : g ∉ m.blocks := fun hb => by have := h.lt_block hb; omega
  have e : Ext m w (m.add g) w' := by
    refine ⟨b.os, b.tape, b.output, b.size, fun o x ho => .inl ?_, fun _ tk h => ⟨tk, h, rfl, Nat.le_refl _, fun _ => rfl⟩, fun c off f => ⟨cell?_of_heap (b.block c f.1), fun hm => f.2 (hmut c off f.1 hm)⟩, fun c hc hn => ⟨b.block c hc, fun hm => ?_⟩⟩
    · simp only [Gh.add]
      rw [List.getElem?_append_left (List.getElem?_eq_some_iff.1 ho).1]
      exact ho
    · simp only [Gh.blocks, Gh.add_objb, List.mem_append, List.mem_singleton] at hm
      rcases hm with (hm | rfl) | hm
      · exact hn (List.mem_append.2 (.inl hm))
      · omega
      · exact hn (List.mem_append.2 (.inr hm))
  refine ⟨⟨by simp [Gh.add, Sg.add, h.lobj], h.ltok, Gh.add_nodup h.nodup hgb, fun i ob' c hi hc => ?_, fun i hi => ?_, fun tk htk => ?_⟩, e⟩
  · simp only [Sg.add] at hi
    simp only [Gh.add] at hc
    rcases Nat.lt_or_ge i σ.objs.length with hlt | hge
    · rw [List.getElem?_append_left hlt] at hi
      rw [List.getElem?_append_left (by rw [h.lobj]; exact hlt)] at hc
      exact (h.ob i ob' c hi hc).mono e (b.block c (h.lt_obj (Gh.mem_objb.2 (List.mem_of_getElem? hc))))
    · rw [List.getElem?_append_right hge] at hi
      rw [List.getElem?_append_right (by rw [h.lobj]; exact hge)] at hc
      have h0 : i - σ.objs.length = 0 := by
        have := (List.getElem?_eq_some_iff.1 hi).1
        simp at this
        omega
      have h0' : i - m.objs.length = 0 := by rw [h.lobj]; exact h0
      rw [h0] at hi
      rw [h0'] at hc
      simp at hi hc
      subst hi hc
      exact r
  · simp only [Gh.add] at hi
    simp only [Sg.add]
    by_cases hlt : i < m.objs.length
    · rw [List.getElem?_append_left hlt] at hi
      rw [List.getElem?_append_left (by rw [← h.lobj]; exact hlt)]
      exact h.gone i hi
    · rw [List.getElem?_append_right (by omega)] at hi
      cases hj : i - m.objs.length with
      | zero => rw [hj] at hi; simp at hi
      | succ j => rw [hj] at hi; simp at hi
  · obtain ⟨h1, h2, h3, h4⟩ := h.tk tk htk
    refine ⟨h1, h2, h3, fun c hc => ?_⟩
    obtain ⟨us, ty, h5, h6⟩ := h4 c hc
    exact ⟨us, ty, (b.block c (Array.getElem?_eq_some_iff.1 h5).1).trans h5, h6⟩

set_option maxHeartbeats 1000000 in
theorem k_SortedM {l : List Str} {o p : Nat} {σ : Sg} (hp : σ.objs[p]? = some (.cells [.map o])) (ho : σ.objs[o]? = some (mS l)) (hl : l.length ≤ 1000000) (hne : l ≠ []) :
    ACalls Try.prog 41 [.fn 57 [.ptr p 0]] σ fun r σ' => ∃ c, l.length ≤ c ∧ r = .msl σ.objs.length 0 l.length none (some c) ∧ σ' = ⟨σ.objs ++ [vO (sortS l) []], σ.toks⟩ := by
  refine ⟨⟨_, Try.func41, by kernel_rfl, by kernel_rfl⟩, fun m w us hI hlen hr => ?_⟩
  obtain ⟨u, rfl⟩ : ∃ u, us = [u] := by
    match us, hlen with
    | [u], _ => exact ⟨u, rfl⟩
  have h0 := hr 0 _ u rfl rfl
  cases h0 with
  | fn _ _ cus hcl hcr =>
  obtain ⟨u1, rfl⟩ : ∃ u1, cus = [u1] := by
    match cus, hcl with
    | [u], _ => exact ⟨u, rfl⟩
  have h1 := hcr 0 _ u1 rfl rfl
  cases h1 with
  | ptr _ _ bp hbp =>
  have hbp := hI.live hp (by simp) hbp
  obtain ⟨pus, pty, hph, hpsz, hpr, _⟩ := hI.ob p _ bp hp hbp
  obtain ⟨u2, hu2⟩ : ∃ u2, pus[0]? = some u2 := ⟨_, Array.getElem?_eq_getElem (Nat.lt_of_lt_of_le (by simp) hpsz)⟩
  have h2 := (hpr 0 _ u2 rfl hu2).1
  cases h2 with
  | map _ b hb =>
  have hb := hI.live ho (by simp [mS]) hb
  have hmx : l.length ≤ maxLen := by simp only [maxLen]; omega
  obtain ⟨D0, hown, hperm, hsize, _, _⟩ := own_of hmx (hI.ob o _ b ho hb)
  have hcell : w.cell? ⟨bp, 0, none⟩ = some (.map (some b)) := by rw [cell_of_row w bp 0 pus pty (0, 0) hph]; exact hu2
  have hlt : bp < w.heap.size := (Array.getElem?_eq_some_iff.1 hph).1
  have hseq : SeqGives Fence.wide 2 Try.prog 57 #[.pointer (some ⟨bp, 0, none⟩)] encStr (fun ss => ss.Perm (strKeys D0)) (Maps.size D0) w :=
    Go.Proofs.AnyZ.keys_gives (ρ := keysLays_ren) { keysLays with } Fence.wide 2 trivial rfl (by omega) bp b l.length D0 w hlt hcell hown
  have hC := Go.Proofs.AnyZ.sorted_in sortedLays Fence.wide 5 trivial trivial trivial trivial rfl (by omega) (sorts _) (enters_of Try.func46 (by kernel_rfl) rfl) 57 #[.pointer (some ⟨bp, 0, none⟩)] trivial (enters_of Try.func57 (by kernel_rfl) rfl) _ _ (by rw [hsize]; exact hmx) (by rw [hsize]; omega) _ hseq
  refine (callsIn_wide.1 hC).mono fun e w' ⟨v, ss, he, hS, hrow, hnil, hbl⟩ => ?_
  have hss : ss.Perm l := hS.trans hperm
  have hsort : ss.mergeSort (fun x y => decide (x ≤ y)) = sortS l := mergeSort_of_perm hss
  rw [hsort] at hrow
  obtain ⟨hn, hrow⟩ := hrow
  have hlen2 := hss.length_eq
  have hpos : 0 < l.length := List.length_pos_iff.2 hne
  rcases hrow with ⟨rfl, h0⟩ | ⟨g, cap, cur, rfl, hg, hgh, hnc, hcm, hcs, htk⟩
  · omega
  · have hmem : ∀ s ∈ sortS l, s.length ≤ maxLen := fun s hs => by
      have hs' : s ∈ l := (List.mergeSort_perm l _).mem_iff.1 hs
      exact strKeys_le hown (by kernel_rfl) s (hperm.mem_iff.2 hs')
    have hob : ObRep (m.add g) w' (vO (sortS l) []) g := by
      refine ⟨cur, _, hgh, by simp [sortS_len]; omega, fun i d u hd hu => ?_, trivial⟩
      have hil : i < (sortS l).length := by
        have := (List.getElem?_eq_some_iff.1 hd).1
        simpa using this
      have hu2 : cur.toList[i]? = some u := by simpa using hu
      have hu3 : (cur.toList.take (ss.length * 1))[i]? = some u := by rw [List.getElem?_take_of_lt (by rw [sortS_len] at hil; omega)]; exact hu2
      rw [htk, List.getElem?_map] at hu3
      rw [get_vec hil] at hd
      cases hs : (sortS l)[i]? with
      | none => rw [hs] at hd; cases hd
      | some s =>
        rw [hs] at hd hu3
        cases hd
        cases hu3
        exact ⟨.v _ _ (.str s (hmem s (List.mem_of_getElem? hs))), rfl⟩
    obtain ⟨hI', hX⟩ := Inv.adopt hI hbl hg _ hob
    refine ⟨_, _, _, _, he, ⟨cap, by omega, rfl, rfl⟩, hI', hX, ?_⟩
    rw [hlen2]
    exact .msl _ _ _ _ _ _ _ (by simp [Gh.add, hI.lobj]) (.inl ⟨g, rfl, .inl (by simp [Gh.add, ← hI.lobj])⟩) (by omega) hcm (fun c hc => by cases hc; rfl)
end Go.Proofs.Ytppdghfpbliaeaa
