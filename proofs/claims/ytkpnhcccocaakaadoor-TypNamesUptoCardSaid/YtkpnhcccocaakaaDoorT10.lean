/-
  Numbers as text; texts joined. (Own work.)
-/
import Derived.Test.YtkpnhcccocaakaaDoorT9
import Derived.Test.YtkpnhcccocaakaaDoorShelf
set_option linter.unusedVariables false
set_option linter.unusedSimpArgs false
namespace Go.Proofs.YtkpnhcccocaakaaDoor
open Go Go.Abs Go.RowKit

theorem grown_inv {σ : Sg} {m : Gh} {w : World} (h : Go.Abs.Inv σ m w) (k : Nat) (os : Array Obj) : Go.Abs.Inv σ m (Go.Sort.grow (w.drewN k) os) ∧ Ext m w m (Go.Sort.grow (w.drewN k) os) := by
  have hb : ∀ c, c < w.heap.size → (Go.Sort.grow (w.drewN k) os).heap[c]? = w.heap[c]? := fun c hc => Array.getElem?_append_left hc
  have e : Ext m w m (Go.Sort.grow (w.drewN k) os) :=
    ⟨rfl, rfl, rfl, by show w.heap.size ≤ (w.heap ++ os).size; simp, fun _ _ h => .inl h, fun _ tk h => ⟨tk, h, rfl, Nat.le_refl _, fun _ => rfl⟩, fun c off f => ⟨cell?_of_heap (hb c f.1), f.2⟩, fun c hc hn => ⟨hb c hc, hn⟩⟩
  refine ⟨⟨h.lobj, h.ltok, h.nodup, fun o ob c ho hc => (h.ob o ob c ho hc).mono e (hb c (h.lt_obj (Gh.mem_objb.2 (List.mem_of_getElem? hc)))), h.gone, fun tk htk => ?_, h.glob.mono e⟩, e⟩
  obtain ⟨h1, h2, h3, h4⟩ := h.tk tk htk
  refine ⟨h1, h2, h3, fun c hc => ?_⟩
  obtain ⟨us, ty, h5, h6⟩ := h4 c hc
  exact ⟨us, ty, (hb c (Array.getElem?_eq_some_iff.1 h5).1).trans h5, h6⟩
theorem Inv.below {σ : Sg} {m : Gh} {w w' : World} (h : Inv σ m w) (b : Below w.heap.size w w') : Inv σ m w' ∧ Ext m w m w' := by
  have e : Ext m w m w' := by
    refine ⟨b.os, b.tape, b.output, b.size, fun _ _ h => .inl h, fun _ tk h => ⟨tk, h, rfl, Nat.le_refl _, fun _ => rfl⟩, fun c off f => ⟨cell?_of_heap (b.block c f.1), f.2⟩, fun c hc hn => ⟨b.block c hc, hn⟩⟩
  refine ⟨⟨h.lobj, h.ltok, h.nodup, fun o ob c ho hc => (h.ob o ob c ho hc).mono e (b.block c (h.lt_obj (Gh.mem_objb.2 (List.mem_of_getElem? hc)))), h.gone, fun tk htk => ?_, h.glob.mono e⟩, e⟩
  obtain ⟨h1, h2, h3, h4⟩ := h.tk tk htk
  refine ⟨h1, h2, h3, fun c hc => ?_⟩
  obtain ⟨us, ty, h5, h6⟩ := h4 c hc
  exact ⟨us, ty, (b.block c (Array.getElem?_eq_some_iff.1 h5).1).trans h5, h6⟩
theorem tab_is {σ : Sg} {m : Gh} {w : World} (h : Inv σ m w) : Lib.TabIs Tryd.prog w "internal/strconv.uint64pow10" .u64 Lib.pow10Tab := by
  obtain ⟨⟨ty, fr, hh⟩, _⟩ := h.glob _ (List.mem_cons_self)
  unfold Lib.TabIs World.var?
  rw [show Tryd.prog.globalNamed "internal/strconv.uint64pow10" = some 1 by kernel_rfl]
  simp only [Option.bind_some]
  rw [hh]
  rfl
theorem k_Itoa {n : Int} {σ : Sg} : ACalls Tryd.prog 50 [.v (.int .i64 n)] σ fun r σ' => (r = .v (.str (Lib.itoa n)) ∧ (Lib.itoa n).length ≤ 21) ∧ σ' = σ := by
  refine ⟨⟨_, Tryd.func50, by kernel_rfl, by kernel_rfl⟩, fun m w us hI hl hr => ?_⟩
  match us, hl with
  | [u], _ =>
    have h0 := hr 0 _ _ rfl rfl
    cases h0 with
    | v _ _ hv =>
      cases hv with
      | int _ _ hn =>
        have hn1 : -9223372036854775808 ≤ n := hn.1
        have hn2 : n ≤ 9223372036854775807 := hn.2
        refine (Go.Proofs.Any.strconv_Itoa itoaLays n hn1 hn2 w (tab_is hI)).mono fun e w' ⟨he, k, os, hw⟩ => ?_
        subst hw
        obtain ⟨hI', hX⟩ := grown_inv hI k os
        have hlen := Lib.itoa_length_le n hn1 hn2
        exact ⟨_, _, σ, m, he, ⟨⟨rfl, hlen⟩, rfl⟩, hI', hX, .v _ _ (.str _ (by unfold maxLen; omega))⟩
theorem flat_str (L : List Str) : V.flat (L.map V.str) = L.map V.str := by
  induction L with
  | nil => rfl
  | cons x L ih => simpa [V.flat] using ih
theorem k_Join {L : List Str} {sep : Str} {σ : Sg} (hn : L.length ≤ 1048576) (hj : (Lib.join L sep).length ≤ 100000000) : ACalls Tryd.prog 56 [.v (vS L), .v (.str sep)] σ fun r σ' => r = .v (.str (Lib.join L sep)) ∧ σ' = σ := by
  refine ⟨⟨_, Tryd.func56, by kernel_rfl, by kernel_rfl⟩, fun m w us hI hl hr => ?_⟩
  match us, hl with
  | [u1, u2], _ =>
    have g1 := (hr 0 _ _ rfl rfl).v_inv
    have g2 := (hr 1 _ _ rfl rfl).v_inv
    clear hr
    cases g2 with
    | str _ hsep =>
    obtain ⟨a, cap, rfl, hc1, hc2, _, _, _, hor⟩ := g1.sl_inv
    clear g1
    rw [List.length_map] at hc1 ⊢
    cases L with
    | nil =>
      refine (Go.Proofs.Any.strings_Join_none joinLays joinExtra a cap ⟨sep.toArray⟩ w).mono fun e w' ⟨he, hw⟩ => ?_
      subst hw
      exact ⟨_, _, σ, m, he, ⟨rfl, rfl⟩, hI, .refl _ _, .v _ _ (.str [] (by simp [maxLen]))⟩
    | cons x L0 =>
    rcases hor with ⟨h, _⟩ | ⟨b, off, us, rfl, hcell, hrep⟩
    · simp at h
    obtain ⟨L, hL⟩ : ∃ L, L = x :: L0 := ⟨_, rfl⟩
    rw [← hL] at hn hj hc1 hcell hrep ⊢
    rw [flat_str] at hrep
    rw [List.length_map] at hcell
    have hpos : 0 < L.length := by rw [hL]; simp
    have hb : b < w.heap.size := (hcell 0 (by simpa [shn] using hpos)).2.1
    have hmap : (L.map fun s : Str => (⟨s.toArray⟩ : ByteArray)).map (·.data.toList) = L := by
      rw [List.map_map]
      have : ((fun x : ByteArray => x.data.toList) ∘ fun s : Str => (⟨s.toArray⟩ : ByteArray)) = id := by
        funext s; simp
      rw [this, List.map_id]
    have hcs : ∀ (j : Nat) y, (L.map fun s : Str => (⟨s.toArray⟩ : ByteArray))[j]? = some y → w.cell? ⟨b, off + j, none⟩ = some (.string y) := by
      intro j y hy
      rw [List.getElem?_map] at hy
      cases hx : L[j]? with
      | none => rw [hx] at hy; cases hy
      | some z =>
        rw [hx] at hy
        cases hy
        have hj := (List.getElem?_eq_some_iff.1 hx).1
        have h3 := hrep j (.str z) (by rw [List.getElem?_map, hx]; rfl)
        have h4 := (hcell j (by simpa [shn] using hj)).1
        rw [h4]
        generalize us j = u at h3
        cases h3
        rfl
    have hlen : (L.map fun s : Str => (⟨s.toArray⟩ : ByteArray)).length = L.length := List.length_map _
    have h := Go.Proofs.Any.strings_Join joinLays joinExtra b off cap (L.map fun s : Str => (⟨s.toArray⟩ : ByteArray)) ⟨sep.toArray⟩ w hcs hb (by rw [hlen]; omega) (by rw [hlen]; exact hc1) (by rw [hmap]; show (Lib.join L sep.toArray.toList).length ≤ _; simp only []; omega)
    rw [hlen, hmap] at h
    refine h.mono fun e w' ⟨he, hw⟩ => ?_
    obtain ⟨hI', hX⟩ := Inv.below hI hw
    exact ⟨_, _, σ, m, he, ⟨rfl, rfl⟩, hI', hX, .v _ _ (.str _ (by unfold maxLen; omega))⟩
end Go.Proofs.YtkpnhcccocaakaaDoor
