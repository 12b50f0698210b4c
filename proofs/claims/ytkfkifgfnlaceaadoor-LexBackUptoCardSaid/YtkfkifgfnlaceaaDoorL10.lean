/-
  Lexer: errors.As, as a contract. (Own work.)
-/
import Derived.Test.YtkfkifgfnlaceaaDoorL8
import Derived.Test.YtkfkifgfnlaceaaDoorAs
import Derived.Below
import Derived.OneCell
set_option linter.unusedVariables false
set_option linter.unusedSimpArgs false
namespace Go.Proofs.YtkfkifgfnlaceaaDoor
open Go Go.Abs Go.RowKit

theorem k_AsNil {d : D} {σ : Sg} : ACalls Tryd.prog 18 [.v .inil, d] σ fun r σ' => r = .v (.bool false) ∧ σ' = σ := by
  refine ⟨⟨_, Tryd.func18, by kernel_rfl, by kernel_rfl⟩, fun m w us hI hlen hr => ?_⟩
  match us, hlen with
  | [u1, u2], _ =>
  have g1 := (hr 0 _ _ rfl rfl).v_inv
  cases g1 with
  | inil =>
  refine (as_nil u2 w).mono fun e w' ⟨he, hw⟩ => ?_
  subst hw
  exact ⟨_, _, σ, m, he, ⟨rfl, rfl⟩, hI, .refl _ _, .v _ _ (.bool _)⟩
theorem k_AsHit {o c : Nat} {σ : Sg} (hc : σ.objs[c]? = some (.cells [.v .pnil])) : ACalls Tryd.prog 18 [.iface 39 (.ptr o 0), .iface 41 (.ptr c 0)] σ fun r σ' => r = .v (.bool true) ∧ σ' = ⟨σ.objs.set c (.cells [.ptr o 0]), σ.toks⟩ := by
  refine ⟨⟨_, Tryd.func18, by kernel_rfl, by kernel_rfl⟩, fun m w us hI hlen hr => ?_⟩
  match us, hlen with
  | [u1, u2], _ =>
  have g1 := hr 0 _ _ rfl rfl
  have g2 := hr 1 _ _ rfl rfl
  cases g1 with
  | iface _ _ u1 g1 =>
  cases g2 with
  | iface _ _ u2 g2 =>
  cases g1 with
  | ptr _ _ bo ho =>
  cases g2 with
  | ptr _ _ bc hbc =>
  have hb := hI.live hc (by simp) hbc
  obtain ⟨us, ty, hh, hsz, hob, hone⟩ := hI.ob c _ bc hc hb
  simp only [List.length_cons, List.length_nil] at hsz
  have hmem : bc ∈ m.objb := Gh.mem_objb.2 (List.mem_of_getElem? hb)
  obtain ⟨⟨cs, tyg, frg, hgh, rfl⟩, hgn⟩ := hI.glob (0, fun cs => cs = #[.iface 99 (.agg #[.pointer (some ⟨14, 30, none⟩)])]) (by simp [globs])
  have hg : w.cell? ⟨0, 0, none⟩ = some (.iface 99 (.agg #[.pointer (some ⟨14, 30, none⟩)])) := by rw [cell_of_row w 0 0 _ tyg frg hgh]; rfl
  have ht0 : w.cell? ⟨bc, 0, none⟩ = some us[0] := by rw [cell_of_row w bc 0 us ty _ hh]; exact Array.getElem?_eq_getElem (by omega)
  have hf0 : w.frozen? ⟨bc, 0, none⟩ = false := by simp [World.frozen?, hh]
  refine (as_hit ⟨bo, 0, none⟩ ⟨bc, 0, none⟩ us[0] w hg ht0 hf0).mono fun e w' ⟨he, hw⟩ => ?_
  have hB : Below w.heap.size w ((((w.alloc (.cells #[.pointer (some ⟨bc, 0, none⟩)] 41)).alloc (.cells #[.pointer (some ⟨14, 41, none⟩), .pointer (some ⟨w.heap.size, 0, none⟩), .int .u64 150] 73)).alloc (.cells #[.pointer (some ⟨14, 41, none⟩), .pointer (some ⟨w.heap.size, 0, none⟩), .int .u64 150] 73)).alloc (.cells #[.pointer (some ⟨bo, 0, none⟩)] 39)) :=
    ((((Below.refl _ w).alloc (Nat.le_refl _) _).alloc (by simp) _).alloc (by simp; omega) _).alloc (by simp; omega) _
  generalize ((((w.alloc (.cells #[.pointer (some ⟨bc, 0, none⟩)] 41)).alloc (.cells #[.pointer (some ⟨14, 41, none⟩), .pointer (some ⟨w.heap.size, 0, none⟩), .int .u64 150] 73)).alloc (.cells #[.pointer (some ⟨14, 41, none⟩), .pointer (some ⟨w.heap.size, 0, none⟩), .int .u64 150] 73)).alloc (.cells #[.pointer (some ⟨bo, 0, none⟩)] 39)) = w1 at hB hw
  subst hw
  have hlt := (Array.getElem?_eq_some_iff.1 hh).1
  have old : ∀ k, k < w.heap.size → k ≠ bc → (w1.setCell ⟨bc, 0, none⟩ (.pointer (some ⟨bo, 0, none⟩))).heap[k]? = w.heap[k]? := fun k hk hne => (Below.heap_setCell w1 _ _ k hne).trans (hB.block k hk)
  have hh1 := (hB.block bc hlt).trans hh
  have hX : Ext m w m (w1.setCell ⟨bc, 0, none⟩ (.pointer (some ⟨bo, 0, none⟩))) := .turned hmem hB.os hB.tape hB.output (by simp only [World.setCell, Array.size_modify]; exact hB.size) old
  have hheap : (w1.setCell ⟨bc, 0, none⟩ (.pointer (some ⟨bo, 0, none⟩))).heap[bc]? = some (.cells (us.setIfInBounds 0 (.pointer (some ⟨bo, 0, none⟩))) ty (0, 0)) := by
    simp only [World.setCell, Array.getElem?_modify, if_true, hh1]
    rfl
  have hI' := hI.turned hb hX old (.cells [.ptr o 0]) ⟨_, ty, hheap, by simp; omega, fun i d u hd hu => ?_, trivial⟩
  · exact ⟨_, _, _, m, he, ⟨rfl, rfl⟩, hI', hX, .v _ _ (.bool _)⟩
  · match i with
    | 0 =>
      cases hd
      have hu' : u = .pointer (some ⟨bo, 0, none⟩) := by
        rw [Array.getElem?_setIfInBounds_self_of_lt (by omega)] at hu
        exact (Option.some.inj hu).symm
      subst hu'
      exact ⟨.ptr _ _ _ (hX.at ho), rfl⟩
    | i + 1 => simp at hd
end Go.Proofs.YtkfkifgfnlaceaaDoor
