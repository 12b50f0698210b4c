/-
  Errors: what they are in memory; errors.As, errors.Is along a wrapped error, as contracts. (Own work.)
-/
import Derived.Test.YtkfkifgfnlaceaaDoorAbsZ
import Derived.Test.YtkfkifgfnlaceaaDoorAbsY
import Derived.Test.YtkfkifgfnlaceaaDoorF1
import Derived.Test.YtkfkifgfnlaceaaDoorF2
import Derived.Test.YtkfkifgfnlaceaaDoorAs5
import Derived.Test.YtkfkifgfnlaceaaDoorShelf2
import Derived.Below
import Derived.OneCell
set_option linter.unusedVariables false
set_option linter.unusedSimpArgs false
namespace Go.Proofs.YtkfkifgfnlaceaaDoor
open Go Go.Abs Go.RowKit

abbrev Str := List UInt8
@[reducible] def vBs (b : Str) : V := .sl none false (bytesV b)
@[reducible] def spotO (at_ : Int) (c : Int) : Ob := .cells [.v (.int .i64 at_), .v (.int .i64 c)]
@[reducible] def wrapO (s : Str) (d : D) : Ob := .cells [.v (.str s), d]
/-- An error, its place's record and the place, its number, its stages (the last one first). -/
inductive Chn (os : List Ob) : D → Option (Nat × Int) → Int → List Str → Prop where
  | code (n : Int) : Chn os (.v (.iface 28 (.int .i64 n))) none n []
  | spot (o : Nat) (a n : Int) (h : os[o]? = some (spotO a n)) : Chn os (.iface 39 (.ptr o 0)) (some (o, a)) n []
  | wrap (o : Nat) (s : Str) (d : D) (p : Option (Nat × Int)) (n : Int) (ss : List Str) (h : os[o]? = some (wrapO s d)) (hd : Chn os d p n ss) : Chn os (.iface 67 (.ptr o 0)) p n (s :: ss)
theorem get_more {os xs : List Ob} {o : Nat} {ob : Ob} (h : os[o]? = some ob) : (os ++ xs)[o]? = some ob := by
  rw [List.getElem?_append_left (List.getElem?_eq_some_iff.1 h).1]; exact h
theorem Chn.more {os xs : List Ob} {d : D} {p : Option (Nat × Int)} {n : Int} {ss : List Str} (h : Chn os d p n ss) : Chn (os ++ xs) d p n ss := by
  induction h with
  | code n => exact .code n
  | spot o a n h => exact .spot o a n (get_more h)
  | wrap o s d p n ss h _ ih => exact .wrap o s d p n ss (get_more h) ih
def RawP (m : Gh) (pa : Option Addr) : Option (Nat × Int) → Prop
  | none => pa = none
  | some (o, _) => ∃ b, pa = some ⟨b, 0, none⟩ ∧ m.at o b
theorem Chn.raw {σ : Sg} {m : Gh} {w : World} (hI : Inv σ m w) {d : D} {p : Option (Nat × Int)} {n : Int} {ss : List Str} (h : Chn σ.objs d p n ss) : ∀ {u : Value}, RepD m w d u → ∃ pa k, RCh w u pa n k ∧ inR .i64 n ∧ RawP m pa p := by
  induction h with
  | code n =>
    intro u hr
    have g := hr.v_inv
    cases g with
    | iface _ _ u g =>
      cases g with
      | int _ _ hn => exact ⟨_, _, .code n, hn, rfl⟩
  | spot o a n h =>
    intro u hr
    cases hr with
    | iface _ _ u g =>
      cases g with
      | ptr _ _ b hb =>
        have hl := hI.live h (by simp) hb
        obtain ⟨us, ty, hh, hsz, hob, _⟩ := hI.ob o _ b h hl
        simp only [List.length_cons, List.length_nil] at hsz
        have h1 := (hob 1 _ us[1] rfl (Array.getElem?_eq_getElem (by omega))).1.v_inv
        have hc : w.cell? ⟨b, 1, none⟩ = some us[1] := by rw [cell_of_row w b 1 us ty _ hh]; exact Array.getElem?_eq_getElem (by omega)
        generalize us[1] = u1 at h1 hc
        cases h1 with
        | int _ _ hn => exact ⟨_, _, .spot b n hc, hn, b, rfl, hb⟩
  | wrap o s d p n ss h hd ih =>
    intro u hr
    cases hr with
    | iface _ _ u g =>
      cases g with
      | ptr _ _ b hb =>
        have hl := hI.live h (by simp) hb
        obtain ⟨us, ty, hh, hsz, hob, _⟩ := hI.ob o _ b h hl
        simp only [List.length_cons, List.length_nil] at hsz
        have h1 := (hob 1 _ us[1] rfl (Array.getElem?_eq_getElem (by omega))).1
        have hc : w.cell? ⟨b, 1, none⟩ = some us[1] := by rw [cell_of_row w b 1 us ty _ hh]; exact Array.getElem?_eq_getElem (by omega)
        obtain ⟨pa, k, hR, hn, hp⟩ := ih h1
        exact ⟨pa, k + 1, .wrap b _ pa n k hc hR, hn, hp⟩
theorem Inv.below {σ : Sg} {m : Gh} {w w' : World} (h : Go.Abs.Inv σ m w) (b : Below w.heap.size w w') : Go.Abs.Inv σ m w' ∧ Ext m w m w' := by
  have e : Ext m w m w' := by
    refine ⟨b.os, b.tape, b.output, b.size, fun _ _ h => .inl h, fun _ tk h => ⟨tk, h, rfl, Nat.le_refl _, fun _ => rfl⟩, fun c off f => ⟨cell?_of_heap (b.block c f.1), f.2⟩, fun c hc hn => ⟨b.block c hc, hn⟩⟩
  refine ⟨⟨h.lobj, h.ltok, h.nodup, fun o ob c ho hc => (h.ob o ob c ho hc).mono e (b.block c (h.lt_obj (Gh.mem_objb.2 (List.mem_of_getElem? hc)))), h.gone, fun tk htk => ?_, h.glob.mono e⟩, e⟩
  obtain ⟨h1, h2, h3, h4⟩ := h.tk tk htk
  refine ⟨h1, h2, h3, fun c hc => ?_⟩
  obtain ⟨us, ty, h5, h6⟩ := h4 c hc
  exact ⟨us, ty, (b.block c (Array.getElem?_eq_some_iff.1 h5).1).trans h5, h6⟩
/-- What digits spell. -/
def numV : Str → Nat → Nat
  | [], n => n
  | c :: r, n => numV r (n * 10 + (c.toNat - 48))
theorem k_AsNil {d : D} {σ : Sg} : ACalls Tryd.prog 18 [.v .inil, d] σ fun r σ' => r = .v (.bool false) ∧ σ' = σ := by
  refine ⟨⟨_, Tryd.func18, by kernel_rfl, by kernel_rfl⟩, fun m w us hI hlen hr => ?_⟩
  match us, hlen with
  | [u1, u2], _ =>
  have g1 := (hr 0 _ _ rfl rfl).v_inv
  cases g1 with
  | inil =>
  refine (as_nil u2 w).mono fun e w' ⟨he, hw⟩ => ?_
  subst hw
  exact ⟨_, _, σ, m, he, ⟨rfl, rfl⟩, hI, .refl _ _, .v _ _ (.bool _)⟩
/-- The world behind errors.As's own blocks, and one cell of ours turned. -/
theorem turned1 {σ : Sg} {m : Gh} {w w1 : World} {c bc : Nat} {x d : D} {u : Value} (hI : Inv σ m w) (hc : σ.objs[c]? = some (.cells [x])) (hb : m.objs[c]? = some (some bc)) (hB : Below w.heap.size w w1) (hu : u.oneCell' = true)
    (hd : ∀ m' w', Ext m w m' w' → RepD m' w' d u) : Inv ⟨σ.objs.set c (.cells [d]), σ.toks⟩ m (w1.setCell ⟨bc, 0, none⟩ u) ∧ Ext m w m (w1.setCell ⟨bc, 0, none⟩ u) := by
  obtain ⟨us, ty, hh, hsz, hob, hone⟩ := hI.ob c _ bc hc hb
  simp only [List.length_cons, List.length_nil] at hsz
  have hmem : bc ∈ m.objb := Gh.mem_objb.2 (List.mem_of_getElem? hb)
  have hlt := (Array.getElem?_eq_some_iff.1 hh).1
  have old : ∀ k, k < w.heap.size → k ≠ bc → (w1.setCell ⟨bc, 0, none⟩ u).heap[k]? = w.heap[k]? := fun k hk hne => (Below.heap_setCell w1 _ _ k hne).trans (hB.block k hk)
  have hh1 := (hB.block bc hlt).trans hh
  have hX : Ext m w m (w1.setCell ⟨bc, 0, none⟩ u) := .turned hmem hB.os hB.tape hB.output (by simp only [World.setCell, Array.size_modify]; exact hB.size) old
  have hheap : (w1.setCell ⟨bc, 0, none⟩ u).heap[bc]? = some (.cells (us.setIfInBounds 0 u) ty (0, 0)) := by
    simp only [World.setCell, Array.getElem?_modify, if_true, hh1]
    rfl
  have hI' := hI.turned hb hX old (.cells [d]) ⟨_, ty, hheap, by simp; omega, fun i d' u' hd' hu' => ?_, trivial⟩
  · exact ⟨hI', hX⟩
  · match i with
    | 0 =>
      cases hd'
      have e : u' = u := by
        rw [Array.getElem?_setIfInBounds_self_of_lt (by omega)] at hu'
        exact (Option.some.inj hu').symm
      subst e
      exact ⟨hd _ _ hX, hu⟩
    | i + 1 => simp at hd'
theorem glob0 {σ : Sg} {m : Gh} {w : World} (hI : Inv σ m w) : w.cell? ⟨0, 0, none⟩ = some (.iface 99 (.agg #[.pointer (some ⟨14, 30, none⟩)])) := by
  obtain ⟨⟨cs, tyg, frg, hgh, rfl⟩, hgn⟩ := hI.glob (0, fun cs => cs = #[.iface 99 (.agg #[.pointer (some ⟨14, 30, none⟩)])]) (by simp [globs])
  rw [cell_of_row w 0 0 _ tyg frg hgh]; rfl
def asS (σ : Sg) (c : Nat) : Option (Nat × Int) → Sg
  | none => σ
  | some (o, _) => ⟨σ.objs.set c (.cells [.ptr o 0]), σ.toks⟩
theorem k_AsS {d x : D} {c : Nat} {p : Option (Nat × Int)} {n : Int} {ss : List Str} {σ : Sg} (hc : σ.objs[c]? = some (.cells [x])) (h : Chn σ.objs d p n ss) : ACalls Tryd.prog 18 [d, .iface 41 (.ptr c 0)] σ fun r σ' => r = .v (.bool p.isSome) ∧ σ' = asS σ c p := by
  refine ⟨⟨_, Tryd.func18, by kernel_rfl, by kernel_rfl⟩, fun m w us hI hlen hr => ?_⟩
  match us, hlen with
  | [u1, u2], _ =>
  have g1 := hr 0 _ _ rfl rfl
  have g2 := hr 1 _ _ rfl rfl
  cases g2 with
  | iface _ _ u2 g2 =>
  cases g2 with
  | ptr _ _ bc hbc =>
  have hb := hI.live hc (by simp) hbc
  obtain ⟨us, ty, hh, hsz, hob, hone⟩ := hI.ob c _ bc hc hb
  simp only [List.length_cons, List.length_nil] at hsz
  have ht0 : w.cell? ⟨bc, 0, none⟩ = some us[0] := by rw [cell_of_row w bc 0 us ty _ hh]; exact Array.getElem?_eq_getElem (by omega)
  have hf0 : w.frozen? ⟨bc, 0, none⟩ = false := by simp [World.frozen?, hh]
  obtain ⟨pa, k, hR, hn, hp⟩ := h.raw hI g1
  refine (as_chain u1 pa n k ⟨bc, 0, none⟩ us[0] w hR (glob0 hI) ht0 hf0).mono fun e w' ⟨he, W, hB, hw⟩ => ?_
  cases p with
  | none =>
    have hp : pa = none := hp
    subst hp
    dsimp only at hw
    subst hw
    obtain ⟨hI', hX⟩ := Inv.below hI hB
    exact ⟨_, _, σ, m, he, ⟨rfl, rfl⟩, hI', hX, .v _ _ (.bool _)⟩
  | some q =>
    obtain ⟨o, a⟩ := q
    obtain ⟨b, rfl, hbo⟩ := hp
    dsimp only at hw
    subst hw
    obtain ⟨hI', hX⟩ := turned1 (u := .pointer (some ⟨b, 0, none⟩)) (d := .ptr o 0) hI hc hb hB rfl fun m' w' hX => .ptr _ _ _ (hX.at hbo)
    exact ⟨_, _, _, m, he, ⟨rfl, rfl⟩, hI', hX, .v _ _ (.bool _)⟩
theorem k_AsC {d x : D} {c : Nat} {p : Option (Nat × Int)} {n : Int} {ss : List Str} {σ : Sg} (hc : σ.objs[c]? = some (.cells [x])) (h : Chn σ.objs d p n ss) : ACalls Tryd.prog 18 [d, .iface 84 (.ptr c 0)] σ fun r σ' => r = .v (.bool true) ∧ σ' = ⟨σ.objs.set c (.cells [.v (.int .i64 n)]), σ.toks⟩ := by
  refine ⟨⟨_, Tryd.func18, by kernel_rfl, by kernel_rfl⟩, fun m w us hI hlen hr => ?_⟩
  match us, hlen with
  | [u1, u2], _ =>
  have g1 := hr 0 _ _ rfl rfl
  have g2 := hr 1 _ _ rfl rfl
  cases g2 with
  | iface _ _ u2 g2 =>
  cases g2 with
  | ptr _ _ bc hbc =>
  have hb := hI.live hc (by simp) hbc
  obtain ⟨us, ty, hh, hsz, hob, hone⟩ := hI.ob c _ bc hc hb
  simp only [List.length_cons, List.length_nil] at hsz
  have ht0 : w.cell? ⟨bc, 0, none⟩ = some us[0] := by rw [cell_of_row w bc 0 us ty _ hh]; exact Array.getElem?_eq_getElem (by omega)
  have hf0 : w.frozen? ⟨bc, 0, none⟩ = false := by simp [World.frozen?, hh]
  obtain ⟨pa, k, hR, hn, hp⟩ := h.raw hI g1
  refine (as_chainC u1 pa n k ⟨bc, 0, none⟩ us[0] w hR (glob0 hI) ht0 hf0).mono fun e w' ⟨he, W, hB, hw⟩ => ?_
  subst hw
  obtain ⟨hI', hX⟩ := turned1 (u := .int .i64 n) (d := .v (.int .i64 n)) hI hc hb hB rfl fun m' w' hX => .v _ _ (.int _ _ hn)
  exact ⟨_, _, _, m, he, ⟨rfl, rfl⟩, hI', hX, .v _ _ (.bool _)⟩
theorem k_Is {d : D} {p : Option (Nat × Int)} {n : Int} {ss : List Str} {σ : Sg} (h : Chn σ.objs d p n ss) : ACalls Tryd.prog 19 [d, .v (.iface 28 (.int .i64 n))] σ fun r σ' => r = .v (.bool true) ∧ σ' = σ := by
  refine ⟨⟨_, Tryd.func19, by kernel_rfl, by kernel_rfl⟩, fun m w us hI hlen hr => ?_⟩
  match us, hlen with
  | [u1, u2], _ =>
  have g1 := hr 0 _ _ rfl rfl
  have g2 := (hr 1 _ _ rfl rfl).v_inv
  cases g2 with
  | iface _ _ u2 g2 =>
  cases g2 with
  | int _ _ _ =>
  obtain ⟨pa, k, hR, hn, hp⟩ := h.raw hI g1
  refine (is_chain u1 pa n k w hR).mono fun e w' ⟨he, hw⟩ => ?_
  subst hw
  exact ⟨_, _, σ, m, he, ⟨rfl, rfl⟩, hI, .refl _ _, .v _ _ (.bool _)⟩
end Go.Proofs.YtkfkifgfnlaceaaDoor
