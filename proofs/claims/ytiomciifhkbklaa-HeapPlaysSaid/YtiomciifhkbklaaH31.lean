/-
  bushellaw02.HeapPlays: for every input the law returns true, and each argument reads behind the call as it read before. No conditions.
-/
import Derived.Test.YtiomciifhkbklaaH29
import Derived.Test.YtiomciifhkbklaaAbsY
set_option linter.unusedVariables false
set_option linter.unusedSimpArgs false
namespace Go.Proofs.Ytiomciifhkbklaa
open Go Go.Abs

theorem word_ty {cs : List V} (h : Ty Try.prog 32 cs) : ∃ w : Wd, cs = [.bool w.p, .int .i64 w.v] := by
  obtain ⟨parts, rfl, hlen, hp⟩ := h.struct_inv (fs := Try.prog.fieldsOf 32) (by kernel_rfl)
  have hl : parts.length = 2 := hlen.trans (by kernel_rfl)
  obtain ⟨f0, hf0, ht0⟩ := Option.map_eq_some_iff.1 (show ((Try.prog.fieldsOf 32)[0]?).map (·.type) = some 4 by kernel_rfl)
  obtain ⟨f1, hf1, ht1⟩ := Option.map_eq_some_iff.1 (show ((Try.prog.fieldsOf 32)[1]?).map (·.type) = some 2 by kernel_rfl)
  match parts, hl with
  | [p, q], _ =>
    have h0 := hp 0 f0 p hf0 rfl
    have h1 := hp 1 f1 q hf1 rfl
    rw [ht0] at h0
    rw [ht1] at h1
    obtain ⟨b, rfl⟩ := h0.bool_inv (by kernel_rfl)
    obtain ⟨n, rfl, _⟩ := h1.int_inv (k := .i64) (by kernel_rfl)
    exact ⟨⟨b, n⟩, rfl⟩
theorem sl_arg {P : Program} {t e : TypeId} {sh : Sh} {cs : List V} (hu : P.underlying t = some (.slice e)) (hs : tsh P t = some none) (he : tsh P e = some sh) (h : Ty P t cs) : ∃ x, cs = [x] ∧ Arg P t x := by
  obtain ⟨xs, rfl, _, _⟩ := h.sl_inv hu he
  exact ⟨_, rfl, h, hs⟩
theorem word_of {x : V} (h : Arg Try.prog 32 x) : ∃ w : Wd, x = wv w := by
  obtain ⟨parts, rfl, hp⟩ := h.struct (t := 32) (fs := Try.prog.fieldsOf 32) (n := 2) (ts := [4, 2]) (by kernel_rfl) (by kernel_rfl) (by kernel_rfl)
  match parts, hp with
  | [p, q], ⟨h1, h2, _⟩ =>
    obtain ⟨b, rfl⟩ := h1.bool_inv (by kernel_rfl)
    obtain ⟨n, rfl, _⟩ := h2.int_inv (k := .i64) (by kernel_rfl)
    exact ⟨⟨b, n⟩, rfl⟩
theorem words_of {x : V} (h : Arg Try.prog 30 x) : ∃ l : List Wd, x = .sl (some 2) false (l.map wv) := by
  obtain ⟨xs, rfl, _, hx⟩ := h.sl (e := 32) (sh := some 2) (by kernel_rfl) (by kernel_rfl) (by kernel_rfl)
  obtain ⟨l, rfl⟩ := list_of_all (enc := wv) fun y hy => word_of (hx y hy)
  exact ⟨l, rfl⟩
theorem deed_of {x : V} (h : Arg Try.prog 34 x) : ∃ e : De, x = encD e := by
  obtain ⟨parts, rfl, hp⟩ := h.struct (t := 34) (fs := Try.prog.fieldsOf 34) (n := 8) (ts := [3, 3, 3, 3, 4, 32, 30]) (by kernel_rfl) (by kernel_rfl) (by kernel_rfl)
  match parts, hp with
  | [p1, p2, p3, p4, p5, p6, p7], ⟨h1, h2, h3, h4, h5, h6, h7, _⟩ =>
    obtain ⟨a, rfl, _⟩ := h1.int_inv (k := .i64) (by kernel_rfl)
    obtain ⟨b, rfl, _⟩ := h2.int_inv (k := .i64) (by kernel_rfl)
    obtain ⟨c, rfl, _⟩ := h3.int_inv (k := .i64) (by kernel_rfl)
    obtain ⟨i, rfl, _⟩ := h4.int_inv (k := .i64) (by kernel_rfl)
    obtain ⟨near, rfl⟩ := h5.bool_inv (by kernel_rfl)
    obtain ⟨w, rfl⟩ := word_ty h6
    obtain ⟨y, rfl, hy⟩ := sl_arg (e := 32) (sh := some 2) (by kernel_rfl) (by kernel_rfl) (by kernel_rfl) h7
    obtain ⟨l, rfl⟩ := words_of hy
    exact ⟨⟨a, b, c, i, near, w, l⟩, rfl⟩
theorem deeds_of {x : V} (h : Arg Try.prog 22 x) : ∃ l : List De, x = .sl (some 8) false (l.map encD) := by
  obtain ⟨xs, rfl, _, hx⟩ := h.sl (e := 34) (sh := some 8) (by kernel_rfl) (by kernel_rfl) (by kernel_rfl)
  obtain ⟨l, rfl⟩ := list_of_all (enc := encD) fun y hy => deed_of (hx y hy)
  exact ⟨l, rfl⟩
theorem own : ownKnob Try.prog.godebug = none := by kernel_rfl
theorem laidOut : laidOutB Try.prog = true := by kernel_rfl
namespace heapPlays
set_option maxRecDepth 100000 in
theorem lifted (os : Os) (started : os.Started) (H : Type) (enc : TypeId × Value → H) :
    ReturnsInHanded {} Try.checked os 4 .any (Rows.heapPlaysSpec.pre6 enc Try.prog Try.f4 Rows.heapPlaysRow.domain false) (Rows.heapPlaysSpec.post enc Try.prog Try.f4 false true false false) := by
  refine returnsInHanded_of_change (C := Try.checked) own started (by kernel_rfl) Try.func4
    (ChangeSpec.witness6 (enc := enc) (C := Try.checked) false ⟨#[], #[.int .i64 0, .slice none 0 0], []⟩ 8 (by kernel_rfl) (by kernel_rfl) (by kernel_rfl) (by kernel_rfl)) ?_
  intro W base args ds gs before hval hW _ _
  refine law_calls (T := [3, 2, 4, 32, 30, 34, 22]) (by kernel_rfl) laidOut (by kernel_rfl) (rt := 4) rfl (by kernel_rfl) hval _ rfl hW (fun ds hl => ?_) fun xs hxs _ => ?_
  · match ds, hl with
    | [_, _], _ => rfl
  · match xs, hxs with
    | [_, _], ⟨a1, a2, _⟩ =>
      obtain ⟨half, rfl, _⟩ := a1.int (k := .i64) (by kernel_rfl) (by kernel_rfl)
      obtain ⟨d, rfl⟩ := deeds_of a2
      exact k_HeapPlays

theorem proved : Rows.HeapPlaysSaid :=
  OpenClaim.holds_of_wide 4 Try.f4 rfl rfl rfl rfl rfl rfl rfl ⟨rfl, rfl, rfl, rfl, rfl⟩ rfl rfl rfl rfl rfl (by kernel_rfl) Try.func4 (by kernel_rfl)
    (of_decide_eq_true (by kernel_rfl)) (by unfold Func.isWrapper; first | (rw [if_pos (by decide +kernel)]; kernel_rfl) | (rw [if_neg (by decide +kernel)]; exact ⟨rfl, rfl⟩))
    (fun os started H enc _ => lifted os started H enc)
end heapPlays
end Go.Proofs.Ytiomciifhkbklaa
