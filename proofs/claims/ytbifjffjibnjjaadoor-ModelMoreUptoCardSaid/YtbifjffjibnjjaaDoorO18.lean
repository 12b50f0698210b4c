/-
  bushellaw17.ModelMore: for every input the law returns true, and each argument reads behind the call as it read before. Condition: the arguments are of the bulk that the second form grants; the package variables that the row lists are laid as its card tells.
-/
import Derived.Test.YtbifjffjibnjjaaDoorO16
import Derived.Test.YtbifjffjibnjjaaDoorCards
import Derived.Test.YtbifjffjibnjjaaDoorTie
import Derived.Deep.DeepHandedRow
import Derived.Lib.LaidTab
set_option linter.unusedVariables false
set_option linter.unusedSimpArgs false
namespace Go.Proofs.YtbifjffjibnjjaaDoor
open Go Go.Abs

theorem sl_arg {P : Program} {t e : TypeId} {sh : Sh} {cs : List V} (hu : P.underlying t = some (.slice e)) (hs : tsh P t = some none) (he : tsh P e = some sh) (h : Ty P t cs) : ∃ x, cs = [x] ∧ Arg P t x := by
  obtain ⟨xs, rfl, _, _⟩ := h.sl_inv hu he
  exact ⟨_, rfl, h, hs⟩
theorem strs_of {x : V} (h : Arg Tryd.prog 22 x) : ∃ l : List (List UInt8), x = .sl none false (l.map .str) := by
  obtain ⟨xs, rfl, _, hx⟩ := h.sl (e := 9) (sh := none) (by kernel_rfl) (by kernel_rfl) (by kernel_rfl)
  obtain ⟨l, rfl⟩ := list_of_all (enc := V.str) fun y hy => by
    obtain ⟨n, rfl, _⟩ := (hx y hy).str (by kernel_rfl) (by kernel_rfl)
    exact ⟨n, rfl⟩
  exact ⟨l, rfl⟩
theorem bulk_mem {y : V} : ∀ {xs : List V}, y ∈ xs → y.bulk ≤ V.bulkL xs
  | x :: xs, h => by
    simp only [V.bulkL]
    rcases List.mem_cons.1 h with rfl | h
    · omega
    · have := bulk_mem h; omega
theorem expr_of : ∀ (n : Nat) {x : V}, x.bulk ≤ n → Arg Tryd.prog 44 x → ∃ e : Ex, x = encE e
  | 0, x, hn, h => by
    obtain ⟨parts, rfl, hp⟩ := h.struct (t := 44) (fs := Tryd.prog.fieldsOf 44) (n := 8) (ts := [3, 3, 2, 9, 9, 22, 22, 42]) (by kernel_rfl) (by kernel_rfl) (by kernel_rfl)
    match parts, hp with
    | [p, p2, q, r, s, t, t2, u], ⟨h1, h12, h2, h3, h4, h5, h52, h6, _⟩ =>
      obtain ⟨a, rfl, _⟩ := h1.int_inv (k := .i64) (by kernel_rfl)
      simp [V.bulk, V.bulkL] at hn
  | n + 1, x, hn, h => by
    obtain ⟨parts, rfl, hp⟩ := h.struct (t := 44) (fs := Tryd.prog.fieldsOf 44) (n := 8) (ts := [3, 3, 2, 9, 9, 22, 22, 42]) (by kernel_rfl) (by kernel_rfl) (by kernel_rfl)
    match parts, hp with
    | [p, p2, q, r, s, t, t2, u], ⟨h1, h12, h2, h3, h4, h5, h52, h6, _⟩ =>
      obtain ⟨a, rfl, _⟩ := h1.int_inv (k := .i64) (by kernel_rfl)
      obtain ⟨a2, rfl, _⟩ := h12.int_inv (k := .i64) (by kernel_rfl)
      obtain ⟨b, rfl, _⟩ := h2.int_inv (k := .i64) (by kernel_rfl)
      obtain ⟨c, rfl, _⟩ := h3.str_inv (by kernel_rfl)
      obtain ⟨d, rfl, _⟩ := h4.str_inv (by kernel_rfl)
      obtain ⟨y1, rfl, hy1⟩ := sl_arg (e := 9) (sh := none) (by kernel_rfl) (by kernel_rfl) (by kernel_rfl) h5
      obtain ⟨ls, rfl⟩ := strs_of hy1
      obtain ⟨y3, rfl, hy3⟩ := sl_arg (e := 9) (sh := none) (by kernel_rfl) (by kernel_rfl) (by kernel_rfl) h52
      obtain ⟨ns, rfl⟩ := strs_of hy3
      obtain ⟨y2, rfl, hy2⟩ := sl_arg (e := 44) (sh := some 8) (by kernel_rfl) (by kernel_rfl) (by kernel_rfl) h6
      obtain ⟨xs, rfl, _, hx⟩ := hy2.sl (e := 44) (sh := some 8) (by kernel_rfl) (by kernel_rfl) (by kernel_rfl)
      simp [V.bulk, V.bulkL] at hn
      obtain ⟨l, rfl⟩ := list_of_all (enc := encE) fun y hy => expr_of n (by have := bulk_mem hy; omega) (hx y hy)
      exact ⟨.mk a a2 b c d ls ns l, by rw [encE_mk]; rfl⟩
theorem own : ownKnob Tryd.prog.godebug = none := by kernel_rfl
theorem laidOut : laidOutB Tryd.prog = true := by kernel_rfl
end Go.Proofs.YtbifjffjibnjjaaDoor

namespace Go.Proofs.YtbifjffjibnjjaaDoor
open Go Go.Abs

namespace modelMore
theorem tab_of {W : World} {x1 x2 : String × DataW Unit} (h : laidMet Tryd.prog [x1, x2, ("internal/strconv.uint64pow10", Lib.tabData .u64 Lib.pow10Tab)] W) : Lib.TabIs Tryd.prog W "internal/strconv.uint64pow10" .u64 Lib.pow10Tab := by
  obtain ⟨ps, hv, _⟩ := h
  obtain ⟨_, _, _, _, _, _, _, _, _, _, hv, _⟩ := hv
  obtain ⟨_, _, _, _, _, _, _, _, _, _, hv, _⟩ := hv
  obtain ⟨g', t', cs, fuel, p, q, hg', ht', hvar, hd, _, _⟩ := hv
  obtain rfl := Option.some.inj ((show Tryd.prog.globalNamed "internal/strconv.uint64pow10" = some 0 by kernel_rfl).symm.trans hg')
  obtain rfl := Option.some.inj ((show (Tryd.prog.globals[0]?).map (·.type) = some 167 by kernel_rfl).symm.trans ht')
  unfold Lib.TabIs
  rw [hvar, ← Lib.cells_of_tab (t := 167) (e := 145) (n := 20) (by kernel_rfl) (by kernel_rfl) (by kernel_rfl) (by kernel_rfl) hd]
theorem glob_of {W : World} (h : Lib.TabIs Tryd.prog W "internal/strconv.uint64pow10" .u64 Lib.pow10Tab) : ∀ p ∈ globs, ∃ cs ty fr, W.heap[p.1]? = some (.cells cs ty fr) ∧ p.2 cs := by
  intro p hp
  unfold Lib.TabIs World.var? at h
  rw [show Tryd.prog.globalNamed "internal/strconv.uint64pow10" = some 0 by kernel_rfl] at h
  simp only [Option.bind_some] at h
  simp only [globs, List.mem_singleton] at hp
  subst hp
  dsimp only
  cases hx : W.heap[0]? with
  | none => rw [hx] at h; cases h
  | some ob =>
    rw [hx] at h
    cases ob with
    | cells cs ty fr =>
      have h' : some cs = _ := h
      exact ⟨cs, ty, fr, rfl, Option.some.inj h'⟩
    | _ => cases h
def cellsTo (cs : Array Value) : Obj → Obj
  | .cells _ t frozen => .cells cs t frozen
  | o => o
/-- A world in which the listed variables are laid. -/
noncomputable def laidWorld (os : Os) : World :=
  { World.holding Tryd.prog os ⟨#[], #[], []⟩ with heap := (((World.holding Tryd.prog os ⟨#[], #[], []⟩).heap.modify 0 (cellsTo #[.int .u64 1, .int .u64 10, .int .u64 100, .int .u64 1000, .int .u64 10000, .int .u64 100000, .int .u64 1000000, .int .u64 10000000, .int .u64 100000000, .int .u64 1000000000, .int .u64 10000000000, .int .u64 100000000000, .int .u64 1000000000000, .int .u64 10000000000000, .int .u64 100000000000000, .int .u64 1000000000000000, .int .u64 10000000000000000, .int .u64 100000000000000000, .int .u64 1000000000000000000, .int .u64 10000000000000000000])).modify 1 (cellsTo #[.int .u8 0, .int .u8 1, .int .u8 28, .int .u8 2, .int .u8 29, .int .u8 14, .int .u8 24, .int .u8 3, .int .u8 30, .int .u8 22, .int .u8 20, .int .u8 15, .int .u8 25, .int .u8 17, .int .u8 4, .int .u8 8, .int .u8 31, .int .u8 27, .int .u8 13, .int .u8 23, .int .u8 21, .int .u8 19, .int .u8 16, .int .u8 7, .int .u8 26, .int .u8 12, .int .u8 18, .int .u8 6, .int .u8 11, .int .u8 5, .int .u8 10, .int .u8 9])).modify 2 (cellsTo #[.int .u8 0, .int .u8 1, .int .u8 56, .int .u8 2, .int .u8 57, .int .u8 49, .int .u8 28, .int .u8 3, .int .u8 61, .int .u8 58, .int .u8 42, .int .u8 50, .int .u8 38, .int .u8 29, .int .u8 17, .int .u8 4, .int .u8 62, .int .u8 47, .int .u8 59, .int .u8 36, .int .u8 45, .int .u8 43, .int .u8 51, .int .u8 22, .int .u8 53, .int .u8 39, .int .u8 33, .int .u8 30, .int .u8 24, .int .u8 18, .int .u8 12, .int .u8 5, .int .u8 63, .int .u8 55, .int .u8 48, .int .u8 27, .int .u8 60, .int .u8 41, .int .u8 37, .int .u8 16, .int .u8 46, .int .u8 35, .int .u8 44, .int .u8 21, .int .u8 52, .int .u8 32, .int .u8 23, .int .u8 11, .int .u8 54, .int .u8 26, .int .u8 40, .int .u8 15, .int .u8 34, .int .u8 20, .int .u8 31, .int .u8 10, .int .u8 25, .int .u8 14, .int .u8 19, .int .u8 9, .int .u8 13, .int .u8 8, .int .u8 7, .int .u8 6]) }
def args0 : Array Value := #[.agg #[.int .i64 0, .int .i64 0, .int .i64 0, .string .empty, .string .empty, .slice none 0 0, .slice none 0 0, .slice none 0 0], .slice none 0 0, .int .i64 0, .int .i64 0]
theorem laid_met (os : Os) : laidMet Tryd.prog Rows.modelMoreUptoRow.laid ((laidWorld os).forCall (fun _ _ => 0) ⟨#[], args0, []⟩).memory :=
  laidMet_of_run' 8 (by kernel_rfl) (by kernel_rfl)
theorem reads (os : Os) {H : Type} (enc : TypeId × Value → H) : ∃ places, DataW.whole enc Tryd.prog ((laidWorld os).forCall (fun _ _ => 0) ⟨#[], args0, []⟩).memory Tryd.f4.params.toList Rows.modelMoreSpec.vars false args0.toList 8 =
    some ([.agg [.lit (.int .i64 0), .lit (.int .i64 0), .lit (.int .i64 0), .lit (.string []), .lit (.string []), .nil, .nil, .nil], .nil, .lit (.int .i64 0), .lit (.int .i64 0)], [], places) :=
  ⟨[], by kernel_rfl⟩

set_option maxRecDepth 100000 in
theorem lifted (os : Os) (started : os.Started) (H : Type) (enc : TypeId × Value → H) (F : Stop.Interp) :
    ReturnsInHanded {} Tryd.checked os 4 .any ((Rows.OpenSpec.upto Rows.modelMoreSpec).preRow enc Tryd.prog Tryd.f4 Rows.modelMoreUptoRow.domain false Rows.modelMoreUptoRow.laid) (((Rows.OpenSpec.upto Rows.modelMoreSpec).at F).post enc Tryd.prog Tryd.f4 false true false false) := by
  obtain ⟨places, hx⟩ := reads os enc
  refine returnsInHanded_of_row (C := Tryd.checked) (s := Rows.OpenSpec.upto Rows.modelMoreSpec) own started (by kernel_rfl) Tryd.func4
    (witness_row_at (enc := enc) (C := Tryd.checked) false (laidWorld os) args0 rfl (by kernel_rfl) (by kernel_rfl) (by kernel_rfl)
      (OpenSpec.preRow_of_cond 8 hx (by kernel_rfl) (fun k hk => by cases hk; kernel_rfl) (by kernel_rfl) (laid_met os))) ?_
  intro W base args ds gs before hval hW _ hcond _ hL _ _
  refine law_calls (T := [3, 2, 4, 9, 22, 44, 42]) (by kernel_rfl) laidOut (by kernel_rfl) (rt := 4) rfl (by kernel_rfl) hval _ rfl hW (fun ds hl => ?_) (fun xs hxs hbk => ?_) (glob_of (tab_of hL))
  · match ds, hl with
    | [_, _, _, _], _ => rfl
  · replace hbk := Nat.le_trans hbk (of_decide_eq_true (hcond _ rfl))
    match xs, hxs with
    | [_, _, _, _], ⟨a1, a2, a3, a4, _⟩ =>
      obtain ⟨e, rfl⟩ := expr_of _ (Nat.le_refl _) a1
      obtain ⟨inp, rfl⟩ := strs_of a2
      obtain ⟨fuel, rfl, _⟩ := a3.int (k := .i64) (by kernel_rfl) (by kernel_rfl)
      obtain ⟨mr, rfl, _⟩ := a4.int (k := .i64) (by kernel_rfl) (by kernel_rfl)
      simp only [V.bulkL, V.bulk, bulk_ex, bulk_strs] at hbk
      have hil := nsz_len inp
      exact k_ModelMore (by omega) (by omega)

theorem said : Rows.ModelMoreUptoSaid :=
  OpenClaim.holds_of_cond 4 Tryd.f4 rfl rfl rfl rfl rfl rfl rfl ⟨rfl, rfl, rfl, rfl, rfl⟩ rfl rfl rfl rfl rfl (by kernel_rfl) Tryd.func4 (by kernel_rfl)
    (of_decide_eq_true (by kernel_rfl)) (by unfold Func.isWrapper; first | (rw [if_pos (by decide +kernel)]; kernel_rfl) | (rw [if_neg (by decide +kernel)]; exact ⟨rfl, rfl⟩))
    (fun os started H enc _ F => by rw [OpenClaim.pre_eq_preRow]; exact lifted os started H enc F)

theorem plain (f : FuncId) (fn : Func) (hf : Tryd.pinned.checked.prog.funcNamed "bushel/bushellaw17.ModelMore" = some f) (hfn : Tryd.pinned.checked.prog.funcs[f]? = some fn) :
    true = Tryd.pinned.checked.prog.looks [] ∧ ∀ (j : Nat) t, fn.params[j]? = some t → Tryd.pinned.checked.prog.wantsStandIn t = false := by
  obtain rfl : f = 4 := Option.some.inj ((show Tryd.prog.funcNamed "bushel/bushellaw17.ModelMore" = some 4 by kernel_rfl).symm.trans hf) |>.symm
  obtain rfl : fn = Tryd.f4 := (Option.some.inj (Tryd.func4.symm.trans hfn)).symm
  refine ⟨by kernel_rfl, fun j t ht => ?_⟩
  rw [Tryd.params4] at ht
  have hm : t = 44 ∨ t = 22 ∨ t = 3 := by simpa using Array.mem_of_getElem? ht
  rcases hm with rfl | rfl | rfl
  · exact (show Tryd.prog.wantsStandIn 44 = false by kernel_rfl)
  · exact (show Tryd.prog.wantsStandIn 22 = false by kernel_rfl)
  · exact (show Tryd.prog.wantsStandIn 3 = false by kernel_rfl)

theorem proved : Rows.ModelMoreUptoCardSaid :=
  Claim7.holds_tied_plain_at .later [] _ _ _ _ said (fun _ h => by cases h) (by kernel_rfl) (fun _ h => by cases h) modelMoreUpto_row_tie rfl ⟨rfl, rfl⟩ (by kernel_rfl) rfl plain (by kernel_rfl)
end modelMore
end Go.Proofs.YtbifjffjibnjjaaDoor
