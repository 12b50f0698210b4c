/-
  Layer 7: arguments; what the laid variables give, and a world in which they are laid. (Own work.)
-/
import Derived.Test.YtpdeaekmgljeaaaGreatDoorN17
import Derived.Test.YtpdeaekmgljeaaaGreatDoorCards
import Derived.Test.YtpdeaekmgljeaaaGreatDoorTie
import Derived.Deep.DeepHandedRow
import Derived.Lib.LaidTab
import Derived.LaidHandle
import Derived.LaidLaws
set_option linter.unusedVariables false
set_option linter.unusedSimpArgs false
namespace Go.Proofs.YtpdeaekmgljeaaaGreatDoor
open Go Go.Abs
namespace parS
theorem strs_of {x : V} (h : Arg Tryz.prog 22 x) : ∃ l : List Str, x = vS l := by
 obtain ⟨xs, rfl, _, hx⟩ := h.sl (e := 9) (sh := none) (by kernel_rfl) (by kernel_rfl) (by kernel_rfl)
 obtain ⟨l, rfl⟩ := list_of_all (enc := V.str) fun y hy => by
  obtain ⟨n, rfl, _⟩ := (hx y hy).str (by kernel_rfl) (by kernel_rfl)
  exact ⟨n, rfl⟩
 exact ⟨l, rfl⟩
theorem sl_arg {P : Program} {t e : TypeId} {sh : Sh} {cs : List V} (hu : P.underlying t = some (.slice e)) (hs : tsh P t = some none) (he : tsh P e = some sh) (h : Ty P t cs) : ∃ x, cs = [x] ∧ Arg P t x := by
 obtain ⟨xs, rfl, _, _⟩ := h.sl_inv hu he
 exact ⟨_, rfl, h, hs⟩
theorem bulk_mem {y : V} : ∀ {xs : List V}, y ∈ xs → y.bulk ≤ V.bulkL xs
 | x :: xs, h => by
  simp only [V.bulkL]
  rcases List.mem_cons.1 h with rfl | h
  ·omega
  ·have := bulk_mem h; omega
theorem intsL_sub : ∀ l : List {e : Ex // intsE e}, intsL (l.map (·.1))
 | [] => by simp [intsL]
 | z :: l => by rw [List.map_cons, intsL]; exact ⟨z.2, intsL_sub l⟩
theorem expr_of2 : ∀ (n : Nat) {x : V}, x.bulk ≤ n → Arg Tryz.prog 25 x → ∃ t : Ex, x = encE t ∧ intsE t
 | 0, x, hn, h => by
  obtain ⟨parts, rfl, hp⟩ := h.struct (t := 25) (fs := Tryz.prog.fieldsOf 25) (n := 8) (ts := [3, 3, 2, 9, 9, 22, 22, 23]) (by kernel_rfl) (by kernel_rfl) (by kernel_rfl)
  match parts, hp with
  | [p, q, r, s, t, u, v, w], ⟨h1, h2, h3, h4, h5, h6, h7, h8, _⟩ =>
   obtain ⟨a, rfl, _⟩ := h1.int_inv (k := .i64) (by kernel_rfl)
   simp [V.bulk, V.bulkL] at hn
 | n + 1, x, hn, h => by
  obtain ⟨parts, rfl, hp⟩ := h.struct (t := 25) (fs := Tryz.prog.fieldsOf 25) (n := 8) (ts := [3, 3, 2, 9, 9, 22, 22, 23]) (by kernel_rfl) (by kernel_rfl) (by kernel_rfl)
  match parts, hp with
  | [p, q, r, s, t, u, v, w], ⟨h1, h2, h3, h4, h5, h6, h7, h8, _⟩ =>
   obtain ⟨a, rfl, _⟩ := h1.int_inv (k := .i64) (by kernel_rfl)
   obtain ⟨a2, rfl, _⟩ := h2.int_inv (k := .i64) (by kernel_rfl)
   obtain ⟨b, rfl, hb⟩ := h3.int_inv (k := .i64) (by kernel_rfl)
   obtain ⟨c, rfl, _⟩ := h4.str_inv (by kernel_rfl)
   obtain ⟨d, rfl, _⟩ := h5.str_inv (by kernel_rfl)
   obtain ⟨y0, rfl, hy0⟩ := sl_arg (e := 9) (sh := none) (by kernel_rfl) (by kernel_rfl) (by kernel_rfl) h6
   obtain ⟨ls, rfl⟩ := strs_of hy0
   obtain ⟨y1, rfl, hy1⟩ := sl_arg (e := 9) (sh := none) (by kernel_rfl) (by kernel_rfl) (by kernel_rfl) h7
   obtain ⟨ns, rfl⟩ := strs_of hy1
   obtain ⟨y2, rfl, hy2⟩ := sl_arg (e := 25) (sh := some 8) (by kernel_rfl) (by kernel_rfl) (by kernel_rfl) h8
   obtain ⟨xs, rfl, _, hx⟩ := hy2.sl (e := 25) (sh := some 8) (by kernel_rfl) (by kernel_rfl) (by kernel_rfl)
   simp [V.bulk, V.bulkL] at hn
   obtain ⟨l, rfl⟩ := list_of_all (enc := fun e : {e : Ex // intsE e} => encE e.1) fun y hy => by
    obtain ⟨t, ht, hi⟩ := expr_of2 n (by have := bulk_mem hy; omega) (hx y hy)
    exact ⟨⟨t, hi⟩, ht⟩
   refine ⟨.mk a a2 b c d ls ns (l.map (·.1)), by rw [encE_mk, List.map_map]; rfl, ?_⟩
   rw [intsE]
   refine ⟨hb, ?_⟩
   exact intsL_sub l
def p10T : List Int := (List.range 20).map fun i => ((10 ^ i : Nat) : Int)
theorem own : ownKnob Tryz.prog.godebug = none := by kernel_rfl
theorem laidOut : laidOutB Tryz.prog = true := by kernel_rfl
theorem gErr : (Tryz.prog.globals[6]?).map (·.type) = some 29 := by kernel_rfl
theorem errI : ∃ ms, Tryz.prog.underlying 29 = some (.interface ms) := ⟨_, Tryz.underlying29⟩
theorem rtT : (Tryz.prog.cutTypes.find? (·.1 == "internal/reflectlite.rtype")).map (·.2) = some 143 := by kernel_rfl
theorem size : Tryz.prog.types.size = 276 := by kernel_rfl
theorem oneRow : ((List.range 276).filter fun t => Tryz.prog.rowNamed t [101, 114, 114, 111, 114]) = [29] := by kernel_rfl
theorem hcells {W : World} {g : Nat} {name : String} {cs : Array Value} (hn : Tryz.prog.globalNamed name = some g) (h : W.var? Tryz.prog name = some cs) : ∃ ty fr, W.heap[g]? = some (.cells cs ty fr) := by
 unfold World.var? at h
 rw [hn] at h
 simp only [Option.bind_some] at h
 cases hx : W.heap[g]? with
 | none => rw [hx] at h; cases h
 | some ob =>
  rw [hx] at h
  cases ob with
  | cells cs' ty fr =>
   have h' : some cs' = some cs := h
   cases h'
   exact ⟨ty, fr, rfl⟩
  | _ => cases h
theorem glob_of {W : World} (h : laidMetH Tryz.prog Rows.parseBackUptoRow.laid W) : ∀ p ∈ globs, ∃ cs ty fr, W.heap[p.1]? = some (.cells cs ty fr) ∧ p.2 cs := by
 have h' : laidMet Tryz.prog [("math/bits.deBruijn32tab", Rows.laid_math_bits_deBruijn32tab), ("math/bits.deBruijn64tab", Rows.laid_math_bits_deBruijn64tab), ("internal/strconv.uint64pow10", Lib.tabData .u64 p10T), ("strconv.ErrRange", Rows.laid_strconv_ErrRange), ("strconv.ErrSyntax", Rows.laid_strconv_ErrSyntax)] W ∧ handlesMet Tryz.prog [("errors.errorType", Rows.laid_errors_errorType)] W := h
 obtain ⟨⟨ps, hv, _⟩, hh⟩ := h'
 obtain ⟨_, _, _, _, _, _, _, _, _, _, hv, _⟩ := hv
 obtain ⟨_, _, _, _, _, _, _, _, _, _, hv, _⟩ := hv
 obtain ⟨g1, t1, cs1, fuel1, p1, q1, hg1, ht1, hvar1, hd1, hv, _⟩ := hv
 obtain ⟨g2, t2, cs2, fuel2, p2, q2, hg2, ht2, hvar2, hd2, _, _⟩ := hv
 obtain ⟨name, u, ty, e1, e2, e3, e4, e5⟩ := hh _ (List.mem_singleton.2 rfl)
 have en : name = [101, 114, 114, 111, 114] := (Option.some.inj e1).symm
 subst en
 obtain rfl := Option.some.inj (rtT.symm.trans e2)
 have hm : ty ∈ (List.range 276).filter fun t => Tryz.prog.rowNamed t [101, 114, 114, 111, 114] := List.mem_filter.2 ⟨List.mem_range.2 (by rw [← size]; exact e3), e4⟩
 rw [oneRow] at hm
 obtain rfl := List.mem_singleton.1 hm
 have hth : typeHandle Tryz.prog 29 = .pointer (some ⟨7, 29, none⟩) := by kernel_rfl
 rw [hth] at e5
 obtain rfl := Option.some.inj ((show (Tryz.prog.globals[1]?).map (·.type) = some 186 by kernel_rfl).symm.trans ((Option.some.inj ((show Tryz.prog.globalNamed "internal/strconv.uint64pow10" = some 1 by kernel_rfl).symm.trans hg1)) ▸ ht1))
 obtain rfl := Option.some.inj ((show Tryz.prog.globalNamed "strconv.ErrRange" = some 6 by kernel_rfl).symm.trans hg2)
 obtain rfl := Option.some.inj (gErr.symm.trans ht2)
 obtain ⟨ms, hms⟩ := errI
 obtain ⟨_, te, pe, hcs2, _, _⟩ := iface_of_trod hms hd2
 have hcs2' : cs2 = #[.iface te pe] := Array.eq_one_of_toList hcs2
 subst hcs2'
 have ht := Lib.cells_of_tab (t := 186) (e := 137) (n := 20) (by kernel_rfl) (by kernel_rfl) (by kernel_rfl) (by kernel_rfl) hd1
 obtain ⟨ty0, fr0, h0⟩ := hcells (g := 0) (by kernel_rfl) e5
 obtain ⟨ty1, fr1, h1⟩ := hcells (g := 1) (by kernel_rfl) hvar1
 obtain ⟨ty2, fr2, h2⟩ := hcells (g := 6) (by kernel_rfl) hvar2
 intro p hp
 simp only [globs, List.mem_cons, List.not_mem_nil, or_false] at hp
 rcases hp with rfl | rfl | rfl
 ·exact ⟨_, _, _, h0, rfl⟩
 ·exact ⟨_, _, _, h1, Array.toList_inj.1 (ht.trans (by kernel_rfl))⟩
 ·exact ⟨_, _, _, h2, _, _, rfl⟩
def cellsTo (cs : Array Value) : Obj → Obj
 | .cells _ t frozen => .cells cs t frozen
 | o => o
noncomputable def low : Nat := (World.holding Tryz.prog default ⟨#[], #[], []⟩).heap.size
noncomputable def laidWorld (os : Os) : World :=
 { World.holding Tryz.prog os ⟨#[.cells #[.string ⟨#[118, 97, 108, 117, 101, 32, 111, 117, 116, 32, 111, 102, 32, 114, 97, 110, 103, 101]⟩] 247, .cells #[.string ⟨#[105, 110, 118, 97, 108, 105, 100, 32, 115, 121, 110, 116, 97, 120]⟩] 247], #[], []⟩ with heap := ((((((World.holding Tryz.prog os ⟨#[.cells #[.string ⟨#[118, 97, 108, 117, 101, 32, 111, 117, 116, 32, 111, 102, 32, 114, 97, 110, 103, 101]⟩] 247, .cells #[.string ⟨#[105, 110, 118, 97, 108, 105, 100, 32, 115, 121, 110, 116, 97, 120]⟩] 247], #[], []⟩).heap.modify 0 (cellsTo #[.iface 143 (.agg #[.pointer (some ⟨7, 29, none⟩)])])).modify 1 (cellsTo #[.int .u64 1, .int .u64 10, .int .u64 100, .int .u64 1000, .int .u64 10000, .int .u64 100000, .int .u64 1000000, .int .u64 10000000, .int .u64 100000000, .int .u64 1000000000, .int .u64 10000000000, .int .u64 100000000000, .int .u64 1000000000000, .int .u64 10000000000000, .int .u64 100000000000000, .int .u64 1000000000000000, .int .u64 10000000000000000, .int .u64 100000000000000000, .int .u64 1000000000000000000, .int .u64 10000000000000000000])).modify 5 (cellsTo #[.iface 245 (.pointer (some ⟨low + 1, 0, none⟩))])).modify 6 (cellsTo #[.iface 245 (.pointer (some ⟨low, 0, none⟩))])).modify 3 (cellsTo #[.int .u8 0, .int .u8 1, .int .u8 28, .int .u8 2, .int .u8 29, .int .u8 14, .int .u8 24, .int .u8 3, .int .u8 30, .int .u8 22, .int .u8 20, .int .u8 15, .int .u8 25, .int .u8 17, .int .u8 4, .int .u8 8, .int .u8 31, .int .u8 27, .int .u8 13, .int .u8 23, .int .u8 21, .int .u8 19, .int .u8 16, .int .u8 7, .int .u8 26, .int .u8 12, .int .u8 18, .int .u8 6, .int .u8 11, .int .u8 5, .int .u8 10, .int .u8 9])).modify 4 (cellsTo #[.int .u8 0, .int .u8 1, .int .u8 56, .int .u8 2, .int .u8 57, .int .u8 49, .int .u8 28, .int .u8 3, .int .u8 61, .int .u8 58, .int .u8 42, .int .u8 50, .int .u8 38, .int .u8 29, .int .u8 17, .int .u8 4, .int .u8 62, .int .u8 47, .int .u8 59, .int .u8 36, .int .u8 45, .int .u8 43, .int .u8 51, .int .u8 22, .int .u8 53, .int .u8 39, .int .u8 33, .int .u8 30, .int .u8 24, .int .u8 18, .int .u8 12, .int .u8 5, .int .u8 63, .int .u8 55, .int .u8 48, .int .u8 27, .int .u8 60, .int .u8 41, .int .u8 37, .int .u8 16, .int .u8 46, .int .u8 35, .int .u8 44, .int .u8 21, .int .u8 52, .int .u8 32, .int .u8 23, .int .u8 11, .int .u8 54, .int .u8 26, .int .u8 40, .int .u8 15, .int .u8 34, .int .u8 20, .int .u8 31, .int .u8 10, .int .u8 25, .int .u8 14, .int .u8 19, .int .u8 9, .int .u8 13, .int .u8 8, .int .u8 7, .int .u8 6]) }
end parS
namespace parseBack
open parS
theorem bulk_bytes : ∀ b : Str, V.bulkL (bytesV b) = b.length
 | [] => rfl
 | c :: b => by
  have h := bulk_bytes b
  show 1 + V.bulkL (bytesV b) = b.length + 1
  omega
def args0 : Array Value := #[.agg #[.int .i64 0, .int .i64 0, .int .i64 0, .string ⟨#[]⟩, .string ⟨#[]⟩, .slice none 0 0, .slice none 0 0, .slice none 0 0], .slice none 0 0]
theorem laid_met (os : Os) : laidMetH Tryz.prog Rows.parseBackUptoRow.laid ((laidWorld os).forCall (fun _ _ => 0) ⟨#[], args0, []⟩).memory :=
 laidMetH_of_parts (laidMet_of_run' 8 (by kernel_rfl) (by kernel_rfl)) (by kernel_rfl)
theorem reads (os : Os) {H : Type} (enc : TypeId × Value → H) : ∃ places, DataW.whole enc Tryz.prog ((laidWorld os).forCall (fun _ _ => 0) ⟨#[], args0, []⟩).memory Tryz.f7.params.toList Rows.parseBackSpec.vars false args0.toList 8 =
  some ([.agg [.lit (.int .i64 0), .lit (.int .i64 0), .lit (.int .i64 0), .lit (.string []), .lit (.string []), .nil, .nil, .nil], .nil], [], places) :=
 ⟨[], by kernel_rfl⟩
set_option maxRecDepth 100000 in
theorem lifted (os : Os) (started : os.Started) (H : Type) (enc : TypeId × Value → H) (F : Stop.Interp) :
  ReturnsInHanded {} Tryz.checked os 7 .any ((Rows.OpenSpec.upto Rows.parseBackSpec).preRow enc Tryz.prog Tryz.f7 Rows.parseBackUptoRow.domain false Rows.parseBackUptoRow.laid) (((Rows.OpenSpec.upto Rows.parseBackSpec).at F).post enc Tryz.prog Tryz.f7 false true false false) := by
 obtain ⟨places, hx⟩ := reads os enc
 refine returnsInHanded_of_row (C := Tryz.checked) (s := Rows.OpenSpec.upto Rows.parseBackSpec) own started (by kernel_rfl) Tryz.func7
  (witness_row_at (enc := enc) (C := Tryz.checked) false (laidWorld os) args0 rfl (by kernel_rfl) (by kernel_rfl) (by kernel_rfl)
   (OpenSpec.preRow_of_cond 8 hx (by kernel_rfl) (fun k hk => by cases hk; kernel_rfl) (by kernel_rfl) (laid_met os))) ?_
 intro W base args ds gs before hval hW _ hcond _ hL _ _
 refine law_calls (T := [3, 2, 4, 9, 22, 25, 23, 5, 48]) (by kernel_rfl) laidOut (by kernel_rfl) (rt := 4) rfl (by kernel_rfl) hval _ rfl hW (fun ds hl => ?_) (fun xs hxs hbk => ?_) (glob_of hL)
 ·match ds, hl with
  | [_, _], _ => rfl
 ·replace hbk := Nat.le_trans hbk (of_decide_eq_true (hcond _ rfl))
  match xs, hxs with
  | [_, _], ⟨a1, a2, _⟩ =>
   obtain ⟨e, rfl, hi⟩ := expr_of2 _ (Nat.le_refl _) a1
   obtain ⟨b, rfl, _⟩ := a2.bytes (e := 5) (by kernel_rfl) (by kernel_rfl) (by kernel_rfl) (by kernel_rfl)
   have e1 := bulk_bytes b
   simp only [V.bulkL, V.bulk, bulk_ex] at hbk
   exact k_LawP (a := e) (b := b) (by omega) (by omega) hi
theorem said : Rows.ParseBackUptoSaid :=
 OpenClaim.holds_of_cond 7 Tryz.f7 rfl rfl rfl rfl rfl rfl rfl ⟨rfl, rfl, rfl, rfl, rfl⟩ rfl rfl rfl rfl rfl (by kernel_rfl) Tryz.func7 (by kernel_rfl)
  (of_decide_eq_true (by kernel_rfl)) (by unfold Func.isWrapper; first | (rw [if_pos (by decide +kernel)]; kernel_rfl) | (rw [if_neg (by decide +kernel)]; exact ⟨rfl, rfl⟩))
  (fun os started H enc _ F => by rw [OpenClaim.pre_eq_preRow]; exact lifted os started H enc F)
theorem plain (f : FuncId) (fn : Func) (hf : Tryz.pinned.checked.prog.funcNamed "bushel/bushellaw07.ParseBack" = some f) (hfn : Tryz.pinned.checked.prog.funcs[f]? = some fn) :
  true = Tryz.pinned.checked.prog.looks [] ∧ ∀ (j : Nat) t, fn.params[j]? = some t → Tryz.pinned.checked.prog.wantsStandIn t = false := by
 obtain rfl : f = 7 := Option.some.inj ((show Tryz.prog.funcNamed "bushel/bushellaw07.ParseBack" = some 7 by kernel_rfl).symm.trans hf) |>.symm
 obtain rfl : fn = Tryz.f7 := (Option.some.inj (Tryz.func7.symm.trans hfn)).symm
 refine ⟨by kernel_rfl, fun j t ht => ?_⟩
 rw [Tryz.params7] at ht
 have hm := Array.mem_of_getElem? ht
 simp only [List.mem_toArray, List.mem_cons, List.not_mem_nil, or_false] at hm
 rcases hm with rfl | rfl
 ·exact (show Tryz.prog.wantsStandIn 25 = false by kernel_rfl)
 ·exact (show Tryz.prog.wantsStandIn 48 = false by kernel_rfl)
theorem proved : Rows.ParseBackUptoCardSaid :=
 Claim7.holds_tied_plain_at .later [] _ _ _ _ said (fun _ h => by cases h) (by kernel_rfl) (fun _ h => by cases h) parseBackUpto_row_tie rfl ⟨rfl, rfl⟩ (by kernel_rfl) rfl plain (by kernel_rfl)
end parseBack
end Go.Proofs.YtpdeaekmgljeaaaGreatDoor
