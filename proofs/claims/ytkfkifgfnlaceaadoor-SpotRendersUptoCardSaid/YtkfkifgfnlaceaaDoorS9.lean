/-
  bushellaw03.SpotRenders: for every input the law returns true, and each argument reads behind the call as it read before. Condition: the arguments are of the bulk that the second form grants; the package variables that the row lists are laid as its card tells.
-/
import Derived.Test.YtkfkifgfnlaceaaDoorS7
set_option linter.unusedVariables false
set_option linter.unusedSimpArgs false
namespace Go.Proofs.YtkfkifgfnlaceaaDoor
open Go Go.Abs

namespace spotRenders
open spotS
theorem strs_of {x : V} (h : Arg Tryd.prog 27 x) : ∃ l : List Str, x = vS l := by
  obtain ⟨xs, rfl, _, hx⟩ := h.sl (e := 9) (sh := none) (by kernel_rfl) (by kernel_rfl) (by kernel_rfl)
  obtain ⟨l, rfl⟩ := list_of_all (enc := V.str) fun y hy => by
    obtain ⟨s, rfl, _⟩ := (hx y hy).str (by kernel_rfl) (by kernel_rfl)
    exact ⟨s, rfl⟩
  exact ⟨l, rfl⟩
theorem bulk_len : ∀ l : List Str, l.length ≤ V.bulkL (l.map .str)
  | [] => Nat.le_refl _
  | x :: l => by
    have h := bulk_len l
    simp only [List.map_cons, V.bulkL, V.bulk, List.length_cons]
    omega
theorem bulk_bytes : ∀ b : Str, V.bulkL (bytesV b) = b.length
  | [] => rfl
  | c :: b => by
    have h := bulk_bytes b
    show 1 + V.bulkL (bytesV b) = b.length + 1
    omega
def args0 : Array Value := #[.slice none 0 0, .int .i64 0, .int .i64 0, .slice none 0 0, .bool false]
theorem laid_met (os : Os) : laidMetH Tryd.prog Rows.spotRendersUptoRow.laid ((laidWorld os).forCall (fun _ _ => 0) ⟨#[], args0, []⟩).memory :=
  laidMetH_of_parts (laidMet_of_run' 8 (by kernel_rfl) (by kernel_rfl)) (by kernel_rfl)
theorem reads (os : Os) {H : Type} (enc : TypeId × Value → H) : ∃ places, DataW.whole enc Tryd.prog ((laidWorld os).forCall (fun _ _ => 0) ⟨#[], args0, []⟩).memory Tryd.f4.params.toList Rows.spotRendersSpec.vars false args0.toList 8 =
    some ([.nil, .lit (.int .i64 0), .lit (.int .i64 0), .nil, .lit (.bool false)], [], places) :=
  ⟨[], by kernel_rfl⟩

set_option maxRecDepth 100000 in
theorem lifted (os : Os) (started : os.Started) (H : Type) (enc : TypeId × Value → H) (F : Stop.Interp) :
    ReturnsInHanded {} Tryd.checked os 4 .any ((Rows.OpenSpec.upto Rows.spotRendersSpec).preRow enc Tryd.prog Tryd.f4 Rows.spotRendersUptoRow.domain false Rows.spotRendersUptoRow.laid) (((Rows.OpenSpec.upto Rows.spotRendersSpec).at F).post enc Tryd.prog Tryd.f4 false true false false) := by
  obtain ⟨places, hx⟩ := reads os enc
  refine returnsInHanded_of_row (C := Tryd.checked) (s := Rows.OpenSpec.upto Rows.spotRendersSpec) own started (by kernel_rfl) Tryd.func4
    (witness_row_at (enc := enc) (C := Tryd.checked) false (laidWorld os) args0 rfl (by kernel_rfl) (by kernel_rfl) (by kernel_rfl)
      (OpenSpec.preRow_of_cond 8 hx (by kernel_rfl) (fun k hk => by cases hk; kernel_rfl) (by kernel_rfl) (laid_met os))) ?_
  intro W base args ds gs before hval hW _ hcond _ hL _ _
  refine law_calls (T := [4, 5, 3, 9, 22, 27]) (by kernel_rfl) laidOut (by kernel_rfl) (rt := 4) rfl (by kernel_rfl) hval _ rfl hW (fun ds hl => ?_) (fun xs hxs hbk => ?_) (glob_of hL)
  · match ds, hl with
    | [_, _, _, _, _], _ => rfl
  · replace hbk := Nat.le_trans hbk (of_decide_eq_true (hcond _ rfl))
    match xs, hxs with
    | [_, _, _, _, _], ⟨a0, a1, a2, a3, a4, _⟩ =>
      obtain ⟨b, rfl, _⟩ := a0.bytes (e := 5) (by kernel_rfl) (by kernel_rfl) (by kernel_rfl) (by kernel_rfl)
      obtain ⟨n, rfl, _⟩ := a1.int (k := .i64) (by kernel_rfl) (by kernel_rfl)
      obtain ⟨c, rfl, _⟩ := a2.int (k := .i64) (by kernel_rfl) (by kernel_rfl)
      obtain ⟨l, rfl⟩ := strs_of a3
      obtain ⟨q, rfl⟩ := a4.bool (by kernel_rfl) (by kernel_rfl)
      have e1 := bulk_bytes b
      have e2 := bulk_len l
      simp only [V.bulkL, V.bulk] at hbk
      exact (k_Renders (b := b) (at_ := n) (code := c) (stages := l) (sp := q) (by omega) (by omega)).mono fun r σ' h => h

theorem said : Rows.SpotRendersUptoSaid :=
  OpenClaim.holds_of_cond 4 Tryd.f4 rfl rfl rfl rfl rfl rfl rfl ⟨rfl, rfl, rfl, rfl, rfl⟩ rfl rfl rfl rfl rfl (by kernel_rfl) Tryd.func4 (by kernel_rfl)
    (of_decide_eq_true (by kernel_rfl)) (by unfold Func.isWrapper; first | (rw [if_pos (by decide +kernel)]; kernel_rfl) | (rw [if_neg (by decide +kernel)]; exact ⟨rfl, rfl⟩))
    (fun os started H enc _ F => by rw [OpenClaim.pre_eq_preRow]; exact lifted os started H enc F)

theorem plain (f : FuncId) (fn : Func) (hf : Tryd.pinned.checked.prog.funcNamed "bushel/bushellaw03.SpotRenders" = some f) (hfn : Tryd.pinned.checked.prog.funcs[f]? = some fn) :
    true = Tryd.pinned.checked.prog.looks [] ∧ ∀ (j : Nat) t, fn.params[j]? = some t → Tryd.pinned.checked.prog.wantsStandIn t = false := by
  obtain rfl : f = 4 := Option.some.inj ((show Tryd.prog.funcNamed "bushel/bushellaw03.SpotRenders" = some 4 by kernel_rfl).symm.trans hf) |>.symm
  obtain rfl : fn = Tryd.f4 := (Option.some.inj (Tryd.func4.symm.trans hfn)).symm
  refine ⟨by kernel_rfl, fun j t ht => ?_⟩
  rw [Tryd.params4] at ht
  have hm := Array.mem_of_getElem? ht
  simp only [List.mem_toArray, List.mem_cons, List.not_mem_nil, or_false] at hm
  rcases hm with rfl | rfl | rfl | rfl | rfl
  · exact (show Tryd.prog.wantsStandIn 22 = false by kernel_rfl)
  · exact (show Tryd.prog.wantsStandIn 3 = false by kernel_rfl)
  · exact (show Tryd.prog.wantsStandIn 3 = false by kernel_rfl)
  · exact (show Tryd.prog.wantsStandIn 27 = false by kernel_rfl)
  · exact (show Tryd.prog.wantsStandIn 4 = false by kernel_rfl)

theorem proved : Rows.SpotRendersUptoCardSaid :=
  Claim7.holds_tied_plain_at .later [] _ _ _ _ said (fun _ h => by cases h) (by kernel_rfl) (fun _ h => by cases h) spotRendersUpto_row_tie rfl ⟨rfl, rfl⟩ (by kernel_rfl) rfl plain (by kernel_rfl)
end spotRenders
end Go.Proofs.YtkfkifgfnlaceaaDoor
