/-
  bushellaw03.SpotStays: for every input the law returns true, and each argument reads behind the call as it read before. Condition: the arguments are of the bulk that the second form grants; the package variables that the row lists are laid as its card tells.
-/
import Derived.Test.YtkfkifgfnlaceaaDoorS7
set_option linter.unusedVariables false
set_option linter.unusedSimpArgs false
namespace Go.Proofs.YtkfkifgfnlaceaaDoor
open Go Go.Abs

namespace spotStays
open spotS
theorem strs_of {x : V} (h : Arg Tryd.prog 27 x) : ∃ l : List Str, x = vS l := by
  obtain ⟨xs, rfl, _, hx⟩ := h.sl (e := 9) (sh := none) (by kernel_rfl) (by kernel_rfl) (by kernel_rfl)
  obtain ⟨l, rfl⟩ := list_of_all (enc := V.str) fun y hy => by
    obtain ⟨s, rfl, _⟩ := (hx y hy).str (by kernel_rfl) (by kernel_rfl)
    exact ⟨s, rfl⟩
  exact ⟨l, rfl⟩
theorem bulk_len : ∀ l : List Str, l.length ≤ V.bulkL (l.map .str)
  | [] => Nat.le_refl _
  | x :: l => by
    have h := bulk_len l
    simp only [List.map_cons, V.bulkL, V.bulk, List.length_cons]
    omega
theorem bulk_bytes : ∀ b : Str, V.bulkL (bytesV b) = b.length
  | [] => rfl
  | c :: b => by
    have h := bulk_bytes b
    show 1 + V.bulkL (bytesV b) = b.length + 1
    omega
def args0 : Array Value := #[.int .i64 0, .int .i64 0, .slice none 0 0]
theorem laid_met (os : Os) : laidMetH Tryd.prog Rows.spotStaysUptoRow.laid ((laidWorld os).forCall (fun _ _ => 0) ⟨#[], args0, []⟩).memory :=
  laidMetH_of_parts (laidMet_of_run' 8 (by kernel_rfl) (by kernel_rfl)) (by kernel_rfl)
theorem reads (os : Os) {H : Type} (enc : TypeId × Value → H) : ∃ places, DataW.whole enc Tryd.prog ((laidWorld os).forCall (fun _ _ => 0) ⟨#[], args0, []⟩).memory Tryd.f5.params.toList Rows.spotStaysSpec.vars false args0.toList 8 =
    some ([.lit (.int .i64 0), .lit (.int .i64 0), .nil], [], places) :=
  ⟨[], by kernel_rfl⟩

set_option maxRecDepth 100000 in
theorem lifted (os : Os) (started : os.Started) (H : Type) (enc : TypeId × Value → H) (F : Stop.Interp) :
    ReturnsInHanded {} Tryd.checked os 5 .any ((Rows.OpenSpec.upto Rows.spotStaysSpec).preRow enc Tryd.prog Tryd.f5 Rows.spotStaysUptoRow.domain false Rows.spotStaysUptoRow.laid) (((Rows.OpenSpec.upto Rows.spotStaysSpec).at F).post enc Tryd.prog Tryd.f5 false true false false) := by
  obtain ⟨places, hx⟩ := reads os enc
  refine returnsInHanded_of_row (C := Tryd.checked) (s := Rows.OpenSpec.upto Rows.spotStaysSpec) own started (by kernel_rfl) Tryd.func5
    (witness_row_at (enc := enc) (C := Tryd.checked) false (laidWorld os) args0 rfl (by kernel_rfl) (by kernel_rfl) (by kernel_rfl)
      (OpenSpec.preRow_of_cond 8 hx (by kernel_rfl) (fun k hk => by cases hk; kernel_rfl) (by kernel_rfl) (laid_met os))) ?_
  intro W base args ds gs before hval hW _ hcond _ hL _ _
  refine law_calls (T := [4, 3, 9, 27]) (by kernel_rfl) laidOut (by kernel_rfl) (rt := 4) rfl (by kernel_rfl) hval _ rfl hW (fun ds hl => ?_) (fun xs hxs hbk => ?_) (glob_of hL)
  · match ds, hl with
    | [_, _, _], _ => rfl
  · replace hbk := Nat.le_trans hbk (of_decide_eq_true (hcond _ rfl))
    match xs, hxs with
    | [_, _, _], ⟨a1, a2, a3, _⟩ =>
      obtain ⟨n, rfl, _⟩ := a1.int (k := .i64) (by kernel_rfl) (by kernel_rfl)
      obtain ⟨c, rfl, _⟩ := a2.int (k := .i64) (by kernel_rfl) (by kernel_rfl)
      obtain ⟨l, rfl⟩ := strs_of a3
      have e2 := bulk_len l
      simp only [V.bulkL, V.bulk] at hbk
      exact (k_Stays (a := n) (n := c) (stages := l) (by omega)).mono fun r σ' h => h

theorem said : Rows.SpotStaysUptoSaid :=
  OpenClaim.holds_of_cond 5 Tryd.f5 rfl rfl rfl rfl rfl rfl rfl ⟨rfl, rfl, rfl, rfl, rfl⟩ rfl rfl rfl rfl rfl (by kernel_rfl) Tryd.func5 (by kernel_rfl)
    (of_decide_eq_true (by kernel_rfl)) (by unfold Func.isWrapper; first | (rw [if_pos (by decide +kernel)]; kernel_rfl) | (rw [if_neg (by decide +kernel)]; exact ⟨rfl, rfl⟩))
    (fun os started H enc _ F => by rw [OpenClaim.pre_eq_preRow]; exact lifted os started H enc F)

theorem plain (f : FuncId) (fn : Func) (hf : Tryd.pinned.checked.prog.funcNamed "bushel/bushellaw03.SpotStays" = some f) (hfn : Tryd.pinned.checked.prog.funcs[f]? = some fn) :
    true = Tryd.pinned.checked.prog.looks [] ∧ ∀ (j : Nat) t, fn.params[j]? = some t → Tryd.pinned.checked.prog.wantsStandIn t = false := by
  obtain rfl : f = 5 := Option.some.inj ((show Tryd.prog.funcNamed "bushel/bushellaw03.SpotStays" = some 5 by kernel_rfl).symm.trans hf) |>.symm
  obtain rfl : fn = Tryd.f5 := (Option.some.inj (Tryd.func5.symm.trans hfn)).symm
  refine ⟨by kernel_rfl, fun j t ht => ?_⟩
  rw [Tryd.params5] at ht
  have hm := Array.mem_of_getElem? ht
  simp only [List.mem_toArray, List.mem_cons, List.not_mem_nil, or_false] at hm
  rcases hm with rfl | rfl | rfl
  · exact (show Tryd.prog.wantsStandIn 3 = false by kernel_rfl)
  · exact (show Tryd.prog.wantsStandIn 3 = false by kernel_rfl)
  · exact (show Tryd.prog.wantsStandIn 27 = false by kernel_rfl)

theorem proved : Rows.SpotStaysUptoCardSaid :=
  Claim7.holds_tied_plain_at .later [] _ _ _ _ said (fun _ h => by cases h) (by kernel_rfl) (fun _ h => by cases h) spotStaysUpto_row_tie rfl ⟨rfl, rfl⟩ (by kernel_rfl) rfl plain (by kernel_rfl)
end spotStays
end Go.Proofs.YtkfkifgfnlaceaaDoor
