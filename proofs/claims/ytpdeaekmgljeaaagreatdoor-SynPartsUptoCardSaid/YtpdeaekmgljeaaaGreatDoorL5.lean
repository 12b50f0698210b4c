/-
  Lexer: the reference's texts. (Own work.)
-/
import Derived.Test.YtpdeaekmgljeaaaGreatDoorL4
set_option linter.unusedVariables false
set_option linter.unusedSimpArgs false
namespace Go.Proofs.YtpdeaekmgljeaaaGreatDoor
open Go Go.Abs

theorem conv1 {sh : Sh} {f : Bool} {c : UInt8} {K : V → Prop} : WConv .ofBytes (.v (.sl sh f [.int .u8 c.toNat])) K = K (.str [c]) := by
  have h := WConv_ofBytes (sh := sh) (f := f) (s := [c]) (K := K)
  rw [show bytesV [c] = [V.int .u8 c.toNat] from rfl] at h
  rw [h]
  apply propext
  constructor
  · rintro ⟨s, hs, hk⟩
    rw [← bytesV_inj (s := [c]) (t := s) hs] at hk
    exact hk
  · exact fun hk => ⟨[c], rfl, hk⟩
theorem conv10 {sh : Sh} {f : Bool} {K : V → Prop} : WConv .ofBytes (.v (.sl sh f [.int .u8 10])) K = K (.str [10]) := conv1 (c := 10)
theorem conv34 {sh : Sh} {f : Bool} {K : V → Prop} : WConv .ofBytes (.v (.sl sh f [.int .u8 34])) K = K (.str [34]) := conv1 (c := 34)
theorem conv92 {sh : Sh} {f : Bool} {K : V → Prop} : WConv .ofBytes (.v (.sl sh f [.int .u8 92])) K = K (.str [92]) := conv1 (c := 92)
def RTextPost (σ : Sg) (t : TR) (r : D) (σ' : Sg) : Prop := (match t with
  | .ok s to => r = .tup [.v (.str s), .v (.int .i64 to), .v (.int .i64 (-1))]
  | .bad q => r = .tup [.v (.str []), .v (.int .i64 q), .v (.int .i64 q)]) ∧ σ' = σ
theorem k_RText {b : Str} {i : Nat} {σ : Sg} (hi : i ≤ b.length) (hb : b.length ≤ 1048576) : ACalls Tryz.prog 173 [.v (vBs b), .v (.int .i64 i)] σ (RTextPost σ (textL (b.drop i) i [])) := by
  refine acalls_fit Tryz.func173 (by kernel_rfl) c173 rfl (by simp [a173]) fun hf => ?_
  clear hf
  simp -implicitDefEqProofs (maxSteps := 2000000) (disch := omega) [-getElem?_pos, a173]
  refine W_loop (α := TSt) ⟨i, []⟩ (fun x => b.length - x.k) (fun x => ⟨[(0, .v (vBs b)), (1, .v (.int .i64 x.k)), (7, .v (.str x.out))], σ⟩)
    (fun x => x.k ≤ b.length ∧ x.out.length ≤ x.k ∧ textL (b.drop i) i [] = textL (b.drop x.k) x.k x.out) (.eq (by simp)) ⟨hi, by simp, rfl⟩ fun ⟨k, out⟩ ⟨hk, hol, he⟩ => ?_
  dsimp only at hk hol he ⊢
  simp -implicitDefEqProofs (maxSteps := 2000000) (disch := omega) [-getElem?_pos]
  refine .mk (fun h => ?_) fun h => ?_
  rotate_left
  · rw [show b.drop k = [] from List.drop_eq_nil_of_le (by omega)] at he
    have he2 : textL (b.drop i) i [] = .bad k := he
    rw [he2]
    simp -implicitDefEqProofs (maxSteps := 2000000) (disch := omega) [-getElem?_pos]
    exact .fin _ ⟨rfl, rfl⟩ (.refl _)
  simp -implicitDefEqProofs (maxSteps := 2000000) (disch := omega) [-getElem?_pos]
  refine ⟨by omega, fun c hc => ?_⟩
  rw [drop_cons hc] at he
  refine .mk (fun h34 => ?_) fun h34 => ?_
  · have he2 : textL (b.drop i) i [] = .ok out (k + 1) := he.trans (textL_q (by omega))
    rw [he2]
    simp -implicitDefEqProofs (maxSteps := 2000000) (disch := omega) [-getElem?_pos]
    exact .fin _ ⟨rfl, rfl⟩ (.refl _)
  have h34' : ¬ c.toNat = 34 := by omega
  have odd : plaB c = false → textL (b.drop i) i [] = .bad k := fun h => he.trans (textL_odd h34' h)
  simp -implicitDefEqProofs (maxSteps := 2000000) (disch := omega) [-getElem?_pos, h34]
  refine .mk (fun h32 => ?_) fun h32 => ?_
  rotate_left
  · rw [odd (by simp [plaB]; omega)]
    simp -implicitDefEqProofs (maxSteps := 2000000) (disch := omega) [-getElem?_pos]
    exact .fin _ ⟨rfl, rfl⟩ (.refl _)
  simp -implicitDefEqProofs (maxSteps := 2000000) (disch := omega) [-getElem?_pos]
  refine .mk (fun h126 => ?_) fun h126 => ?_
  · rw [odd (by simp [plaB]; omega)]
    simp -implicitDefEqProofs (maxSteps := 2000000) (disch := omega) [-getElem?_pos]
    exact .fin _ ⟨rfl, rfl⟩ (.refl _)
  have hpc : plaB c = true := by simp [plaB]; omega
  simp -implicitDefEqProofs (maxSteps := 2000000) (disch := omega) [-getElem?_pos]
  refine .mk (fun h92 => ?_) fun h92 => ?_
  rotate_left
  · rw [textL_plain h34' hpc (by omega)] at he
    simp -implicitDefEqProofs (maxSteps := 2000000) (disch := omega) [-getElem?_pos, conv1]
    exact ⟨by omega, ⟨k + 1, out ++ [c]⟩, ⟨by show k + 1 ≤ b.length; omega, by simp; omega, he⟩, by show b.length - (k + 1) < b.length - k; omega, .eq (by simp)⟩
  have h92' : c.toNat = 92 := by omega
  simp -implicitDefEqProofs (maxSteps := 2000000) (disch := omega) [-getElem?_pos, h92]
  refine .mk (fun hl => ?_) fun hl => ?_
  · rw [show b.drop (k + 1) = [] from List.drop_eq_nil_of_le (by omega), textL_esc0 h92' hpc] at he
    rw [he]
    simp -implicitDefEqProofs (maxSteps := 2000000) (disch := omega) [-getElem?_pos]
    exact .fin _ ⟨by simp, rfl⟩ (.refl _)
  simp -implicitDefEqProofs (maxSteps := 2000000) (disch := omega) [-getElem?_pos]
  have e12 : (k : Int) + 1 + 1 = (k : Int) + 2 := by omega
  refine ⟨by omega, by omega, fun d hd => ?_⟩
  rw [drop_cons hd] at he
  refine .mk (fun h110 => ?_) fun h110 => ?_
  · rw [textL_escn h92' hpc (by omega)] at he
    simp -implicitDefEqProofs (maxSteps := 2000000) (disch := omega) [-getElem?_pos, h110, conv10]
    exact ⟨by omega, ⟨k + 2, out ++ [10]⟩, ⟨by show k + 2 ≤ b.length; omega, by simp; omega, he⟩, by show b.length - (k + 2) < b.length - k; omega, .eq (by simp [e12])⟩
  have h110' : ¬ d.toNat = 110 := by omega
  simp -implicitDefEqProofs (maxSteps := 2000000) (disch := omega) [-getElem?_pos, h110]
  refine .mk (fun h34d => ?_) fun h34d => ?_
  · rw [textL_escd h92' hpc h110' (.inl (by omega))] at he
    obtain rfl : d = 34 := UInt8.toNat_inj.1 (show d.toNat = 34 by omega)
    simp -implicitDefEqProofs (maxSteps := 2000000) (disch := omega) [-getElem?_pos, h110, h34d, conv34]
    exact ⟨by omega, ⟨k + 2, out ++ [34]⟩, ⟨by show k + 2 ≤ b.length; omega, by simp; omega, he⟩, by show b.length - (k + 2) < b.length - k; omega, .eq (by simp [e12])⟩
  simp -implicitDefEqProofs (maxSteps := 2000000) (disch := omega) [-getElem?_pos, h110, h34d]
  refine .mk (fun h92d => ?_) fun h92d => ?_
  · rw [textL_escd h92' hpc h110' (.inr (by omega))] at he
    obtain rfl : d = 92 := UInt8.toNat_inj.1 (show d.toNat = 92 by omega)
    simp -implicitDefEqProofs (maxSteps := 2000000) (disch := omega) [-getElem?_pos, h110, h92d, conv92]
    exact ⟨by omega, ⟨k + 2, out ++ [92]⟩, ⟨by show k + 2 ≤ b.length; omega, by simp; omega, he⟩, by show b.length - (k + 2) < b.length - k; omega, .eq (by simp [e12])⟩
  rw [textL_esco h92' hpc h110' (by omega) (by omega)] at he
  rw [he]
  simp -implicitDefEqProofs (maxSteps := 2000000) (disch := omega) [-getElem?_pos, h110, h34d, h92d]
  exact .fin _ ⟨by simp, rfl⟩ (.refl _)
end Go.Proofs.YtpdeaekmgljeaaaGreatDoor
