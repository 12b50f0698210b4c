/-
  Numbers as text; the name of what is told; an offset as a core expression. (Own work.)
-/
import Derived.Test.YtppdghfpbliaeaaDoorE12
import Derived.Test.YtppdghfpbliaeaaDoorShelf
import Derived.Lib.ItoaLen
set_option linter.unusedVariables false
set_option linter.unusedSimpArgs false
namespace Go.Proofs.YtppdghfpbliaeaaDoor
open Go Go.Abs

theorem grown_inv {σ : Sg} {m : Gh} {w : World} (h : Go.Abs.Inv σ m w) (k : Nat) (os : Array Obj) : Go.Abs.Inv σ m (Go.Sort.grow (w.drewN k) os) ∧ Ext m w m (Go.Sort.grow (w.drewN k) os) := by
  have hb : ∀ c, c < w.heap.size → (Go.Sort.grow (w.drewN k) os).heap[c]? = w.heap[c]? := fun c hc => Array.getElem?_append_left hc
  have e : Ext m w m (Go.Sort.grow (w.drewN k) os) :=
    ⟨rfl, rfl, rfl, by show w.heap.size ≤ (w.heap ++ os).size; simp, fun _ _ h => .inl h, fun _ tk h => ⟨tk, h, rfl, Nat.le_refl _, fun _ => rfl⟩, fun c off f => ⟨cell?_of_heap (hb c f.1), f.2⟩, fun c hc hn => ⟨hb c hc, hn⟩⟩
  refine ⟨⟨h.lobj, h.ltok, h.nodup, fun o ob c ho hc => (h.ob o ob c ho hc).mono e (hb c (h.lt_obj (Gh.mem_objb.2 (List.mem_of_getElem? hc)))), h.gone, fun tk htk => ?_, h.glob.mono e⟩, e⟩
  obtain ⟨h1, h2, h3, h4⟩ := h.tk tk htk
  refine ⟨h1, h2, h3, fun c hc => ?_⟩
  obtain ⟨us, ty, h5, h6⟩ := h4 c hc
  exact ⟨us, ty, (hb c (Array.getElem?_eq_some_iff.1 h5).1).trans h5, h6⟩
theorem tab_is {σ : Sg} {m : Gh} {w : World} (h : Inv σ m w) : Lib.TabIs Tryd.prog w "internal/strconv.uint64pow10" .u64 Lib.pow10Tab := by
  obtain ⟨⟨ty, fr, hh⟩, _⟩ := h.glob _ (List.mem_cons_self)
  unfold Lib.TabIs World.var?
  rw [show Tryd.prog.globalNamed "internal/strconv.uint64pow10" = some 2 by kernel_rfl]
  simp only [Option.bind_some]
  rw [hh]
  rfl
theorem k_Itoa {n : Int} {σ : Sg} : ACalls Tryd.prog 17 [.v (.int .i64 n)] σ fun r σ' => (r = .v (.str (Lib.itoa n)) ∧ (Lib.itoa n).length ≤ 21) ∧ σ' = σ := by
  refine ⟨⟨_, Tryd.func17, by kernel_rfl, by kernel_rfl⟩, fun m w us hI hl hr => ?_⟩
  match us, hl with
  | [u], _ =>
    have h0 := hr 0 _ _ rfl rfl
    cases h0 with
    | v _ _ hv =>
      cases hv with
      | int _ _ hn =>
        have hn1 : -9223372036854775808 ≤ n := hn.1
        have hn2 : n ≤ 9223372036854775807 := hn.2
        refine (Go.Proofs.Any.strconv_Itoa itoaLays n hn1 hn2 w (tab_is hI)).mono fun e w' ⟨he, k, os, hw⟩ => ?_
        subst hw
        obtain ⟨hI', hX⟩ := grown_inv hI k os
        have hlen := Lib.itoa_length_le n hn1 hn2
        exact ⟨_, _, σ, m, he, ⟨⟨rfl, hlen⟩, rfl⟩, hI', hX, .v _ _ (.str _ (by unfold maxLen; omega))⟩
def nameOf (row : Int) (label : Str) : Str := [36] ++ Lib.itoa row ++ [46] ++ label
theorem k_Name {row : Int} {label : Str} {σ : Sg} (hl : label.length ≤ 1000) : ACalls Tryd.prog 18 [.v (.agg [.int .i64 row, .str label])] σ fun r σ' => r = .v (.str (nameOf row label)) ∧ σ' = σ := by
  refine acalls_fit Tryd.func18 (by kernel_rfl) c18 rfl (by simp [a18]) fun hf => ?_
  clear hf
  simp -implicitDefEqProofs (maxSteps := 2000000) (disch := omega) [-getElem?_pos, a18]
  refine k_Itoa.then fun r hr => ?_
  obtain ⟨rfl, hln⟩ := hr
  simp -implicitDefEqProofs (maxSteps := 2000000) (disch := omega) [-getElem?_pos]
  refine ⟨by omega, by omega, by omega, .finS _ σ ⟨rfl, rfl⟩ (by simp [nameOf]) (fun ob h => .inl h) (by simp) (by simp) (by simp) (by simp) (by simp)⟩
def coV (k n : Int) (s : Str) (l : V) : V := .agg [.int .i64 k, .int .i64 n, .str s, .str [], .snil, l]
def termV (N row : Int) (label : Str) : V :=
  if row < 0 then coV 1 N [] .snil
  else if N = 0 then coV 3 0 (nameOf row label) .snil
  else coV 16 0 [43] (.sl (some 6) true [coV 3 0 (nameOf row label) .snil, coV 1 N [] .snil])
theorem k_Term {N row : Int} {label : Str} {σ : Sg} (hl : label.length ≤ 1000) : ACalls Tryd.prog 19 [.v (.agg [.int .i64 N, .int .i64 row, .str label])] σ fun r σ' => r = .v (termV N row label) ∧ σ' = σ := by
  refine acalls_fit Tryd.func19 (by kernel_rfl) c19 rfl (by simp [a19]) fun hf => ?_
  clear hf
  by_cases hr : row < 0
  · simp -implicitDefEqProofs (maxSteps := 2000000) (disch := omega) [-getElem?_pos, a19, hr]
    exact .finS _ σ ⟨rfl, rfl⟩ (by simp [termV, hr, coV]) (fun ob h => .inl h) (by simp) (by simp) (by simp) (by simp) (by simp)
  · simp -implicitDefEqProofs (maxSteps := 2000000) (disch := omega) [-getElem?_pos, a19, hr]
    refine (k_Name hl).then fun r hr => ?_
    subst hr
    simp -implicitDefEqProofs (maxSteps := 2000000) (disch := omega) [-getElem?_pos]
    refine .mk (fun h0 => ?_) fun h0 => ?_
    · simp -implicitDefEqProofs (maxSteps := 2000000) (disch := omega) [-getElem?_pos, h0]
      exact .finS _ σ ⟨rfl, rfl⟩ (by simp [termV, hr, coV, h0]) (fun ob h => .inl h) (by simp) (by simp) (by simp) (by simp) (by simp)
    · simp -implicitDefEqProofs (maxSteps := 2000000) (disch := omega) [-getElem?_pos, h0]
      exact .finS _ σ ⟨rfl, rfl⟩ (by simp [termV, hr, coV, h0]) (fun ob h => .inl h) (by simp) (by simp) (by simp) (by simp) (by simp)
end Go.Proofs.YtppdghfpbliaeaaDoor
