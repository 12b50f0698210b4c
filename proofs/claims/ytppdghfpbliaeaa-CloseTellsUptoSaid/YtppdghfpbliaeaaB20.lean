/-
  Closed functions: whether an expression has its parts; the document's example. (Own work.)
-/
import Derived.Test.YtppdghfpbliaeaaB19
import Derived.Test.YtppdghfpbliaeaaF4
set_option linter.unusedVariables false
set_option linter.unusedSimpArgs false
namespace Go.Proofs.Ytppdghfpbliaeaa
open Go Go.Abs

def PartsR (k : Int) (r : D) : Prop := ∃ p : Int, r = .v (.int .i64 p) ∧ (k = 4 → p = 1) ∧ (k = 7 → p = 2)
theorem k_Parts {k n : Int} {s t : Str} {ns : List Str} {l : List Co} {σ : Sg} (hn : ns.length ≤ 1048576) : ACalls Try.prog 39 [.v (encC (.mk k n s t ns l))] σ fun r σ' => PartsR k r ∧ σ' = σ := by
  rw [encC_mk]
  refine acalls_fit Try.func39 (by kernel_rfl) c39 rfl (by simp [a39]) fun hf => ?_
  clear hf
  by_cases h4 : k = 4
  · subst h4
    simp -implicitDefEqProofs (maxSteps := 2000000) (disch := omega) [-getElem?_pos, a39]
    exact .fin _ ⟨⟨1, rfl, by omega, by omega⟩, rfl⟩ (.refl _)
  by_cases h7 : k = 7
  · subst h7
    simp -implicitDefEqProofs (maxSteps := 2000000) (disch := omega) [-getElem?_pos, a39]
    exact .fin _ ⟨⟨2, rfl, by omega, by omega⟩, rfl⟩ (.refl _)
  simp -implicitDefEqProofs (maxSteps := 2000000) (disch := omega) [-getElem?_pos, a39, h4, h7]
  repeat' (first
    | (refine And.intro (by omega) ?_)
    | (refine Br.mk (fun hb => ?_) (fun hb => ?_) <;> simp -implicitDefEqProofs (maxSteps := 2000000) (disch := omega) [-getElem?_pos, h4, h7, hb]))
  all_goals exact .fin _ ⟨⟨_, rfl, by omega, by omega⟩, rfl⟩ (.refl _)

def ArithR (r : D) : Prop := ∃ x y : Int, ∃ b : Bool, r = .tup [.v (.int .i64 x), .v (.int .i64 y), .v (.bool b)]
theorem k_Arith {s : Str} {σ : Sg} : ACalls Try.prog 40 [.v (.str s), .v (.int .i64 1), .v (.int .i64 1)] σ fun r σ' => ArithR r ∧ σ' = σ := by
  refine acalls_fit Try.func40 (by kernel_rfl) c40 rfl (by simp [a40]) fun hf => ?_
  clear hf
  simp -implicitDefEqProofs (maxSteps := 2000000) (disch := omega) [-getElem?_pos, a40]
  repeat' (first
    | (refine And.intro (by omega) ?_)
    | (refine Br.mk (fun hb => ?_) (fun hb => ?_) <;> simp -implicitDefEqProofs (maxSteps := 2000000) (disch := omega) [-getElem?_pos, hb]))
  all_goals exact .fin _ ⟨⟨_, _, _, rfl⟩, rfl⟩ (.refl _)
def WholeR (e : Co) (r : D) : Prop := ∃ b : Bool, r = .v (.bool b) ∧ (b = true → Wh e)
theorem k_Whole (e : Co) : ∀ {σ : Sg}, csz e ≤ 1048576 → ACalls Try.prog 14 [.v (encC e)] σ fun r σ' => WholeR e r ∧ σ' = σ := by
  refine Co.ind (P := fun e => ∀ {σ : Sg}, csz e ≤ 1048576 → ACalls Try.prog 14 [.v (encC e)] σ fun r σ' => WholeR e r ∧ σ' = σ) (fun k n s t ns l ih => ?_) e
  intro σ he
  have hnl := nsz_len ns
  have hll := cszL_len l
  have he' := he
  simp only [csz] at he'
  have hp := fun σ => k_Parts (k := k) (n := n) (s := s) (t := t) (ns := ns) (l := l) (σ := σ) (by omega)
  rw [encC_mk] at hp ⊢
  refine acalls_fit Try.func14 (by kernel_rfl) c14 rfl (by simp [a14]) fun hf => ?_
  clear hf
  simp -implicitDefEqProofs (maxSteps := 2000000) (disch := omega) [-getElem?_pos, a14]
  refine (hp _).then fun r hr => ?_
  obtain ⟨p, rfl, hp4, hp7⟩ := hr
  by_cases hpl : p = l.length
  rotate_left
  · simp -implicitDefEqProofs (maxSteps := 2000000) (disch := omega) [-getElem?_pos, hpl]
    exact .fin _ ⟨⟨false, rfl, by simp⟩, rfl⟩ (.refl _)
  have w4 : k = 4 → l.length = 1 := by omega
  have w7 : k = 7 → l.length = 2 := by omega
  have hW := fun hl => Wh.mk k n s t ns l w4 w7 hl
  subst hpl
  by_cases h7 : k = 7
  · subst h7
    by_cases hs : s = []
    · subst hs
      simp -implicitDefEqProofs (maxSteps := 2000000) (disch := omega) [-getElem?_pos]
      exact .fin _ ⟨⟨false, rfl, by simp⟩, rfl⟩ (.refl _)
    simp -implicitDefEqProofs (maxSteps := 2000000) (disch := omega) [-getElem?_pos, hs]
    refine W_loop (α := Nat) 0 (fun i => l.length - i) (fun i => ⟨[(1, .ptr σ.objs.length 0), (6, .v (.int .i64 i))], ⟨σ.objs ++ [.cells [.v (.int .i64 7), .v (.int .i64 n), .v (.str s), .v (.str t), .v (.sl none false (ns.map .str)), .v (.sl (some 6) false (l.map encC))]], σ.toks⟩⟩)
      (fun i => i ≤ l.length ∧ ∀ x ∈ l.take i, Wh x) (.eq (by simp)) ⟨by simp, by simp⟩ fun i ⟨hi, hm⟩ => ?_
    simp -implicitDefEqProofs (maxSteps := 2000000) (disch := omega) [-getElem?_pos]
    refine .mk (fun h => ?_) fun h => ?_
    · simp -implicitDefEqProofs (maxSteps := 2000000) (disch := omega) [-getElem?_pos]
      refine ⟨by omega, ?_⟩
      intro x hx
      have hmx := List.mem_of_getElem? hx
      have hcx := cszL_mem hmx
      refine (ih x hmx (by omega)).then fun r hr => ?_
      obtain ⟨b, rfl, hwx⟩ := hr
      cases b with
      | false =>
        simp -implicitDefEqProofs (maxSteps := 2000000) (disch := omega) [-getElem?_pos]
        exact .fin _ ⟨⟨false, rfl, by simp⟩, rfl⟩ (.refl _)
      | true =>
        simp -implicitDefEqProofs (maxSteps := 2000000) (disch := omega) [-getElem?_pos]
        refine ⟨i + 1, ⟨by omega, fun y hy => ?_⟩, by show l.length - (i + 1) < l.length - i; omega, .eq (by simp)⟩
        rw [List.take_add_one, hx] at hy
        simp only [Option.toList, List.mem_append, List.mem_singleton] at hy
        rcases hy with hy | rfl
        · exact hm y hy
        · exact hwx rfl
    · simp -implicitDefEqProofs (maxSteps := 2000000) (disch := omega) [-getElem?_pos]
      rw [List.take_of_length_le (by omega)] at hm
      exact .fin _ ⟨⟨true, rfl, fun _ => hW hm⟩, rfl⟩ (.refl _)

  by_cases h2 : k = 2
  · subst h2
    simp -implicitDefEqProofs (maxSteps := 2000000) (disch := omega) [-getElem?_pos]
    refine .mk (fun hs => ?_) fun hs => ?_
    · simp -implicitDefEqProofs (maxSteps := 2000000) (disch := omega) [-getElem?_pos]
      exact .fin _ ⟨⟨false, rfl, by simp⟩, rfl⟩ (.refl _)
    simp -implicitDefEqProofs (maxSteps := 2000000) (disch := omega) [-getElem?_pos]
    refine W_loop (α := Nat) 0 (fun i => l.length - i) (fun i => ⟨[(1, .ptr σ.objs.length 0), (6, .v (.int .i64 i))], ⟨σ.objs ++ [.cells [.v (.int .i64 2), .v (.int .i64 n), .v (.str s), .v (.str t), .v (.sl none false (ns.map .str)), .v (.sl (some 6) false (l.map encC))]], σ.toks⟩⟩)
      (fun i => i ≤ l.length ∧ ∀ x ∈ l.take i, Wh x) (.eq (by simp)) ⟨by simp, by simp⟩ fun i ⟨hi, hm⟩ => ?_
    simp -implicitDefEqProofs (maxSteps := 2000000) (disch := omega) [-getElem?_pos]
    refine .mk (fun h => ?_) fun h => ?_
    · simp -implicitDefEqProofs (maxSteps := 2000000) (disch := omega) [-getElem?_pos]
      refine ⟨by omega, ?_⟩
      intro x hx
      have hmx := List.mem_of_getElem? hx
      have hcx := cszL_mem hmx
      refine (ih x hmx (by omega)).then fun r hr => ?_
      obtain ⟨b, rfl, hwx⟩ := hr
      cases b with
      | false =>
        simp -implicitDefEqProofs (maxSteps := 2000000) (disch := omega) [-getElem?_pos]
        exact .fin _ ⟨⟨false, rfl, by simp⟩, rfl⟩ (.refl _)
      | true =>
        simp -implicitDefEqProofs (maxSteps := 2000000) (disch := omega) [-getElem?_pos]
        refine ⟨i + 1, ⟨by omega, fun y hy => ?_⟩, by show l.length - (i + 1) < l.length - i; omega, .eq (by simp)⟩
        rw [List.take_add_one, hx] at hy
        simp only [Option.toList, List.mem_append, List.mem_singleton] at hy
        rcases hy with hy | rfl
        · exact hm y hy
        · exact hwx rfl
    · simp -implicitDefEqProofs (maxSteps := 2000000) (disch := omega) [-getElem?_pos]
      rw [List.take_of_length_le (by omega)] at hm
      exact .fin _ ⟨⟨true, rfl, fun _ => hW hm⟩, rfl⟩ (.refl _)

  by_cases h16 : k = 16
  · subst h16
    by_cases hs : s = [94]
    · subst hs
      simp -implicitDefEqProofs (maxSteps := 2000000) (disch := omega) [-getElem?_pos]
      refine W_loop (α := Nat) 0 (fun i => l.length - i) (fun i => ⟨[(1, .ptr σ.objs.length 0), (6, .v (.int .i64 i))], ⟨σ.objs ++ [.cells [.v (.int .i64 16), .v (.int .i64 n), .v (.str [94]), .v (.str t), .v (.sl none false (ns.map .str)), .v (.sl (some 6) false (l.map encC))]], σ.toks⟩⟩)
        (fun i => i ≤ l.length ∧ ∀ x ∈ l.take i, Wh x) (.eq (by simp)) ⟨by simp, by simp⟩ fun i ⟨hi, hm⟩ => ?_
      simp -implicitDefEqProofs (maxSteps := 2000000) (disch := omega) [-getElem?_pos]
      refine .mk (fun h => ?_) fun h => ?_
      · simp -implicitDefEqProofs (maxSteps := 2000000) (disch := omega) [-getElem?_pos]
        refine ⟨by omega, ?_⟩
        intro x hx
        have hmx := List.mem_of_getElem? hx
        have hcx := cszL_mem hmx
        refine (ih x hmx (by omega)).then fun r hr => ?_
        obtain ⟨b, rfl, hwx⟩ := hr
        cases b with
        | false =>
          simp -implicitDefEqProofs (maxSteps := 2000000) (disch := omega) [-getElem?_pos]
          exact .fin _ ⟨⟨false, rfl, by simp⟩, rfl⟩ (.refl _)
        | true =>
          simp -implicitDefEqProofs (maxSteps := 2000000) (disch := omega) [-getElem?_pos]
          refine ⟨i + 1, ⟨by omega, fun y hy => ?_⟩, by show l.length - (i + 1) < l.length - i; omega, .eq (by simp)⟩
          rw [List.take_add_one, hx] at hy
          simp only [Option.toList, List.mem_append, List.mem_singleton] at hy
          rcases hy with hy | rfl
          · exact hm y hy
          · exact hwx rfl
      · simp -implicitDefEqProofs (maxSteps := 2000000) (disch := omega) [-getElem?_pos]
        rw [List.take_of_length_le (by omega)] at hm
        exact .fin _ ⟨⟨true, rfl, fun _ => hW hm⟩, rfl⟩ (.refl _)

    by_cases hs2 : s = [35]
    · subst hs2
      simp -implicitDefEqProofs (maxSteps := 2000000) (disch := omega) [-getElem?_pos]
      refine W_loop (α := Nat) 0 (fun i => l.length - i) (fun i => ⟨[(1, .ptr σ.objs.length 0), (6, .v (.int .i64 i))], ⟨σ.objs ++ [.cells [.v (.int .i64 16), .v (.int .i64 n), .v (.str [35]), .v (.str t), .v (.sl none false (ns.map .str)), .v (.sl (some 6) false (l.map encC))]], σ.toks⟩⟩)
        (fun i => i ≤ l.length ∧ ∀ x ∈ l.take i, Wh x) (.eq (by simp)) ⟨by simp, by simp⟩ fun i ⟨hi, hm⟩ => ?_
      simp -implicitDefEqProofs (maxSteps := 2000000) (disch := omega) [-getElem?_pos]
      refine .mk (fun h => ?_) fun h => ?_
      · simp -implicitDefEqProofs (maxSteps := 2000000) (disch := omega) [-getElem?_pos]
        refine ⟨by omega, ?_⟩
        intro x hx
        have hmx := List.mem_of_getElem? hx
        have hcx := cszL_mem hmx
        refine (ih x hmx (by omega)).then fun r hr => ?_
        obtain ⟨b, rfl, hwx⟩ := hr
        cases b with
        | false =>
          simp -implicitDefEqProofs (maxSteps := 2000000) (disch := omega) [-getElem?_pos]
          exact .fin _ ⟨⟨false, rfl, by simp⟩, rfl⟩ (.refl _)
        | true =>
          simp -implicitDefEqProofs (maxSteps := 2000000) (disch := omega) [-getElem?_pos]
          refine ⟨i + 1, ⟨by omega, fun y hy => ?_⟩, by show l.length - (i + 1) < l.length - i; omega, .eq (by simp)⟩
          rw [List.take_add_one, hx] at hy
          simp only [Option.toList, List.mem_append, List.mem_singleton] at hy
          rcases hy with hy | rfl
          · exact hm y hy
          · exact hwx rfl
      · simp -implicitDefEqProofs (maxSteps := 2000000) (disch := omega) [-getElem?_pos]
        rw [List.take_of_length_le (by omega)] at hm
        exact .fin _ ⟨⟨true, rfl, fun _ => hW hm⟩, rfl⟩ (.refl _)

    simp -implicitDefEqProofs (maxSteps := 2000000) (disch := omega) [-getElem?_pos, hs, hs2]
    refine k_Arith.then fun r hr => ?_
    obtain ⟨x1, x2, b, rfl⟩ := hr
    cases b with
    | false =>
      simp -implicitDefEqProofs (maxSteps := 2000000) (disch := omega) [-getElem?_pos]
      exact .fin _ ⟨⟨false, rfl, by simp⟩, rfl⟩ (.refl _)
    | true =>
    simp -implicitDefEqProofs (maxSteps := 2000000) (disch := omega) [-getElem?_pos]
    refine W_loop (α := Nat) 0 (fun i => l.length - i) (fun i => ⟨[(1, .ptr σ.objs.length 0), (6, .v (.int .i64 i))], ⟨σ.objs ++ [.cells [.v (.int .i64 16), .v (.int .i64 n), .v (.str s), .v (.str t), .v (.sl none false (ns.map .str)), .v (.sl (some 6) false (l.map encC))]], σ.toks⟩⟩)
      (fun i => i ≤ l.length ∧ ∀ x ∈ l.take i, Wh x) (.eq (by simp)) ⟨by simp, by simp⟩ fun i ⟨hi, hm⟩ => ?_
    simp -implicitDefEqProofs (maxSteps := 2000000) (disch := omega) [-getElem?_pos]
    refine .mk (fun h => ?_) fun h => ?_
    · simp -implicitDefEqProofs (maxSteps := 2000000) (disch := omega) [-getElem?_pos]
      refine ⟨by omega, ?_⟩
      intro x hx
      have hmx := List.mem_of_getElem? hx
      have hcx := cszL_mem hmx
      refine (ih x hmx (by omega)).then fun r hr => ?_
      obtain ⟨b, rfl, hwx⟩ := hr
      cases b with
      | false =>
        simp -implicitDefEqProofs (maxSteps := 2000000) (disch := omega) [-getElem?_pos]
        exact .fin _ ⟨⟨false, rfl, by simp⟩, rfl⟩ (.refl _)
      | true =>
        simp -implicitDefEqProofs (maxSteps := 2000000) (disch := omega) [-getElem?_pos]
        refine ⟨i + 1, ⟨by omega, fun y hy => ?_⟩, by show l.length - (i + 1) < l.length - i; omega, .eq (by simp)⟩
        rw [List.take_add_one, hx] at hy
        simp only [Option.toList, List.mem_append, List.mem_singleton] at hy
        rcases hy with hy | rfl
        · exact hm y hy
        · exact hwx rfl
    · simp -implicitDefEqProofs (maxSteps := 2000000) (disch := omega) [-getElem?_pos]
      rw [List.take_of_length_le (by omega)] at hm
      exact .fin _ ⟨⟨true, rfl, fun _ => hW hm⟩, rfl⟩ (.refl _)

  simp -implicitDefEqProofs (maxSteps := 2000000) (disch := omega) [-getElem?_pos, h7, h2, h16]
  refine W_loop (α := Nat) 0 (fun i => l.length - i) (fun i => ⟨[(1, .ptr σ.objs.length 0), (6, .v (.int .i64 i))], ⟨σ.objs ++ [.cells [.v (.int .i64 k), .v (.int .i64 n), .v (.str s), .v (.str t), .v (.sl none false (ns.map .str)), .v (.sl (some 6) false (l.map encC))]], σ.toks⟩⟩)
    (fun i => i ≤ l.length ∧ ∀ x ∈ l.take i, Wh x) (.eq (by simp)) ⟨by simp, by simp⟩ fun i ⟨hi, hm⟩ => ?_
  simp -implicitDefEqProofs (maxSteps := 2000000) (disch := omega) [-getElem?_pos]
  refine .mk (fun h => ?_) fun h => ?_
  · simp -implicitDefEqProofs (maxSteps := 2000000) (disch := omega) [-getElem?_pos]
    refine ⟨by omega, ?_⟩
    intro x hx
    have hmx := List.mem_of_getElem? hx
    have hcx := cszL_mem hmx
    refine (ih x hmx (by omega)).then fun r hr => ?_
    obtain ⟨b, rfl, hwx⟩ := hr
    cases b with
    | false =>
      simp -implicitDefEqProofs (maxSteps := 2000000) (disch := omega) [-getElem?_pos]
      exact .fin _ ⟨⟨false, rfl, by simp⟩, rfl⟩ (.refl _)
    | true =>
      simp -implicitDefEqProofs (maxSteps := 2000000) (disch := omega) [-getElem?_pos]
      refine ⟨i + 1, ⟨by omega, fun y hy => ?_⟩, by show l.length - (i + 1) < l.length - i; omega, .eq (by simp)⟩
      rw [List.take_add_one, hx] at hy
      simp only [Option.toList, List.mem_append, List.mem_singleton] at hy
      rcases hy with hy | rfl
      · exact hm y hy
      · exact hwx rfl
  · simp -implicitDefEqProofs (maxSteps := 2000000) (disch := omega) [-getElem?_pos]
    rw [List.take_of_length_le (by omega)] at hm
    exact .fin _ ⟨⟨true, rfl, fun _ => hW hm⟩, rfl⟩ (.refl _)

end Go.Proofs.Ytppdghfpbliaeaa
