/-
  Types: whether two are one. (Own work.)
-/
import Derived.Test.YtkpnhcccocaakaaDoorT7
set_option linter.unusedVariables false
set_option linter.unusedSimpArgs false
namespace Go.Proofs.YtkpnhcccocaakaaDoor
open Go Go.Abs

theorem k_Texts5 {a b : List Str} {σ : Sg} : ACalls Tryd.prog 47 [.v (vS a), .v (vS b)] σ fun r σ' => r = .v (.bool (decide (a = b))) ∧ σ' = σ := by
  refine acalls_fit Tryd.func47 (by kernel_rfl) c47 rfl (by simp [a47]) fun hf => ?_
  simp at hf
  simp -implicitDefEqProofs (maxSteps := 2000000) (disch := omega) [-getElem?_pos, a47]
  refine .mk (fun hl => ?_) fun hl => ?_
  rotate_left
  · simp -implicitDefEqProofs (maxSteps := 2000000) (disch := omega) [-getElem?_pos]
    exact .fin _ ⟨by simp; intro h; exact hl (by rw [h]), rfl⟩ (.refl _)
  simp -implicitDefEqProofs (maxSteps := 2000000) (disch := omega) [-getElem?_pos]
  refine W_loop (α := Nat) 0 (fun i => a.length - i) (fun i => ⟨[(0, .v (vS a)), (1, .v (vS b)), (5, .v (.int .i64 i))], σ⟩) (fun i => i ≤ a.length ∧ (a = b ↔ a.drop i = b.drop i))
    (.eq (by simp)) ⟨by omega, by simp⟩ fun i ⟨hi, he⟩ => ?_
  simp -implicitDefEqProofs (maxSteps := 2000000) (disch := omega) [-getElem?_pos]
  refine .mk (fun h => ?_) fun h => ?_
  · simp -implicitDefEqProofs (maxSteps := 2000000) (disch := omega) [-getElem?_pos]
    refine ⟨by omega, fun x hx => ?_⟩
    refine ⟨by omega, fun y hy => ?_⟩
    rw [drop_cons hx, drop_cons hy] at he
    refine .mk (fun hq => ?_) fun hq => ?_
    · subst hq
      simp -implicitDefEqProofs (maxSteps := 2000000) (disch := omega) [-getElem?_pos]
      refine ⟨i + 1, ⟨by omega, ?_⟩, by dsimp only; omega, .eq (by simp)⟩
      simpa using he
    · simp -implicitDefEqProofs (maxSteps := 2000000) (disch := omega) [-getElem?_pos]
      refine .fin _ ⟨?_, rfl⟩ (.refl _)
      rw [decide_eq_false (fun h' => hq (List.cons.inj (he.1 h')).1)]
  · simp -implicitDefEqProofs (maxSteps := 2000000) (disch := omega) [-getElem?_pos]
    refine .fin _ ⟨?_, rfl⟩ (.refl _)
    rw [List.drop_eq_nil_of_le (by omega), List.drop_eq_nil_of_le (by omega)] at he
    rw [decide_eq_true (he.2 rfl)]

theorem k_Texts {a b : List Str} {σ : Sg} : ACalls Tryd.prog 31 [.v (vS a), .v (vS b)] σ fun r σ' => r = .v (.bool (decide (a = b))) ∧ σ' = σ := by
  refine acalls_fit Tryd.func31 (by kernel_rfl) c31 rfl (by simp [a31]) fun hf => ?_
  clear hf
  simp -implicitDefEqProofs (maxSteps := 2000000) (disch := omega) [-getElem?_pos, a31]
  refine k_Texts5.then fun r hr => ?_
  subst hr
  simp -implicitDefEqProofs (maxSteps := 2000000) (disch := omega) [-getElem?_pos]
  exact .fin _ ⟨rfl, rfl⟩ (.refl _)
theorem k_SameI {a b : List Int} {σ : Sg} : ACalls Tryd.prog 16 [.v (vI a), .v (vI b)] σ fun r σ' => r = .v (.bool (decide (a = b))) ∧ σ' = σ := by
  refine acalls_fit Tryd.func16 (by kernel_rfl) c16 rfl (by simp [a16]) fun hf => ?_
  simp at hf
  simp -implicitDefEqProofs (maxSteps := 2000000) (disch := omega) [-getElem?_pos, a16]
  refine .mk (fun hl => ?_) fun hl => ?_
  rotate_left
  · simp -implicitDefEqProofs (maxSteps := 2000000) (disch := omega) [-getElem?_pos]
    exact .fin _ ⟨by simp; intro h; exact hl (by rw [h]), rfl⟩ (.refl _)
  simp -implicitDefEqProofs (maxSteps := 2000000) (disch := omega) [-getElem?_pos]
  refine W_loop (α := Nat) 0 (fun i => a.length - i) (fun i => ⟨[(0, .v (vI a)), (1, .v (vI b)), (5, .v (.int .i64 i))], σ⟩) (fun i => i ≤ a.length ∧ (a = b ↔ a.drop i = b.drop i))
    (.eq (by simp)) ⟨by omega, by simp⟩ fun i ⟨hi, he⟩ => ?_
  simp -implicitDefEqProofs (maxSteps := 2000000) (disch := omega) [-getElem?_pos]
  refine .mk (fun h => ?_) fun h => ?_
  · simp -implicitDefEqProofs (maxSteps := 2000000) (disch := omega) [-getElem?_pos]
    refine ⟨by omega, fun x hx => ?_⟩
    refine ⟨by omega, fun y hy => ?_⟩
    rw [drop_cons hx, drop_cons hy] at he
    refine .mk (fun hq => ?_) fun hq => ?_
    · subst hq
      simp -implicitDefEqProofs (maxSteps := 2000000) (disch := omega) [-getElem?_pos]
      refine ⟨i + 1, ⟨by omega, ?_⟩, by dsimp only; omega, .eq (by simp)⟩
      simpa using he
    · simp -implicitDefEqProofs (maxSteps := 2000000) (disch := omega) [-getElem?_pos]
      refine .fin _ ⟨?_, rfl⟩ (.refl _)
      rw [decide_eq_false (fun h' => hq (List.cons.inj (he.1 h')).1)]
  · simp -implicitDefEqProofs (maxSteps := 2000000) (disch := omega) [-getElem?_pos]
    refine .fin _ ⟨?_, rfl⟩ (.refl _)
    rw [List.drop_eq_nil_of_le (by omega), List.drop_eq_nil_of_le (by omega)] at he
    rw [decide_eq_true (he.2 rfl)]
noncomputable instance : DecidableEq Tp := fun _ _ => Classical.propDecidable _
theorem k_EqualStr {xs ys : List (List UInt8)} {σ : Sg} : ACalls Tryd.prog 29 [.v (.sl none false (xs.map .str)), .v (.sl none false (ys.map .str))] σ fun r σ' => r = .v (.bool (decide (xs = ys))) ∧ σ' = σ := by
  refine acalls_fit Tryd.func29 (by kernel_rfl) c29 rfl (by simp [a29]) fun hf => ?_
  simp at hf
  simp -implicitDefEqProofs (maxSteps := 2000000) (disch := omega) [-getElem?_pos, a29]
  refine .mk (fun hl => ?_) fun hl => ?_
  rotate_left
  · simp -implicitDefEqProofs (maxSteps := 2000000) (disch := omega) [-getElem?_pos]
    exact .fin _ ⟨by simp; intro h; exact hl (by rw [h]), rfl⟩ (.refl _)
  simp -implicitDefEqProofs (maxSteps := 2000000) (disch := omega) [-getElem?_pos]
  refine W_loop (α := Nat) 0 (fun i => xs.length - i) (fun i => ⟨[(0, .v (.sl none false (xs.map .str))), (1, .v (.sl none false (ys.map .str))), (12, .v (.int .i64 xs.length)), (13, .v (.int .i64 i))], σ⟩) (fun i => i ≤ xs.length ∧ (xs = ys ↔ xs.drop i = ys.drop i))
    (.eq (by simp)) ⟨by omega, by simp⟩ fun i ⟨hi, he⟩ => ?_
  simp -implicitDefEqProofs (maxSteps := 2000000) (disch := omega) [-getElem?_pos]
  refine .mk (fun h => ?_) fun h => ?_
  · simp -implicitDefEqProofs (maxSteps := 2000000) (disch := omega) [-getElem?_pos]
    refine ⟨by omega, fun a ha => ?_⟩
    refine ⟨by omega, fun b hb => ?_⟩
    rw [drop_cons ha, drop_cons hb] at he
    refine .mk (fun hq => ?_) fun hq => ?_
    · subst hq
      simp -implicitDefEqProofs (maxSteps := 2000000) (disch := omega) [-getElem?_pos]
      refine ⟨i + 1, ⟨by omega, ?_⟩, by dsimp only; omega, .eq (by simp)⟩
      simpa using he
    · simp -implicitDefEqProofs (maxSteps := 2000000) (disch := omega) [-getElem?_pos]
      refine .fin _ ⟨?_, rfl⟩ (.refl _)
      rw [decide_eq_false (fun h' => hq (List.cons.inj (he.1 h')).1)]
  · simp -implicitDefEqProofs (maxSteps := 2000000) (disch := omega) [-getElem?_pos]
    refine .fin _ ⟨?_, rfl⟩ (.refl _)
    rw [List.drop_eq_nil_of_le (by omega), List.drop_eq_nil_of_le (by omega)] at he
    rw [decide_eq_true (he.2 rfl)]

theorem k_EqualFuncT {xs ys : List Tp} {fd : D} {σ : Sg} (hp : ∀ os x y, x ∈ xs → y ∈ ys → WCall Tryd.prog fd [.v (encT x), .v (encT y)] ⟨σ.objs ++ os, σ.toks⟩ fun r σ' => r = .v (.bool (decide (x = y))) ∧ σ' = ⟨σ.objs ++ os, σ.toks⟩)
    (hd : fd.low σ.objs.length σ.toks.length) :
    ACalls Tryd.prog 30 [.v (.sl (some 5) false (xs.map encT)), .v (.sl (some 5) false (ys.map encT)), fd] σ fun r σ' => r = .v (.bool (decide (xs = ys))) ∧ σ' = σ := by
  refine acalls_fit Tryd.func30 (by kernel_rfl) c30 rfl (by simp [a30]) fun hf => ?_
  simp at hf
  simp -implicitDefEqProofs (maxSteps := 2000000) (disch := omega) [-getElem?_pos, a30]
  refine .mk (fun hl => ?_) fun hl => ?_
  rotate_left
  · simp -implicitDefEqProofs (maxSteps := 2000000) (disch := omega) [-getElem?_pos]
    exact .fin _ ⟨by simp; intro h; exact hl (by rw [h]), rfl⟩ (.refl _)
  simp -implicitDefEqProofs (maxSteps := 2000000) (disch := omega) [-getElem?_pos]
  refine W_loop (α := Nat) 0 (fun i => xs.length - i) (fun i => ⟨[(1, .v (.sl (some 5) false (ys.map encT))), (2, fd), (15, .v (.sl (some 5) false (xs.map encT))), (16, .v (.int .i64 xs.length)), (17, .v (.int .i64 i))], σ⟩) (fun i => i ≤ xs.length ∧ (xs = ys ↔ xs.drop i = ys.drop i))
    (.eq (by simp)) ⟨by omega, by simp⟩ fun i ⟨hi, he⟩ => ?_
  simp -implicitDefEqProofs (maxSteps := 2000000) (disch := omega) [-getElem?_pos]
  refine .mk (fun h => ?_) fun h => ?_
  · simp -implicitDefEqProofs (maxSteps := 2000000) (disch := omega) [-getElem?_pos]
    refine ⟨by omega, fun a ha => ?_⟩
    obtain ⟨a0, ha0⟩ : ∃ a0, a0 = a := ⟨_, rfl⟩
    cases a with
    | mk k1 n1 l1 ls1 tl1 =>
    rw [encT_mk]
    simp -implicitDefEqProofs (maxSteps := 2000000) (disch := omega) [-getElem?_pos]
    refine ⟨by omega, fun b hb => ?_⟩
    obtain ⟨b0, hb0⟩ : ∃ b0, b0 = b := ⟨_, rfl⟩
    rw [drop_cons ha, drop_cons hb] at he
    have hp' := fun os => hp os _ b (List.mem_of_getElem? ha) (List.mem_of_getElem? hb)
    cases b with
    | mk k2 n2 l2 ls2 tl2 =>
    rw [encT_mk, encT_mk] at hp'
    rw [encT_mk]
    simp -implicitDefEqProofs (maxSteps := 2000000) (disch := omega) [-getElem?_pos]
    simp only [← ha0, ← hb0] at hp' he
    refine (hp' _).then fun r hr => ?_
    subst hr
    simp -implicitDefEqProofs (maxSteps := 2000000) (disch := omega) [-getElem?_pos]
    refine .mk (fun hq => ?_) fun hq => ?_
    · rw [hq] at he
      simp -implicitDefEqProofs (maxSteps := 2000000) (disch := omega) [-getElem?_pos]
      refine ⟨i + 1, ⟨by omega, ?_⟩, by dsimp only; omega, .dropO rfl (by simp) (by simp) (by simp [hd])⟩
      simpa using he
    · simp -implicitDefEqProofs (maxSteps := 2000000) (disch := omega) [-getElem?_pos]
      refine .fin _ ⟨?_, rfl⟩ (.refl _)
      rw [decide_eq_false (fun h' => hq (List.cons.inj (he.1 h')).1)]
  · simp -implicitDefEqProofs (maxSteps := 2000000) (disch := omega) [-getElem?_pos]
    refine .fin _ ⟨?_, rfl⟩ (.refl _)
    rw [List.drop_eq_nil_of_le (by omega), List.drop_eq_nil_of_le (by omega)] at he
    rw [decide_eq_true (he.2 rfl)]

theorem k_Same (a : Tp) : ∀ (b : Tp) {σ : Sg}, ACalls Tryd.prog 11 [.v (encT a), .v (encT b)] σ fun r σ' => r = .v (.bool (decide (a = b))) ∧ σ' = σ := by
  refine Tp.ind (P := fun a => ∀ (b : Tp) {σ : Sg}, ACalls Tryd.prog 11 [.v (encT a), .v (encT b)] σ fun r σ' => r = .v (.bool (decide (a = b))) ∧ σ' = σ) (fun k n l ls tl ih => ?_) a
  intro b σ
  cases b with
  | mk k2 n2 l2 ls2 tl2 =>
  rw [encT_mk, encT_mk]
  refine acalls_fit Tryd.func11 (by kernel_rfl) c11 rfl (by simp [a11]) fun hf => ?_
  clear hf
  by_cases h1 : k = k2
  rotate_left
  · simp -implicitDefEqProofs (maxSteps := 2000000) (disch := omega) [-getElem?_pos, a11, h1]
    exact .fin _ ⟨by simp [h1], rfl⟩ (.refl _)
  by_cases h2 : n = n2
  rotate_left
  · simp -implicitDefEqProofs (maxSteps := 2000000) (disch := omega) [-getElem?_pos, a11, h1, h2]
    exact .fin _ ⟨by simp [h2], rfl⟩ (.refl _)
  by_cases h3 : tl = tl2
  rotate_left
  · simp -implicitDefEqProofs (maxSteps := 2000000) (disch := omega) [-getElem?_pos, a11, h1, h2, h3]
    exact .fin _ ⟨by simp [h3], rfl⟩ (.refl _)
  subst h1 h2 h3
  simp -implicitDefEqProofs (maxSteps := 2000000) (disch := omega) [-getElem?_pos, a11]
  refine k_EqualStr.then fun r hr => ?_
  subst hr
  by_cases h5 : ls = ls2
  rotate_left
  · simp -implicitDefEqProofs (maxSteps := 2000000) (disch := omega) [-getElem?_pos, h5]
    exact .fin _ ⟨by simp [h5], rfl⟩ (.refl _)
  subst h5
  simp -implicitDefEqProofs (maxSteps := 2000000) (disch := omega) [-getElem?_pos]
  refine (k_EqualFuncT (xs := l) (ys := l2) (fun os x y hx hy => WCall_fn.symm ▸ ih x hx y) (by simp)).then fun r hr => ?_
  subst hr
  simp -implicitDefEqProofs (maxSteps := 2000000) (disch := omega) [-getElem?_pos]
  exact .fin _ ⟨by simp, rfl⟩ (.refl _)

def obT : Tp → Ob
  | .mk k n l ls tl => .cells [.v (.int .i64 k), .v (.int .i64 n), .v (.sl (some 5) false (l.map encT)), .v (.sl none false (ls.map .str)), .v (.int .i64 tl)]
theorem k_RSame (a : Tp) : ∀ (b : Tp) {σ : Sg}, tbk a ≤ 1048576 → ACalls Tryd.prog 12 [.v (encT a), .v (encT b)] σ fun r σ' => r = .v (.bool (decide (a = b))) ∧ σ' = σ := by
  refine Tp.ind (P := fun a => ∀ (b : Tp) {σ : Sg}, tbk a ≤ 1048576 → ACalls Tryd.prog 12 [.v (encT a), .v (encT b)] σ fun r σ' => r = .v (.bool (decide (a = b))) ∧ σ' = σ) (fun k n l ls tl ih => ?_) a
  intro b σ he
  simp only [tbk] at he
  have hll := tbkL_len l
  cases b with
  | mk k2 n2 l2 ls2 tl2 =>
  rw [encT_mk, encT_mk]
  refine acalls_fit Tryd.func12 (by kernel_rfl) c12 rfl (by simp [a12]) fun hf => ?_
  clear hf
  simp -implicitDefEqProofs (maxSteps := 2000000) (disch := omega) [-getElem?_pos, a12]
  refine k_Texts.then fun r hr => ?_
  subst hr
  by_cases h1 : k = k2
  rotate_left
  · simp -implicitDefEqProofs (maxSteps := 2000000) (disch := omega) [-getElem?_pos, h1]
    exact .fin _ ⟨by simp [h1], rfl⟩ (.refl _)
  by_cases h2 : n = n2
  rotate_left
  · simp -implicitDefEqProofs (maxSteps := 2000000) (disch := omega) [-getElem?_pos, h1, h2]
    exact .fin _ ⟨by simp [h2], rfl⟩ (.refl _)
  by_cases h3 : tl = tl2
  rotate_left
  · simp -implicitDefEqProofs (maxSteps := 2000000) (disch := omega) [-getElem?_pos, h1, h2, h3]
    exact .fin _ ⟨by simp [h3], rfl⟩ (.refl _)
  by_cases h5 : ls = ls2
  rotate_left
  · simp -implicitDefEqProofs (maxSteps := 2000000) (disch := omega) [-getElem?_pos, h1, h2, h3, h5]
    exact .fin _ ⟨by simp [h5], rfl⟩ (.refl _)
  subst h1 h2 h3 h5
  by_cases h6 : l.length = l2.length
  rotate_left
  · have h6i : ¬ (l.length : Int) = l2.length := by omega
    simp -implicitDefEqProofs (maxSteps := 2000000) (disch := omega) [-getElem?_pos, h6, h6i]
    exact .fin _ ⟨by simp; rintro rfl; exact h6 rfl, rfl⟩ (.refl _)
  simp -implicitDefEqProofs (maxSteps := 2000000) (disch := omega) [-getElem?_pos, h6]
  refine W_loop (α := Nat) 0 (fun i => l.length - i) (fun i => ⟨[(2, .ptr σ.objs.length 0), (3, .ptr (σ.objs.length + 1) 0), (6, .v (.int .i64 i))], ⟨σ.objs ++ [obT (.mk k n l ls tl), obT (.mk k n l2 ls tl)], σ.toks⟩⟩)
    (fun i => i ≤ l.length ∧ (l = l2 ↔ l.drop i = l2.drop i)) (.eq2 (by simp [obT]) (by simp)) ⟨by omega, by simp⟩ fun i ⟨hi, he2⟩ => ?_
  simp -implicitDefEqProofs (maxSteps := 2000000) (disch := omega) [-getElem?_pos, obT]
  refine .mk (fun h => ?_) fun h => ?_
  · simp -implicitDefEqProofs (maxSteps := 2000000) (disch := omega) [-getElem?_pos]
    refine ⟨by omega, ?_⟩
    intro x hx
    refine ⟨by omega, ?_⟩
    intro y hy
    rw [drop_cons hx, drop_cons hy] at he2
    have hx1 := tbkL_mem (List.mem_of_getElem? hx)
    refine (ih x (List.mem_of_getElem? hx) y (by omega)).then fun r hr => ?_
    subst hr
    by_cases hq : x = y
    · rw [hq] at he2
      simp -implicitDefEqProofs (maxSteps := 2000000) (disch := omega) [-getElem?_pos, hq]
      refine ⟨i + 1, ⟨by omega, ?_⟩, by dsimp only; omega, .eq2 (by simp [obT]) (by simp)⟩
      simpa using he2
    · simp -implicitDefEqProofs (maxSteps := 2000000) (disch := omega) [-getElem?_pos, hq]
      refine .fin _ ⟨?_, rfl⟩ (.refl _)
      have hne : ¬ l = l2 := fun h => hq (List.cons.inj (he2.1 h)).1
      simp [hne]
  · simp -implicitDefEqProofs (maxSteps := 2000000) (disch := omega) [-getElem?_pos]
    refine .fin _ ⟨?_, rfl⟩ (.refl _)
    rw [List.drop_eq_nil_of_le (by omega), List.drop_eq_nil_of_le (by omega)] at he2
    simp [he2.2 rfl]
end Go.Proofs.YtkpnhcccocaakaaDoor
