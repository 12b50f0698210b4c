/-
  Layer 19: whether images are the same. (Own work.)
-/
import Derived.Test.YtcbdnndgnbgnaaaC8
set_option linter.unusedVariables false
set_option linter.unusedSimpArgs false
namespace Go.Proofs.Ytcbdnndgnbgnaaa
open Go Go.Abs

theorem k_EqualInt {xs ys : List Int} {σ : Sg} : ACalls Try.prog 67 [.v (.sl none false (xs.map vi)), .v (.sl none false (ys.map vi))] σ fun r σ' => r = .v (.bool (decide (xs = ys))) ∧ σ' = σ := by
  refine acalls_fit Try.func67 (by kernel_rfl) c67 rfl (by simp [a67]) fun hf => ?_
  simp at hf
  simp -implicitDefEqProofs (maxSteps := 2000000) (disch := omega) [-getElem?_pos, a67]
  refine .mk (fun hl => ?_) fun hl => ?_
  rotate_left
  · simp -implicitDefEqProofs (maxSteps := 2000000) (disch := omega) [-getElem?_pos]
    exact .fin _ ⟨by simp; intro h; exact hl (by rw [h]), rfl⟩ (.refl _)
  simp -implicitDefEqProofs (maxSteps := 2000000) (disch := omega) [-getElem?_pos]
  refine W_loop (α := Nat) 0 (fun i => xs.length - i) (fun i => ⟨[(0, .v (.sl none false (xs.map vi))), (1, .v (.sl none false (ys.map vi))), (12, .v (.int .i64 xs.length)), (13, .v (.int .i64 i))], σ⟩) (fun i => i ≤ xs.length ∧ (xs = ys ↔ xs.drop i = ys.drop i))
    (.eq (by simp)) ⟨by omega, by simp⟩ fun i ⟨hi, he⟩ => ?_
  simp -implicitDefEqProofs (maxSteps := 2000000) (disch := omega) [-getElem?_pos]
  refine .mk (fun h => ?_) fun h => ?_
  · simp -implicitDefEqProofs (maxSteps := 2000000) (disch := omega) [-getElem?_pos]
    refine ⟨by omega, fun a ha => ?_⟩
    refine ⟨by omega, fun b hb => ?_⟩
    rw [drop_cons ha, drop_cons hb] at he
    refine .mk (fun hq => ?_) fun hq => ?_
    · subst hq
      simp -implicitDefEqProofs (maxSteps := 2000000) (disch := omega) [-getElem?_pos]
      refine ⟨i + 1, ⟨by omega, ?_⟩, by dsimp only; omega, .eq (by simp)⟩
      simpa using he
    · simp -implicitDefEqProofs (maxSteps := 2000000) (disch := omega) [-getElem?_pos]
      refine .fin _ ⟨?_, rfl⟩ (.refl _)
      rw [decide_eq_false (fun h' => hq (List.cons.inj (he.1 h')).1)]
  · simp -implicitDefEqProofs (maxSteps := 2000000) (disch := omega) [-getElem?_pos]
    refine .fin _ ⟨?_, rfl⟩ (.refl _)
    rw [List.drop_eq_nil_of_le (by omega), List.drop_eq_nil_of_le (by omega)] at he
    rw [decide_eq_true (he.2 rfl)]

theorem k_EqualI64 {xs ys : List Int} {σ : Sg} : ACalls Try.prog 70 [.v (.sl none false (xs.map vi)), .v (.sl none false (ys.map vi))] σ fun r σ' => r = .v (.bool (decide (xs = ys))) ∧ σ' = σ := by
  refine acalls_fit Try.func70 (by kernel_rfl) c70 rfl (by simp [a70]) fun hf => ?_
  simp at hf
  simp -implicitDefEqProofs (maxSteps := 2000000) (disch := omega) [-getElem?_pos, a70]
  refine .mk (fun hl => ?_) fun hl => ?_
  rotate_left
  · simp -implicitDefEqProofs (maxSteps := 2000000) (disch := omega) [-getElem?_pos]
    exact .fin _ ⟨by simp; intro h; exact hl (by rw [h]), rfl⟩ (.refl _)
  simp -implicitDefEqProofs (maxSteps := 2000000) (disch := omega) [-getElem?_pos]
  refine W_loop (α := Nat) 0 (fun i => xs.length - i) (fun i => ⟨[(0, .v (.sl none false (xs.map vi))), (1, .v (.sl none false (ys.map vi))), (12, .v (.int .i64 xs.length)), (13, .v (.int .i64 i))], σ⟩) (fun i => i ≤ xs.length ∧ (xs = ys ↔ xs.drop i = ys.drop i))
    (.eq (by simp)) ⟨by omega, by simp⟩ fun i ⟨hi, he⟩ => ?_
  simp -implicitDefEqProofs (maxSteps := 2000000) (disch := omega) [-getElem?_pos]
  refine .mk (fun h => ?_) fun h => ?_
  · simp -implicitDefEqProofs (maxSteps := 2000000) (disch := omega) [-getElem?_pos]
    refine ⟨by omega, fun a ha => ?_⟩
    refine ⟨by omega, fun b hb => ?_⟩
    rw [drop_cons ha, drop_cons hb] at he
    refine .mk (fun hq => ?_) fun hq => ?_
    · subst hq
      simp -implicitDefEqProofs (maxSteps := 2000000) (disch := omega) [-getElem?_pos]
      refine ⟨i + 1, ⟨by omega, ?_⟩, by dsimp only; omega, .eq (by simp)⟩
      simpa using he
    · simp -implicitDefEqProofs (maxSteps := 2000000) (disch := omega) [-getElem?_pos]
      refine .fin _ ⟨?_, rfl⟩ (.refl _)
      rw [decide_eq_false (fun h' => hq (List.cons.inj (he.1 h')).1)]
  · simp -implicitDefEqProofs (maxSteps := 2000000) (disch := omega) [-getElem?_pos]
    refine .fin _ ⟨?_, rfl⟩ (.refl _)
    rw [List.drop_eq_nil_of_le (by omega), List.drop_eq_nil_of_le (by omega)] at he
    rw [decide_eq_true (he.2 rfl)]

theorem k_EqualStr {xs ys : List (List UInt8)} {σ : Sg} : ACalls Try.prog 71 [.v (.sl none false (xs.map .str)), .v (.sl none false (ys.map .str))] σ fun r σ' => r = .v (.bool (decide (xs = ys))) ∧ σ' = σ := by
  refine acalls_fit Try.func71 (by kernel_rfl) c71 rfl (by simp [a71]) fun hf => ?_
  simp at hf
  simp -implicitDefEqProofs (maxSteps := 2000000) (disch := omega) [-getElem?_pos, a71]
  refine .mk (fun hl => ?_) fun hl => ?_
  rotate_left
  · simp -implicitDefEqProofs (maxSteps := 2000000) (disch := omega) [-getElem?_pos]
    exact .fin _ ⟨by simp; intro h; exact hl (by rw [h]), rfl⟩ (.refl _)
  simp -implicitDefEqProofs (maxSteps := 2000000) (disch := omega) [-getElem?_pos]
  refine W_loop (α := Nat) 0 (fun i => xs.length - i) (fun i => ⟨[(0, .v (.sl none false (xs.map .str))), (1, .v (.sl none false (ys.map .str))), (12, .v (.int .i64 xs.length)), (13, .v (.int .i64 i))], σ⟩) (fun i => i ≤ xs.length ∧ (xs = ys ↔ xs.drop i = ys.drop i))
    (.eq (by simp)) ⟨by omega, by simp⟩ fun i ⟨hi, he⟩ => ?_
  simp -implicitDefEqProofs (maxSteps := 2000000) (disch := omega) [-getElem?_pos]
  refine .mk (fun h => ?_) fun h => ?_
  · simp -implicitDefEqProofs (maxSteps := 2000000) (disch := omega) [-getElem?_pos]
    refine ⟨by omega, fun a ha => ?_⟩
    refine ⟨by omega, fun b hb => ?_⟩
    rw [drop_cons ha, drop_cons hb] at he
    refine .mk (fun hq => ?_) fun hq => ?_
    · subst hq
      simp -implicitDefEqProofs (maxSteps := 2000000) (disch := omega) [-getElem?_pos]
      refine ⟨i + 1, ⟨by omega, ?_⟩, by dsimp only; omega, .eq (by simp)⟩
      simpa using he
    · simp -implicitDefEqProofs (maxSteps := 2000000) (disch := omega) [-getElem?_pos]
      refine .fin _ ⟨?_, rfl⟩ (.refl _)
      rw [decide_eq_false (fun h' => hq (List.cons.inj (he.1 h')).1)]
  · simp -implicitDefEqProofs (maxSteps := 2000000) (disch := omega) [-getElem?_pos]
    refine .fin _ ⟨?_, rfl⟩ (.refl _)
    rw [List.drop_eq_nil_of_le (by omega), List.drop_eq_nil_of_le (by omega)] at he
    rw [decide_eq_true (he.2 rfl)]

theorem k_EqualFuncInstr {xs ys : List Ins} {fd : D} {σ : Sg} (hp : ∀ os x y, x ∈ xs → y ∈ ys → WCall Try.prog fd [.v (encI x), .v (encI y)] ⟨σ.objs ++ os, σ.toks⟩ fun r σ' => r = .v (.bool (decide (x = y))) ∧ σ' = ⟨σ.objs ++ os, σ.toks⟩)
    (hd : fd.low σ.objs.length σ.toks.length) :
    ACalls Try.prog 69 [.v (.sl (some 3) false (xs.map encI)), .v (.sl (some 3) false (ys.map encI)), fd] σ fun r σ' => r = .v (.bool (decide (xs = ys))) ∧ σ' = σ := by
  refine acalls_fit Try.func69 (by kernel_rfl) c69 rfl (by simp [a69]) fun hf => ?_
  simp at hf
  simp -implicitDefEqProofs (maxSteps := 2000000) (disch := omega) [-getElem?_pos, a69]
  refine .mk (fun hl => ?_) fun hl => ?_
  rotate_left
  · simp -implicitDefEqProofs (maxSteps := 2000000) (disch := omega) [-getElem?_pos]
    exact .fin _ ⟨by simp; intro h; exact hl (by rw [h]), rfl⟩ (.refl _)
  simp -implicitDefEqProofs (maxSteps := 2000000) (disch := omega) [-getElem?_pos]
  refine W_loop (α := Nat) 0 (fun i => xs.length - i) (fun i => ⟨[(1, .v (.sl (some 3) false (ys.map encI))), (2, fd), (15, .v (.sl (some 3) false (xs.map encI))), (16, .v (.int .i64 xs.length)), (17, .v (.int .i64 i))], σ⟩) (fun i => i ≤ xs.length ∧ (xs = ys ↔ xs.drop i = ys.drop i))
    (.eq (by simp)) ⟨by omega, by simp⟩ fun i ⟨hi, he⟩ => ?_
  simp -implicitDefEqProofs (maxSteps := 2000000) (disch := omega) [-getElem?_pos]
  refine .mk (fun h => ?_) fun h => ?_
  · simp -implicitDefEqProofs (maxSteps := 2000000) (disch := omega) [-getElem?_pos]
    refine ⟨by omega, fun a ha => ?_⟩
    refine ⟨by omega, fun b hb => ?_⟩
    rw [drop_cons ha, drop_cons hb] at he
    refine (hp _ a b (List.mem_of_getElem? ha) (List.mem_of_getElem? hb)).then fun r hr => ?_
    subst hr
    simp -implicitDefEqProofs (maxSteps := 2000000) (disch := omega) [-getElem?_pos]
    refine .mk (fun hq => ?_) fun hq => ?_
    · subst hq
      simp -implicitDefEqProofs (maxSteps := 2000000) (disch := omega) [-getElem?_pos]
      refine ⟨i + 1, ⟨by omega, ?_⟩, by dsimp only; omega, .dropO rfl (by simp) (by simp) (by simp [hd])⟩
      simpa using he
    · simp -implicitDefEqProofs (maxSteps := 2000000) (disch := omega) [-getElem?_pos]
      refine .fin _ ⟨?_, rfl⟩ (.refl _)
      rw [decide_eq_false (fun h' => hq (List.cons.inj (he.1 h')).1)]
  · simp -implicitDefEqProofs (maxSteps := 2000000) (disch := omega) [-getElem?_pos]
    refine .fin _ ⟨?_, rfl⟩ (.refl _)
    rw [List.drop_eq_nil_of_le (by omega), List.drop_eq_nil_of_le (by omega)] at he
    rw [decide_eq_true (he.2 rfl)]

theorem k_EqualFuncFunc {xs ys : List Fn} {fd : D} {σ : Sg} (hp : ∀ os x y, x ∈ xs → y ∈ ys → WCall Try.prog fd [.v (encF x), .v (encF y)] ⟨σ.objs ++ os, σ.toks⟩ fun r σ' => r = .v (.bool (decide (x = y))) ∧ σ' = ⟨σ.objs ++ os, σ.toks⟩)
    (hd : fd.low σ.objs.length σ.toks.length) :
    ACalls Try.prog 72 [.v (.sl (some 3) false (xs.map encF)), .v (.sl (some 3) false (ys.map encF)), fd] σ fun r σ' => r = .v (.bool (decide (xs = ys))) ∧ σ' = σ := by
  refine acalls_fit Try.func72 (by kernel_rfl) c72 rfl (by simp [a72]) fun hf => ?_
  simp at hf
  simp -implicitDefEqProofs (maxSteps := 2000000) (disch := omega) [-getElem?_pos, a72]
  refine .mk (fun hl => ?_) fun hl => ?_
  rotate_left
  · simp -implicitDefEqProofs (maxSteps := 2000000) (disch := omega) [-getElem?_pos]
    exact .fin _ ⟨by simp; intro h; exact hl (by rw [h]), rfl⟩ (.refl _)
  simp -implicitDefEqProofs (maxSteps := 2000000) (disch := omega) [-getElem?_pos]
  refine W_loop (α := Nat) 0 (fun i => xs.length - i) (fun i => ⟨[(1, .v (.sl (some 3) false (ys.map encF))), (2, fd), (15, .v (.sl (some 3) false (xs.map encF))), (16, .v (.int .i64 xs.length)), (17, .v (.int .i64 i))], σ⟩) (fun i => i ≤ xs.length ∧ (xs = ys ↔ xs.drop i = ys.drop i))
    (.eq (by simp)) ⟨by omega, by simp⟩ fun i ⟨hi, he⟩ => ?_
  simp -implicitDefEqProofs (maxSteps := 2000000) (disch := omega) [-getElem?_pos]
  refine .mk (fun h => ?_) fun h => ?_
  · simp -implicitDefEqProofs (maxSteps := 2000000) (disch := omega) [-getElem?_pos]
    refine ⟨by omega, fun a ha => ?_⟩
    refine ⟨by omega, fun b hb => ?_⟩
    rw [drop_cons ha, drop_cons hb] at he
    refine (hp _ a b (List.mem_of_getElem? ha) (List.mem_of_getElem? hb)).then fun r hr => ?_
    subst hr
    simp -implicitDefEqProofs (maxSteps := 2000000) (disch := omega) [-getElem?_pos]
    refine .mk (fun hq => ?_) fun hq => ?_
    · subst hq
      simp -implicitDefEqProofs (maxSteps := 2000000) (disch := omega) [-getElem?_pos]
      refine ⟨i + 1, ⟨by omega, ?_⟩, by dsimp only; omega, .dropO rfl (by simp) (by simp) (by simp [hd])⟩
      simpa using he
    · simp -implicitDefEqProofs (maxSteps := 2000000) (disch := omega) [-getElem?_pos]
      refine .fin _ ⟨?_, rfl⟩ (.refl _)
      rw [decide_eq_false (fun h' => hq (List.cons.inj (he.1 h')).1)]
  · simp -implicitDefEqProofs (maxSteps := 2000000) (disch := omega) [-getElem?_pos]
    refine .fin _ ⟨?_, rfl⟩ (.refl _)
    rw [List.drop_eq_nil_of_le (by omega), List.drop_eq_nil_of_le (by omega)] at he
    rw [decide_eq_true (he.2 rfl)]

theorem k_Same1 {x y : Ins} {σ : Sg} : ACalls Try.prog 66 [.v (encI x), .v (encI y)] σ fun r σ' => r = .v (.bool (decide (x = y))) ∧ σ' = σ := by
  refine acalls_fit Try.func66 (by kernel_rfl) c66 rfl (by simp [a66]) fun hf => ?_
  clear hf
  obtain ⟨xo, xa, xl⟩ := x
  obtain ⟨yo, ya, yl⟩ := y
  simp -implicitDefEqProofs (maxSteps := 2000000) (disch := omega) [-getElem?_pos, a66]
  repeat' (first
    | (refine And.intro (by omega) ?_)
    | (refine Br.mk (fun hb => ?_) (fun hb => ?_) <;> simp -implicitDefEqProofs (maxSteps := 2000000) (disch := omega) [-getElem?_pos, hb])
    | (refine ACalls.then k_EqualInt (fun r hr => ?_); subst hr; simp -implicitDefEqProofs (maxSteps := 2000000) (disch := omega) [-getElem?_pos]))
  all_goals exact .fin _ ⟨rfl, rfl⟩ (.refl _)

theorem k_Same2 {x y : Fn} {o : Nat} {σ : Sg} (h1 : σ.objs[o]? = some (.cells [.v (.fn 66)])) : ACalls Try.prog 68 [.v (encF x), .v (encF y), .ptr o 0] σ fun r σ' => r = .v (.bool (decide (x = y))) ∧ σ' = σ := by
  have ho := (List.getElem?_eq_some_iff.1 h1).1
  refine acalls_fit Try.func68 (by kernel_rfl) c68 rfl (by simp [a68]) fun hf => ?_
  clear hf
  obtain ⟨xo, xa, xl⟩ := x
  obtain ⟨yo, ya, yl⟩ := y
  simp -implicitDefEqProofs (maxSteps := 2000000) (disch := omega) [-getElem?_pos, a68]
  repeat' (first
    | (refine And.intro (by omega) ?_)
    | (refine Br.mk (fun hb => ?_) (fun hb => ?_) <;> simp -implicitDefEqProofs (maxSteps := 2000000) (disch := omega) [-getElem?_pos, List.getElem?_append_left, h1, hb])
    | (refine ACalls.then (k_EqualFuncInstr (fun os x y _ _ => WCall_fn.symm ▸ k_Same1) (by simp)) (fun r hr => ?_); subst hr; simp -implicitDefEqProofs (maxSteps := 2000000) (disch := omega) [-getElem?_pos, List.getElem?_append_left, h1]))
  all_goals exact .fin _ ⟨rfl, rfl⟩ (.refl _)

theorem k_Same {x y : Img} {σ : Sg} : ACalls Try.prog 46 [.v (encM x), .v (encM y)] σ fun r σ' => r = .v (.bool (decide (x = y))) ∧ σ' = σ := by
  refine acalls_fit Try.func46 (by kernel_rfl) c46 rfl (by simp [a46]) fun hf => ?_
  clear hf
  obtain ⟨xi, xt, xf⟩ := x
  obtain ⟨yi, yt, yf⟩ := y
  simp -implicitDefEqProofs (maxSteps := 2000000) (disch := omega) [-getElem?_pos, a46]
  refine k_EqualI64.then fun r hr => ?_
  subst hr
  simp -implicitDefEqProofs (maxSteps := 2000000) (disch := omega) [-getElem?_pos]
  refine .mk (fun h1 => ?_) fun h1 => ?_
  · simp -implicitDefEqProofs (maxSteps := 2000000) (disch := omega) [-getElem?_pos, h1]
    refine k_EqualStr.then fun r hr => ?_
    subst hr
    simp -implicitDefEqProofs (maxSteps := 2000000) (disch := omega) [-getElem?_pos]
    refine .mk (fun h2 => ?_) fun h2 => ?_
    · simp -implicitDefEqProofs (maxSteps := 2000000) (disch := omega) [-getElem?_pos, h2]
      refine (k_EqualFuncFunc (fun os x y _ _ => WCall_caps.symm ▸ k_Same2 (by simp)) (by simp)).then fun r hr => ?_
      subst hr
      simp -implicitDefEqProofs (maxSteps := 2000000) (disch := omega) [-getElem?_pos]
      exact .fin _ ⟨by simp [h1, h2], rfl⟩ (.refl _)
    · simp -implicitDefEqProofs (maxSteps := 2000000) (disch := omega) [-getElem?_pos, h2]
      exact .fin _ ⟨by simp [h1, h2], rfl⟩ (.refl _)
  · simp -implicitDefEqProofs (maxSteps := 2000000) (disch := omega) [-getElem?_pos, h1]
    exact .fin _ ⟨by simp [h1], rfl⟩ (.refl _)
theorem take_next {α : Type} {xs ys : List α} {i : Nat} {a b : α} (h : xs.take i = ys.take i) (ha : xs[i]? = some a) (hb : ys[i]? = some b) (e : a = b) : xs.take (i + 1) = ys.take (i + 1) := by
  rw [List.take_add_one, List.take_add_one, ha, hb, h, e]
theorem take_all {α : Type} {xs ys : List α} {i : Nat} (h : xs.take i = ys.take i) (h1 : xs.length ≤ i) (h2 : ys.length ≤ i) : xs = ys := by
  rwa [List.take_of_length_le h1, List.take_of_length_le h2] at h

theorem k_RSame {x y : Img} {σ : Sg} : ACalls Try.prog 47 [.v (encM x), .v (encM y)] σ fun r σ' => r = .v (.bool (decide (x = y))) ∧ σ' = σ := by
  refine acalls_fit Try.func47 (by kernel_rfl) c47 rfl (by simp [a47]) fun hf => ?_
  simp at hf
  have hft := hf
  generalize hD : decide (x = y) = dd
  have hno : ¬ x = y → dd = false := fun h => by rw [← hD, decide_eq_false h]
  simp -implicitDefEqProofs (maxSteps := 2000000) (disch := omega) [-getElem?_pos, a47]
  refine .mk (fun l1 => ?_) fun l1 => ?_
  rotate_left
  · simp -implicitDefEqProofs (maxSteps := 2000000) (disch := omega) [-getElem?_pos]
    exact .fin _ ⟨by rw [hno fun e => l1 (by rw [e])], rfl⟩ (.refl _)
  simp -implicitDefEqProofs (maxSteps := 2000000) (disch := omega) [-getElem?_pos]
  refine .mk (fun l2 => ?_) fun l2 => ?_
  rotate_left
  · simp -implicitDefEqProofs (maxSteps := 2000000) (disch := omega) [-getElem?_pos]
    exact .fin _ ⟨by rw [hno fun e => l2 (by rw [e])], rfl⟩ (.refl _)
  simp -implicitDefEqProofs (maxSteps := 2000000) (disch := omega) [-getElem?_pos]
  refine .mk (fun l3 => ?_) fun l3 => ?_
  rotate_left
  · simp -implicitDefEqProofs (maxSteps := 2000000) (disch := omega) [-getElem?_pos]
    exact .fin _ ⟨by rw [hno fun e => l3 (by rw [e])], rfl⟩ (.refl _)
  simp -implicitDefEqProofs (maxSteps := 2000000) (disch := omega) [-getElem?_pos]
  refine W_loop (α := Nat) 0 (fun i => x.ints.length - i) (fun i => ⟨[(2, .ptr σ.objs.length 0), (3, .ptr (σ.objs.length + 1) 0), (5, .v (.int .i64 i))], ⟨σ.objs ++ [cellsM x, cellsM y], σ.toks⟩⟩) (fun i => i ≤ x.ints.length ∧ x.ints.take i = y.ints.take i) (.eq (by simp)) ⟨by omega, by simp⟩ fun i ⟨hi, he⟩ => ?_
  simp -implicitDefEqProofs (maxSteps := 2000000) (disch := omega) [-getElem?_pos]
  refine .mk (fun h => ?_) fun h => ?_
  · simp -implicitDefEqProofs (maxSteps := 2000000) (disch := omega) [-getElem?_pos]
    refine ⟨by omega, fun a ha => ?_⟩
    refine ⟨by omega, fun b hb => ?_⟩
    refine .mk (fun hq => ?_) fun hq => ?_
    · simp -implicitDefEqProofs (maxSteps := 2000000) (disch := omega) [-getElem?_pos]
      exact ⟨i + 1, ⟨by omega, take_next he ha hb hq⟩, by dsimp only; omega, .eq (by simp)⟩
    · simp -implicitDefEqProofs (maxSteps := 2000000) (disch := omega) [-getElem?_pos]
      exact .fin _ ⟨by rw [hno fun e => hq (by rw [e, hb] at ha; exact (Option.some.inj ha).symm)], rfl⟩ (.refl _)
  have ei := take_all he (by omega) (by omega)
  simp -implicitDefEqProofs (maxSteps := 2000000) (disch := omega) [-getElem?_pos]
  refine W_loop (α := Nat) 0 (fun i => x.texts.length - i) (fun i => ⟨[(2, .ptr σ.objs.length 0), (3, .ptr (σ.objs.length + 1) 0), (6, .v (.int .i64 i))], ⟨σ.objs ++ [cellsM x, cellsM y], σ.toks⟩⟩) (fun i => i ≤ x.texts.length ∧ x.texts.take i = y.texts.take i) (.eq (by simp)) ⟨by omega, by simp⟩ fun i ⟨hi, he⟩ => ?_
  simp -implicitDefEqProofs (maxSteps := 2000000) (disch := omega) [-getElem?_pos]
  refine .mk (fun h => ?_) fun h => ?_
  · simp -implicitDefEqProofs (maxSteps := 2000000) (disch := omega) [-getElem?_pos]
    refine ⟨by omega, fun a ha => ?_⟩
    refine ⟨by omega, fun b hb => ?_⟩
    refine .mk (fun hq => ?_) fun hq => ?_
    · simp -implicitDefEqProofs (maxSteps := 2000000) (disch := omega) [-getElem?_pos]
      exact ⟨i + 1, ⟨by omega, take_next he ha hb hq⟩, by dsimp only; omega, .eq (by simp)⟩
    · simp -implicitDefEqProofs (maxSteps := 2000000) (disch := omega) [-getElem?_pos]
      exact .fin _ ⟨by rw [hno fun e => hq (by rw [e, hb] at ha; exact (Option.some.inj ha).symm)], rfl⟩ (.refl _)
  have et := take_all he (by omega) (by omega)
  simp -implicitDefEqProofs (maxSteps := 2000000) (disch := omega) [-getElem?_pos]
  refine W_loop (α := Nat) 0 (fun i => x.funs.length - i) (fun i => ⟨[(2, .ptr σ.objs.length 0), (3, .ptr (σ.objs.length + 1) 0), (7, .v (.int .i64 i))], ⟨σ.objs ++ [cellsM x, cellsM y], σ.toks⟩⟩) (fun i => i ≤ x.funs.length ∧ x.funs.take i = y.funs.take i) (.eq (by simp)) ⟨by omega, by simp⟩ fun i ⟨hi, he⟩ => ?_
  simp -implicitDefEqProofs (maxSteps := 2000000) (disch := omega) [-getElem?_pos]
  refine .mk (fun h => ?_) fun h => ?_
  rotate_left
  · have ef := take_all he (by omega) (by omega)
    simp -implicitDefEqProofs (maxSteps := 2000000) (disch := omega) [-getElem?_pos]
    refine .fin _ ⟨?_, rfl⟩ (.refl _)
    rw [← hD]
    obtain ⟨a, b, c⟩ := x
    obtain ⟨a', b', c'⟩ := y
    dsimp only at ei et ef
    rw [ei, et, ef, decide_eq_true rfl]
  simp -implicitDefEqProofs (maxSteps := 2000000) (disch := omega) [-getElem?_pos]
  refine ⟨by omega, fun f hxf => ?_⟩
  have hff := hft.1.2.2.2 f (List.mem_of_getElem? hxf)
  refine ⟨by omega, fun g hyg => ?_⟩
  have hfg : ¬ f = g → dd = false := fun hq => hno fun e => hq (by rw [e, hyg] at hxf; exact (Option.some.inj hxf).symm)
  refine .mk (fun c1 => ?_) fun c1 => ?_
  rotate_left
  · simp -implicitDefEqProofs (maxSteps := 2000000) (disch := omega) [-getElem?_pos]
    exact .fin _ ⟨by rw [hfg fun e => c1 (by rw [e])], rfl⟩ (.refl _)
  simp -implicitDefEqProofs (maxSteps := 2000000) (disch := omega) [-getElem?_pos]
  refine .mk (fun c2 => ?_) fun c2 => ?_
  rotate_left
  · simp -implicitDefEqProofs (maxSteps := 2000000) (disch := omega) [-getElem?_pos]
    exact .fin _ ⟨by rw [hfg fun e => c2 (by rw [e])], rfl⟩ (.refl _)
  simp -implicitDefEqProofs (maxSteps := 2000000) (disch := omega) [-getElem?_pos]
  refine .mk (fun c3 => ?_) fun c3 => ?_
  rotate_left
  · simp -implicitDefEqProofs (maxSteps := 2000000) (disch := omega) [-getElem?_pos]
    exact .fin _ ⟨by rw [hfg fun e => c3 (by rw [e])], rfl⟩ (.refl _)
  simp -implicitDefEqProofs (maxSteps := 2000000) (disch := omega) [-getElem?_pos]
  refine W_loop (α := Nat) 0 (fun j => f.code.length - j) (fun j => ⟨[(2, .ptr σ.objs.length 0), (3, .ptr (σ.objs.length + 1) 0), (7, .v (.int .i64 i)), (8, .ptr (σ.objs.length + 2) 0), (9, .ptr (σ.objs.length + 3) 0), (10, .v (.int .i64 j))], ⟨σ.objs ++ [cellsM x, cellsM y, cellsF f, cellsF g], σ.toks⟩⟩) (fun j => j ≤ f.code.length ∧ f.code.take j = g.code.take j) (.eq (by simp)) ⟨by omega, by simp⟩ fun j ⟨hj, hje⟩ => ?_
  have hfc := hff.2.2.1
  simp -implicitDefEqProofs (maxSteps := 2000000) (disch := omega) [-getElem?_pos]
  refine .mk (fun h => ?_) fun h => ?_
  rotate_left
  · have ef := take_all hje (by omega) (by omega)
    have efg : f = g := by
      obtain ⟨a, b, c⟩ := f
      obtain ⟨a', b', c'⟩ := g
      dsimp only at c1 c2 ef
      rw [c1, c2, ef]
    simp -implicitDefEqProofs (maxSteps := 2000000) (disch := omega) [-getElem?_pos]
    exact ⟨i + 1, ⟨by omega, take_next he hxf hyg efg⟩, by dsimp only; omega, .dropX (ys := [cellsM x, cellsM y]) rfl rfl (by simp) (by simp) (by simp) (by simp)⟩
  simp -implicitDefEqProofs (maxSteps := 2000000) (disch := omega) [-getElem?_pos]
  refine ⟨by omega, fun p hxp => ?_⟩
  have hpl := (hff.2.2.2 p (List.mem_of_getElem? hxp)).2.2.1
  refine ⟨by omega, fun q hyq => ?_⟩
  have hpq : ¬ p = q → dd = false := fun hq => hfg fun e => hq (by rw [e, hyq] at hxp; exact (Option.some.inj hxp).symm)
  refine .mk (fun d1 => ?_) fun d1 => ?_
  rotate_left
  · simp -implicitDefEqProofs (maxSteps := 2000000) (disch := omega) [-getElem?_pos]
    exact .fin _ ⟨by rw [hpq fun e => d1 (by rw [e])], rfl⟩ (.refl _)
  simp -implicitDefEqProofs (maxSteps := 2000000) (disch := omega) [-getElem?_pos]
  refine .mk (fun d2 => ?_) fun d2 => ?_
  rotate_left
  · simp -implicitDefEqProofs (maxSteps := 2000000) (disch := omega) [-getElem?_pos]
    exact .fin _ ⟨by rw [hpq fun e => d2 (by rw [e])], rfl⟩ (.refl _)
  simp -implicitDefEqProofs (maxSteps := 2000000) (disch := omega) [-getElem?_pos]
  refine .mk (fun d3 => ?_) fun d3 => ?_
  rotate_left
  · simp -implicitDefEqProofs (maxSteps := 2000000) (disch := omega) [-getElem?_pos]
    exact .fin _ ⟨by rw [hpq fun e => d3 (by rw [e])], rfl⟩ (.refl _)
  simp -implicitDefEqProofs (maxSteps := 2000000) (disch := omega) [-getElem?_pos]
  refine W_loop (α := Nat) 0 (fun k => p.l.length - k) (fun k => ⟨[(2, .ptr σ.objs.length 0), (3, .ptr (σ.objs.length + 1) 0), (7, .v (.int .i64 i)), (8, .ptr (σ.objs.length + 2) 0), (9, .ptr (σ.objs.length + 3) 0), (10, .v (.int .i64 j)), (11, .ptr (σ.objs.length + 4) 0), (12, .ptr (σ.objs.length + 5) 0), (13, .v (.int .i64 k))], ⟨σ.objs ++ [cellsM x, cellsM y, cellsF f, cellsF g, cellsI p, cellsI q], σ.toks⟩⟩) (fun k => k ≤ p.l.length ∧ p.l.take k = q.l.take k) (.eq (by simp)) ⟨by omega, by simp⟩ fun k ⟨hk, hke⟩ => ?_
  simp -implicitDefEqProofs (maxSteps := 2000000) (disch := omega) [-getElem?_pos]
  refine .mk (fun h => ?_) fun h => ?_
  rotate_left
  · have ef := take_all hke (by omega) (by omega)
    have epq : p = q := by
      obtain ⟨a, b, c⟩ := p
      obtain ⟨a', b', c'⟩ := q
      dsimp only at d1 d2 ef
      rw [d1, d2, ef]
    simp -implicitDefEqProofs (maxSteps := 2000000) (disch := omega) [-getElem?_pos]
    exact ⟨j + 1, ⟨by omega, take_next hje hxp hyq epq⟩, by dsimp only; omega, .dropX (ys := [cellsM x, cellsM y, cellsF f, cellsF g]) rfl rfl (by simp) (by simp) (by simp) (by simp)⟩
  simp -implicitDefEqProofs (maxSteps := 2000000) (disch := omega) [-getElem?_pos]
  refine ⟨by omega, fun a ha => ?_⟩
  refine ⟨by omega, fun b hb => ?_⟩
  refine .mk (fun hq => ?_) fun hq => ?_
  · simp -implicitDefEqProofs (maxSteps := 2000000) (disch := omega) [-getElem?_pos]
    exact ⟨k + 1, ⟨by omega, take_next hke ha hb hq⟩, by dsimp only; omega, .eq (by simp)⟩
  · simp -implicitDefEqProofs (maxSteps := 2000000) (disch := omega) [-getElem?_pos]
    exact .fin _ ⟨by rw [hpq fun e => hq (by rw [e, hb] at ha; exact (Option.some.inj ha).symm)], rfl⟩ (.refl _)
end Go.Proofs.Ytcbdnndgnbgnaaa
