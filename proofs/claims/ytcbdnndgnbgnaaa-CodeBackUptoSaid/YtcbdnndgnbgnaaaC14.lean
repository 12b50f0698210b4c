/-
  Layer 19: the statements, walked. (Own work.)
-/
import Derived.Test.YtcbdnndgnbgnaaaC13
import Derived.Test.YtcbdnndgnbgnaaaAbsY
set_option linter.unusedVariables false
set_option linter.unusedSimpArgs false
namespace Go.Proofs.Ytcbdnndgnbgnaaa
open Go Go.Abs

theorem bulk_map_ge {α : Type} {f : α → V} {g : α → Nat} (h : ∀ a, g a ≤ (f a).bulk) : ∀ l : List α, (l.map g).sum ≤ V.bulkL (l.map f)
  | [] => Nat.le_refl _
  | a :: l => by have := h a; have := bulk_map_ge h l; simp only [List.map_cons, List.sum_cons, V.bulkL]; omega
theorem sum_const {α : Type} (l : List α) (k : Nat) : (l.map fun _ => k).sum = k * l.length := by
  induction l with
  | nil => simp
  | cons a l ih => simp only [List.map_cons, List.sum_cons, ih, List.length_cons, Nat.mul_add]; omega
theorem putL_sum {α : Type} {q : α → List UInt8} {g : α → Nat} {c : Nat} (h : ∀ x, (q x).length ≤ c * g x) : ∀ l : List α, (putL q l).length ≤ c * (l.map g).sum
  | [] => Nat.le_refl _
  | x :: l => by have := h x; have := putL_sum h l; simp only [putL, List.length_append, List.map_cons, List.sum_cons, Nat.mul_add]; omega
theorem leb_len (n : Int) : (leb n).length ≤ 10 := lebF_length 9 (zig n)

theorem bulk_I (x : Ins) : (encI x).bulk = x.l.length + 3 := by
  have : V.bulkL (x.l.map vi) = x.l.length := by
    induction x.l with
    | nil => rfl
    | cons a l ih => simp only [List.map_cons, V.bulkL, ih, V.bulk, List.length_cons]; omega
  simp only [encI, V.bulk, V.bulkL, this]; omega
theorem put_I (x : Ins) : (putI x).length ≤ 10 * (encI x).bulk := by
  have h1 := leb_len x.op
  have h2 := leb_len x.a
  have h3 := leb_len x.l.length
  have h4 := putL_sum (q := leb) (g := fun _ => 1) (c := 10) (by intro n; have := leb_len n; omega) x.l
  rw [sum_const] at h4
  rw [bulk_I]
  simp only [putI, List.length_append]
  omega
theorem bulk_F (f : Fn) : (encF f).bulk = V.bulkL (f.code.map encI) + 3 := by simp only [encF, V.bulk, V.bulkL]; omega
theorem sum_bulk {α : Type} (e : α → V) (l : List α) : (l.map fun a => (e a).bulk).sum = V.bulkL (l.map e) := by
  induction l with
  | nil => rfl
  | cons a l ih => simp only [List.map_cons, List.sum_cons, V.bulkL, ih]
theorem put_F (f : Fn) : (putF f).length ≤ 10 * (encF f).bulk := by
  have h1 := leb_len f.regs
  have h2 := leb_len f.caps
  have h3 := leb_len f.code.length
  have h4 := putL_sum put_I f.code
  rw [sum_bulk] at h4
  rw [bulk_F]
  simp only [putF, List.length_append]
  omega
theorem bulk_M (m : Img) : (encM m).bulk = m.ints.length + 1 + (V.bulkL (m.texts.map .str) + 1) + (V.bulkL (m.funs.map encF) + 1) := by
  have : V.bulkL (m.ints.map vi) = m.ints.length := by
    induction m.ints with
    | nil => rfl
    | cons a l ih => simp only [List.map_cons, V.bulkL, ih, V.bulk, List.length_cons]; omega
  simp only [encM, V.bulk, V.bulkL, this]; omega
theorem put_M (m : Img) : (putM m).length ≤ 10 * (encM m).bulk := by
  have h1 := leb_len m.ints.length
  have h2 := leb_len m.texts.length
  have h3 := leb_len m.funs.length
  have h4 := putL_sum put_F m.funs
  rw [sum_bulk] at h4
  have h5 := putL_sum (q := putT) (g := fun s => (V.str s).bulk) (c := 10) (by intro s; have := leb_len s.length; simp only [putT, List.length_append, V.bulk]; omega) m.texts
  rw [sum_bulk] at h5
  have h6 := putL_sum (q := leb) (g := fun _ => 1) (c := 10) (by intro n; have := leb_len n; omega) m.ints
  rw [sum_const] at h6
  rw [bulk_M]
  simp only [putM, List.length_append]
  omega
theorem len_bulk {α : Type} {e : α → V} (h : ∀ a, 1 ≤ (e a).bulk) (l : List α) : l.length ≤ V.bulkL (l.map e) := by
  have := bulk_map_ge (g := fun _ => 1) h l
  rw [sum_const] at this
  omega
theorem base_bulk (m : Img) : base m + codeLen m.funs ≤ (encM m).bulk := by
  have h1 := len_bulk (e := V.str) (by intro s; simp [V.bulk]) m.texts
  have h2 := bulk_map_ge (f := encF) (g := fun f => 1 + f.code.length) (by intro f; have := len_bulk (e := encI) (by intro x; rw [bulk_I]; omega) f.code; rw [bulk_F]; omega) m.funs
  have h3 : (m.funs.map fun f => 1 + f.code.length).sum = m.funs.length + codeLen m.funs := by
    unfold codeLen
    induction m.funs with
    | nil => rfl
    | cons f l ih => simp only [List.map_cons, List.sum_cons, List.length_cons, ih]; omega
  rw [bulk_M]
  unfold base
  omega

theorem k_CodeChecks {m n : Img} {σ : Sg} (hm : (encM m).bulk ≤ 1048576) (hn : (encM n).bulk ≤ 1048576) : ACalls Try.prog 8 [.v (encM m), .v (encM n)] σ fun r σ' => r = .v (.bool true) := by
  have bm := base_bulk m
  have bn := base_bulk n
  have pm := put_M m
  refine acalls_fit Try.func8 (by kernel_rfl) c8 rfl (by simp [a8]) fun hf => ?_
  clear hf
  simp -implicitDefEqProofs (maxSteps := 2000000) (disch := omega) [-getElem?_pos, a8]
  refine k_Up.then fun r hr => ?_
  subst hr
  simp -implicitDefEqProofs (maxSteps := 2000000) (disch := omega) [-getElem?_pos]
  refine (k_Few (m := m) (by omega)).then fun r ⟨few, hr, hfew⟩ => ?_
  subst hr
  simp -implicitDefEqProofs (maxSteps := 2000000) (disch := omega) [-getElem?_pos]
  refine (k_Few (m := n) (by omega)).then fun r ⟨small, hr, _⟩ => ?_
  subst hr
  simp -implicitDefEqProofs (maxSteps := 2000000) (disch := omega) [-getElem?_pos]
  cases few with
  | false =>
    simp -implicitDefEqProofs (maxSteps := 2000000) (disch := omega) [-getElem?_pos]
    exact .fin _ rfl (.refl _)
  | true =>
  cases small with
  | false =>
    simp -implicitDefEqProofs (maxSteps := 2000000) (disch := omega) [-getElem?_pos]
    exact .fin _ rfl (.refl _)
  | true =>
  simp -implicitDefEqProofs (maxSteps := 2000000) (disch := omega) [-getElem?_pos]
  refine (k_RSound (m := m) (by omega)).then fun r hr => ?_
  subst hr
  simp -implicitDefEqProofs (maxSteps := 2000000) (disch := omega) [-getElem?_pos]
  refine (k_Put (m := m) (by omega) (by omega)).then fun r hr => ?_
  subst hr
  simp -implicitDefEqProofs (maxSteps := 2000000) (disch := omega) [-getElem?_pos]
  have first : ∀ b : Bool, checkS m = b → True := fun _ _ => trivial
  cases hck : checkS m with
  | false =>
    simp -implicitDefEqProofs (maxSteps := 2000000) (disch := omega) [-getElem?_pos, errOf, intCode]
    refine (k_Same (x := m) (y := n)).then fun r hr => ?_
    subst hr
    simp -implicitDefEqProofs (maxSteps := 2000000) (disch := omega) [-getElem?_pos]
    refine (k_RSame (x := m) (y := n)).then fun r hr => ?_
    subst hr
    generalize decide (m = n) = dd
    simp -implicitDefEqProofs (maxSteps := 2000000) (disch := omega) [-getElem?_pos]
    refine (k_Same (x := m) (y := m)).then fun r hr => ?_
    subst hr
    simp -implicitDefEqProofs (maxSteps := 2000000) (disch := omega) [-getElem?_pos]
    refine (k_Check (m := m) (by omega)).then fun r hr => ?_
    subst hr
    simp -implicitDefEqProofs (maxSteps := 2000000) (disch := omega) [-getElem?_pos, hck, errOf, intCode]
    refine (k_Check (m := m) (by omega)).then fun r hr => ?_
    subst hr
    simp -implicitDefEqProofs (maxSteps := 2000000) (disch := omega) [-getElem?_pos, hck, errOf, intCode]
    exact .fin _ rfl (.refl _)
  | true =>
    simp -implicitDefEqProofs (maxSteps := 2000000) (disch := omega) [-getElem?_pos, errOf, intCode]
    refine (k_Same (x := m) (y := n)).then fun r hr => ?_
    subst hr
    simp -implicitDefEqProofs (maxSteps := 2000000) (disch := omega) [-getElem?_pos]
    refine (k_RSame (x := m) (y := n)).then fun r hr => ?_
    subst hr
    generalize decide (m = n) = dd
    simp -implicitDefEqProofs (maxSteps := 2000000) (disch := omega) [-getElem?_pos]
    refine (k_Same (x := m) (y := m)).then fun r hr => ?_
    subst hr
    simp -implicitDefEqProofs (maxSteps := 2000000) (disch := omega) [-getElem?_pos]
    refine (k_Check (m := m) (by omega)).then fun r hr => ?_
    subst hr
    simp -implicitDefEqProofs (maxSteps := 2000000) (disch := omega) [-getElem?_pos, hck, errOf, intCode]
    refine (k_RPut (m := m) (by omega)).then fun r hr => ?_
    subst hr
    simp -implicitDefEqProofs (maxSteps := 2000000) (disch := omega) [-getElem?_pos]
    exact .fin _ rfl (.refl _)

theorem k_CodeBack {m : Img} {bs : List UInt8} {σ : Sg} (hm : (encM m).bulk ≤ 1048576) : ACalls Try.prog 9 [.v (encM m), .v (.sl none false (bytesV bs))] σ fun r σ' => r = .v (.bool true) := by
  have bm := base_bulk m
  have pm := put_M m
  refine acalls_fit Try.func9 (by kernel_rfl) c9 rfl (by simp [a9]) fun hf => ?_
  have hok : okM m := by
    simp at hf
    simpa [okM, okT, okF, okI, in64] using hf.1
  clear hf
  simp -implicitDefEqProofs (maxSteps := 2000000) (disch := omega) [-getElem?_pos, a9]
  refine k_Up.then fun r hr => ?_
  subst hr
  simp -implicitDefEqProofs (maxSteps := 2000000) (disch := omega) [-getElem?_pos]
  refine (k_Few (m := m) (by omega)).then fun r ⟨few, hr, hfew⟩ => ?_
  subst hr
  cases few with
  | false =>
    simp -implicitDefEqProofs (maxSteps := 2000000) (disch := omega) [-getElem?_pos]
    exact .fin _ rfl (.refl _)
  | true =>
  simp -implicitDefEqProofs (maxSteps := 2000000) (disch := omega) [-getElem?_pos]
  refine .mk (fun h1 => ?_) fun h1 => ?_
  · simp -implicitDefEqProofs (maxSteps := 2000000) (disch := omega) [-getElem?_pos]
    exact .fin _ rfl (.refl _)
  simp -implicitDefEqProofs (maxSteps := 2000000) (disch := omega) [-getElem?_pos]
  refine (k_Put (m := m) (by omega) (by omega)).then fun r hr => ?_
  subst hr
  have tail : True := trivial
  cases hck : checkS m with
  | false =>
    simp -implicitDefEqProofs (maxSteps := 2000000) (disch := omega) [-getElem?_pos, errOf, intCode]
    refine (k_Get (bs := bs) (by omega)).then fun r hr => ?_
    subst hr
    cases hg : getS bs with
    | none =>
      simp -implicitDefEqProofs (maxSteps := 2000000) (disch := omega) [-getElem?_pos, intCode]
      exact .fin _ rfl (.refl _)
    | some n =>
      obtain ⟨g1, g2, g3⟩ := getS_got hg
      have hcl := codeLen_putM n
      have hl := congrArg List.length g1
      simp -implicitDefEqProofs (maxSteps := 2000000) (disch := omega) [-getElem?_pos]
      refine (k_Put (m := n) (by omega) (by omega)).then fun r hr => ?_
      subst hr
      simp -implicitDefEqProofs (maxSteps := 2000000) (disch := omega) [-getElem?_pos, g2, errOf, g1]
      refine (k_Check (m := n) (by omega)).then fun r hr => ?_
      subst hr
      simp -implicitDefEqProofs (maxSteps := 2000000) (disch := omega) [-getElem?_pos, g2, errOf]
      exact .fin _ rfl (.refl _)
  | true =>
    simp -implicitDefEqProofs (maxSteps := 2000000) (disch := omega) [-getElem?_pos, errOf, intCode]
    refine (k_Get (bs := putM m) (by omega)).then fun r hr => ?_
    subst hr
    rw [getS_put hok hck]
    simp -implicitDefEqProofs (maxSteps := 2000000) (disch := omega) [-getElem?_pos]
    refine ⟨by omega, by omega, ?_⟩
    rw [show bytesV (putM m) ++ [V.int IntKind.u8 0] = bytesV (putM m ++ [0]) by simp [bytesV]]
    refine ((k_Get (bs := putM m ++ [0]) (by simp; omega)).arg1 .tsl).then fun r hr => ?_
    subst hr
    rw [getS_more hok]
    simp -implicitDefEqProofs (maxSteps := 2000000) (disch := omega) [-getElem?_pos, intCode]
    refine (k_Same (x := m) (y := m)).then fun r hr => ?_
    subst hr
    simp -implicitDefEqProofs (maxSteps := 2000000) (disch := omega) [-getElem?_pos, intCode]
    refine (k_Get (bs := bs) (by omega)).then fun r hr => ?_
    subst hr
    cases hg : getS bs with
    | none =>
      simp -implicitDefEqProofs (maxSteps := 2000000) (disch := omega) [-getElem?_pos, intCode]
      exact .fin _ rfl (.refl _)
    | some n =>
      obtain ⟨g1, g2, g3⟩ := getS_got hg
      have hcl := codeLen_putM n
      have hl := congrArg List.length g1
      simp -implicitDefEqProofs (maxSteps := 2000000) (disch := omega) [-getElem?_pos]
      refine (k_Put (m := n) (by omega) (by omega)).then fun r hr => ?_
      subst hr
      simp -implicitDefEqProofs (maxSteps := 2000000) (disch := omega) [-getElem?_pos, g2, errOf, g1]
      refine (k_Check (m := n) (by omega)).then fun r hr => ?_
      subst hr
      simp -implicitDefEqProofs (maxSteps := 2000000) (disch := omega) [-getElem?_pos, g2, errOf]
      exact .fin _ rfl (.refl _)
end Go.Proofs.Ytcbdnndgnbgnaaa
