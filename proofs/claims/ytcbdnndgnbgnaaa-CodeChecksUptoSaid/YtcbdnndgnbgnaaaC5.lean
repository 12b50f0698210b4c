/-
  Layer 19: the document's answer, whether an image is sound, is that of the code. (Own work.)
-/
import Derived.Test.YtcbdnndgnbgnaaaC4
set_option linter.unusedVariables false
set_option linter.unusedSimpArgs false
namespace Go.Proofs.Ytcbdnndgnbgnaaa
open Go Go.Abs

def chk (m : Img) : List Fn → Nat → Bool
  | [], _ => true
  | f :: l, i => (decide (i ≠ 0 ∨ f.caps = 0) && soundS m f) && chk m l (i + 1)

theorem chk_pos {m : Img} : ∀ (l : List Fn) (i : Nat), 0 < i → chk m l i = l.all (soundS m)
  | [], _, _ => rfl
  | f :: l, i, h => by simp [chk, chk_pos l (i + 1) (by omega), List.all_cons, show ¬ i = 0 by omega]

theorem checkS_chk (m : Img) : checkS m = (decide (1 ≤ m.funs.length ∧ m.funs.length ≤ 2000) && (m.texts.all (fun s => decide (s.length ≤ 2000)) && (decide (codeLen m.funs ≤ 20000) && chk m m.funs 0))) := by
  obtain ⟨ints, texts, funs⟩ := m
  cases funs with
  | nil => simp [checkS]
  | cons f l =>
    simp only [checkS, chk, chk_pos l (0 + 1) (by omega), List.all_cons]
    simp [Bool.and_comm, Bool.and_left_comm, Bool.and_assoc]

theorem codeLen_cons (f : Fn) (l : List Fn) : codeLen (f :: l) = f.code.length + codeLen l := by simp [codeLen]
theorem codeLen_append (a b : List Fn) : codeLen (a ++ b) = codeLen a + codeLen b := by simp [codeLen]

theorem sound_ar {m : Img} {f : Fn} (h : ¬ (0 ≤ f.caps ∧ f.caps ≤ f.regs - 2 ∧ f.regs ≤ 4000)) : soundS m f = false := by
  unfold soundS
  by_cases h1 : 0 ≤ f.caps <;> by_cases h2 : 2 ≤ f.regs <;> by_cases h3 : f.caps ≤ f.regs - 2 <;> by_cases h4 : f.regs ≤ 4000 <;> simp [h1, h2, h3, h4] <;> omega
theorem sound_nil {m : Img} {f : Fn} (h : f.code = []) : soundS m f = false := by simp [soundS, h]
theorem sound_op {m : Img} {f : Fn} {x : Ins} (hx : f.code[f.code.length - 1]? = some x) (h1 : ¬ x.op = 23) (h2 : ¬ x.op = 24) : soundS m f = false := by
  simp [soundS, List.getLast?_eq_getElem?, hx, h1, h2]
theorem sound_all {m : Img} {f : Fn} {x : Ins} (ha : 0 ≤ f.caps ∧ f.caps ≤ f.regs - 2 ∧ f.regs ≤ 4000) (hx : f.code[f.code.length - 1]? = some x) (h1 : x.op = 23 ∨ x.op = 24) : soundS m f = f.code.all (fitsS m f) := by
  have h2 : (2 : Int) ≤ f.regs := by omega
  simp [soundS, List.getLast?_eq_getElem?, hx, ha, h2]
  rcases h1 with h | h <;> simp [h]

theorem k_RSound {m : Img} {σ : Sg} (hb : codeLen m.funs ≤ 1000000000) : ACalls Try.prog 44 [.v (encM m)] σ fun r σ' => r = .v (.bool (checkS m)) ∧ σ' = σ := by
  refine acalls_fit Try.func44 (by kernel_rfl) c44 rfl (by simp [a44]) fun hf => ?_
  have hfl : m.funs.length ≤ 9223372036854775807 := by simp at hf; exact hf.2.2.1
  have htl : m.texts.length ≤ 9223372036854775807 := by simp at hf; exact hf.2.1.1
  clear hf
  have hck := checkS_chk m
  simp -implicitDefEqProofs (maxSteps := 2000000) (disch := omega) [-getElem?_pos, a44]
  refine .mk (fun c1 => ?_) fun c1 => ?_
  · simp -implicitDefEqProofs (maxSteps := 2000000) (disch := omega) [-getElem?_pos]
    refine .fin _ ⟨?_, rfl⟩ (.refl _)
    rw [hck]; simp [c1]
  simp -implicitDefEqProofs (maxSteps := 2000000) (disch := omega) [-getElem?_pos]
  refine .mk (fun c2 => ?_) fun c2 => ?_
  · simp -implicitDefEqProofs (maxSteps := 2000000) (disch := omega) [-getElem?_pos]
    refine .fin _ ⟨?_, rfl⟩ (.refl _)
    rw [hck, decide_eq_false (by omega)]; simp
  have hp : 1 ≤ m.funs.length := List.length_pos_iff.2 c1
  rw [decide_eq_true ⟨hp, by omega⟩, Bool.true_and] at hck
  simp -implicitDefEqProofs (maxSteps := 2000000) (disch := omega) [-getElem?_pos]
  refine W_loop (α := Nat) 0 (fun i => m.texts.length - i) (fun i => ⟨[(1, .ptr σ.objs.length 0), (3, .v (vi 0)), (4, .v (.int .i64 i))], ⟨σ.objs ++ [cellsM m], σ.toks⟩⟩) (fun i => i ≤ m.texts.length ∧ m.texts.all (fun s => decide (s.length ≤ 2000)) = (m.texts.drop i).all (fun s => decide (s.length ≤ 2000))) (.eq (by simp)) ⟨by omega, by simp⟩ fun i ⟨hi, hta⟩ => ?_
  simp -implicitDefEqProofs (maxSteps := 2000000) (disch := omega) [-getElem?_pos]
  refine .mk (fun h => ?_) fun h => ?_
  · simp -implicitDefEqProofs (maxSteps := 2000000) (disch := omega) [-getElem?_pos]
    refine ⟨by omega, fun s hs => ?_⟩
    have hd := drop_cons hs
    rw [hd, List.all_cons] at hta
    refine .mk (fun h2 => ?_) fun h2 => ?_
    · simp -implicitDefEqProofs (maxSteps := 2000000) (disch := omega) [-getElem?_pos]
      refine .fin _ ⟨?_, rfl⟩ (.refl _)
      rw [hck, hta, decide_eq_false (by omega)]; simp
    · simp -implicitDefEqProofs (maxSteps := 2000000) (disch := omega) [-getElem?_pos]
      refine ⟨i + 1, ⟨by omega, ?_⟩, by dsimp only; omega, .eq (by simp)⟩
      rw [hta, decide_eq_true (by omega), Bool.true_and]
  rw [List.drop_eq_nil_of_le (by omega)] at hta
  rw [hta] at hck
  simp only [List.all_nil, Bool.true_and] at hck
  clear hta
  simp -implicitDefEqProofs (maxSteps := 2000000) (disch := omega) [-getElem?_pos]
  refine W_loop (α := Nat) 0 (fun i => m.funs.length - i) (fun i => ⟨[(1, .ptr σ.objs.length 0), (3, .v (vi (codeLen (m.funs.take i)))), (5, .v (.int .i64 i))], ⟨σ.objs ++ [cellsM m], σ.toks⟩⟩) (fun i => i ≤ m.funs.length ∧ chk m m.funs 0 = chk m (m.funs.drop i) i) (.eq (by simp [codeLen])) ⟨by omega, by simp⟩ fun i ⟨hi, hfa⟩ => ?_
  have hcl : codeLen (m.funs.take i) + codeLen (m.funs.drop i) = codeLen m.funs := by rw [← codeLen_append, List.take_append_drop]
  simp -implicitDefEqProofs (maxSteps := 2000000) (disch := omega) [-getElem?_pos]
  refine .mk (fun h => ?_) fun h => ?_
  · simp -implicitDefEqProofs (maxSteps := 2000000) (disch := omega) [-getElem?_pos]
    refine ⟨by omega, fun f hf => ?_⟩
    have hd := drop_cons hf
    rw [hd] at hfa hcl
    simp only [chk] at hfa
    rw [codeLen_cons] at hcl
    simp -implicitDefEqProofs (maxSteps := 2000000) (disch := omega) [-getElem?_pos]
    repeat' (first
      | (refine And.intro (by omega) ?_)
      | (refine Br.mk (fun hb => ?_) (fun hb => ?_) <;> simp -implicitDefEqProofs (maxSteps := 2000000) (disch := omega) [-getElem?_pos]))
    all_goals first
      | (refine .fin _ ⟨?_, rfl⟩ (.refl _); rw [hck, hfa, sound_ar (by omega)]; simp; done)
      | (refine .fin _ ⟨?_, rfl⟩ (.refl _); rw [hck, hfa, sound_nil (by assumption)]; simp; done)
      | (refine .fin _ ⟨?_, rfl⟩ (.refl _); rw [hck, hfa, show decide (i ≠ 0 ∨ f.caps = 0) = false from decide_eq_false (by omega)]; simp; done)
      | skip
    all_goals
      have hpos : 0 < f.code.length := List.length_pos_iff.2 (by assumption)
      have hcond : decide (i ≠ 0 ∨ f.caps = 0) = true := decide_eq_true (by omega)
      rw [hcond, Bool.true_and] at hfa
      clear hcond
      refine ⟨by omega, by omega, fun x hx => ?_⟩
      have tail : x.op = 23 ∨ x.op = 24 → soundS m f = f.code.all (fitsS m f) := sound_all (by omega) hx
      refine .mk (fun h1 => ?_) fun h1 => ?_
      rotate_left
      · simp -implicitDefEqProofs (maxSteps := 2000000) (disch := omega) [-getElem?_pos]
        refine .mk (fun h2 => ?_) fun h2 => ?_
        rotate_left
        · simp -implicitDefEqProofs (maxSteps := 2000000) (disch := omega) [-getElem?_pos]
          refine .fin _ ⟨?_, rfl⟩ (.refl _)
          rw [hck, hfa, sound_op hx h1 h2]; simp
        replace tail := tail (.inr h2)
        rw [tail] at hfa
        clear tail
        simp -implicitDefEqProofs (maxSteps := 2000000) (disch := omega) [-getElem?_pos]
        refine W_loop (α := Nat) 0 (fun j => f.code.length - j) (fun j => ⟨[(1, .ptr σ.objs.length 0), (3, .v (vi (codeLen (m.funs.take i) + f.code.length))), (5, .v (.int .i64 i)), (6, .ptr (σ.objs.length + 1) 0), (7, .v (.int .i64 f.code.length)), (9, .v (.int .i64 j))], ⟨σ.objs ++ [cellsM m, cellsF f], σ.toks⟩⟩) (fun j => j ≤ f.code.length ∧ f.code.all (fitsS m f) = (f.code.drop j).all (fitsS m f)) (.eq (by simp)) ⟨by omega, by simp⟩ fun j ⟨hj, hja⟩ => ?_
        simp -implicitDefEqProofs (maxSteps := 2000000) (disch := omega) [-getElem?_pos]
        refine .mk (fun h => ?_) fun h => ?_
        · simp -implicitDefEqProofs (maxSteps := 2000000) (disch := omega) [-getElem?_pos]
          refine ⟨by omega, fun y hy => ?_⟩
          refine (k_RFits (m := m) (f := f) (x := y)).then fun r hr => ?_
          subst hr
          have hd := drop_cons hy
          rw [hd, List.all_cons] at hja
          simp -implicitDefEqProofs (maxSteps := 2000000) (disch := omega) [-getElem?_pos]
          refine .mk (fun h2 => ?_) fun h2 => ?_
          · simp -implicitDefEqProofs (maxSteps := 2000000) (disch := omega) [-getElem?_pos]
            refine ⟨j + 1, ⟨by omega, ?_⟩, by dsimp only; omega, .eq (by simp)⟩
            rw [hja, h2, Bool.true_and]
          · simp -implicitDefEqProofs (maxSteps := 2000000) (disch := omega) [-getElem?_pos]
            refine .fin _ ⟨?_, rfl⟩ (.refl _)
            rw [hck, hfa, hja, eq_false_of_ne_true h2]; simp
        · simp -implicitDefEqProofs (maxSteps := 2000000) (disch := omega) [-getElem?_pos]
          rw [List.drop_eq_nil_of_le (by omega)] at hja
          rw [hja] at hfa
          refine ⟨i + 1, ⟨by omega, ?_⟩, by dsimp only; omega, .dropX (ys := [cellsM m]) rfl rfl (by simp) (by simp) ?_ (by simp)⟩
          · rw [hfa]; simp
          · rw [List.take_add_one, hf, codeLen_append]; simp [codeLen]

      · replace tail := tail (.inl h1)
        rw [tail] at hfa
        clear tail
        simp -implicitDefEqProofs (maxSteps := 2000000) (disch := omega) [-getElem?_pos]
        refine W_loop (α := Nat) 0 (fun j => f.code.length - j) (fun j => ⟨[(1, .ptr σ.objs.length 0), (3, .v (vi (codeLen (m.funs.take i) + f.code.length))), (5, .v (.int .i64 i)), (6, .ptr (σ.objs.length + 1) 0), (7, .v (.int .i64 f.code.length)), (9, .v (.int .i64 j))], ⟨σ.objs ++ [cellsM m, cellsF f], σ.toks⟩⟩) (fun j => j ≤ f.code.length ∧ f.code.all (fitsS m f) = (f.code.drop j).all (fitsS m f)) (.eq (by simp)) ⟨by omega, by simp⟩ fun j ⟨hj, hja⟩ => ?_
        simp -implicitDefEqProofs (maxSteps := 2000000) (disch := omega) [-getElem?_pos]
        refine .mk (fun h => ?_) fun h => ?_
        · simp -implicitDefEqProofs (maxSteps := 2000000) (disch := omega) [-getElem?_pos]
          refine ⟨by omega, fun y hy => ?_⟩
          refine (k_RFits (m := m) (f := f) (x := y)).then fun r hr => ?_
          subst hr
          have hd := drop_cons hy
          rw [hd, List.all_cons] at hja
          simp -implicitDefEqProofs (maxSteps := 2000000) (disch := omega) [-getElem?_pos]
          refine .mk (fun h2 => ?_) fun h2 => ?_
          · simp -implicitDefEqProofs (maxSteps := 2000000) (disch := omega) [-getElem?_pos]
            refine ⟨j + 1, ⟨by omega, ?_⟩, by dsimp only; omega, .eq (by simp)⟩
            rw [hja, h2, Bool.true_and]
          · simp -implicitDefEqProofs (maxSteps := 2000000) (disch := omega) [-getElem?_pos]
            refine .fin _ ⟨?_, rfl⟩ (.refl _)
            rw [hck, hfa, hja, eq_false_of_ne_true h2]; simp
        · simp -implicitDefEqProofs (maxSteps := 2000000) (disch := omega) [-getElem?_pos]
          rw [List.drop_eq_nil_of_le (by omega)] at hja
          rw [hja] at hfa
          refine ⟨i + 1, ⟨by omega, ?_⟩, by dsimp only; omega, .dropX (ys := [cellsM m]) rfl rfl (by simp) (by simp) ?_ (by simp)⟩
          · rw [hfa]; simp
          · rw [List.take_add_one, hf, codeLen_append]; simp [codeLen]

  · simp -implicitDefEqProofs (maxSteps := 2000000) (disch := omega) [-getElem?_pos]
    refine .fin _ ⟨?_, rfl⟩ (.refl _)
    rw [List.take_of_length_le (by omega)]
    rw [hck, hfa, List.drop_eq_nil_of_le (by omega)]
    simp [chk]
    omega

def base (m : Img) : Nat := m.ints.length + m.texts.length + m.funs.length
structure FewP (m : Img) : Prop where
  n : base m + codeLen m.funs ≤ 500
  t : ∀ s ∈ m.texts, s.length ≤ 3000
  a : ∀ f ∈ m.funs, ∀ x ∈ f.code, x.l.length ≤ 50

def FewR (m : Img) (r : D) : Prop := ∃ b, r = .v (.bool b) ∧ (b = true → FewP m)

theorem k_Few {m : Img} {σ : Sg} (hb : base m + codeLen m.funs ≤ 100000000) : ACalls Try.prog 43 [.v (encM m)] σ fun r σ' => FewR m r ∧ σ' = σ := by
  refine acalls_fit Try.func43 (by kernel_rfl) c43 rfl (by simp [a43]) fun hf => ?_
  clear hf
  unfold base at hb
  simp -implicitDefEqProofs (maxSteps := 2000000) (disch := omega) [-getElem?_pos, a43]
  refine W_loop (α := Nat) 0 (fun i => m.texts.length - i) (fun i => ⟨[(1, .ptr σ.objs.length 0), (3, .v (vi (base m))), (4, .v (.int .i64 i))], ⟨σ.objs ++ [cellsM m], σ.toks⟩⟩) (fun i => i ≤ m.texts.length ∧ ∀ s ∈ m.texts.take i, s.length ≤ 3000) (.eq (by simp [base])) ⟨by omega, by simp⟩ fun i ⟨hi, hta⟩ => ?_
  simp -implicitDefEqProofs (maxSteps := 2000000) (disch := omega) [-getElem?_pos]
  refine .mk (fun h => ?_) fun h => ?_
  · simp -implicitDefEqProofs (maxSteps := 2000000) (disch := omega) [-getElem?_pos]
    refine ⟨by omega, fun s hs => ?_⟩
    refine .mk (fun h2 => ?_) fun h2 => ?_
    · simp -implicitDefEqProofs (maxSteps := 2000000) (disch := omega) [-getElem?_pos]
      exact .fin _ ⟨⟨_, rfl, by simp⟩, rfl⟩ (.refl _)
    · simp -implicitDefEqProofs (maxSteps := 2000000) (disch := omega) [-getElem?_pos]
      refine ⟨i + 1, ⟨by omega, ?_⟩, by dsimp only; omega, .eq (by simp)⟩
      rw [List.take_add_one, hs]
      simp only [List.mem_append, Option.toList_some, List.mem_singleton]
      rintro s' (h' | rfl)
      · exact hta _ h'
      · omega
  rw [List.take_of_length_le (by omega)] at hta
  simp -implicitDefEqProofs (maxSteps := 2000000) (disch := omega) [-getElem?_pos]
  refine W_loop (α := Nat) 0 (fun i => m.funs.length - i) (fun i => ⟨[(1, .ptr σ.objs.length 0), (3, .v (vi (base m + codeLen (m.funs.take i)))), (5, .v (.int .i64 i))], ⟨σ.objs ++ [cellsM m], σ.toks⟩⟩) (fun i => i ≤ m.funs.length ∧ (base m + codeLen (m.funs.take i) ≤ 500 → ∀ f ∈ m.funs.take i, ∀ x ∈ f.code, x.l.length ≤ 50)) (.eq (by simp [codeLen])) ⟨by omega, by simp⟩ fun i ⟨hi, hfa⟩ => ?_
  have hcl : codeLen (m.funs.take i) + codeLen (m.funs.drop i) = codeLen m.funs := by rw [← codeLen_append, List.take_append_drop]
  have hbd : base m = m.ints.length + m.texts.length + m.funs.length := rfl
  simp -implicitDefEqProofs (maxSteps := 2000000) (disch := omega) [-getElem?_pos]
  repeat' (first
    | (refine And.intro (by omega) ?_)
    | (refine Br.mk (fun hb => ?_) (fun hb => ?_) <;> simp -implicitDefEqProofs (maxSteps := 2000000) (disch := omega) [-getElem?_pos]))
  · intro f hf
    have hd := drop_cons hf
    rw [hd, codeLen_cons] at hcl
    have hargs : f.code.length ≤ 100000000 := by omega
    refine W_loop (α := Nat) 0 (fun j => f.code.length - j) (fun j => ⟨[(1, .ptr σ.objs.length 0), (3, .v (vi (base m + codeLen (m.funs.take i) + f.code.length))), (5, .v (.int .i64 i)), (6, .v (.int .i64 j))], ⟨σ.objs ++ [cellsM m], σ.toks⟩⟩) (fun j => j ≤ f.code.length ∧ (base m + codeLen (m.funs.take i) + f.code.length ≤ 500 → ∀ x ∈ f.code.take j, x.l.length ≤ 50)) (.eq (by simp -implicitDefEqProofs (maxSteps := 2000000) (disch := omega) [-getElem?_pos])) ⟨by omega, by simp⟩ fun j ⟨hj, hja⟩ => ?_
    have htk : codeLen (m.funs.take (i + 1)) = codeLen (m.funs.take i) + f.code.length := by rw [List.take_add_one, hf, codeLen_append]; simp [codeLen]
    simp -implicitDefEqProofs (maxSteps := 2000000) (disch := omega) [-getElem?_pos]
    refine ⟨by omega, fun f' hf' => ?_⟩
    obtain rfl : f' = f := by rw [hf] at hf'; exact (Option.some.inj hf').symm
    refine .mk (fun h1 => ?_) fun h1 => ?_
    · simp -implicitDefEqProofs (maxSteps := 2000000) (disch := omega) [-getElem?_pos]
      refine .mk (fun h2 => ?_) fun h2 => ?_
      · simp -implicitDefEqProofs (maxSteps := 2000000) (disch := omega) [-getElem?_pos]
        refine ⟨by omega, fun f2 hf2 => ?_⟩
        obtain rfl : f2 = f' := by rw [hf] at hf2; exact (Option.some.inj hf2).symm
        refine ⟨by omega, fun x hx => ?_⟩
        refine .mk (fun h3 => ?_) fun h3 => ?_
        · simp -implicitDefEqProofs (maxSteps := 2000000) (disch := omega) [-getElem?_pos]
          exact .fin _ ⟨⟨_, rfl, by simp⟩, rfl⟩ (.refl _)
        · simp -implicitDefEqProofs (maxSteps := 2000000) (disch := omega) [-getElem?_pos]
          refine ⟨j + 1, ⟨by omega, fun h5 => ?_⟩, by dsimp only; omega, .eq (by simp)⟩
          rw [List.take_add_one, hx]
          simp only [List.mem_append, Option.toList_some, List.mem_singleton]
          rintro x' (h' | rfl)
          · exact hja h5 _ h'
          · omega
      · simp -implicitDefEqProofs (maxSteps := 2000000) (disch := omega) [-getElem?_pos]
        refine ⟨i + 1, ⟨by omega, fun h5 => absurd (show base m + codeLen (m.funs.take (i + 1)) ≤ 500 from h5) (by omega)⟩, by dsimp only; omega, .eq (by simp [htk, Int.add_assoc])⟩
    · simp -implicitDefEqProofs (maxSteps := 2000000) (disch := omega) [-getElem?_pos]
      rw [List.take_of_length_le (l := f'.code) (i := j) (by omega)] at hja
      refine ⟨i + 1, ⟨by omega, fun h5 => ?_⟩, by dsimp only; omega, .eq (by simp [htk, Int.add_assoc])⟩
      replace h5 : base m + codeLen (m.funs.take (i + 1)) ≤ 500 := h5
      rw [List.take_add_one, hf]
      simp only [List.mem_append, Option.toList_some, List.mem_singleton]
      rintro g (h' | rfl)
      · exact hfa (by omega) _ h'
      · exact hja (by omega)
  · exact .fin _ ⟨⟨_, rfl, fun h => absurd (of_decide_eq_true h) (by omega)⟩, rfl⟩ (.refl _)
  · refine .fin _ ⟨⟨_, rfl, fun h => ?_⟩, rfl⟩ (.refl _)
    have h5 := of_decide_eq_true h
    rw [List.take_of_length_le (by omega)] at h5 hfa
    exact ⟨by omega, hta, hfa (by omega)⟩
end Go.Proofs.Ytcbdnndgnbgnaaa
