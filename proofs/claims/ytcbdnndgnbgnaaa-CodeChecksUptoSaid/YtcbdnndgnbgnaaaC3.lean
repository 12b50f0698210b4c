/-
  Layer 19: images that are sound. (Own work.)
-/
import Derived.Test.YtcbdnndgnbgnaaaC2
set_option linter.unusedVariables false
set_option linter.unusedSimpArgs false
namespace Go.Proofs.Ytcbdnndgnbgnaaa
open Go Go.Abs

@[reducible] def cellsM (m : Img) : Ob := .cells [.v (.sl none false (m.ints.map vi)), .v (.sl none false (m.texts.map .str)), .v (.sl (some 3) false (m.funs.map encF))]
@[reducible] def cellsF (f : Fn) : Ob := .cells [.v (vi f.regs), .v (vi f.caps), .v (.sl (some 3) false (f.code.map encI))]

theorem k_Sound1 {m : Img} {f : Fn} {x : Ins} {o p : Nat} {σ : Sg} (h1 : σ.objs[o]? = some (cellsM m)) (h2 : σ.objs[p]? = some (cellsF f)) : ACalls Try.prog 92 [.v (encI x), .ptr o 0, .ptr p 0] σ fun r σ' => r = .v (.bool (!fitsS m f x)) ∧ σ' = σ := by
  have ho := (List.getElem?_eq_some_iff.1 h1).1
  have hp := (List.getElem?_eq_some_iff.1 h2).1
  refine acalls_fit Try.func92 (by kernel_rfl) c92 rfl (by simp [a92]) fun hf => ?_
  simp -implicitDefEqProofs (maxSteps := 2000000) (disch := omega) [-getElem?_pos, a92, List.getElem?_append_left, h1, h2]
  refine (k_Fits (m := m) (f := f) (x := x)).then fun r hr => ?_
  subst hr
  simp -implicitDefEqProofs (maxSteps := 2000000) (disch := omega) [-getElem?_pos]
  exact .fin _ ⟨rfl, rfl⟩ (.refl _)

def insOf : V → Ins
  | .agg [.int _ a, .int _ b, .sl _ _ l] => ⟨a, b, l.map intOf⟩
  | _ => ⟨0, 0, []⟩
theorem insOf_enc (x : Ins) : insOf (encI x) = x := by
  obtain ⟨a, b, l⟩ := x
  simp only [insOf, List.map_map, Ins.mk.injEq, true_and]
  conv => rhs; rw [← List.map_id l]
  apply List.map_congr_left
  intro n _
  rfl

/-- Is a function of an image sound? -/
def soundS (m : Img) (f : Fn) : Bool := decide (0 ≤ f.caps) && (decide (2 ≤ f.regs) && (decide (f.caps ≤ f.regs - 2) && (decide (f.regs ≤ 4000) && ((f.code.getLast?.elim false fun x => decide (x.op = 23) || decide (x.op = 24)) && f.code.all (fitsS m f)))))

theorem k_Sound {m : Img} {f : Fn} {σ : Sg} : ACalls Try.prog 75 [.v (encM m), .v (encF f)] σ fun r σ' => r = .v (.bool (soundS m f)) ∧ σ' = σ := by
  refine acalls_fit Try.func75 (by kernel_rfl) c75 rfl (by simp [a75]) fun hf => ?_
  simp at hf
  have hr := hf.2.1
  have hcl := hf.2.2.2.1
  clear hf
  simp -implicitDefEqProofs (maxSteps := 2000000) (disch := omega) [-getElem?_pos, a75]
  refine .mk (fun c1 => ?_) fun c1 => ?_
  rotate_left
  · simp -implicitDefEqProofs (maxSteps := 2000000) (disch := omega) [-getElem?_pos]
    exact .fin _ ⟨by simp [soundS, c1], rfl⟩ (.refl _)
  simp -implicitDefEqProofs (maxSteps := 2000000) (disch := omega) [-getElem?_pos]
  refine .mk (fun c2 => ?_) fun c2 => ?_
  rotate_left
  · simp -implicitDefEqProofs (maxSteps := 2000000) (disch := omega) [-getElem?_pos]
    exact .fin _ ⟨by simp [soundS, c2], rfl⟩ (.refl _)
  simp -implicitDefEqProofs (maxSteps := 2000000) (disch := omega) [-getElem?_pos]
  refine .mk (fun c3 => ?_) fun c3 => ?_
  rotate_left
  · simp -implicitDefEqProofs (maxSteps := 2000000) (disch := omega) [-getElem?_pos]
    exact .fin _ ⟨by simp [soundS, c3], rfl⟩ (.refl _)
  simp -implicitDefEqProofs (maxSteps := 2000000) (disch := omega) [-getElem?_pos]
  refine .mk (fun c4 => ?_) fun c4 => ?_
  rotate_left
  · simp -implicitDefEqProofs (maxSteps := 2000000) (disch := omega) [-getElem?_pos]
    exact .fin _ ⟨by simp [soundS, c4], rfl⟩ (.refl _)
  simp -implicitDefEqProofs (maxSteps := 2000000) (disch := omega) [-getElem?_pos]
  refine .mk (fun c5 => ?_) fun c5 => ?_
  · simp -implicitDefEqProofs (maxSteps := 2000000) (disch := omega) [-getElem?_pos]
    exact .fin _ ⟨by simp [soundS, c5], rfl⟩ (.refl _)
  have hpos : 0 < f.code.length := List.length_pos_iff.2 c5
  simp -implicitDefEqProofs (maxSteps := 2000000) (disch := omega) [-getElem?_pos]
  repeat refine ⟨by omega, ?_⟩
  intro x hx
  have hlast : f.code.getLast? = some x := by rw [List.getLast?_eq_getElem?, ← hx]
  have hsound : soundS m f = ((decide (x.op = 23) || decide (x.op = 24)) && f.code.all (fitsS m f)) := by simp [soundS, c1, c2, c3, c4, hlast]
  rw [hsound]
  have tail : ∀ σ1 : Sg, σ1.objs[σ.objs.length]? = some (cellsM m) → σ1.objs[σ.objs.length + 1]? = some (cellsF f) →
      ACalls Try.prog 91 [.v (.sl (some 3) false (f.code.map encI)), .fn 92 [.ptr σ.objs.length 0, .ptr (σ.objs.length + 1) 0]] σ1 fun r σ' => r = .v (.bool (!f.code.all (fitsS m f))) ∧ σ' = σ1 := by
    intro σ1 h1 h2
    refine (k_ContainsFuncInstr (p := fun y => !fitsS m f (insOf y)) fun y hy => ?_).then fun r hr => ?_
    · obtain ⟨x, _, rfl⟩ := List.mem_map.1 hy
      have := k_Sound1 (m := m) (f := f) (x := x) h1 h2
      simpa [insOf_enc] using this
    · subst hr
      refine ⟨?_, rfl⟩
      rw [List.any_map]
      simp [Function.comp_def, insOf_enc, List.not_all_eq_any_not]
  refine .mk (fun c6 => ?_) fun c6 => ?_
  · simp -implicitDefEqProofs (maxSteps := 2000000) (disch := omega) [-getElem?_pos]
    refine (tail _ (by simp) (by simp)).then fun r hr => ?_
    subst hr
    simp -implicitDefEqProofs (maxSteps := 2000000) (disch := omega) [-getElem?_pos]
    exact .fin _ ⟨by simp [c6], rfl⟩ (.refl _)
  simp -implicitDefEqProofs (maxSteps := 2000000) (disch := omega) [-getElem?_pos]
  refine .mk (fun c7 => ?_) fun c7 => ?_
  · simp -implicitDefEqProofs (maxSteps := 2000000) (disch := omega) [-getElem?_pos]
    refine (tail _ (by simp) (by simp)).then fun r hr => ?_
    subst hr
    simp -implicitDefEqProofs (maxSteps := 2000000) (disch := omega) [-getElem?_pos]
    exact .fin _ ⟨by simp [c7], rfl⟩ (.refl _)
  · simp -implicitDefEqProofs (maxSteps := 2000000) (disch := omega) [-getElem?_pos]
    exact .fin _ ⟨by simp [c6, c7], rfl⟩ (.refl _)

theorem k_Check1 {s : List UInt8} {σ : Sg} : ACalls Try.prog 73 [.v (.str s)] σ fun r σ' => r = .v (.bool (decide (2000 < s.length))) ∧ σ' = σ := by
  refine acalls_fit Try.func73 (by kernel_rfl) c73 rfl (by simp [a73]) fun hf => ?_
  simp -implicitDefEqProofs (maxSteps := 2000000) (disch := omega) [-getElem?_pos, a73]
  exact .fin _ ⟨by simp; omega, rfl⟩ (.refl _)

theorem k_Check2 {m : Img} {f : Fn} {o : Nat} {σ : Sg} (h1 : σ.objs[o]? = some (cellsM m)) : ACalls Try.prog 74 [.v (encF f), .ptr o 0] σ fun r σ' => r = .v (.bool (!soundS m f)) ∧ σ' = σ := by
  have ho := (List.getElem?_eq_some_iff.1 h1).1
  refine acalls_fit Try.func74 (by kernel_rfl) c74 rfl (by simp [a74]) fun hf => ?_
  simp -implicitDefEqProofs (maxSteps := 2000000) (disch := omega) [-getElem?_pos, a74, List.getElem?_append_left, h1]
  refine (k_Sound (m := m) (f := f)).then fun r hr => ?_
  subst hr
  simp -implicitDefEqProofs (maxSteps := 2000000) (disch := omega) [-getElem?_pos]
  exact .fin _ ⟨rfl, rfl⟩ (.refl _)

def codeLen (l : List Fn) : Nat := (l.map fun f => f.code.length).sum

/-- Is an image sound? -/
def checkS (m : Img) : Bool := decide (1 ≤ m.funs.length) && (decide (m.funs.length ≤ 2000) && (decide (codeLen m.funs ≤ 20000) && ((m.funs[0]?.elim false fun f => decide (f.caps = 0)) && (m.texts.all (fun s => decide (s.length ≤ 2000)) && m.funs.all (soundS m)))))

@[reducible] def codeErr : V := .iface 32 (.int .i64 10)
@[reducible] def errOf (b : Bool) (c : V) : V := if b = true then .inil else c

def fnOf : V → Fn
  | .agg [.int _ a, .int _ b, .sl _ _ l] => ⟨a, b, l.map insOf⟩
  | _ => ⟨0, 0, []⟩
theorem fnOf_enc (x : Fn) : fnOf (encF x) = x := by
  obtain ⟨a, b, l⟩ := x
  simp only [fnOf, List.map_map, Fn.mk.injEq, true_and]
  conv => rhs; rw [← List.map_id l]
  apply List.map_congr_left
  intro n _
  exact insOf_enc n

theorem k_Check {m : Img} {σ : Sg} (hb : codeLen m.funs ≤ 1000000000) : ACalls Try.prog 48 [.v (encM m)] σ fun r σ' => r = .v (errOf (checkS m) codeErr) ∧ σ' = σ := by
  refine acalls_fit Try.func48 (by kernel_rfl) c48 rfl (by simp [a48]) fun hf => ?_
  have hfl : m.funs.length ≤ 9223372036854775807 := by simp at hf; exact hf.2.2.1
  clear hf
  simp -implicitDefEqProofs (maxSteps := 2000000) (disch := omega) [-getElem?_pos, a48]
  refine W_loop (α := Nat) 0 (fun i => m.funs.length - i)
    (fun i => ⟨[(1, .ptr σ.objs.length 0), (3, .v (vi (codeLen (m.funs.take i)))), (9, .v (.sl (some 3) false (m.funs.map encF))), (10, .v (.int .i64 m.funs.length)), (11, .v (.int .i64 i))], ⟨σ.objs ++ [cellsM m], σ.toks⟩⟩) (fun i => i ≤ m.funs.length)
    (.eq ?_) (by omega) fun i hi => ?_
  · simp [codeLen]
  have hle : ∀ i, codeLen (m.funs.take i) ≤ codeLen m.funs := fun i => by
    unfold codeLen
    rw [List.map_take]
    conv => rhs; rw [← List.take_append_drop i (m.funs.map fun f => f.code.length)]
    rw [List.sum_append]
    omega
  simp -implicitDefEqProofs (maxSteps := 2000000) (disch := omega) [-getElem?_pos]
  refine .mk (fun h => ?_) fun h => ?_
  · simp -implicitDefEqProofs (maxSteps := 2000000) (disch := omega) [-getElem?_pos]
    refine ⟨by omega, fun g hg => ?_⟩
    have h1 := hle (i + 1)
    have h2 : codeLen (m.funs.take (i + 1)) = codeLen (m.funs.take i) + g.code.length := by simp [codeLen, List.take_add_one, hg]
    simp -implicitDefEqProofs (maxSteps := 2000000) (disch := omega) [-getElem?_pos]
    refine ⟨i + 1, by omega, by dsimp only; omega, .dropX (ys := [cellsM m]) rfl rfl (by simp) (by simp) ?_ (by simp)⟩
    simp [h2]
  · have hi : i = m.funs.length := by omega
    subst hi
    simp only [List.take_length]
    simp -implicitDefEqProofs (maxSteps := 2000000) (disch := omega) [-getElem?_pos]
    refine .mk (fun c1 => ?_) fun c1 => ?_
    rotate_left
    · simp -implicitDefEqProofs (maxSteps := 2000000) (disch := omega) [-getElem?_pos]
      exact .fin _ ⟨by rw [show checkS m = false by simp [checkS]; omega]; rfl, rfl⟩ (.refl _)
    simp -implicitDefEqProofs (maxSteps := 2000000) (disch := omega) [-getElem?_pos]
    refine .mk (fun c2 => ?_) fun c2 => ?_
    rotate_left
    · simp -implicitDefEqProofs (maxSteps := 2000000) (disch := omega) [-getElem?_pos]
      exact .fin _ ⟨by rw [show checkS m = false by simp [checkS]; omega]; rfl, rfl⟩ (.refl _)
    simp -implicitDefEqProofs (maxSteps := 2000000) (disch := omega) [-getElem?_pos]
    refine .mk (fun c3 => ?_) fun c3 => ?_
    rotate_left
    · simp -implicitDefEqProofs (maxSteps := 2000000) (disch := omega) [-getElem?_pos]
      exact .fin _ ⟨by rw [show checkS m = false by simp [checkS]; omega]; rfl, rfl⟩ (.refl _)
    simp -implicitDefEqProofs (maxSteps := 2000000) (disch := omega) [-getElem?_pos]
    repeat refine ⟨by omega, ?_⟩
    intro g hg
    refine .mk (fun c4 => ?_) fun c4 => ?_
    rotate_left
    · simp -implicitDefEqProofs (maxSteps := 2000000) (disch := omega) [-getElem?_pos]
      exact .fin _ ⟨by rw [show checkS m = false by simp [-getElem?_pos, checkS, hg, c4]]; rfl, rfl⟩ (.refl _)
    simp -implicitDefEqProofs (maxSteps := 2000000) (disch := omega) [-getElem?_pos]
    refine (k_ContainsFuncStr (p := fun y => match y with | .str s => decide (2000 < s.length) | _ => false) fun y hy => ?_).then fun r hr => ?_
    · obtain ⟨s, _, rfl⟩ := List.mem_map.1 hy
      exact k_Check1
    subst hr
    have e1 : ((m.texts.map V.str).any fun y => match y with | .str s => decide (2000 < s.length) | _ => false) = !m.texts.all fun s => decide (s.length ≤ 2000) := by
      rw [List.any_map, List.not_all_eq_any_not]
      congr 1
      funext s
      simp only [Function.comp]
      rw [Bool.eq_iff_iff]
      simp
    rw [e1]
    have hck : checkS m = (m.texts.all (fun s => decide (s.length ≤ 2000)) && m.funs.all (soundS m)) := by
      have c1' : 1 ≤ m.funs.length := by omega
      have c2' : m.funs.length ≤ 2000 := by omega
      have c3' : codeLen m.funs ≤ 20000 := by omega
      simp only [checkS, c1', c2', c3', decide_true, Bool.true_and]
      simp [-getElem?_pos, hg, c4]
    rw [hck]
    cases ht : m.texts.all fun s => decide (s.length ≤ 2000) with
    | false =>
      simp -implicitDefEqProofs (maxSteps := 2000000) (disch := omega) [-getElem?_pos]
      exact .fin _ ⟨rfl, rfl⟩ (.refl _)
    | true =>
    simp -implicitDefEqProofs (maxSteps := 2000000) (disch := omega) [-getElem?_pos]
    refine (k_ContainsFuncFunc (p := fun y => !soundS m (fnOf y)) fun y hy => ?_).then fun r hr => ?_
    · obtain ⟨x, _, rfl⟩ := List.mem_map.1 hy
      have := k_Check2 (m := m) (f := x) (o := σ.objs.length) (σ := ⟨σ.objs ++ [cellsM m], σ.toks⟩) (by simp)
      simpa [fnOf_enc] using this
    subst hr
    have e2 : ((m.funs.map encF).any fun y => !soundS m (fnOf y)) = !m.funs.all (soundS m) := by
      rw [List.any_map]
      simp [Function.comp_def, fnOf_enc, List.not_all_eq_any_not]
    rw [e2]
    cases m.funs.all (soundS m) with
    | false =>
      simp -implicitDefEqProofs (maxSteps := 2000000) (disch := omega) [-getElem?_pos]
      exact .fin _ ⟨rfl, rfl⟩ (.refl _)
    | true =>
      simp -implicitDefEqProofs (maxSteps := 2000000) (disch := omega) [-getElem?_pos]
      exact .fin _ ⟨rfl, rfl⟩ (.refl _)
end Go.Proofs.Ytcbdnndgnbgnaaa
