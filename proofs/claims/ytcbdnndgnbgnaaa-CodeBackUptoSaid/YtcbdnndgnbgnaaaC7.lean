/-
  Layer 19: images as bytes, the document's. (Own work.)
-/
import Derived.Test.YtcbdnndgnbgnaaaC6
set_option linter.unusedVariables false
set_option linter.unusedSimpArgs false
namespace Go.Proofs.Ytcbdnndgnbgnaaa
open Go Go.Abs

def putL {α : Type} (p : α → List UInt8) : List α → List UInt8
  | [] => []
  | x :: l => p x ++ putL p l
def putT (s : List UInt8) : List UInt8 := leb s.length ++ s
def putI (x : Ins) : List UInt8 := leb x.op ++ (leb x.a ++ (leb x.l.length ++ putL leb x.l))
def putF (f : Fn) : List UInt8 := leb f.regs ++ (leb f.caps ++ (leb f.code.length ++ putL putI f.code))
def putM (m : Img) : List UInt8 := leb m.ints.length ++ (putL leb m.ints ++ (leb m.texts.length ++ (putL putT m.texts ++ (leb m.funs.length ++ putL putF m.funs))))

structure PSt where
  i : Nat
  out : List UInt8

@[reducible] def cellsI (x : Ins) : Ob := .cells [.v (vi x.op), .v (vi x.a), .v (.sl none false (x.l.map vi))]

theorem k_RPut {m : Img} {σ : Sg} (hb : (putM m).length ≤ 1000000000) : ACalls Try.prog 49 [.v (encM m)] σ fun r σ' => r = .v (.sl none false (bytesV (putM m))) ∧ σ' = σ := by
  refine acalls_fit Try.func49 (by kernel_rfl) c49 rfl (by simp [a49]) fun hf => ?_
  simp at hf
  have hft := hf
  have hm : putM m = putM m := rfl
  conv at hm => lhs; unfold putM
  generalize hG : putM m = G at hb hm ⊢
  simp -implicitDefEqProofs (maxSteps := 2000000) (disch := omega) [-getElem?_pos, a49]
  refine k_RNumber0.mono fun r σ' h => ?_
  obtain ⟨rfl, rfl⟩ := h
  simp -implicitDefEqProofs (maxSteps := 2000000) (disch := omega) [-getElem?_pos]
  refine W_loop (α := PSt) ⟨0, leb m.ints.length⟩ (fun x => m.ints.length - x.i) (fun x => ⟨[(1, .ptr σ.objs.length 0), (3, .tsl σ.toks.length none (bytesV x.out)), (4, .v (.int .i64 x.i))], ⟨σ.objs ++ [cellsM m], σ.toks ++ [x.out.length]⟩⟩)
    (fun x => x.i ≤ m.ints.length ∧ x.out ++ (putL leb (m.ints.drop x.i) ++ (leb m.texts.length ++ (putL putT m.texts ++ (leb m.funs.length ++ putL putF m.funs)))) = G) (.eq2 (by simp) (by simp)) ⟨by simp, by simpa using hm⟩ fun ⟨i, out⟩ ⟨hi, ho⟩ => ?_
  dsimp only at hi ho ⊢
  have hlen := congrArg List.length ho
  simp only [List.length_append] at hlen
  simp -implicitDefEqProofs (maxSteps := 2000000) (disch := omega) [-getElem?_pos]
  refine .mk (fun h => ?_) fun h => ?_
  · simp -implicitDefEqProofs (maxSteps := 2000000) (disch := omega) [-getElem?_pos]
    refine ⟨by omega, fun n hn => ?_⟩
    refine (k_RNumber (by simp) (by (try simp only [List.length_append]); omega)).mono fun r σ' h => ?_
    obtain ⟨rfl, rfl⟩ := h
    simp -implicitDefEqProofs (maxSteps := 2000000) (disch := omega) [-getElem?_pos]
    refine ⟨⟨i + 1, out ++ leb n⟩, ⟨by dsimp only; omega, ?_⟩, by dsimp only; omega, .eq2 (by simp) (by simp)⟩
    rw [drop_cons hn] at ho
    simpa [putL] using ho
  rw [List.drop_eq_nil_of_le (by omega)] at ho
  simp only [putL, List.nil_append] at ho
  simp -implicitDefEqProofs (maxSteps := 2000000) (disch := omega) [-getElem?_pos]
  refine (k_RNumber (by simp) (by (try simp only [List.length_append]); omega)).mono fun r σ' h => ?_
  obtain ⟨rfl, rfl⟩ := h
  simp -implicitDefEqProofs (maxSteps := 2000000) (disch := omega) [-getElem?_pos]
  refine W_loop (α := PSt) ⟨0, out ++ leb m.texts.length⟩ (fun x => m.texts.length - x.i) (fun x => ⟨[(1, .ptr σ.objs.length 0), (3, .tsl σ.toks.length none (bytesV x.out)), (5, .v (.int .i64 x.i))], ⟨σ.objs ++ [cellsM m], σ.toks ++ [x.out.length]⟩⟩)
    (fun x => x.i ≤ m.texts.length ∧ x.out ++ (putL putT (m.texts.drop x.i) ++ (leb m.funs.length ++ putL putF m.funs)) = G) (.eq2 (by simp) (by simp)) ⟨by simp, by simpa using ho⟩ fun ⟨i, out⟩ ⟨hi, ho⟩ => ?_
  dsimp only at hi ho ⊢
  have hlen := congrArg List.length ho
  simp only [List.length_append] at hlen
  simp -implicitDefEqProofs (maxSteps := 2000000) (disch := omega) [-getElem?_pos]
  refine .mk (fun h => ?_) fun h => ?_
  · simp -implicitDefEqProofs (maxSteps := 2000000) (disch := omega) [-getElem?_pos]
    refine ⟨by omega, fun s hs => ?_⟩
    refine ⟨by omega, fun s' hs' => ?_⟩
    obtain rfl : s' = s := by rw [hs] at hs'; exact (Option.some.inj hs').symm
    rw [drop_cons hs] at ho hlen
    simp only [putL, putT, List.length_append] at hlen
    refine (k_RNumber (by simp) (by (try simp only [List.length_append]); omega)).mono fun r σ' h => ?_
    obtain ⟨rfl, rfl⟩ := h
    simp -implicitDefEqProofs (maxSteps := 2000000) (disch := omega) [-getElem?_pos]
    refine ⟨by omega, ⟨i + 1, out ++ putT s'⟩, ⟨by dsimp only; omega, ?_⟩, by dsimp only; omega, .eq2 (by simp [putT, Nat.add_assoc]) (by simp [putT])⟩
    simpa [putL] using ho
  rw [List.drop_eq_nil_of_le (by omega)] at ho
  simp only [putL, List.nil_append] at ho
  simp -implicitDefEqProofs (maxSteps := 2000000) (disch := omega) [-getElem?_pos]
  refine (k_RNumber (by simp) (by (try simp only [List.length_append]); omega)).mono fun r σ' h => ?_
  obtain ⟨rfl, rfl⟩ := h
  simp -implicitDefEqProofs (maxSteps := 2000000) (disch := omega) [-getElem?_pos]
  refine W_loop (α := PSt) ⟨0, out ++ leb m.funs.length⟩ (fun x => m.funs.length - x.i) (fun x => ⟨[(1, .ptr σ.objs.length 0), (3, .tsl σ.toks.length none (bytesV x.out)), (6, .v (.int .i64 x.i))], ⟨σ.objs ++ [cellsM m], σ.toks ++ [x.out.length]⟩⟩)
    (fun x => x.i ≤ m.funs.length ∧ x.out ++ putL putF (m.funs.drop x.i) = G) (.eq2 (by simp) (by simp)) ⟨by simp, by simpa using ho⟩ fun ⟨i, out⟩ ⟨hi, ho⟩ => ?_
  dsimp only at hi ho ⊢
  have hlen := congrArg List.length ho
  simp only [List.length_append] at hlen
  simp -implicitDefEqProofs (maxSteps := 2000000) (disch := omega) [-getElem?_pos]
  refine .mk (fun h => ?_) fun h => ?_
  rotate_left
  · rw [List.drop_eq_nil_of_le (by omega)] at ho
    simp only [putL, List.append_nil] at ho
    simp -implicitDefEqProofs (maxSteps := 2000000) (disch := omega) [-getElem?_pos]
    rw [ho]
    exact .fin _ ⟨rfl, rfl⟩ .tsl
  simp -implicitDefEqProofs (maxSteps := 2000000) (disch := omega) [-getElem?_pos]
  refine ⟨by omega, fun f hf => ?_⟩
  have hff := hft.2.2.2 f (List.mem_of_getElem? hf)
  have hfc := hff.2.2.1
  rw [drop_cons hf] at ho
  clear hlen
  replace ho : out ++ (leb f.regs ++ (leb f.caps ++ (leb f.code.length ++ (putL putI f.code ++ putL putF (m.funs.drop (i + 1)))))) = G := by simpa [putL, putF] using ho
  have hlen := congrArg List.length ho
  simp only [List.length_append] at hlen
  refine (k_RNumber (by simp) (by (try simp only [List.length_append]); omega)).mono fun r σ' h => ?_
  obtain ⟨rfl, rfl⟩ := h
  simp -implicitDefEqProofs (maxSteps := 2000000) (disch := omega) [-getElem?_pos]
  refine (k_RNumber (by simp) (by (try simp only [List.length_append]); omega)).mono fun r σ' h => ?_
  obtain ⟨rfl, rfl⟩ := h
  simp -implicitDefEqProofs (maxSteps := 2000000) (disch := omega) [-getElem?_pos]
  refine (k_RNumber (by simp) (by (try simp only [List.length_append]); omega)).mono fun r σ' h => ?_
  obtain ⟨rfl, rfl⟩ := h
  simp -implicitDefEqProofs (maxSteps := 2000000) (disch := omega) [-getElem?_pos]
  refine W_loop (α := PSt) ⟨0, out ++ leb f.regs ++ leb f.caps ++ leb f.code.length⟩ (fun x => f.code.length - x.i) (fun x => ⟨[(1, .ptr σ.objs.length 0), (3, .tsl σ.toks.length none (bytesV x.out)), (6, .v (.int .i64 i)), (7, .ptr (σ.objs.length + 1) 0), (8, .v (.int .i64 x.i))], ⟨σ.objs ++ [cellsM m, cellsF f], σ.toks ++ [x.out.length]⟩⟩)
    (fun x => x.i ≤ f.code.length ∧ x.out ++ (putL putI (f.code.drop x.i) ++ putL putF (m.funs.drop (i + 1))) = G) (.eq2 (by simp) (by simp)) ⟨by simp, by simpa using ho⟩ fun ⟨j, out⟩ ⟨hj, ho⟩ => ?_
  dsimp only at hj ho ⊢
  have hlen := congrArg List.length ho
  simp only [List.length_append] at hlen
  simp -implicitDefEqProofs (maxSteps := 2000000) (disch := omega) [-getElem?_pos]
  refine .mk (fun h => ?_) fun h => ?_
  rotate_left
  · rw [List.drop_eq_nil_of_le (by omega)] at ho
    simp only [putL, List.nil_append] at ho
    simp -implicitDefEqProofs (maxSteps := 2000000) (disch := omega) [-getElem?_pos]
    refine ⟨⟨i + 1, out⟩, ⟨by dsimp only; omega, ho⟩, by dsimp only; omega, .dropX (ys := [cellsM m]) rfl rfl (by simp) (by simp) (by simp) (by simp)⟩
  simp -implicitDefEqProofs (maxSteps := 2000000) (disch := omega) [-getElem?_pos]
  refine ⟨by omega, fun x hx => ?_⟩
  have hxl := (hff.2.2.2 x (List.mem_of_getElem? hx)).2.2.1
  rw [drop_cons hx] at ho
  clear hlen
  replace ho : out ++ (leb x.op ++ (leb x.a ++ (leb x.l.length ++ (putL leb x.l ++ (putL putI (f.code.drop (j + 1)) ++ putL putF (m.funs.drop (i + 1))))))) = G := by simpa [putL, putI] using ho
  have hlen := congrArg List.length ho
  simp only [List.length_append] at hlen
  refine (k_RNumber (by simp) (by (try simp only [List.length_append]); omega)).mono fun r σ' h => ?_
  obtain ⟨rfl, rfl⟩ := h
  simp -implicitDefEqProofs (maxSteps := 2000000) (disch := omega) [-getElem?_pos]
  refine (k_RNumber (by simp) (by (try simp only [List.length_append]); omega)).mono fun r σ' h => ?_
  obtain ⟨rfl, rfl⟩ := h
  simp -implicitDefEqProofs (maxSteps := 2000000) (disch := omega) [-getElem?_pos]
  refine (k_RNumber (by simp) (by (try simp only [List.length_append]); omega)).mono fun r σ' h => ?_
  obtain ⟨rfl, rfl⟩ := h
  simp -implicitDefEqProofs (maxSteps := 2000000) (disch := omega) [-getElem?_pos]
  refine W_loop (α := PSt) ⟨0, out ++ leb x.op ++ leb x.a ++ leb x.l.length⟩ (fun y => x.l.length - y.i) (fun y => ⟨[(1, .ptr σ.objs.length 0), (3, .tsl σ.toks.length none (bytesV y.out)), (6, .v (.int .i64 i)), (7, .ptr (σ.objs.length + 1) 0), (8, .v (.int .i64 j)), (9, .ptr (σ.objs.length + 2) 0), (10, .v (.int .i64 y.i))], ⟨σ.objs ++ [cellsM m, cellsF f, cellsI x], σ.toks ++ [y.out.length]⟩⟩)
    (fun y => y.i ≤ x.l.length ∧ y.out ++ (putL leb (x.l.drop y.i) ++ (putL putI (f.code.drop (j + 1)) ++ putL putF (m.funs.drop (i + 1)))) = G) (.eq2 (by simp) (by simp)) ⟨by simp, by simpa using ho⟩ fun ⟨k, out⟩ ⟨hk, ho⟩ => ?_
  dsimp only at hk ho ⊢
  have hlen := congrArg List.length ho
  simp only [List.length_append] at hlen
  simp -implicitDefEqProofs (maxSteps := 2000000) (disch := omega) [-getElem?_pos]
  refine .mk (fun h => ?_) fun h => ?_
  rotate_left
  · rw [List.drop_eq_nil_of_le (by omega)] at ho
    simp only [putL, List.nil_append] at ho
    simp -implicitDefEqProofs (maxSteps := 2000000) (disch := omega) [-getElem?_pos]
    refine ⟨⟨j + 1, out⟩, ⟨by dsimp only; omega, ho⟩, by dsimp only; omega, .dropX (ys := [cellsM m, cellsF f]) rfl rfl (by simp) (by simp) (by simp) (by simp)⟩
  simp -implicitDefEqProofs (maxSteps := 2000000) (disch := omega) [-getElem?_pos]
  refine ⟨by omega, fun n hn => ?_⟩
  refine (k_RNumber (by simp) (by (try simp only [List.length_append]); omega)).mono fun r σ' h => ?_
  obtain ⟨rfl, rfl⟩ := h
  simp -implicitDefEqProofs (maxSteps := 2000000) (disch := omega) [-getElem?_pos]
  refine ⟨⟨k + 1, out ++ leb n⟩, ⟨by dsimp only; omega, ?_⟩, by dsimp only; omega, .eq2 (by simp) (by simp)⟩
  rw [drop_cons hn] at ho
  simpa [putL] using ho
end Go.Proofs.Ytcbdnndgnbgnaaa
