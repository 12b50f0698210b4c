/-
  Layer 19: images as bytes, the code's. (Own work.)
-/
import Derived.Test.YtcbdnndgnbgnaaaC7
set_option linter.unusedVariables false
set_option linter.unusedSimpArgs false
namespace Go.Proofs.Ytcbdnndgnbgnaaa
open Go Go.Abs

theorem k_Put1 {n : Int} {l : List UInt8} {o t : Nat} {σ : Sg} (h1 : σ.objs[o]? = some (.cells [.tsl t none (bytesV l)])) (ht : σ.toks[t]? = some l.length) (hl : l.length ≤ 1000000000) :
    ACalls Try.prog 64 [.v (vi n), .ptr o 0] σ fun r σ' => r = .tup [] ∧ σ' = ⟨σ.objs.set o (.cells [.tsl t none (bytesV (l ++ leb n))]), σ.toks.set t (l ++ leb n).length⟩ := by
  have ho := (List.getElem?_eq_some_iff.1 h1).1
  refine acalls_fit Try.func64 (by kernel_rfl) c64 rfl (by simp [a64]) fun hf => ?_
  simp -implicitDefEqProofs (maxSteps := 2000000) (disch := omega) [-getElem?_pos, a64, h1]
  refine (k_PutN ht hl).mono fun r σ' h => ?_
  obtain ⟨rfl, rfl⟩ := h
  simp -implicitDefEqProofs (maxSteps := 2000000) (disch := omega) [-getElem?_pos, h1]
  refine ⟨_, _, WeakR.refl _ _ _, ?_⟩
  simp
theorem k_Put10 {n : Int} {o : Nat} {σ : Sg} (h1 : σ.objs[o]? = some (.cells [.v .snil])) :
    ACalls Try.prog 64 [.v (vi n), .ptr o 0] σ fun r σ' => r = .tup [] ∧ σ' = ⟨σ.objs.set o (.cells [.tsl σ.toks.length none (bytesV (leb n))]), σ.toks ++ [(leb n).length]⟩ := by
  have ho := (List.getElem?_eq_some_iff.1 h1).1
  refine acalls_fit Try.func64 (by kernel_rfl) c64 rfl (by simp [a64]) fun hf => ?_
  simp -implicitDefEqProofs (maxSteps := 2000000) (disch := omega) [-getElem?_pos, a64, h1]
  refine k_PutN0.mono fun r σ' h => ?_
  obtain ⟨rfl, rfl⟩ := h
  simp -implicitDefEqProofs (maxSteps := 2000000) (disch := omega) [-getElem?_pos, h1]
  refine ⟨_, _, WeakR.refl _ _ _, ?_⟩
  simp
@[reducible] def cellsB (t : Nat) (l : List UInt8) : Ob := .cells [.tsl t none (bytesV l)]

theorem k_Put {m : Img} {σ : Sg} (hb : (putM m).length ≤ 1000000000) (hcl : codeLen m.funs ≤ 1000000000) : ACalls Try.prog 45 [.v (encM m)] σ fun r σ' => r = .tup [.v (.sl none false (if checkS m = true then bytesV (putM m) else [])), .v (errOf (checkS m) codeErr)] ∧ σ' = σ := by
  refine acalls_fit Try.func45 (by kernel_rfl) c45 rfl (by simp [a45]) fun hf => ?_
  simp at hf
  have hft := hf
  have hm : putM m = putM m := rfl
  conv at hm => lhs; unfold putM
  generalize hG : putM m = G at hb hm ⊢
  simp -implicitDefEqProofs (maxSteps := 2000000) (disch := omega) [-getElem?_pos, a45]
  refine (k_Check hcl).then fun r hr => ?_
  subst hr
  cases hck : checkS m with
  | false =>
    simp only [errOf, Bool.false_eq_true, if_false]
    simp -implicitDefEqProofs (maxSteps := 2000000) (disch := omega) [-getElem?_pos]
    exact .fin (.tup [.v (.sl none false []), .v codeErr]) ⟨rfl, rfl⟩ (.tup2 .snil (.refl _))
  | true =>
  simp only [errOf, if_true]
  simp -implicitDefEqProofs (maxSteps := 2000000) (disch := omega) [-getElem?_pos]
  refine (k_Put10 (by simp)).mono fun r σ' h => ?_
  obtain ⟨rfl, rfl⟩ := h
  simp -implicitDefEqProofs (maxSteps := 2000000) (disch := omega) [-getElem?_pos]
  have ho := hm
  refine W_loop (α := PSt) ⟨0, leb m.ints.length⟩ (fun x => m.ints.length - x.i) (fun x => ⟨[(1, .ptr σ.objs.length 0), (5, .ptr (σ.objs.length + 1) 0), (6, .fn 64 [.ptr (σ.objs.length + 1) 0]), (29, .v (.sl none false (m.ints.map vi))), (30, .v (.int .i64 m.ints.length)), (31, .v (.int .i64 x.i))], ⟨σ.objs ++ [cellsM m, cellsB σ.toks.length x.out], σ.toks ++ [x.out.length]⟩⟩)
    (fun x => x.i ≤ m.ints.length ∧ x.out ++ (putL leb (m.ints.drop x.i) ++ (leb m.texts.length ++ (putL putT m.texts ++ (leb m.funs.length ++ putL putF m.funs)))) = G) (.eq2 (by simp) (by simp)) ⟨by simp, by simpa using ho⟩ fun ⟨i, out⟩ ⟨hii, ho⟩ => ?_
  dsimp only at hii ho ⊢
  have hlen := congrArg List.length ho
  simp only [List.length_append] at hlen
  simp -implicitDefEqProofs (maxSteps := 2000000) (disch := omega) [-getElem?_pos]
  refine .mk (fun h => ?_) fun h => ?_
  · simp -implicitDefEqProofs (maxSteps := 2000000) (disch := omega) [-getElem?_pos]
    refine ⟨by omega, fun n hn => ?_⟩
    refine (k_PutN (by simp) (by (try simp only [List.length_append]); omega)).mono fun r σ' h => ?_
    obtain ⟨rfl, rfl⟩ := h
    simp -implicitDefEqProofs (maxSteps := 2000000) (disch := omega) [-getElem?_pos]
    refine ⟨⟨i + 1, out ++ leb n⟩, ⟨by dsimp only; omega, ?_⟩, by dsimp only; omega, .eq2 (by simp) (by simp)⟩
    rw [drop_cons hn] at ho
    simpa [putL] using ho
  rw [List.drop_eq_nil_of_le (by omega)] at ho
  simp only [putL, List.nil_append] at ho
  simp -implicitDefEqProofs (maxSteps := 2000000) (disch := omega) [-getElem?_pos]
  refine (k_Put1 (l := out) (t := σ.toks.length) (by simp) (by simp) (by (try simp only [List.length_append]); omega)).mono fun r σ' h => ?_
  obtain ⟨rfl, rfl⟩ := h
  simp -implicitDefEqProofs (maxSteps := 2000000) (disch := omega) [-getElem?_pos]
  refine W_loop (α := PSt) ⟨0, out ++ leb m.texts.length⟩ (fun x => m.texts.length - x.i) (fun x => ⟨[(1, .ptr σ.objs.length 0), (5, .ptr (σ.objs.length + 1) 0), (6, .fn 64 [.ptr (σ.objs.length + 1) 0]), (45, .v (.sl none false (m.texts.map .str))), (46, .v (.int .i64 m.texts.length)), (47, .v (.int .i64 x.i))], ⟨σ.objs ++ [cellsM m, cellsB σ.toks.length x.out], σ.toks ++ [x.out.length]⟩⟩)
    (fun x => x.i ≤ m.texts.length ∧ x.out ++ (putL putT (m.texts.drop x.i) ++ (leb m.funs.length ++ putL putF m.funs)) = G) (.eq2 (by simp) (by simp)) ⟨by simp, by simpa using ho⟩ fun ⟨i, out⟩ ⟨hii, ho⟩ => ?_
  dsimp only at hii ho ⊢
  have hlen := congrArg List.length ho
  simp only [List.length_append] at hlen
  simp -implicitDefEqProofs (maxSteps := 2000000) (disch := omega) [-getElem?_pos]
  refine .mk (fun h => ?_) fun h => ?_
  · simp -implicitDefEqProofs (maxSteps := 2000000) (disch := omega) [-getElem?_pos]
    refine ⟨by omega, fun s hs => ?_⟩
    rw [drop_cons hs] at ho hlen
    simp only [putL, putT, List.length_append] at hlen
    refine (k_Put1 (l := out) (t := σ.toks.length) (by simp) (by simp) (by (try simp only [List.length_append]); omega)).mono fun r σ' h => ?_
    obtain ⟨rfl, rfl⟩ := h
    simp -implicitDefEqProofs (maxSteps := 2000000) (disch := omega) [-getElem?_pos]
    refine ⟨by omega, ⟨i + 1, out ++ putT s⟩, ⟨by dsimp only; omega, ?_⟩, by dsimp only; omega, .eq2 (by simp [putT, Nat.add_assoc]) (by simp [putT])⟩
    simpa [putL] using ho
  rw [List.drop_eq_nil_of_le (by omega)] at ho
  simp only [putL, List.nil_append] at ho
  simp -implicitDefEqProofs (maxSteps := 2000000) (disch := omega) [-getElem?_pos]
  refine (k_Put1 (l := out) (t := σ.toks.length) (by simp) (by simp) (by (try simp only [List.length_append]); omega)).mono fun r σ' h => ?_
  obtain ⟨rfl, rfl⟩ := h
  simp -implicitDefEqProofs (maxSteps := 2000000) (disch := omega) [-getElem?_pos]
  refine W_loop (α := PSt) ⟨0, out ++ leb m.funs.length⟩ (fun x => m.funs.length - x.i) (fun x => ⟨[(1, .ptr σ.objs.length 0), (5, .ptr (σ.objs.length + 1) 0), (6, .fn 64 [.ptr (σ.objs.length + 1) 0]), (65, .v (.sl (some 3) false (m.funs.map encF))), (66, .v (.int .i64 m.funs.length)), (67, .v (.int .i64 x.i))], ⟨σ.objs ++ [cellsM m, cellsB σ.toks.length x.out], σ.toks ++ [x.out.length]⟩⟩)
    (fun x => x.i ≤ m.funs.length ∧ x.out ++ putL putF (m.funs.drop x.i) = G) (.eq2 (by simp) (by simp)) ⟨by simp, by simpa using ho⟩ fun ⟨i, out⟩ ⟨hii, ho⟩ => ?_
  dsimp only at hii ho ⊢
  have hlen := congrArg List.length ho
  simp only [List.length_append] at hlen
  simp -implicitDefEqProofs (maxSteps := 2000000) (disch := omega) [-getElem?_pos]
  refine .mk (fun h => ?_) fun h => ?_
  rotate_left
  · rw [List.drop_eq_nil_of_le (by omega)] at ho
    simp only [putL, List.append_nil] at ho
    simp -implicitDefEqProofs (maxSteps := 2000000) (disch := omega) [-getElem?_pos]
    rw [ho]
    exact .fin _ ⟨rfl, rfl⟩ (.tup2 .tsl (.refl _))
  simp -implicitDefEqProofs (maxSteps := 2000000) (disch := omega) [-getElem?_pos]
  refine ⟨by omega, fun f hf => ?_⟩
  have hff := hft.2.2.2 f (List.mem_of_getElem? hf)
  have hfc := hff.2.2.1
  rw [drop_cons hf] at ho
  clear hlen
  replace ho : out ++ (leb f.regs ++ (leb f.caps ++ (leb f.code.length ++ (putL putI f.code ++ putL putF (m.funs.drop (i + 1)))))) = G := by simpa [putL, putF] using ho
  have hlen := congrArg List.length ho
  simp only [List.length_append] at hlen
  refine (k_Put1 (l := out) (t := σ.toks.length) (by simp) (by simp) (by (try simp only [List.length_append]); omega)).mono fun r σ' h => ?_
  obtain ⟨rfl, rfl⟩ := h
  simp -implicitDefEqProofs (maxSteps := 2000000) (disch := omega) [-getElem?_pos]
  refine (k_Put1 (l := out ++ leb f.regs) (t := σ.toks.length) (by simp) (by simp) (by (try simp only [List.length_append]); omega)).mono fun r σ' h => ?_
  obtain ⟨rfl, rfl⟩ := h
  simp -implicitDefEqProofs (maxSteps := 2000000) (disch := omega) [-getElem?_pos]
  refine (k_Put1 (l := out ++ leb f.regs ++ leb f.caps) (t := σ.toks.length) (by simp) (by simp) (by (try simp only [List.length_append]); omega)).mono fun r σ' h => ?_
  obtain ⟨rfl, rfl⟩ := h
  simp -implicitDefEqProofs (maxSteps := 2000000) (disch := omega) [-getElem?_pos]
  refine W_loop (α := PSt) ⟨0, out ++ leb f.regs ++ leb f.caps ++ leb f.code.length⟩ (fun x => f.code.length - x.i) (fun x => ⟨[(1, .ptr σ.objs.length 0), (5, .ptr (σ.objs.length + 1) 0), (6, .fn 64 [.ptr (σ.objs.length + 1) 0]), (65, .v (.sl (some 3) false (m.funs.map encF))), (66, .v (.int .i64 m.funs.length)), (67, .v (.int .i64 i)), (12, .ptr (σ.objs.length + 2) 0), (85, .v (.sl (some 3) false (f.code.map encI))), (86, .v (.int .i64 f.code.length)), (87, .v (.int .i64 x.i))], ⟨σ.objs ++ [cellsM m, cellsB σ.toks.length x.out, cellsF f], σ.toks ++ [x.out.length]⟩⟩)
    (fun x => x.i ≤ f.code.length ∧ x.out ++ (putL putI (f.code.drop x.i) ++ putL putF (m.funs.drop (i + 1))) = G) (.eq2 (by simp) (by simp)) ⟨by simp, by simpa using ho⟩ fun ⟨j, out⟩ ⟨hij, ho⟩ => ?_
  dsimp only at hij ho ⊢
  have hlen := congrArg List.length ho
  simp only [List.length_append] at hlen
  simp -implicitDefEqProofs (maxSteps := 2000000) (disch := omega) [-getElem?_pos]
  refine .mk (fun h => ?_) fun h => ?_
  rotate_left
  · rw [List.drop_eq_nil_of_le (by omega)] at ho
    simp only [putL, List.nil_append] at ho
    simp -implicitDefEqProofs (maxSteps := 2000000) (disch := omega) [-getElem?_pos]
    refine ⟨⟨i + 1, out⟩, ⟨by dsimp only; omega, ho⟩, by dsimp only; omega, .dropX (ys := [cellsM m, cellsB σ.toks.length out]) rfl rfl (by simp) (by simp) (by simp) (by simp)⟩
  simp -implicitDefEqProofs (maxSteps := 2000000) (disch := omega) [-getElem?_pos]
  refine ⟨by omega, fun x hx => ?_⟩
  have hxl := (hff.2.2.2 x (List.mem_of_getElem? hx)).2.2.1
  rw [drop_cons hx] at ho
  clear hlen
  replace ho : out ++ (leb x.op ++ (leb x.a ++ (leb x.l.length ++ (putL leb x.l ++ (putL putI (f.code.drop (j + 1)) ++ putL putF (m.funs.drop (i + 1))))))) = G := by simpa [putL, putI] using ho
  have hlen := congrArg List.length ho
  simp only [List.length_append] at hlen
  refine (k_Put1 (l := out) (t := σ.toks.length) (by simp) (by simp) (by (try simp only [List.length_append]); omega)).mono fun r σ' h => ?_
  obtain ⟨rfl, rfl⟩ := h
  simp -implicitDefEqProofs (maxSteps := 2000000) (disch := omega) [-getElem?_pos]
  refine (k_Put1 (l := out ++ leb x.op) (t := σ.toks.length) (by simp) (by simp) (by (try simp only [List.length_append]); omega)).mono fun r σ' h => ?_
  obtain ⟨rfl, rfl⟩ := h
  simp -implicitDefEqProofs (maxSteps := 2000000) (disch := omega) [-getElem?_pos]
  refine (k_Put1 (l := out ++ leb x.op ++ leb x.a) (t := σ.toks.length) (by simp) (by simp) (by (try simp only [List.length_append]); omega)).mono fun r σ' h => ?_
  obtain ⟨rfl, rfl⟩ := h
  simp -implicitDefEqProofs (maxSteps := 2000000) (disch := omega) [-getElem?_pos]
  refine W_loop (α := PSt) ⟨0, out ++ leb x.op ++ leb x.a ++ leb x.l.length⟩ (fun y => x.l.length - y.i) (fun y => ⟨[(1, .ptr σ.objs.length 0), (5, .ptr (σ.objs.length + 1) 0), (6, .fn 64 [.ptr (σ.objs.length + 1) 0]), (65, .v (.sl (some 3) false (m.funs.map encF))), (66, .v (.int .i64 m.funs.length)), (67, .v (.int .i64 i)), (12, .ptr (σ.objs.length + 2) 0), (85, .v (.sl (some 3) false (f.code.map encI))), (86, .v (.int .i64 f.code.length)), (87, .v (.int .i64 j)), (14, .ptr (σ.objs.length + 3) 0), (105, .v (.sl none false (x.l.map vi))), (106, .v (.int .i64 x.l.length)), (107, .v (.int .i64 y.i))], ⟨σ.objs ++ [cellsM m, cellsB σ.toks.length y.out, cellsF f, cellsI x], σ.toks ++ [y.out.length]⟩⟩)
    (fun y => y.i ≤ x.l.length ∧ y.out ++ (putL leb (x.l.drop y.i) ++ (putL putI (f.code.drop (j + 1)) ++ putL putF (m.funs.drop (i + 1)))) = G) (.eq2 (by simp) (by simp)) ⟨by simp, by simpa using ho⟩ fun ⟨k, out⟩ ⟨hik, ho⟩ => ?_
  dsimp only at hik ho ⊢
  have hlen := congrArg List.length ho
  simp only [List.length_append] at hlen
  simp -implicitDefEqProofs (maxSteps := 2000000) (disch := omega) [-getElem?_pos]
  refine .mk (fun h => ?_) fun h => ?_
  rotate_left
  · rw [List.drop_eq_nil_of_le (by omega)] at ho
    simp only [putL, List.nil_append] at ho
    simp -implicitDefEqProofs (maxSteps := 2000000) (disch := omega) [-getElem?_pos]
    refine ⟨⟨j + 1, out⟩, ⟨by dsimp only; omega, ho⟩, by dsimp only; omega, .dropX (ys := [cellsM m, cellsB σ.toks.length out, cellsF f]) rfl rfl (by simp) (by simp) (by simp) (by simp)⟩
  simp -implicitDefEqProofs (maxSteps := 2000000) (disch := omega) [-getElem?_pos]
  refine ⟨by omega, fun n hn => ?_⟩
  rw [drop_cons hn] at ho
  simp only [putL, List.append_assoc] at ho
  refine (k_Put1 (l := out) (t := σ.toks.length) (by simp) (by simp) (by (try simp only [List.length_append]); omega)).mono fun r σ' h => ?_
  obtain ⟨rfl, rfl⟩ := h
  simp -implicitDefEqProofs (maxSteps := 2000000) (disch := omega) [-getElem?_pos]
  refine ⟨⟨k + 1, out ++ leb n⟩, ⟨by dsimp only; omega, ?_⟩, by dsimp only; omega, .eq2 (by simp) (by simp)⟩
  simpa using ho
end Go.Proofs.Ytcbdnndgnbgnaaa
