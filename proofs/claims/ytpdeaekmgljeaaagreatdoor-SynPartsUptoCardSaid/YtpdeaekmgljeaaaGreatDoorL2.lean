/-
  Lexer: bytes passed by; a text's beginning. (Own work.)
-/
import Derived.Test.YtpdeaekmgljeaaaGreatDoorL1
set_option linter.unusedVariables false
set_option linter.unusedSimpArgs false
namespace Go.Proofs.YtpdeaekmgljeaaaGreatDoor
open Go Go.Abs

abbrev Str := List UInt8
@[reducible] def vS (l : List Str) : V := .sl none false (l.map .str)
@[reducible] def vBs (b : Str) : V := .sl none false (bytesV b)
theorem k_HasP2 {a b : Str} {σ : Sg} : ACalls Tryz.prog 189 [.v (.str a), .v (.str b)] σ fun r σ' => r = .v (.bool (decide (a.take b.length = b))) ∧ σ' = σ := by
  refine acalls_fit Tryz.func189 (by kernel_rfl) c189 rfl (by simp [a189]) fun hf => ?_
  simp at hf
  simp -implicitDefEqProofs (maxSteps := 2000000) (disch := omega) [-getElem?_pos, a189]
  refine .mk (fun h => ?_) fun h => ?_
  · simp -implicitDefEqProofs (maxSteps := 2000000) (disch := omega) [-getElem?_pos]
    exact ⟨by omega, .fin _ ⟨by refine congrArg (fun b => D.v (V.bool b)) ?_; rw [Bool.eq_iff_iff]; simp, rfl⟩ (.refl _)⟩
  · simp -implicitDefEqProofs (maxSteps := 2000000) (disch := omega) [-getElem?_pos]
    refine .fin _ ⟨?_, rfl⟩ (.refl _)
    rw [decide_eq_false]
    intro he
    have := congrArg List.length he
    simp at this
    omega
theorem k_HasP {a b : Str} {σ : Sg} : ACalls Tryz.prog 159 [.v (.str a), .v (.str b)] σ fun r σ' => r = .v (.bool (decide (a.take b.length = b))) ∧ σ' = σ := by
  refine acalls_fit Tryz.func159 (by kernel_rfl) c159 rfl (by simp [a159]) fun hf => ?_
  clear hf
  simp -implicitDefEqProofs (maxSteps := 2000000) (disch := omega) [-getElem?_pos, a159]
  refine k_HasP2.then fun r hr => ?_
  subst hr
  simp -implicitDefEqProofs (maxSteps := 2000000) (disch := omega) [-getElem?_pos]
  exact .fin _ ⟨rfl, rfl⟩ (.refl _)
/-- Where bytes end that are so. -/
def spanE (q : UInt8 → Bool) (b : Str) (i : Nat) : Nat := i + ((b.drop i).takeWhile q).length
theorem spanE_ge (q : UInt8 → Bool) (b : Str) (i : Nat) : i ≤ spanE q b i := by unfold spanE; omega
theorem spanE_le {q : UInt8 → Bool} {b : Str} {i : Nat} (h : i ≤ b.length) : spanE q b i ≤ b.length := by
  unfold spanE
  have h1 : ((b.drop i).takeWhile q).length ≤ (b.drop i).length := (List.takeWhile_prefix q).length_le
  rw [List.length_drop] at h1
  omega
theorem drop_at {b : Str} {i : Nat} {c : UInt8} (h : b[i]? = some c) : b.drop i = c :: b.drop (i + 1) := by
  obtain ⟨hl, rfl⟩ := List.getElem?_eq_some_iff.1 h
  exact List.drop_eq_getElem_cons hl
theorem spanE_hit {q : UInt8 → Bool} {b : Str} {i : Nat} {c : UInt8} (h : b[i]? = some c) (hq : q c = true) : spanE q b i = spanE q b (i + 1) := by
  unfold spanE
  rw [drop_at h, List.takeWhile_cons_of_pos hq]
  simp
  omega
theorem spanE_miss {q : UInt8 → Bool} {b : Str} {i : Nat} {c : UInt8} (h : b[i]? = some c) (hq : q c = false) : spanE q b i = i := by
  unfold spanE
  rw [drop_at h, List.takeWhile_cons_of_neg (by simp [hq])]
  rfl
theorem spanE_end {q : UInt8 → Bool} {b : Str} {i : Nat} (h : b.length ≤ i) : spanE q b i = i := by
  unfold spanE
  rw [List.drop_eq_nil_of_le h]
  rfl
def passS (q : UInt8 → Bool) (b : Str) (i : Nat) : Str := (b.drop i).takeWhile q
theorem passS_eq {q : UInt8 → Bool} {b : Str} {i : Nat} : (b.take (spanE q b i)).drop i = passS q b i := by
  unfold passS spanE
  rw [List.drop_take, Nat.add_sub_cancel_left]
  generalize b.drop i = l
  induction l with
  | nil => rfl
  | cons x l ih =>
    cases hx : q x with
    | true => rw [List.takeWhile_cons_of_pos hx, List.length_cons, List.take_succ_cons, ih]
    | false => rw [List.takeWhile_cons_of_neg (by simp [hx])]; rfl
/-- The cutter. -/
@[reducible] def cut (b : Str) (i : Nat) : Ob := .cells [.v (vBs b), .v (.int .i64 i)]
theorem k_Pass {fd : D} {q : UInt8 → Bool} {b : Str} {i p : Nat} {σ : Sg} (hp : σ.objs[p]? = some (cut b i)) (hi : i ≤ b.length) (hb : b.length ≤ 1048576) (hfd : ∀ c (τ : Sg), WCall Tryz.prog fd [vB c] τ fun r σ' => r = .v (.bool (q c)) ∧ σ' = τ) (hl : ∀ n k, fd.low n k) :
    ACalls Tryz.prog 80 [.ptr p 0, fd] σ fun r σ' => r = .v (.str (passS q b i)) ∧ σ' = ⟨σ.objs.set p (cut b (spanE q b i)), σ.toks⟩ := by
  have hpl := (List.getElem?_eq_some_iff.1 hp).1
  have hset : σ.objs.set p (cut b i) = σ.objs := by
    apply List.ext_getElem?
    intro j
    by_cases e : p = j
    · subst e
      rw [List.getElem?_set_self hpl]
      exact hp.symm
    · rw [List.getElem?_set_ne e]
  unfold vB at hfd
  refine acalls_fit Tryz.func80 (by kernel_rfl) c80 rfl (by simp [a80]) fun hf => ?_
  clear hf
  simp -implicitDefEqProofs (maxSteps := 2000000) (disch := omega) [-getElem?_pos, a80, hp]
  refine W_loop (α := Nat) i (fun k => b.length - k) (fun k => ⟨[(0, .ptr p 0), (1, fd), (5, .v (.int .i64 i))], ⟨σ.objs.set p (cut b k), σ.toks⟩⟩) (fun k => k ≤ b.length ∧ i ≤ k ∧ spanE q b i = spanE q b k) (.eq2 (by rw [hset]) (by simp)) ⟨hi, by omega, rfl⟩ fun k ⟨hk, hik, he⟩ => ?_
  simp -implicitDefEqProofs (maxSteps := 2000000) (disch := omega) [-getElem?_pos, hpl]
  refine .mk (fun h => ?_) fun h => ?_
  · simp -implicitDefEqProofs (maxSteps := 2000000) (disch := omega) [-getElem?_pos, hpl]
    refine ⟨by omega, fun c hc => ?_⟩
    refine (hfd c _).then fun r hr => ?_
    subst hr
    cases hq : q c with
    | true =>
      simp -implicitDefEqProofs (maxSteps := 2000000) (disch := omega) [-getElem?_pos, hpl]
      exact ⟨k + 1, ⟨by omega, by omega, by rw [he, spanE_hit hc hq]⟩, by show b.length - (k + 1) < b.length - k; omega, .eq2 (by simp [cut]) (by simp)⟩
    | false =>
      have he2 := he.trans (spanE_miss hc hq)
      have hps := passS_eq (q := q) (b := b) (i := i)
      rw [he2] at hps ⊢
      simp -implicitDefEqProofs (maxSteps := 2000000) (disch := omega) [-getElem?_pos, hpl]
      exact ⟨hik, hk, .finS _ ⟨σ.objs.set p (cut b k), σ.toks⟩ ⟨by rw [hps], rfl⟩ (.refl _) (low_set (by simp [cut])) (by simp) (by simp) (by simp) (by simp) (by simp)⟩
  · have he2 := he.trans (spanE_end (by omega))
    have hps := passS_eq (q := q) (b := b) (i := i)
    rw [he2] at hps ⊢
    simp -implicitDefEqProofs (maxSteps := 2000000) (disch := omega) [-getElem?_pos, hpl]
    exact ⟨hik, hk, .finS _ ⟨σ.objs.set p (cut b k), σ.toks⟩ ⟨by rw [hps], rfl⟩ (.refl _) (low_set (by simp [cut])) (by simp) (by simp) (by simp) (by simp) (by simp)⟩
end Go.Proofs.YtpdeaekmgljeaaaGreatDoor
