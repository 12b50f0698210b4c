/-
  Closed functions: one function noted. (Own work.)
-/
import Derived.Test.YtppdghfpbliaeaaB14
set_option linter.unusedVariables false
set_option linter.unusedSimpArgs false
namespace Go.Proofs.Ytppdghfpbliaeaa
open Go Go.Abs

theorem k_DeleteFuncV {l : List Str} {c o : Nat} {rest : List D} {fd : D} {p : Str → Bool} {σ : Sg} (ho : σ.objs[o]? = some (vO l rest)) (hc : l.length ≤ c) (hl : l.length ≤ 1000000) (hne : l ≠ [])
    (hp : ∀ s ∈ l, ∀ ob, WCall Try.prog fd [.v (.str s)] ⟨σ.objs.set o ob, σ.toks⟩ fun r σ' => r = .v (.bool (p s)) ∧ σ' = ⟨σ.objs.set o ob, σ.toks⟩) :
    ACalls Try.prog 51 [.msl o 0 l.length none (some c), fd] σ fun r σ' => r = .v (vS (l.filter fun s => !p s)) ∧ σ' = ⟨σ.objs.set o (.cells []), σ.toks⟩ := by
  have hpos : 0 < l.length := List.length_pos_iff.2 hne
  have hlt := (List.getElem?_eq_some_iff.1 ho).1
  refine ACalls.thaw (o := o) (xs := (l.filter fun s => !p s).map V.str) (by intro x hx; obtain ⟨s, _, rfl⟩ := List.mem_map.1 hx; rfl) ((k_DeleteFunc ho hc hl hne hp).mono fun r σ' h => ?_)
  obtain ⟨rest', hlen, rfl, rfl⟩ := h
  refine ⟨(l.filter fun s => !p s).map (D.v ∘ V.str) ++ rest', some c, _, by rw [List.length_map], rfl, by simp [hlt], ?_, ?_, ⟨rfl, ?_⟩⟩
  · intro e
    have := congrArg List.length e
    simp only [List.length_append, List.length_map, List.length_nil] at this
    omega
  · rw [List.take_left' (by simp)]
    simp
  · simp [Sg.put]

theorem k_FreeM (e : Co) {σ : Sg} (he : csz e ≤ 1048576) (hne : ofS (fvs e) ≠ []) : ACalls Try.prog 15 [.v (encC e)] σ fun r σ' => ∃ c os, (ofS (fvs e)).length ≤ c ∧ os.length = 4 ∧ r = .msl (σ.objs.length + 4) 0 (ofS (fvs e)).length none (some c) ∧ σ' = ⟨σ.objs ++ (os ++ [vO (ofS (fvs e)) []]), σ.toks⟩ := by
  have hl := fvs_len e
  have hc := fun σ => k_Ffree e (σ := σ) he
  cases e with
  | mk k n s t ns l =>
  rw [encC_mk] at hc ⊢
  refine acalls_fit Try.func15 (by kernel_rfl) c15 rfl (by simp [a15]) fun hf => ?_
  clear hf
  simp -implicitDefEqProofs (maxSteps := 2000000) (disch := omega) [-getElem?_pos, a15]
  refine (hc _).mono fun r σ' hr => ?_
  obtain ⟨es, hfv, rfl, rfl⟩ := hr
  have hel := nodup_len hfv.1 fun y hy => (hfv.2 y).1 hy
  generalize Co.mk k n s t ns l = e at *
  have hso := sort_of hfv
  rw [← hso] at hne ⊢
  have hne2 : es ≠ [] := by
    rintro rfl
    exact hne (by simp [sortS])
  have hsl := sortS_len es
  simp -implicitDefEqProofs (maxSteps := 2000000) (disch := omega) [-getElem?_pos]
  refine k_Keys.mono fun r σ' hr => ?_
  obtain ⟨rfl, rfl⟩ := hr
  simp -implicitDefEqProofs (maxSteps := 2000000) (disch := omega) [-getElem?_pos]
  refine (k_SortedM (l := es) (by simp; rfl) (by simp [Nat.add_assoc]) (by omega) hne2).mono fun r σ' hr => ?_
  obtain ⟨c, hcl, rfl, rfl⟩ := hr
  simp -implicitDefEqProofs (maxSteps := 2000000) (disch := omega) [-getElem?_pos]
  refine ⟨_, _, WeakR.refl _ _ _, c, by omega, [_, _, _, _], rfl, ?_, rfl⟩
  simp [hsl]
end Go.Proofs.Ytppdghfpbliaeaa
