/-
  Errors: their texts; made, wrapped; their place and number. (Own work.)
-/
import Derived.Test.YtkfkifgfnlaceaaDoorS1
import Derived.Lib.ItoaLen
set_option linter.unusedVariables false
set_option linter.unusedSimpArgs false
namespace Go.Proofs.YtkfkifgfnlaceaaDoor
open Go Go.Abs

theorem grown_inv {σ : Sg} {m : Gh} {w : World} (h : Go.Abs.Inv σ m w) (k : Nat) (os : Array Obj) : Go.Abs.Inv σ m (Go.Sort.grow (w.drewN k) os) ∧ Ext m w m (Go.Sort.grow (w.drewN k) os) := by
  have hb : ∀ c, c < w.heap.size → (Go.Sort.grow (w.drewN k) os).heap[c]? = w.heap[c]? := fun c hc => Array.getElem?_append_left hc
  have e : Ext m w m (Go.Sort.grow (w.drewN k) os) :=
    ⟨rfl, rfl, rfl, by show w.heap.size ≤ (w.heap ++ os).size; simp, fun _ _ h => .inl h, fun _ tk h => ⟨tk, h, rfl, Nat.le_refl _, fun _ => rfl⟩, fun c off f => ⟨cell?_of_heap (hb c f.1), f.2⟩, fun c hc hn => ⟨hb c hc, hn⟩⟩
  refine ⟨⟨h.lobj, h.ltok, h.nodup, fun o ob c ho hc => (h.ob o ob c ho hc).mono e (hb c (h.lt_obj (Gh.mem_objb.2 (List.mem_of_getElem? hc)))), h.gone, fun tk htk => ?_, h.glob.mono e⟩, e⟩
  obtain ⟨h1, h2, h3, h4⟩ := h.tk tk htk
  refine ⟨h1, h2, h3, fun c hc => ?_⟩
  obtain ⟨us, ty, h5, h6⟩ := h4 c hc
  exact ⟨us, ty, (hb c (Array.getElem?_eq_some_iff.1 h5).1).trans h5, h6⟩
theorem tab_is {σ : Sg} {m : Gh} {w : World} (h : Go.Abs.Inv σ m w) : Lib.TabIs Tryd.prog w "internal/strconv.uint64pow10" .u64 Lib.pow10Tab := by
  obtain ⟨⟨cs, ty, fr, hh, rfl⟩, _⟩ := h.glob _ (List.mem_cons_of_mem _ List.mem_cons_self)
  unfold Lib.TabIs World.var?
  rw [show Tryd.prog.globalNamed "internal/strconv.uint64pow10" = some 2 by kernel_rfl]
  simp only [Option.bind_some]
  rw [hh]
  rfl
theorem k_Itoa {n : Int} {σ : Sg} : ACalls Tryd.prog 14 [.v (.int .i64 n)] σ fun r σ' => (r = .v (.str (Lib.itoa n)) ∧ (Lib.itoa n).length ≤ 21) ∧ σ' = σ := by
  refine ⟨⟨_, Tryd.func14, by kernel_rfl, by kernel_rfl⟩, fun m w us hI hl hr => ?_⟩
  match us, hl with
  | [u], _ =>
    have h0 := hr 0 _ _ rfl rfl
    cases h0 with
    | v _ _ hv =>
      cases hv with
      | int _ _ hn =>
        have hn1 : -9223372036854775808 ≤ n := hn.1
        have hn2 : n ≤ 9223372036854775807 := hn.2
        refine (Go.Proofs.Any.strconv_Itoa itoaLays n hn1 hn2 w (tab_is hI)).mono fun e w' ⟨he, k, os, hw⟩ => ?_
        subst hw
        obtain ⟨hI', hX⟩ := grown_inv hI k os
        have hlen := Lib.itoa_length_le n hn1 hn2
        exact ⟨_, _, σ, m, he, ⟨⟨rfl, hlen⟩, rfl⟩, hI', hX, .v _ _ (.str _ (by unfold maxLen; omega))⟩
def codeT (n : Int) : Str := [101, 114, 114, 111, 114, 32] ++ Lib.itoa n
def baseT (p : Option (Nat × Int)) (n : Int) : Str := match p with
  | none => codeT n
  | some (_, a) => Lib.itoa a ++ [58, 32] ++ codeT n
/-- An error's text. -/
def chT (p : Option (Nat × Int)) (n : Int) : List Str → Str
  | [] => baseT p n
  | s :: ss => s ++ [58, 32] ++ chT p n ss
theorem k_CErr {n : Int} {σ : Sg} : ACalls Tryd.prog 12 [.v (.int .i64 n)] σ fun r σ' => (r = .v (.str (codeT n)) ∧ (codeT n).length ≤ 27) ∧ σ' = σ := by
  refine acalls_fit Tryd.func12 (by kernel_rfl) c12 rfl (by simp [a12]) fun hf => ?_
  clear hf
  simp -implicitDefEqProofs (maxSteps := 2000000) (disch := omega) [-getElem?_pos, a12]
  refine k_Itoa.then fun r hr => ?_
  obtain ⟨rfl, hln⟩ := hr
  simp -implicitDefEqProofs (maxSteps := 2000000) (disch := omega) [-getElem?_pos]
  exact ⟨by omega, .fin _ ⟨⟨rfl, by simp [codeT]; omega⟩, rfl⟩ (.refl _)⟩
theorem k_SErr {o : Nat} {a n : Int} {σ : Sg} (h : σ.objs[o]? = some (spotO a n)) : ACalls Tryd.prog 118 [.ptr o 0] σ fun r σ' => (r = .v (.str (Lib.itoa a ++ [58, 32] ++ codeT n)) ∧ (Lib.itoa a ++ [58, 32] ++ codeT n).length ≤ 50) ∧ σ' = σ := by
  refine acalls_fit Tryd.func118 (by kernel_rfl) c118 rfl (by simp [a118]) fun hf => ?_
  clear hf
  simp -implicitDefEqProofs (maxSteps := 2000000) (disch := omega) [-getElem?_pos, a118, h]
  refine k_Itoa.then fun r hr => ?_
  obtain ⟨rfl, hln⟩ := hr
  simp -implicitDefEqProofs (maxSteps := 2000000) (disch := omega) [-getElem?_pos]
  refine ⟨by omega, ?_⟩
  refine k_CErr.then fun r hr => ?_
  obtain ⟨rfl, hlc⟩ := hr
  simp -implicitDefEqProofs (maxSteps := 2000000) (disch := omega) [-getElem?_pos]
  exact ⟨by omega, .fin (.v (.str (Lib.itoa a ++ 58 :: 32 :: codeT n))) ⟨⟨rfl, by omega⟩, rfl⟩ (.refl _)⟩
theorem WInv.then {name : String} {d : D} {ds : List D} {σ : Sg} {R : D → Sg → Prop} {T : D → Prop} (h : WInv Tryd.prog name d ds σ fun r σ' => T r ∧ σ' = σ) (k : ∀ r, T r → R r σ) : WInv Tryd.prog name d ds σ R := by
  unfold WInv at h ⊢
  split at h
  · obtain ⟨g, h1, h2⟩ := h
    exact ⟨g, h1, h2.then k⟩
  · obtain ⟨g, h1, h2⟩ := h
    exact ⟨g, h1, h2.then k⟩
  · exact h.elim
theorem m_C : MethI Tryd.prog 28 "Error" 12 := fun k n w => by kernel_rfl
theorem m_S : MethP Tryd.prog 39 "Error" 118 := fun a w => by kernel_rfl
theorem m_W : MethP Tryd.prog 67 "Error" 120 := fun a w => by kernel_rfl
theorem k_Err {d : D} {p : Option (Nat × Int)} {n : Int} {ss : List Str} {σ : Sg} (h : Chn σ.objs d p n ss) : (chT p n ss).length ≤ 1000000 → WInv Tryd.prog "Error" d [] σ fun r σ' => r = .v (.str (chT p n ss)) ∧ σ' = σ := by
  induction h with
  | code n => exact fun _ => ⟨_, m_C, k_CErr.mono fun r σ' ⟨h1, h2⟩ => ⟨h1.1, h2⟩⟩
  | spot o a n h => exact fun _ => ⟨_, m_S, (k_SErr h).mono fun r σ' ⟨h1, h2⟩ => ⟨h1.1, h2⟩⟩
  | wrap o s d p n ss h hd ih =>
    intro hl
    have e : chT p n (s :: ss) = s ++ [58, 32] ++ chT p n ss := rfl
    rw [e] at hl ⊢
    generalize chT p n ss = t at *
    refine ⟨_, m_W, ?_⟩
    simp only [List.length_append, List.length_cons, List.length_nil] at hl
    have ih := ih (by omega)
    refine acalls_fit Tryd.func120 (by kernel_rfl) c120 rfl (by simp [a120]) fun hf => ?_
    clear hf
    simp -implicitDefEqProofs (maxSteps := 2000000) (disch := omega) [-getElem?_pos, a120, h]
    refine ⟨by omega, ?_⟩
    refine WInv.then ih fun r hr => ?_
    subst hr
    simp -implicitDefEqProofs (maxSteps := 2000000) (disch := omega) [-getElem?_pos]
    exact ⟨by omega, .fin (.v (.str (s ++ 58 :: 32 :: t))) ⟨rfl, rfl⟩ (.refl _)⟩
theorem k_At {a n : Int} {σ : Sg} : ACalls Tryd.prog 13 [.v (.int .i64 a), .v (.int .i64 n)] σ fun r σ' => r = .iface 39 (.ptr σ.objs.length 0) ∧ σ' = ⟨σ.objs ++ [spotO a n], σ.toks⟩ := by
  refine acalls_fit Tryd.func13 (by kernel_rfl) c13 rfl (by simp [a13]) fun hf => ?_
  clear hf
  simp -implicitDefEqProofs (maxSteps := 2000000) (disch := omega) [-getElem?_pos, a13]
  exact ⟨_, _, WeakR.refl _ _ _, rfl, rfl⟩
theorem k_Wrap0 {s : Str} {σ : Sg} : ACalls Tryd.prog 15 [.v (.str s), .v .inil] σ fun r σ' => r = .v .inil ∧ σ' = σ := by
  refine acalls_fit Tryd.func15 (by kernel_rfl) c15 rfl (by simp [a15]) fun hf => ?_
  clear hf
  simp -implicitDefEqProofs (maxSteps := 2000000) (disch := omega) [-getElem?_pos, a15]
  exact .fin _ ⟨rfl, rfl⟩ (.refl _)
theorem k_Wrap {s : Str} {d : D} {p : Option (Nat × Int)} {n : Int} {ss : List Str} {σ : Sg} (h : Chn σ.objs d p n ss) : ACalls Tryd.prog 15 [.v (.str s), d] σ fun r σ' => r = .iface 67 (.ptr σ.objs.length 0) ∧ σ' = ⟨σ.objs ++ [wrapO s d], σ.toks⟩ := by
  refine acalls_fit Tryd.func15 (by kernel_rfl) c15 rfl (by simp [a15]) fun hf => ?_
  clear hf
  cases h
  all_goals
    simp -implicitDefEqProofs (maxSteps := 2000000) (disch := omega) [-getElem?_pos, a15]
    exact ⟨_, _, WeakR.refl _ _ _, rfl, rfl⟩
def plT : Option (Nat × Int) → D
  | none => .tup [.v (.int .i64 0), .v (.bool false)]
  | some (_, a) => .tup [.v (.int .i64 a), .v (.bool true)]
theorem k_Place0 {σ : Sg} : ACalls Tryd.prog 17 [.v .inil] σ fun r σ' => r = plT none ∧ σ' = σ := by
  refine acalls_fit Tryd.func17 (by kernel_rfl) c17 rfl (by simp [a17]) fun hf => ?_
  clear hf
  simp -implicitDefEqProofs (maxSteps := 2000000) (disch := omega) [-getElem?_pos, a17]
  refine k_AsNil.then fun r hr => ?_
  subst hr
  simp -implicitDefEqProofs (maxSteps := 2000000) (disch := omega) [-getElem?_pos]
  exact .fin (.tup [.v (.int .i64 0), .v (.bool false)]) ⟨rfl, rfl⟩ (.refl _)
theorem k_Place {d : D} {p : Option (Nat × Int)} {n : Int} {ss : List Str} {σ : Sg} (h : Chn σ.objs d p n ss) (hp : ∀ o a, p = some (o, a) → σ.objs[o]? = some (spotO a n)) : ACalls Tryd.prog 17 [d] σ fun r σ' => r = plT p ∧ σ' = σ := by
  refine acalls_fit Tryd.func17 (by kernel_rfl) c17 rfl (by simp [a17]) fun hf => ?_
  clear hf
  simp -implicitDefEqProofs (maxSteps := 2000000) (disch := omega) [-getElem?_pos, a17]
  refine (k_AsS (c := σ.objs.length) (x := .v .pnil) (by simp) (Chn.more h)).mono fun r σ' hr => ?_
  obtain ⟨rfl, rfl⟩ := hr
  cases p with
  | none =>
    unfold asS
    simp -implicitDefEqProofs (maxSteps := 2000000) (disch := omega) [-getElem?_pos]
    exact .fin (.tup [.v (.int .i64 0), .v (.bool false)]) ⟨rfl, rfl⟩ (.refl _)
  | some q =>
    obtain ⟨o, a⟩ := q
    have ho := hp o a rfl
    have hl := (List.getElem?_eq_some_iff.1 ho).1
    have go : ∀ r, (σ.objs ++ r)[o]? = some (spotO a n) := fun r => get_more ho
    unfold asS
    simp -implicitDefEqProofs (maxSteps := 2000000) (disch := omega) [-getElem?_pos, go]
    exact .fin (.tup [.v (.int .i64 a), .v (.bool true)]) ⟨rfl, rfl⟩ (.refl _)
theorem k_Number0 {σ : Sg} : ACalls Tryd.prog 20 [.v .inil] σ fun r σ' => r = .v (.int .i64 0) ∧ σ' = σ := by
  refine acalls_fit Tryd.func20 (by kernel_rfl) c20 rfl (by simp [a20]) fun hf => ?_
  clear hf
  simp -implicitDefEqProofs (maxSteps := 2000000) (disch := omega) [-getElem?_pos, a20]
  refine k_AsNil.then fun r hr => ?_
  subst hr
  simp -implicitDefEqProofs (maxSteps := 2000000) (disch := omega) [-getElem?_pos]
  exact .fin _ ⟨rfl, rfl⟩ (.refl _)
theorem k_Number {d : D} {p : Option (Nat × Int)} {n : Int} {ss : List Str} {σ : Sg} (h : Chn σ.objs d p n ss) : ACalls Tryd.prog 20 [d] σ fun r σ' => r = .v (.int .i64 n) ∧ σ' = σ := by
  refine acalls_fit Tryd.func20 (by kernel_rfl) c20 rfl (by simp [a20]) fun hf => ?_
  clear hf
  simp -implicitDefEqProofs (maxSteps := 2000000) (disch := omega) [-getElem?_pos, a20]
  refine (k_AsC (c := σ.objs.length) (x := .v (.int .i64 0)) (by simp) (Chn.more h)).mono fun r σ' hr => ?_
  obtain ⟨rfl, rfl⟩ := hr
  simp -implicitDefEqProofs (maxSteps := 2000000) (disch := omega) [-getElem?_pos]
  exact .fin _ ⟨rfl, rfl⟩ (.refl _)
end Go.Proofs.YtkfkifgfnlaceaaDoor
