/-
  Lexer: texts. (Own work.)
-/
import Derived.Test.YtpdeaekmgljeaaaGreatDoorL3
set_option linter.unusedVariables false
set_option linter.unusedSimpArgs false
namespace Go.Proofs.YtpdeaekmgljeaaaGreatDoor
open Go Go.Abs

@[reducible] def spotO (at_ : Int) (c : Int) : Ob := .cells [.v (.int .i64 at_), .v (.int .i64 c)]
theorem k_SpotAt {i c : Int} {σ : Sg} : ACalls Tryz.prog 43 [.v (.int .i64 i), .v (.int .i64 c)] σ fun r σ' => r = .iface 56 (.ptr σ.objs.length 0) ∧ σ' = ⟨σ.objs ++ [spotO i c], σ.toks⟩ := by
  refine acalls_fit Tryz.func43 (by kernel_rfl) c43 rfl (by simp [a43]) fun hf => ?_
  clear hf
  simp -implicitDefEqProofs (maxSteps := 2000000) (disch := omega) [-getElem?_pos, a43]
  exact ⟨_, _, WeakR.refl _ _ _, rfl, rfl⟩
inductive TR where
  | ok (s : Str) (to : Nat)
  | bad (q : Nat)
/-- What a text stands for, from behind its quote on. -/
def textL : Str → Nat → Str → TR
  | [], k, _ => .bad k
  | c :: r, k, out =>
    if c.toNat = 34 then .ok out (k + 1) else if plaB c = false then .bad k
    else if c.toNat = 92 then (match r with
      | [] => .bad (k + 1)
      | d :: r' => if d.toNat = 110 then textL r' (k + 2) (out ++ [10]) else if d.toNat = 34 ∨ d.toNat = 92 then textL r' (k + 2) (out ++ [d]) else .bad (k + 1))
    else textL r (k + 1) (out ++ [c])
theorem textL_q {c : UInt8} {r : Str} {k : Nat} {out : Str} (h : c.toNat = 34) : textL (c :: r) k out = .ok out (k + 1) := by cases r <;> simp [textL, h]
theorem textL_odd {c : UInt8} {r : Str} {k : Nat} {out : Str} (h : ¬ c.toNat = 34) (h2 : plaB c = false) : textL (c :: r) k out = .bad k := by cases r <;> simp [textL, h, h2]
theorem textL_esc0 {c : UInt8} {k : Nat} {out : Str} (h3 : c.toNat = 92) (h2 : plaB c = true) : textL [c] k out = .bad (k + 1) := by simp [textL, h2, h3]
theorem textL_escn {c d : UInt8} {r : Str} {k : Nat} {out : Str} (h3 : c.toNat = 92) (h2 : plaB c = true) (h : d.toNat = 110) : textL (c :: d :: r) k out = textL r (k + 2) (out ++ [10]) := by simp [textL, h2, h3, h]
theorem textL_escd {c d : UInt8} {r : Str} {k : Nat} {out : Str} (h3 : c.toNat = 92) (h2 : plaB c = true) (h : ¬ d.toNat = 110) (h4 : d.toNat = 34 ∨ d.toNat = 92) : textL (c :: d :: r) k out = textL r (k + 2) (out ++ [d]) := by simp [textL, h2, h3, h, h4]
theorem textL_esco {c d : UInt8} {r : Str} {k : Nat} {out : Str} (h3 : c.toNat = 92) (h2 : plaB c = true) (h : ¬ d.toNat = 110) (h4 : ¬ d.toNat = 34) (h5 : ¬ d.toNat = 92) : textL (c :: d :: r) k out = .bad (k + 1) := by simp [textL, h2, h3, h, h4, h5]
theorem textL_plain {c : UInt8} {r : Str} {k : Nat} {out : Str} (h : ¬ c.toNat = 34) (h2 : plaB c = true) (h3 : ¬ c.toNat = 92) : textL (c :: r) k out = textL r (k + 1) (out ++ [c]) := by cases r <;> simp [textL, h, h2, h3]
def TextPost (σ : Sg) (p : Nat) (b : Str) (t : TR) (r : D) (σ' : Sg) : Prop := match t with
  | .ok s to => r = .tup [.v (.str s), .v .inil] ∧ σ' = ⟨σ.objs.set p (cut b to), σ.toks⟩
  | .bad q => r = .tup [.v (.str []), .iface 56 (.ptr σ.objs.length 0)] ∧ σ' = ⟨σ.objs.set p (cut b q) ++ [spotO q 2], σ.toks⟩
theorem set_same {σ : Sg} {p : Nat} {ob : Ob} (hp : σ.objs[p]? = some ob) : σ.objs.set p ob = σ.objs := by
  have hpl := (List.getElem?_eq_some_iff.1 hp).1
  apply List.ext_getElem?
  intro j
  by_cases e : p = j
  · subst e
    rw [List.getElem?_set_self hpl]
    exact hp.symm
  · rw [List.getElem?_set_ne e]
theorem low_spot {σ : Sg} {p n k : Nat} {b : Str} {q j : Nat} {c : Int} : ∀ ob ∈ σ.objs.set p (cut b q) ++ [spotO j c], ob ∈ σ.objs ∨ ob.low n k := fun ob h => by
  rcases List.mem_append.1 h with h | h
  · exact low_set (by simp [cut]) ob h
  · rw [List.mem_singleton] at h
    subst h
    exact .inr (by simp)
structure TSt where
  k : Nat
  out : Str
theorem k_Text {b : Str} {i p : Nat} {σ : Sg} (hp : σ.objs[p]? = some (cut b i)) (hi : i ≤ b.length) (hb : b.length ≤ 1048576) : ACalls Tryz.prog 123 [.ptr p 0] σ (TextPost σ p b (textL (b.drop i) i [])) := by
  have hpl := (List.getElem?_eq_some_iff.1 hp).1
  have hset := set_same hp
  have cp := fun c σ => k_Plain (c := c) (σ := σ)
  unfold vB at cp
  refine acalls_fit Tryz.func123 (by kernel_rfl) c123 rfl (by simp [a123]) fun hf => ?_
  clear hf
  simp -implicitDefEqProofs (maxSteps := 2000000) (disch := omega) [-getElem?_pos, a123]
  refine W_loop (α := TSt) ⟨i, []⟩ (fun x => b.length - x.k) (fun x => ⟨[(0, .ptr p 0), (4, .tsl σ.toks.length none (bytesV x.out))], ⟨σ.objs.set p (cut b x.k), σ.toks ++ [x.out.length]⟩⟩)
    (fun x => x.k ≤ b.length ∧ x.out.length ≤ x.k ∧ textL (b.drop i) i [] = textL (b.drop x.k) x.k x.out) (.trans (b := ⟨[(0, .ptr p 0), (4, .tsl σ.toks.length none (bytesV []))], _⟩) (.tok (i := 4) (sh := none) (by simp) (by simp)) (.eq2 (by rw [hset]; rfl) (by simp))) ⟨hi, by simp, rfl⟩ fun ⟨k, out⟩ ⟨hk, hol, he⟩ => ?_
  dsimp only at hk hol he ⊢
  simp -implicitDefEqProofs (maxSteps := 2000000) (disch := omega) [-getElem?_pos, hpl]
  refine .mk (fun h => ?_) fun h => ?_
  · simp -implicitDefEqProofs (maxSteps := 2000000) (disch := omega) [-getElem?_pos, hpl]
    refine ⟨by omega, fun c hc => ?_⟩
    rw [drop_cons hc] at he
    have hcp := fun σ => cp c σ
    refine .mk (fun h34 => ?_) fun h34 => ?_
    · have he2 : textL (b.drop i) i [] = .ok out (k + 1) := he.trans (textL_q (by omega))
      rw [he2]
      simp -implicitDefEqProofs (maxSteps := 2000000) (disch := omega) [-getElem?_pos, hpl]
      exact .finS _ ⟨σ.objs.set p (cut b (k + 1)), σ.toks⟩ ⟨rfl, rfl⟩ (.refl _) (low_set (by simp [cut])) (by simp) (by simp [cut]) (by simp) (by simp) (by simp)
    have h34' : ¬ c.toNat = 34 := by omega
    simp -implicitDefEqProofs (maxSteps := 2000000) (disch := omega) [-getElem?_pos, h34]
    refine (hcp _).then fun r hr => ?_
    subst hr
    cases hpc : plaB c with
    | false =>
      have he2 : textL (b.drop i) i [] = .bad k := he.trans (textL_odd h34' hpc)
      rw [he2]
      simp -implicitDefEqProofs (maxSteps := 2000000) (disch := omega) [-getElem?_pos, hpl]
      refine (k_SpotAt (i := k) (c := 2)).mono fun r σ' hr => ?_
      obtain ⟨rfl, rfl⟩ := hr
      simp -implicitDefEqProofs (maxSteps := 2000000) (disch := omega) [-getElem?_pos, hpl]
      exact .finS _ ⟨σ.objs.set p (cut b k) ++ [spotO (k : Nat) 2], σ.toks⟩ ⟨rfl, rfl⟩ (.refl _) low_spot (by simp) (by simp [cut]) (by simp) (by simp) (by simp)
    | true =>
      simp -implicitDefEqProofs (maxSteps := 2000000) (disch := omega) [-getElem?_pos, hpl]
      refine .mk (fun h92 => ?_) fun h92 => ?_
      rotate_left
      · have h92' : ¬ c.toNat = 92 := by omega
        rw [textL_plain h34' hpc h92'] at he
        simp -implicitDefEqProofs (maxSteps := 2000000) (disch := omega) [-getElem?_pos, hpl]
        exact ⟨by omega, ⟨k + 1, out ++ [c]⟩, ⟨by show k + 1 ≤ b.length; omega, by simp; omega, he⟩, by show b.length - (k + 1) < b.length - k; omega, .eq2 (by simp [cut]) (by simp)⟩
      have h92' : c.toNat = 92 := by omega
      simp -implicitDefEqProofs (maxSteps := 2000000) (disch := omega) [-getElem?_pos, hpl]
      refine .mk (fun hl => ?_) fun hl => ?_
      · have hk1 : k + 1 = b.length := by omega
        rw [show b.drop (k + 1) = [] from List.drop_eq_nil_of_le (by omega), textL_esc0 h92' hpc] at he
        rw [he]
        simp -implicitDefEqProofs (maxSteps := 2000000) (disch := omega) [-getElem?_pos, hpl]
        refine (k_SpotAt (i := (k : Int) + 1) (c := 2)).mono fun r σ' hr => ?_
        obtain ⟨rfl, rfl⟩ := hr
        simp -implicitDefEqProofs (maxSteps := 2000000) (disch := omega) [-getElem?_pos, hpl]
        exact .finS _ ⟨σ.objs.set p (cut b (k + 1)) ++ [spotO ((k + 1 : Nat) : Int) 2], σ.toks⟩ ⟨rfl, rfl⟩ (.refl _) low_spot (by simp) (by simp [cut]) (by simp) (by simp) (by simp)
      · simp -implicitDefEqProofs (maxSteps := 2000000) (disch := omega) [-getElem?_pos, hpl]
        have e12 : (k : Int) + 1 + 1 = (k : Int) + 2 := by omega
        have b10 : bytesV out ++ [V.int .u8 10] = bytesV (out ++ [10]) := by simp [bytesV]
        refine ⟨by omega, by omega, fun d hd => ?_⟩
        rw [drop_cons hd] at he
        refine .mk (fun h110 => ?_) fun h110 => ?_
        · rw [textL_escn h92' hpc (by omega)] at he
          simp -implicitDefEqProofs (maxSteps := 2000000) (disch := omega) [-getElem?_pos, hpl]
          exact ⟨by omega, ⟨k + 2, out ++ [10]⟩, ⟨by show k + 2 ≤ b.length; omega, by simp; omega, he⟩, by show b.length - (k + 2) < b.length - k; omega, .eq2 (by simp [cut, e12]) (by simp [b10])⟩
        have h110' : ¬ d.toNat = 110 := by omega
        simp -implicitDefEqProofs (maxSteps := 2000000) (disch := omega) [-getElem?_pos, hpl]
        refine .mk (fun h34 => ?_) fun h34 => ?_
        · rw [textL_escd h92' hpc h110' (.inl (by omega))] at he
          simp -implicitDefEqProofs (maxSteps := 2000000) (disch := omega) [-getElem?_pos, hpl, h34]
          exact ⟨by omega, ⟨k + 2, out ++ [d]⟩, ⟨by show k + 2 ≤ b.length; omega, by simp; omega, he⟩, by show b.length - (k + 2) < b.length - k; omega, .eq2 (by simp [cut, e12]) (by simp [bytesV]; omega)⟩
        simp -implicitDefEqProofs (maxSteps := 2000000) (disch := omega) [-getElem?_pos, hpl, h34]
        refine .mk (fun h92 => ?_) fun h92 => ?_
        · rw [textL_escd h92' hpc h110' (.inr (by omega))] at he
          simp -implicitDefEqProofs (maxSteps := 2000000) (disch := omega) [-getElem?_pos, hpl, h92]
          exact ⟨by omega, ⟨k + 2, out ++ [d]⟩, ⟨by show k + 2 ≤ b.length; omega, by simp; omega, he⟩, by show b.length - (k + 2) < b.length - k; omega, .eq2 (by simp [cut, e12]) (by simp [bytesV]; omega)⟩
        rw [textL_esco h92' hpc h110' (by omega) (by omega)] at he
        rw [he]
        simp -implicitDefEqProofs (maxSteps := 2000000) (disch := omega) [-getElem?_pos, hpl, h92]
        refine (k_SpotAt (i := (k : Int) + 1) (c := 2)).mono fun r σ' hr => ?_
        obtain ⟨rfl, rfl⟩ := hr
        simp -implicitDefEqProofs (maxSteps := 2000000) (disch := omega) [-getElem?_pos, hpl]
        exact .finS _ ⟨σ.objs.set p (cut b (k + 1)) ++ [spotO ((k + 1 : Nat) : Int) 2], σ.toks⟩ ⟨rfl, rfl⟩ (.refl _) low_spot (by simp) (by simp [cut]) (by simp) (by simp) (by simp)
  · rw [show b.drop k = [] from List.drop_eq_nil_of_le (by omega)] at he
    have he2 : textL (b.drop i) i [] = .bad k := he
    rw [he2]
    simp -implicitDefEqProofs (maxSteps := 2000000) (disch := omega) [-getElem?_pos, hpl]
    refine (k_SpotAt (i := k) (c := 2)).mono fun r σ' hr => ?_
    obtain ⟨rfl, rfl⟩ := hr
    simp -implicitDefEqProofs (maxSteps := 2000000) (disch := omega) [-getElem?_pos, hpl]
    exact .finS _ ⟨σ.objs.set p (cut b k) ++ [spotO (k : Nat) 2], σ.toks⟩ ⟨rfl, rfl⟩ (.refl _) low_spot (by simp) (by simp [cut]) (by simp) (by simp) (by simp)
end Go.Proofs.YtpdeaekmgljeaaaGreatDoor
