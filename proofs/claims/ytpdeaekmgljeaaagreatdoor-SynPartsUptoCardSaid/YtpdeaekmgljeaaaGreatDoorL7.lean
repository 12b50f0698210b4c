/-
  Lexer: the next token. (Own work.)
-/
import Derived.Test.YtpdeaekmgljeaaaGreatDoorL6
set_option linter.unusedVariables false
set_option linter.unusedSimpArgs false
namespace Go.Proofs.YtpdeaekmgljeaaaGreatDoor
open Go Go.Abs

structure Tk where
  k : Int
  i : Nat
  n : Nat
  s : Str
def encK (t : Tk) : V := .agg [.int .i64 t.k, .int .i64 t.i, .int .i64 t.n, .str t.s]
inductive NR where
  | tok (t : Tk) (to : Nat)
  | bad (q : Nat)
def ldB (c : UInt8) : Bool := lowB c || digB c
def ludB (c : UInt8) : Bool := lowB c || (uppB c || digB c)
def nameN (b : Str) (i : Nat) (k : Int) (q : UInt8 → Bool) : NR := if 20 < (passS q b i).length then .bad i else .tok ⟨k, i, 0, passS q b i⟩ (spanE q b i)
def numN (b : Str) (i : Nat) (c : UInt8) : NR := if 9223372036854775807 < numV (passS digB b i) 0 ∨ (1 < (passS digB b i).length ∧ c.toNat = 48) then .bad i else .tok ⟨4, i, numV (passS digB b i) 0, []⟩ (spanE digB b i)
def textN (i : Nat) : TR → NR
  | .bad q => .bad q
  | .ok s to => if 2000 < s.length then .bad i else .tok ⟨5, i, 0, s⟩ to
def signN (i : Nat) (s : Str) : NR := if s = [] then .bad i else .tok ⟨6, i, 0, s⟩ (i + s.length)
/-- The token that stands there. -/
def oneL (b : Str) (i : Nat) (c : UInt8) : NR :=
  if lowB c = true then nameN b i (if passS ldB b i ∈ wordsL then 2 else 1) ldB
  else if uppB c = true then nameN b i 3 ludB
  else if digB c = true then numN b i c
  else if c.toNat = 34 then textN i (textL (b.drop (i + 1)) (i + 1) [])
  else signN i (signF b i signsL)
@[reducible] def zTok : V := .agg [.int .i64 0, .int .i64 0, .int .i64 0, .str []]
def NextPost (σ : Sg) (p : Nat) (b : Str) (x : NR) (r : D) (σ' : Sg) : Prop := match x with
  | .tok t to => r = .tup [.v (encK t), .v .inil] ∧ σ' = ⟨σ.objs.set p (cut b to), σ.toks⟩
  | .bad q => ∃ o xs ts e, r = .tup [.v zTok, .iface 56 (.ptr (σ.objs.length + o) 0)] ∧ σ' = ⟨σ.objs.set p (cut b e) ++ xs, σ.toks ++ ts⟩ ∧ xs[o]? = some (spotO q 2)
theorem passS_len {q : UInt8 → Bool} {b : Str} {i : Nat} : (passS q b i).length ≤ b.length := by
  unfold passS
  have h1 : ((b.drop i).takeWhile q).length ≤ (b.drop i).length := (List.takeWhile_prefix q).length_le
  rw [List.length_drop] at h1
  omega
theorem passS_all {q : UInt8 → Bool} {b : Str} {i : Nat} : ∀ c ∈ passS q b i, q c = true := by
  unfold passS
  generalize b.drop i = l
  intro c hc
  induction l with
  | nil => simp at hc
  | cons x l ih =>
    cases hx : q x with
    | true =>
      rw [List.takeWhile_cons_of_pos hx] at hc
      rcases List.mem_cons.1 hc with rfl | hc
      · exact hx
      · exact ih hc
    | false => rw [List.takeWhile_cons_of_neg (by simp [hx])] at hc; cases hc
theorem passS_head {q : UInt8 → Bool} {b : Str} {i : Nat} {c : UInt8} (h : b[i]? = some c) (hq : q c = true) : ∃ r, passS q b i = c :: r := by
  unfold passS
  rw [drop_cons h, List.takeWhile_cons_of_pos hq]
  exact ⟨_, rfl⟩
set_option maxHeartbeats 1000000 in
theorem k_Next {b : Str} {i p : Nat} {c : UInt8} {σ : Sg} (hp : σ.objs[p]? = some (cut b i)) (hc : b[i]? = some c) (hb : b.length ≤ 1048576) : ACalls Tryz.prog 82 [.ptr p 0] σ (NextPost σ p b (oneL b i c)) := by
  have hi : i < b.length := (List.getElem?_eq_some_iff.1 hc).1
  have hpl := (List.getElem?_eq_some_iff.1 hp).1
  have gp : ∀ r, (σ.objs ++ r)[p]? = some (cut b i) := fun r => by rw [List.getElem?_append_left hpl]; exact hp
  have cs := fun σ => k_SpotAt (i := i) (c := 2) (σ := σ)
  have cl := fun σ => k_Lower (c := c) (σ := σ)
  have cu := fun σ => k_Upper (c := c) (σ := σ)
  have cd := fun σ => k_Digit (c := c) (σ := σ)
  have p1 := fun r tk => k_Pass (fd := .v (.fn 116)) (q := ldB) (b := b) (i := i) (p := p) (σ := ⟨σ.objs ++ r, tk⟩) (gp r) (by omega) hb (fun c τ => by rw [WCall_fn]; exact k_Next1) (fun n k => trivial)
  have p2 := fun r tk => k_Pass (fd := .v (.fn 121)) (q := ludB) (b := b) (i := i) (p := p) (σ := ⟨σ.objs ++ r, tk⟩) (gp r) (by omega) hb (fun c τ => by rw [WCall_fn]; exact k_Next2) (fun n k => trivial)
  have p3 := fun r tk => k_Pass (fd := .v (.fn 117)) (q := digB) (b := b) (i := i) (p := p) (σ := ⟨σ.objs ++ r, tk⟩) (gp r) (by omega) hb (fun c τ => by rw [WCall_fn]; exact k_Digit) (fun n k => trivial)
  have hsa : ∀ r C, (σ.objs ++ r).set p C = σ.objs.set p C ++ r := fun r C => List.set_append_left _ _ hpl
  simp only [hsa] at p1 p2 p3
  unfold vB at cl cu cd
  obtain ⟨X, hX⟩ : ∃ X, X = oneL b i c := ⟨_, rfl⟩
  rw [← hX]
  unfold oneL at hX
  refine acalls_fit Tryz.func82 (by kernel_rfl) c82 rfl (by simp [a82]) fun hf => ?_
  clear hf
  simp -implicitDefEqProofs (maxSteps := 2000000) (disch := omega) [-getElem?_pos, a82, gp, hp]
  refine (cs _).mono fun r σ' hr => ?_
  obtain ⟨rfl, rfl⟩ := hr
  simp -implicitDefEqProofs (maxSteps := 2000000) (disch := omega) [-getElem?_pos, gp, hi]
  intro c' hc'
  rw [hc] at hc'
  cases hc'
  refine (cl _).then fun r hr => ?_
  subst hr
  cases hlo : lowB c with
  | true =>
    rw [if_pos hlo] at hX
    simp -implicitDefEqProofs (maxSteps := 2000000) (disch := omega) [-getElem?_pos]
    refine (p1 _ _).mono fun r σ' hr => ?_
    obtain ⟨rfl, rfl⟩ := hr
    simp -implicitDefEqProofs (maxSteps := 2000000) (disch := omega) [-getElem?_pos, hpl]
    refine k_Words.then fun r hr => ?_
    subst hr
    simp -implicitDefEqProofs (maxSteps := 2000000) (disch := omega) [-getElem?_pos, hpl]
    refine k_ContainsStr.then fun r hr => ?_
    subst hr
    have hl := passS_len (q := ldB) (b := b) (i := i)
    by_cases hw : passS ldB b i ∈ wordsL
    · rw [if_pos hw] at hX
      simp -implicitDefEqProofs (maxSteps := 2000000) (disch := omega) [-getElem?_pos, hpl, hw]
      refine .mk (fun h20 => ?_) fun h20 => ?_
      · rw [show X = NR.bad i from by rw [hX, nameN, if_pos (by omega)]]
        simp -implicitDefEqProofs (maxSteps := 2000000) (disch := omega) [-getElem?_pos, hpl]
        exact ⟨_, _, WeakR.refl _ _ _, 2, _, [], _, rfl, by simp; rfl, rfl⟩
      · rw [show X = NR.tok ⟨2, i, 0, passS ldB b i⟩ (spanE ldB b i) from by rw [hX, nameN, if_neg (by omega)]]
        simp -implicitDefEqProofs (maxSteps := 2000000) (disch := omega) [-getElem?_pos, hpl]
        exact .finS _ ⟨σ.objs.set p (cut b (spanE ldB b i)), σ.toks⟩ ⟨rfl, rfl⟩ (.refl _) (low_set (by simp [cut])) (by simp [encK]) (by simp) (by simp) (by simp) (by simp)
    · rw [if_neg hw] at hX
      simp -implicitDefEqProofs (maxSteps := 2000000) (disch := omega) [-getElem?_pos, hpl, hw]
      refine .mk (fun h20 => ?_) fun h20 => ?_
      · rw [show X = NR.bad i from by rw [hX, nameN, if_pos (by omega)]]
        simp -implicitDefEqProofs (maxSteps := 2000000) (disch := omega) [-getElem?_pos, hpl]
        exact ⟨_, _, WeakR.refl _ _ _, 2, _, [], _, rfl, by simp; rfl, rfl⟩
      · rw [show X = NR.tok ⟨1, i, 0, passS ldB b i⟩ (spanE ldB b i) from by rw [hX, nameN, if_neg (by omega)]]
        simp -implicitDefEqProofs (maxSteps := 2000000) (disch := omega) [-getElem?_pos, hpl]
        exact .finS _ ⟨σ.objs.set p (cut b (spanE ldB b i)), σ.toks⟩ ⟨rfl, rfl⟩ (.refl _) (low_set (by simp [cut])) (by simp [encK]) (by simp) (by simp) (by simp) (by simp)
  | false =>
    rw [if_neg (by simp [hlo])] at hX
    simp -implicitDefEqProofs (maxSteps := 2000000) (disch := omega) [-getElem?_pos]
    refine (cu _).then fun r hr => ?_
    subst hr
    cases hup : uppB c with
    | true =>
      rw [if_pos hup] at hX
      simp -implicitDefEqProofs (maxSteps := 2000000) (disch := omega) [-getElem?_pos]
      refine (p2 _ _).mono fun r σ' hr => ?_
      obtain ⟨rfl, rfl⟩ := hr
      simp -implicitDefEqProofs (maxSteps := 2000000) (disch := omega) [-getElem?_pos, hpl]
      have hl := passS_len (q := ludB) (b := b) (i := i)
      refine .mk (fun h20 => ?_) fun h20 => ?_
      · rw [show X = NR.bad i from by rw [hX, nameN, if_pos (by omega)]]
        simp -implicitDefEqProofs (maxSteps := 2000000) (disch := omega) [-getElem?_pos, hpl]
        exact ⟨_, _, WeakR.refl _ _ _, 2, _, [], _, rfl, by simp; rfl, rfl⟩
      · rw [show X = NR.tok ⟨3, i, 0, passS ludB b i⟩ (spanE ludB b i) from by rw [hX, nameN, if_neg (by omega)]]
        simp -implicitDefEqProofs (maxSteps := 2000000) (disch := omega) [-getElem?_pos, hpl]
        exact .finS _ ⟨σ.objs.set p (cut b (spanE ludB b i)), σ.toks⟩ ⟨rfl, rfl⟩ (.refl _) (low_set (by simp [cut])) (by simp [encK]) (by simp) (by simp) (by simp) (by simp)
    | false =>
      rw [if_neg (by simp [hup])] at hX
      simp -implicitDefEqProofs (maxSteps := 2000000) (disch := omega) [-getElem?_pos]
      refine (cd _).then fun r hr => ?_
      subst hr
      cases hdi : digB c with
      | true =>
        rw [if_pos hdi] at hX
        simp -implicitDefEqProofs (maxSteps := 2000000) (disch := omega) [-getElem?_pos]
        refine (p3 _ _).mono fun r σ' hr => ?_
        obtain ⟨rfl, rfl⟩ := hr
        simp -implicitDefEqProofs (maxSteps := 2000000) (disch := omega) [-getElem?_pos, hpl]
        have hl := passS_len (q := digB) (b := b) (i := i)
        obtain ⟨rr, hrr⟩ := passS_head hc hdi
        refine (k_PInt (passS_all) (by rw [hrr]; simp) (by omega)).then fun r hr => ?_
        obtain ⟨hr1, hr2⟩ := hr
        by_cases hM : numV (passS digB b i) 0 ≤ 9223372036854775807
        · obtain rfl := hr1 hM
          have hz : (passS digB b i)[0]? = some c := by rw [hrr]; rfl
          simp -implicitDefEqProofs (maxSteps := 2000000) (disch := omega) [-getElem?_pos, hpl]
          refine .mk (fun h1 => ?_) fun h1 => ?_
          · simp -implicitDefEqProofs (maxSteps := 2000000) (disch := omega) [-getElem?_pos, hpl, hz]
            refine ⟨by omega, ?_⟩
            refine .mk (fun h48 => ?_) fun h48 => ?_
            · rw [show X = NR.bad i from by rw [hX, numN, if_pos (.inr ⟨by omega, by omega⟩)]]
              simp -implicitDefEqProofs (maxSteps := 2000000) (disch := omega) [-getElem?_pos, hpl]
              exact ⟨_, _, WeakR.refl _ _ _, 2, _, [], _, rfl, by simp; rfl, rfl⟩
            · rw [show X = NR.tok ⟨4, i, numV (passS digB b i) 0, []⟩ (spanE digB b i) from by rw [hX, numN, if_neg (by omega)]]
              simp -implicitDefEqProofs (maxSteps := 2000000) (disch := omega) [-getElem?_pos, hpl]
              exact .finS _ ⟨σ.objs.set p (cut b (spanE digB b i)), σ.toks⟩ ⟨rfl, rfl⟩ (.refl _) (low_set (by simp [cut])) (by simp [encK]) (by simp) (by simp) (by simp) (by simp)
          · rw [show X = NR.tok ⟨4, i, numV (passS digB b i) 0, []⟩ (spanE digB b i) from by rw [hX, numN, if_neg (by omega)]]
            simp -implicitDefEqProofs (maxSteps := 2000000) (disch := omega) [-getElem?_pos, hpl]
            exact .finS _ ⟨σ.objs.set p (cut b (spanE digB b i)), σ.toks⟩ ⟨rfl, rfl⟩ (.refl _) (low_set (by simp [cut])) (by simp [encK]) (by simp) (by simp) (by simp) (by simp)
        · obtain ⟨v, t, rfl⟩ := hr2 hM
          rw [show X = NR.bad i from by rw [hX, numN, if_pos (.inl (by omega))]]
          simp -implicitDefEqProofs (maxSteps := 2000000) (disch := omega) [-getElem?_pos, hpl]
          exact ⟨_, _, WeakR.refl _ _ _, 2, _, [], _, rfl, by simp; rfl, rfl⟩
      | false =>
        rw [if_neg (by simp [hdi])] at hX
        simp -implicitDefEqProofs (maxSteps := 2000000) (disch := omega) [-getElem?_pos]
        refine .mk (fun h34 => ?_) fun h34 => ?_
        · rw [if_pos (by omega)] at hX
          simp -implicitDefEqProofs (maxSteps := 2000000) (disch := omega) [-getElem?_pos, gp, hpl, hsa]
          refine (k_Text (b := b) (i := i + 1) (p := p) (by dsimp only; exact get_app_set hpl) (by omega) hb).mono fun r σ' hr => ?_
          cases ht : textL (b.drop (i + 1)) (i + 1) [] with
          | ok st to =>
            rw [ht] at hX hr
            obtain ⟨rfl, rfl⟩ := hr
            simp -implicitDefEqProofs (maxSteps := 2000000) (disch := omega) [-getElem?_pos, hpl]
            refine .mk (fun h2 => ?_) fun h2 => ?_
            · rw [show X = NR.bad i from by rw [hX, textN, if_pos (by omega)]]
              simp -implicitDefEqProofs (maxSteps := 2000000) (disch := omega) [-getElem?_pos, hpl]
              exact ⟨_, _, WeakR.refl _ _ _, 2, _, [], _, rfl, by simp; rfl, rfl⟩
            · rw [show X = NR.tok ⟨5, i, 0, st⟩ (to) from by rw [hX, textN, if_neg (by omega)]]
              simp -implicitDefEqProofs (maxSteps := 2000000) (disch := omega) [-getElem?_pos, hpl]
              exact .finS _ ⟨σ.objs.set p (cut b (to)), σ.toks⟩ ⟨rfl, rfl⟩ (.refl _) (low_set (by simp [cut])) (by simp [encK]) (by simp) (by simp) (by simp) (by simp)
          | bad q =>
            rw [ht] at hX hr
            obtain ⟨rfl, rfl⟩ := hr
            rw [show X = NR.bad q from hX]
            simp -implicitDefEqProofs (maxSteps := 2000000) (disch := omega) [-getElem?_pos, hpl]
            exact ⟨_, _, WeakR.refl _ _ _, 3, _, [], _, rfl, by simp; rfl, rfl⟩
        · rw [if_neg (by omega)] at hX
          simp -implicitDefEqProofs (maxSteps := 2000000) (disch := omega) [-getElem?_pos, gp, hpl, hsa]
          have cg := fun r tk => k_Sign (b := b) (i := i) (p := p) (σ := ⟨σ.objs ++ r, tk⟩) (gp r) (by omega) hb
          simp only [hsa] at cg
          refine (cg _ _).mono fun r σ' hr => ?_
          obtain ⟨rfl, rfl⟩ := hr
          generalize signF b i signsL = sg at *
          simp -implicitDefEqProofs (maxSteps := 2000000) (disch := omega) [-getElem?_pos, hpl]
          refine .mk (fun hsg => ?_) fun hsg => ?_
          · rw [show X = NR.bad i from by rw [hX, signN, if_pos hsg]]
            simp -implicitDefEqProofs (maxSteps := 2000000) (disch := omega) [-getElem?_pos, hpl]
            exact ⟨_, _, WeakR.refl _ _ _, 2, _, [], _, rfl, by simp; rfl, rfl⟩
          · rw [show X = NR.tok ⟨6, i, 0, sg⟩ (i + sg.length) from by rw [hX, signN, if_neg hsg]]
            simp -implicitDefEqProofs (maxSteps := 2000000) (disch := omega) [-getElem?_pos, hpl]
            exact .finS _ ⟨σ.objs.set p (cut b (i + sg.length)), σ.toks⟩ ⟨rfl, rfl⟩ (.refl _) (low_set (by simp [cut])) (by simp [encK]) (by simp) (by simp) (by simp) (by simp)
end Go.Proofs.YtpdeaekmgljeaaaGreatDoor
