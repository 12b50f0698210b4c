/-
  The parser, walked: its first words. (Own work.)
-/
import Derived.Test.YtpdeaekmgljeaaaGreatDoorN11
set_option linter.unusedVariables false
set_option linter.unusedSimpArgs false
namespace Go.Proofs.YtpdeaekmgljeaaaGreatDoor
open Go Go.Abs
def errP : Option Int → D
 | none => .v .inil
 | some q => spotV q 3
def prs (C : PC) (st : PSt) : Ob := .cells [.v (.sl (some 4) false (C.L.map encK)), .v (.int .i64 st.i), .v (.int .i64 C.E), errP st.bad]
theorem prs_low {C : PC} {st : PSt} {n k : Nat} : (prs C st).low n k := by
 unfold prs errP
 cases st.bad <;> simp [Ob.low, spotV]
theorem low_set2 {os : List Ob} {p n k : Nat} {X Y : Ob} (h : Y.low n k) : ∀ ob ∈ os.set p Y, ob ∈ os.set p X ∨ ob.low n k := by
 intro ob hm
 obtain ⟨i, hi⟩ := List.mem_iff_getElem?.1 hm
 rw [List.getElem?_set] at hi
 by_cases hp : p = i
 ·rw [if_pos hp] at hi
  split at hi
  ·cases hi; exact .inr h
  ·cases hi
 ·rw [if_neg hp] at hi
  refine .inl (List.mem_of_getElem? (i := i) ?_)
  rw [List.getElem?_set_ne hp]
  exact hi
theorem pstart {Q : Sg → Prop} {σ : Sg} {p : Nat} {X : Ob} (hp : σ.objs[p]? = some X) (h : ∀ (os : List Ob) (tk : List Nat), p < os.length → Q ⟨os.set p X, tk⟩) : Q σ := by
 obtain ⟨os, tk⟩ := σ
 have hl : p < os.length := (List.getElem?_eq_some_iff.1 hp).1
 have : os = os.set p X := by
  refine List.ext_getElem? fun i => ?_
  rw [List.getElem?_set]
  split
  ·rename_i h; subst h; exact hp
  ·rfl
 rw [this]
 exact h os tk hl
theorem pget {P : Program} {f p : Nat} {ds : List D} {σ : Sg} {X : Ob} {R : D → Prop} (hp : σ.objs[p]? = some X) (h : ∀ (os : List Ob) (tk : List Nat), p < os.length → ACalls P f ds ⟨os.set p X, tk⟩ fun r σ' => R r ∧ σ' = ⟨os.set p X, tk⟩) :
  ACalls P f ds σ fun r σ' => R r ∧ σ' = σ := pstart (Q := fun σ => ACalls P f ds σ fun r σ' => R r ∧ σ' = σ) hp h
theorem pset {P : Program} {f p : Nat} {ds : List D} {σ : Sg} {X Y : Ob} {R : D → Prop} (hp : σ.objs[p]? = some X) (h : ∀ (os : List Ob) (tk : List Nat), p < os.length → ACalls P f ds ⟨os.set p X, tk⟩ fun r σ' => R r ∧ σ' = ⟨os.set p Y, tk⟩) :
  ACalls P f ds σ fun r σ' => R r ∧ σ' = ⟨σ.objs.set p Y, σ.toks⟩ := pstart (Q := fun σ => ACalls P f ds σ fun r σ' => R r ∧ σ' = ⟨σ.objs.set p Y, σ.toks⟩) hp fun os tk hl => by simpa only [List.set_set] using h os tk hl
structure OkP (C : PC) (st : PSt) : Prop where
 i : st.i ≤ C.L.length
 l : C.L.length ≤ 1000000
theorem get_tok {C : PC} {i : Nat} (h : i < C.L.length) : ∃ t, C.L[i]? = some t := ⟨_, List.getElem?_eq_getElem h⟩
theorem k_Place {C : PC} {st : PSt} {p : Nat} {σ : Sg} (hp : σ.objs[p]? = some (prs C st)) (ok : OkP C st) : ACalls Tryz.prog 54 [.ptr p 0] σ fun r σ' => r = .v (.int .i64 (placeP C st)) ∧ σ' = σ := by
 obtain ⟨hi, hL⟩ := ok
 unfold placeP
 obtain ⟨e, he⟩ : ∃ e, e = errP st.bad := ⟨_, rfl⟩
 unfold prs at hp
 rw [← he] at hp
 refine acalls_fit Tryz.func54 (by kernel_rfl) c54 rfl (by simp [a54]) fun hf => ?_
 clear hf
 simp -implicitDefEqProofs (disch := omega) [-getElem?_pos, a54, hp]
 refine .mk (fun h => ?_) fun h => ?_
 ·obtain ⟨t, ht⟩ := get_tok (C := C) (i := st.i) (by omega)
  rw [ht]
  simp -implicitDefEqProofs (disch := omega) [-getElem?_pos, hp]
  refine ⟨by omega, fun a ha => ?_⟩
  rw [ht] at ha
  cases ha
  simp -implicitDefEqProofs (disch := omega) [-getElem?_pos, encK]
  exact .fin _ ⟨rfl, rfl⟩ (.refl _)
 ·rw [List.getElem?_eq_none (by omega)]
  simp -implicitDefEqProofs (disch := omega) [-getElem?_pos, hp]
  exact .fin _ ⟨rfl, rfl⟩ (.refl _)
theorem k_Fail {C : PC} {st : PSt} {p : Nat} {σ : Sg} {q : Int} (hp : σ.objs[p]? = some (prs C st)) : ACalls Tryz.prog 53 [.ptr p 0, .v (.int .i64 q)] σ fun r σ' => r = .tup [] ∧ σ' = ⟨σ.objs.set p (prs C (failP q st)), σ.toks⟩ := by
 refine pset hp fun os tk hl => ?_
 clear hp σ
 have ks := fun σ => k_SpotF (i := q) (c := 3) (σ := σ)
 have hlow := fun n k => prs_low (C := C) (st := failP q st) (n := n) (k := k)
 obtain ⟨i, bad⟩ := st
 unfold prs failP at *
 dsimp only at *
 refine acalls_fit Tryz.func53 (by kernel_rfl) c53 rfl (by simp [a53]) fun hf => ?_
 clear hf
 cases bad with
 | none =>
  simp only [errP, Option.getD_none] at *
  unfold spotV at *
  simp -implicitDefEqProofs (disch := omega) [-getElem?_pos, a53]
  refine (ks _).then fun r hr => ?_
  subst hr
  simp -implicitDefEqProofs (disch := omega) [-getElem?_pos]
  exact .finS _ ⟨_, tk⟩ ⟨rfl, rfl⟩ (.refl _) (low_set2 (hlow _ _))
 | some z =>
  simp only [errP, Option.getD_some] at *
  unfold spotV at *
  simp -implicitDefEqProofs (disch := omega) [-getElem?_pos, a53]
  exact .fin _ ⟨rfl, rfl⟩ (.refl _)
theorem k_Ahead {C : PC} {st : PSt} {p k : Nat} {n : Int} {σ : Sg} (hp : σ.objs[p]? = some (prs C st)) (ok : OkP C st) (hn : n = k) (hk : k ≤ 1) : ACalls Tryz.prog 126 [.ptr p 0, .v (.int .i64 n)] σ fun r σ' => r = .v (encK (ahd C st k)) ∧ σ' = σ := by
 refine pget hp fun os tk hl => ?_
 clear hp σ
 obtain ⟨hi, hL⟩ := ok
 subst hn
 obtain ⟨X, hX⟩ : ∃ X, X = ahd C st k := ⟨_, rfl⟩
 rw [← hX]
 unfold ahd at hX
 obtain ⟨i, bad⟩ := st
 unfold prs
 dsimp only at *
 refine acalls_fit Tryz.func126 (by kernel_rfl) c126 rfl (by simp [a126]) fun hf => ?_
 clear hf
 cases bad with
 | some z =>
  simp only [errP] at *
  unfold spotV at *
  rw [if_pos (by rfl)] at hX
  subst hX
  simp -implicitDefEqProofs (disch := omega) [-getElem?_pos, a126]
  exact .fin _ ⟨rfl, rfl⟩ (.refl _)
 | none =>
  simp only [errP] at *
  rw [if_neg (by simp)] at hX
  simp -implicitDefEqProofs (disch := omega) [-getElem?_pos, a126]
  refine ⟨fun h => ?_, fun h => ?_⟩
  ·rw [List.getElem?_eq_none (by omega)] at hX
   subst hX
   simp -implicitDefEqProofs (disch := omega) [-getElem?_pos]
   exact .fin _ ⟨rfl, rfl⟩ (.refl _)
  ·obtain ⟨t, ht⟩ := get_tok (C := C) (i := i + k) (by omega)
   rw [ht] at hX
   obtain rfl : X = t := hX
   simp -implicitDefEqProofs (disch := omega) [-getElem?_pos]
   refine ⟨by omega, by omega, fun a ha => ?_⟩
   rw [show ((i : Int) + k).toNat = i + k by omega, ht] at ha
   cases ha
   simp -implicitDefEqProofs (disch := omega) [-getElem?_pos, encK]
   exact .fin _ ⟨rfl, rfl⟩ (.refl _)
theorem k_Sees {C : PC} {st : PSt} {p k : Nat} {n : Int} {s : Str} {σ : Sg} (hp : σ.objs[p]? = some (prs C st)) (ok : OkP C st) (hn : n = k) (hk : k ≤ 1) : ACalls Tryz.prog 125 [.ptr p 0, .v (.int .i64 n), .v (.str s)] σ fun r σ' => r = .v (.bool (sees C st k s)) ∧ σ' = σ := by
 have ka := k_Ahead (σ := σ) hp ok hn hk
 unfold sees
 clear hp
 generalize ahd C st k = t at ka ⊢
 unfold encK at ka
 refine acalls_fit Tryz.func125 (by kernel_rfl) c125 rfl (by simp [a125]) fun hf => ?_
 clear hf
 simp -implicitDefEqProofs (disch := omega) [-getElem?_pos, a125]
 refine ka.then fun r hr => ?_
 subst hr
 by_cases h2 : t.k = 2
 ·by_cases hs : t.s = s
  ·simp -implicitDefEqProofs (disch := omega) [-getElem?_pos, h2, hs]
   exact .fin _ ⟨by simp [seesT, h2, hs], rfl⟩ (.refl _)
  ·simp -implicitDefEqProofs (disch := omega) [-getElem?_pos, h2, hs]
   exact .fin _ ⟨by simp [seesT, h2, hs], rfl⟩ (.refl _)
 ·by_cases h6 : t.k = 6
  ·by_cases hs : t.s = s
   ·simp -implicitDefEqProofs (disch := omega) [-getElem?_pos, h2, h6, hs]
    exact .fin _ ⟨by simp [seesT, h6, hs], rfl⟩ (.refl _)
   ·simp -implicitDefEqProofs (disch := omega) [-getElem?_pos, h2, h6, hs]
    exact .fin _ ⟨by simp [seesT, h6, hs], rfl⟩ (.refl _)
  ·simp -implicitDefEqProofs (disch := omega) [-getElem?_pos, h2, h6]
   exact .fin _ ⟨by simp [seesT, h2, h6], rfl⟩ (.refl _)
def takeP (C : PC) (s : Str) (st : PSt) : PSt := if sees C st 0 s = true then advP st else st
theorem ahd_in {C : PC} {st : PSt} (h : (ahd C st 0).k ≠ 0) : st.bad = none ∧ st.i < C.L.length := by
 unfold ahd at h
 obtain ⟨i, bad⟩ := st
 cases bad with
 | some z => exact absurd rfl h
 | none =>
  refine ⟨rfl, Nat.lt_of_not_le fun hle => ?_⟩
  rw [if_neg (by simp)] at h
  dsimp only at h hle
  rw [List.getElem?_eq_none (by omega)] at h
  exact h rfl
theorem sees_in {C : PC} {st : PSt} {s : Str} (h : sees C st 0 s = true) : st.bad = none ∧ st.i < C.L.length := by
 refine ahd_in fun hk => ?_
 unfold sees seesT at h
 rw [hk] at h
 simp at h
theorem OkP.adv {C : PC} {st : PSt} (ok : OkP C st) (h : st.i < C.L.length) : OkP C (advP st) := ⟨h, ok.l⟩
theorem OkP.fail {C : PC} {st : PSt} {q : Int} (ok : OkP C st) : OkP C (failP q st) := ⟨ok.i, ok.l⟩
theorem OkP.take {C : PC} {st : PSt} {s : Str} (ok : OkP C st) : OkP C (takeP C s st) := by
 unfold takeP
 split
 ·rename_i h; exact ok.adv (sees_in h).2
 ·exact ok
theorem OkP.must {C : PC} {st : PSt} {s : Str} (ok : OkP C st) : OkP C (mustP C s st) := by
 unfold mustP
 split
 ·rename_i h; exact ok.adv (sees_in h).2
 ·exact ok.fail
theorem OkP.text {C : PC} {st : PSt} {k : Int} (ok : OkP C st) (hk : k ≠ 0) : OkP C (textP C k st).st := by
 unfold textP
 split
 ·rename_i h; exact ok.adv (ahd_in (by rw [h]; exact hk)).2
 ·exact ok.fail
theorem k_Takes {C : PC} {st : PSt} {p : Nat} {s : Str} {σ : Sg} (hp : σ.objs[p]? = some (prs C st)) (ok : OkP C st) : ACalls Tryz.prog 83 [.ptr p 0, .v (.str s)] σ fun r σ' => r = .v (.bool (sees C st 0 s)) ∧ σ' = ⟨σ.objs.set p (prs C (takeP C s st)), σ.toks⟩ := by
 refine pset hp fun os tk hl => ?_
 clear hp σ
 have ks := k_Sees (C := C) (st := st) (p := p) (k := 0) (n := 0) (s := s) (σ := ⟨os.set p (prs C st), tk⟩) (by simp [hl]) ok rfl (by omega)
 have hlow := fun n k => prs_low (C := C) (st := takeP C s st) (n := n) (k := k)
 have hin := fun h => sees_in (C := C) (st := st) (s := s) h
 obtain ⟨hi, hL⟩ := ok
 obtain ⟨i, bad⟩ := st
 unfold takeP at *
 generalize sees C ⟨i, bad⟩ 0 s = b at *
 unfold prs advP at *
 dsimp only at *
 generalize hE : errP bad = E at *
 cases b with
 | false =>
  simp only [Bool.false_eq_true, if_false] at *
  rw [hE]
  refine acalls_fit Tryz.func83 (by kernel_rfl) c83 rfl (by simp [a83]) fun hf => ?_
  clear hf
  simp -implicitDefEqProofs (disch := omega) [-getElem?_pos, a83]
  refine ks.then fun r hr => ?_
  subst hr
  simp -implicitDefEqProofs (disch := omega) [-getElem?_pos]
  exact .fin _ ⟨rfl, rfl⟩ (.refl _)
 | true =>
  have hi2 := (hin rfl).2
  simp only [if_true] at *
  rw [hE] at *
  refine acalls_fit Tryz.func83 (by kernel_rfl) c83 rfl (by simp [a83]) fun hf => ?_
  clear hf
  simp -implicitDefEqProofs (disch := omega) [-getElem?_pos, a83]
  refine ks.then fun r hr => ?_
  subst hr
  simp -implicitDefEqProofs (disch := omega) [-getElem?_pos]
  exact .finS _ ⟨_, tk⟩ ⟨rfl, rfl⟩ (.refl _) (low_set2 (hlow _ _))
theorem k_Must {C : PC} {st : PSt} {p : Nat} {s : Str} {σ : Sg} (hp : σ.objs[p]? = some (prs C st)) (ok : OkP C st) : ACalls Tryz.prog 85 [.ptr p 0, .v (.str s)] σ fun r σ' => r = .tup [] ∧ σ' = ⟨σ.objs.set p (prs C (mustP C s st)), σ.toks⟩ := by
 refine pset hp fun os tk hl => ?_
 clear hp σ
 have kt := k_Takes (C := C) (st := st) (p := p) (s := s) (σ := ⟨os.set p (prs C st), tk⟩) (by simp [hl]) ok
 have kp := k_Place (C := C) (st := st) (p := p) (σ := ⟨os.set p (prs C st), tk⟩) (by simp [hl]) ok
 have kf := k_Fail (C := C) (st := st) (p := p) (q := placeP C st) (σ := ⟨os.set p (prs C st), tk⟩) (by simp [hl])
 have hlow := fun st n k => prs_low (C := C) (st := st) (n := n) (k := k)
 simp only [List.set_set] at kt kf
 unfold mustP
 unfold takeP at kt
 generalize placeP C st = q at *
 cases hb : sees C st 0 s with
 | false =>
  simp only [hb, Bool.false_eq_true, if_false] at *
  refine acalls_fit Tryz.func85 (by kernel_rfl) c85 rfl (by simp [a85]) fun hf => ?_
  clear hf
  simp -implicitDefEqProofs (disch := omega) [-getElem?_pos, a85]
  refine kt.mono fun r σ' hr => ?_
  obtain ⟨rfl, rfl⟩ := hr
  simp -implicitDefEqProofs (disch := omega) [-getElem?_pos]
  refine kp.then fun r hr => ?_
  subst hr
  simp -implicitDefEqProofs (disch := omega) [-getElem?_pos]
  refine kf.mono fun r σ' hr => ?_
  obtain ⟨rfl, rfl⟩ := hr
  simp -implicitDefEqProofs (disch := omega) [-getElem?_pos]
  exact .finS _ ⟨_, tk⟩ ⟨rfl, rfl⟩ (.refl _) (low_set2 (hlow _ _ _))
 | true =>
  simp only [hb, if_true] at *
  refine acalls_fit Tryz.func85 (by kernel_rfl) c85 rfl (by simp [a85]) fun hf => ?_
  clear hf
  simp -implicitDefEqProofs (disch := omega) [-getElem?_pos, a85]
  refine kt.mono fun r σ' hr => ?_
  obtain ⟨rfl, rfl⟩ := hr
  simp -implicitDefEqProofs (disch := omega) [-getElem?_pos]
  exact .finS _ ⟨_, tk⟩ ⟨rfl, rfl⟩ (.refl _) (low_set2 (hlow _ _ _))
theorem k_TextP {C : PC} {st : PSt} {p : Nat} {k : Int} {σ : Sg} (hp : σ.objs[p]? = some (prs C st)) (ok : OkP C st) (hk : k ≠ 0) : ACalls Tryz.prog 84 [.ptr p 0, .v (.int .i64 k)] σ fun r σ' => r = .v (.str (textP C k st).s) ∧ σ' = ⟨σ.objs.set p (prs C (textP C k st).st), σ.toks⟩ := by
 refine pset hp fun os tk hl => ?_
 clear hp σ
 have ka := k_Ahead (C := C) (st := st) (p := p) (k := 0) (n := 0) (σ := ⟨os.set p (prs C st), tk⟩) (by simp [hl]) ok rfl (by omega)
 have kp := fun r tk' => k_Place (C := C) (st := st) (p := p) (σ := ⟨os.set p (prs C st) ++ r, tk'⟩) (by simp [hl]) ok
 have kf := fun r tk' => k_Fail (C := C) (st := st) (p := p) (q := placeP C st) (σ := ⟨os.set p (prs C st) ++ r, tk'⟩) (by simp [hl])
 have hlow := fun st n k => prs_low (C := C) (st := st) (n := n) (k := k)
 have hin := ahd_in (C := C) (st := st)
 obtain ⟨hi, hL⟩ := ok
 unfold textP
 generalize placeP C st = q at *
 generalize ahd C st 0 = t at *
 unfold encK at ka
 by_cases h : t.k = k
 ·have hi2 := (hin (by rw [h]; exact hk)).2
  rw [if_pos h]
  have hlow2 := hlow (advP st)
  unfold prs advP at *
  dsimp only at *
  generalize errP st.bad = E at *
  refine acalls_fit Tryz.func84 (by kernel_rfl) c84 rfl (by simp [a84]) fun hf => ?_
  clear hf
  simp -implicitDefEqProofs (disch := omega) [-getElem?_pos, a84]
  refine ka.then fun r hr => ?_
  subst hr
  simp -implicitDefEqProofs (disch := omega) [-getElem?_pos, h]
  exact .finS _ ⟨_, tk⟩ ⟨rfl, rfl⟩ (.refl _) (low_set2 (hlow2 _ _))
 ·rw [if_neg h]
  simp only [set_app_set hl] at kf
  generalize hX : prs C (failP q st) = X at *
  refine acalls_fit Tryz.func84 (by kernel_rfl) c84 rfl (by simp [a84]) fun hf => ?_
  clear hf
  simp -implicitDefEqProofs (disch := omega) [-getElem?_pos, a84]
  refine ka.then fun r hr => ?_
  subst hr
  simp -implicitDefEqProofs (disch := omega) [-getElem?_pos, h]
  refine (kp _ _).then fun r hr => ?_
  subst hr
  simp -implicitDefEqProofs (disch := omega) [-getElem?_pos]
  refine (kf _ _).mono fun r σ' hr => ?_
  obtain ⟨rfl, rfl⟩ := hr
  simp -implicitDefEqProofs (disch := omega) [-getElem?_pos]
  subst hX
  exact .finS _ ⟨_, tk⟩ ⟨rfl, rfl⟩ (.refl _) (low_set2 (hlow _ _ _))
def someP (C : PC) (ops : List Str) (st : PSt) : PSt := match opP C ops st with
 | none => st
 | some _ => advP st
theorem k_OpP {C : PC} {st : PSt} {p : Nat} {ops : List Str} {σ : Sg} (hp : σ.objs[p]? = some (prs C st)) (ok : OkP C st) (hn : ops.length ≤ 100) : ACalls Tryz.prog 166 [.ptr p 0, .v (vS ops)] σ fun r σ' => r = .v (.str ((opP C ops st).getD [])) ∧ σ' = ⟨σ.objs.set p (prs C (someP C ops st)), σ.toks⟩ := by
 refine pset hp fun os tk hl => ?_
 clear hp σ
 have kt := fun s => k_Takes (C := C) (st := st) (p := p) (s := s) (σ := ⟨os.set p (prs C st), tk⟩) (by simp [hl]) ok
 have hlow := fun st n k => prs_low (C := C) (st := st) (n := n) (k := k)
 simp only [List.set_set] at kt
 obtain ⟨R, hR⟩ : ∃ R, R = opP C ops st := ⟨_, rfl⟩
 unfold someP
 rw [← hR]
 unfold opP at hR
 unfold takeP at kt
 refine acalls_fit Tryz.func166 (by kernel_rfl) c166 rfl (by simp [a166]) fun hf => ?_
 clear hf
 simp -implicitDefEqProofs (disch := omega) [-getElem?_pos, a166]
 refine W_loop (α := Nat) 0 (fun i => ops.length - i) (fun i => ⟨[(0, .ptr p 0), (4, .v (.str [])), (7, .v (vS ops)), (8, .v (.int .i64 ops.length)), (9, .v (.int .i64 i))], ⟨os.set p (prs C st), tk⟩⟩)
  (fun i => i ≤ ops.length ∧ R = (ops.drop i).find? fun s => sees C st 0 s) (.eq (by simp)) ⟨by omega, by simpa using hR⟩ fun i ⟨hi, he⟩ => ?_
 simp -implicitDefEqProofs (disch := omega) [-getElem?_pos]
 refine .mk (fun h => ?_) fun h => ?_
 ·simp -implicitDefEqProofs (disch := omega) [-getElem?_pos]
  refine ⟨by omega, ?_⟩
  intro x hx
  rw [drop_cons hx, List.find?_cons] at he
  refine (kt x).mono fun r σ' hr => ?_
  obtain ⟨rfl, rfl⟩ := hr
  cases hb : sees C st 0 x with
  | true =>
   rw [hb] at he
   dsimp only at he
   subst he
   simp -implicitDefEqProofs (disch := omega) [-getElem?_pos, hb]
   exact .finS _ ⟨_, tk⟩ ⟨rfl, rfl⟩ (.refl _) (low_set2 (hlow _ _ _))
  | false =>
   rw [hb] at he
   dsimp only at he
   simp -implicitDefEqProofs (disch := omega) [-getElem?_pos, hb]
   exact ⟨i + 1, ⟨by omega, he⟩, by dsimp only; omega, .eq (by simp)⟩
 ·rw [List.drop_eq_nil_of_le (by omega)] at he
  simp only [List.find?_nil] at he
  subst he
  simp -implicitDefEqProofs (disch := omega) [-getElem?_pos]
  exact .fin _ ⟨rfl, rfl⟩ (.refl _)
def rem (C : PC) (st : PSt) : Nat := if st.bad.isSome = true then 0 else C.L.length - st.i
structure Fwd (C : PC) (st st' : PSt) : Prop where
 ok : OkP C st → OkP C st'
 le : rem C st' ≤ rem C st
 bd : st'.bad = none → st.bad = none
theorem Fwd.refl (C : PC) (st : PSt) : Fwd C st st := ⟨id, Nat.le_refl _, id⟩
theorem Fwd.trans {C : PC} {a b c : PSt} (h : Fwd C a b) (k : Fwd C b c) : Fwd C a c := ⟨fun o => k.ok (h.ok o), Nat.le_trans k.le h.le, fun b => h.bd (k.bd b)⟩
theorem rem_fail {C : PC} {st : PSt} {q : Int} : rem C (failP q st) = 0 := rfl
theorem rem_adv {C : PC} {st : PSt} : rem C (advP st) = rem C st - 1 := by
 unfold rem advP
 dsimp only
 split
 ·rfl
 ·omega
theorem rem_pos {C : PC} {st : PSt} (h : st.bad = none ∧ st.i < C.L.length) : 1 ≤ rem C st := by
 unfold rem
 rw [h.1, if_neg (by simp)]
 omega
theorem Fwd.fail {C : PC} {st : PSt} {q : Int} : Fwd C st (failP q st) := ⟨OkP.fail, by rw [rem_fail]; exact Nat.zero_le _, fun h => (by cases h)⟩
theorem Fwd.adv {C : PC} {st : PSt} (h : st.bad = none ∧ st.i < C.L.length) : Fwd C st (advP st) := ⟨fun o => o.adv h.2, by rw [rem_adv]; omega, fun h2 => h.1⟩
theorem Fwd.must {C : PC} {st : PSt} {s : Str} : Fwd C st (mustP C s st) := by
 unfold mustP
 split
 ·rename_i h; exact .adv (sees_in h)
 ·exact .fail
theorem must_rem {C : PC} {st : PSt} {s : Str} (h : (mustP C s st).bad = none) : rem C (mustP C s st) < rem C st := by
 unfold mustP at h ⊢
 split at h
 ·rename_i hs
  rw [if_pos hs, rem_adv]
  have := rem_pos (sees_in hs)
  omega
 ·cases h
theorem Fwd.text {C : PC} {st : PSt} {k : Int} (hk : k ≠ 0) : Fwd C st (textP C k st).st := by
 unfold textP
 split
 ·rename_i h; exact .adv (ahd_in (by rw [h]; exact hk))
 ·exact .fail
theorem op_in {C : PC} {st : PSt} {ops : List Str} {s : Str} (h : opP C ops st = some s) : sees C st 0 s = true := by
 unfold opP at h
 exact List.find?_some h
theorem Fwd.op {C : PC} {st : PSt} {ops : List Str} {s : Str} (h : opP C ops st = some s) : Fwd C st (advP st) := .adv (sees_in (op_in h))
def On (C : PC) (f : PF) : Prop := ∀ st, Fwd C st (f st).st
def Takes (C : PC) (f : PF) : Prop := ∀ st, atomB C st = true → rem C (f st).st < rem C st
theorem atom_in {C : PC} {st : PSt} (h : atomB C st = true) : st.bad = none ∧ st.i < C.L.length := by
 unfold atomB at h
 simp only [Bool.or_eq_true, decide_eq_true_eq] at h
 rcases h with h | h | h | h | h | h
 ·exact ahd_in (by rw [h]; decide)
 ·exact ahd_in (by rw [h]; decide)
 ·exact ahd_in (by rw [h]; decide)
 ·exact sees_in h
 ·exact sees_in h
 ·exact sees_in h
theorem on_postL {C : PC} : ∀ (f : Nat) (a : Ex) (st : PSt), Fwd C st (postL C f a st).st
 | 0, a, st => .refl C st
 | f + 1, a, st => by
  rw [postL]
  split
  ·rename_i h
   exact (Fwd.adv (sees_in h)).trans ((Fwd.text (by decide)).trans (on_postL f _ _))
  ·split
   ·rename_i h
    exact (Fwd.adv (sees_in h)).trans ((Fwd.text (by decide)).trans (on_postL f _ _))
   ·exact .refl C st
theorem on_post {C : PC} {f : PF} (h : On C f) : On C (postP C f) := fun st => (h st).trans (on_postL _ _ _)
theorem takes_post {C : PC} {f : PF} (h : Takes C f) : Takes C (postP C f) := fun st ha => Nat.lt_of_le_of_lt (on_postL _ _ _).le (h st ha)
theorem on_pre {C : PC} {f : PF} (h : On C f) : On C (preP C f) := fun st => by
 unfold preP
 split
 ·rename_i k hk
  have : (ahd C st 0).k ≠ 0 := by
   intro h0
   unfold headP at hk
   rw [h0] at hk
   simp at hk
  exact (Fwd.adv (ahd_in this)).trans (on_post h _)
 ·exact on_post h st
theorem on_appL {C : PC} {f : PF} (h : On C f) : ∀ (g : Nat) (a : Ex) (st : PSt), Fwd C st (appL C f g a st).st
 | 0, a, st => .refl C st
 | g + 1, a, st => by
  rw [appL]
  split
  ·exact (on_post h st).trans (on_appL h g _ _)
  ·exact .refl C st
theorem on_app {C : PC} {f : PF} (h : On C f) : On C (appP C f) := fun st => (on_pre h st).trans (on_appL h _ _ _)
theorem on_rowL {C : PC} {f : PF} {ops : List Str} (h : On C f) : ∀ (g : Nat) (a : Ex) (st : PSt), Fwd C st (rowL C f ops g a st).st
 | 0, a, st => .refl C st
 | g + 1, a, st => by
  rw [rowL]
  cases ho : opP C ops st with
  | none => exact .refl C st
  | some s => exact (Fwd.op ho).trans ((h _).trans (on_rowL h g _ _))
theorem on_row {C : PC} {f : PF} {ops : List Str} (h : On C f) : On C (rowP C f ops) := fun st => (h st).trans (on_rowL h _ _ _)
theorem on_mul {C : PC} {f : PF} (h : On C f) : On C (mulP C f) := on_row (on_app h)
theorem on_sum {C : PC} {f : PF} (h : On C f) : On C (sumP C f) := on_row (on_mul h)
theorem on_cmp {C : PC} {f : PF} (h : On C f) : On C (cmpP C f) := fun st => by
 unfold cmpP
 cases ho : opP C [[60], [61, 61]] (sumP C f st).st with
 | none => exact on_sum h st
 | some s => exact (on_sum h st).trans ((Fwd.op ho).trans (on_sum h _))
theorem on_set {C : PC} {f : PF} (h : On C f) : ∀ g, On C (setP C f g)
 | 0 => fun st => .refl C st
 | g + 1 => fun st => by
  rw [setP]
  split
  ·rename_i hs
   exact (on_cmp h st).trans ((Fwd.adv (sees_in hs)).trans (on_set h g _))
  ·exact on_cmp h st
theorem on_let2 {C : PC} {pe : PF} (h : On C pe) {k p : Int} {s t : Str} (st : PSt) : Fwd C st (let2P C pe k p s t st).st := by
 unfold let2P
 exact Fwd.must.trans ((h _).trans (Fwd.must.trans (h _)))
theorem on_let {C : PC} {pe : PF} (h : On C pe) {p : Int} (st : PSt) : Fwd C st (letP C pe p st).st := by
 unfold letP
 split
 ·rename_i hs
  exact (Fwd.adv (sees_in hs)).trans ((Fwd.text (by decide)).trans ((Fwd.text (by decide)).trans (on_let2 h _)))
 ·exact (Fwd.text (by decide)).trans (on_let2 h _)
theorem on_if {C : PC} {pe : PF} (h : On C pe) {p : Int} (st : PSt) : Fwd C st (ifP C pe p st).st := (h _).trans (Fwd.must.trans ((h _).trans (Fwd.must.trans (h _))))
theorem Fwd.dup {C : PC} {st : PSt} {b : Bool} {q : Int} : Fwd C st (if b = true then failP q st else st) := by
 split
 ·exact .fail
 ·exact .refl C st
theorem on_arm {C : PC} {pe : PF} (h : On C pe) (a : ArmS) : Fwd C a.st (armF C pe a).st := by
 unfold armF
 dsimp only
 split
 ·exact Fwd.must.trans ((Fwd.text (by decide)).trans (Fwd.must.trans (h _)))
 ·exact Fwd.must.trans ((Fwd.text (by decide)).trans (Fwd.dup.trans ((Fwd.text (by decide)).trans (Fwd.must.trans (h _)))))
theorem on_arms {C : PC} {pe : PF} (h : On C pe) : ∀ g a, Fwd C a.st (armsL C pe g a).st
 | 0, a => .refl C _
 | g + 1, a => by
  rw [armsL]
  split
  ·exact (on_arm h a).trans (on_arms h g _)
  ·exact .refl C _
theorem on_match {C : PC} {pe : PF} (h : On C pe) {p : Int} (st : PSt) : Fwd C st (matchP C pe p st).st := by
 unfold matchP
 dsimp only
 exact (h _).trans (Fwd.must.trans ((on_arms h _ ⟨[], [], [], mustP C wWith (pe st).st, true⟩).trans Fwd.must))
theorem on_expr {C : PC} {pe f : PF} (h : On C pe) (k : On C f) : On C (exprF C pe f) := fun st => by
 unfold exprF
 dsimp only
 split
 ·rename_i hs
  exact (Fwd.adv (sees_in hs)).trans ((Fwd.text (by decide)).trans (Fwd.must.trans (h _)))
 ·split
  ·rename_i hs
   exact (Fwd.adv (sees_in hs)).trans (on_let h _)
  ·split
   ·rename_i hs
    exact (Fwd.adv (sees_in hs)).trans (on_if h _)
   ·split
    ·rename_i hs
     exact (Fwd.adv (sees_in hs)).trans (on_match h _)
    ·exact on_set k _ st
def FR.st : FR → PSt
 | .ext _ _ _ _ st => st
 | .all _ st => st
theorem on_flds {C : PC} {pe : PF} (h : On C pe) : ∀ g a, Fwd C a.st (fldsL C pe g a).st
 | 0, a => .refl C _
 | g + 1, a => by
  rw [fldsL]
  dsimp only
  have h1 : Fwd C a.st (pe (mustP C [61] (if hasKey a.l (textP C 1 a.st).s = true then failP (placeP C a.st) (textP C 1 a.st).st else (textP C 1 a.st).st))).st :=
   (Fwd.text (by decide)).trans (Fwd.dup.trans (Fwd.must.trans (h _)))
  generalize pe (mustP C [61] (if hasKey a.l (textP C 1 a.st).s = true then failP (placeP C a.st) (textP C 1 a.st).st else (textP C 1 a.st).st)) = x at h1 ⊢
  split
  ·rename_i hs
   exact h1.trans ((Fwd.adv (sees_in hs.2)).trans (h _))
  ·split
   ·rename_i hs
    exact h1.trans ((Fwd.adv (sees_in hs.2)).trans (on_flds h g ⟨_, _⟩))
   ·exact h1
theorem on_braces {C : PC} {pe f : PF} (h : On C pe) (k : On C f) {p : Int} (st : PSt) : Fwd C st (bracesP C pe f p st).st := by
 unfold bracesP
 split
 ·rename_i hs
  exact .adv (sees_in hs)
 ·split
  ·dsimp only
   exact (on_post k st).trans (Fwd.must.trans ((Fwd.text (by decide)).trans (Fwd.must.trans ((h _).trans Fwd.must))))
  ·have := on_flds h (C.L.length + 1) ⟨[], st⟩
   cases hf : fldsL C pe (C.L.length + 1) ⟨[], st⟩ with
   | ext q s a b st' => rw [hf] at this; exact this.trans Fwd.must
   | all l st' => rw [hf] at this; exact this.trans Fwd.must
theorem on_prim {C : PC} {pe f : PF} (h : On C pe) (k : On C f) : On C (primF C pe f) := fun st => by
 unfold primF
 dsimp only
 split
 ·rename_i hs; exact .adv (ahd_in (by rw [hs]; decide))
 ·split
  ·rename_i hs; exact .adv (ahd_in (by rw [hs]; decide))
  ·split
   ·rename_i hs; exact .adv (ahd_in (by rw [hs]; decide))
   ·split
    ·rename_i hs; exact .adv (sees_in hs)
    ·split
     ·rename_i hs; exact (Fwd.adv (sees_in hs)).trans ((h _).trans Fwd.must)
     ·split
      ·rename_i hs; exact (Fwd.adv (sees_in hs)).trans (on_braces h k _)
      ·exact .fail
theorem takes_prim {C : PC} {pe f : PF} (h : On C pe) (k : On C f) : Takes C (primF C pe f) := fun st ha => by
 have hin := atom_in ha
 have hp := rem_pos hin
 have hadv : rem C (advP st) < rem C st := by rw [rem_adv]; omega
 unfold primF
 dsimp only
 split
 ·exact hadv
 ·split
  ·exact hadv
  ·split
   ·exact hadv
   ·split
    ·exact hadv
    ·split
     ·exact Nat.lt_of_le_of_lt ((h _).trans Fwd.must).le hadv
     ·split
      ·exact Nat.lt_of_le_of_lt (on_braces h k _).le hadv
      ·rename_i h4 h5 h1 hr ho hb
       unfold atomB at ha
       simp only [Bool.or_eq_true, decide_eq_true_eq] at ha
       rcases ha with ha | ha | ha | ha | ha | ha <;> contradiction
theorem on_pP {C : PC} : ∀ n, On C (pP C n).e ∧ On C (pP C n).r
 | 0 => ⟨fun st => .fail, fun st => .fail⟩
 | n + 1 => ⟨on_expr (on_pP n).1 (on_prim (on_pP n).1 (on_pP n).2), on_prim (on_pP n).1 (on_pP n).2⟩
def ownB : Ex → Bool
 | .mk k p n s t ls ns l =>
  if (l.length : Int) ≠ partsN k ls.length (decide (t ≠ [])) ∨ n < 0 ∨ (0 < n ∧ k ≠ 1) ∨ textB k s = false then false
  else if k = 8 then (ls.all fun s => isL s 1) && (riseL ls && decide (ls.length ≤ 30)) && decide (ns.length = 0) && decide (t = [])
  else if k = 14 then (ls.all fun s => isL s 3) && (riseL ls && decide (ls.length ≤ 30)) && decide (ns.length = ls.length) && (ns.all fun s => isL s 1) && (decide (t = []) || isL t 1) && decide (1 < l.length)
  else if k = 7 then isL t 1 && decide (ls.length + ns.length = 0)
  else decide (t = []) && decide (ls.length + ns.length = 0)
theorem k_Own {e : Ex} {σ : Sg} (he : csz e ≤ 1048576) : ACalls Tryz.prog 72 [.v (encE e)] σ fun r σ' => r = .v (.bool (ownB e)) ∧ σ' = σ := by
 cases e with
 | mk k p n s t ls ns l =>
 have hB : ownB (.mk k p n s t ls ns l) = if (l.length : Int) ≠ partsN k ls.length (decide (t ≠ [])) ∨ n < 0 ∨ (0 < n ∧ k ≠ 1) ∨ textB k s = false then false
  else if k = 8 then (ls.all fun s => isL s 1) && (riseL ls && decide (ls.length ≤ 30)) && decide (ns.length = 0) && decide (t = [])
  else if k = 14 then (ls.all fun s => isL s 3) && (riseL ls && decide (ls.length ≤ 30)) && decide (ns.length = ls.length) && (ns.all fun s => isL s 1) && (decide (t = []) || isL t 1) && decide (1 < l.length)
  else if k = 7 then isL t 1 && decide (ls.length + ns.length = 0)
  else decide (t = []) && decide (ls.length + ns.length = 0) := rfl
 simp only [csz] at he
 have hn1 := nsz_len ls
 have hn2 := nsz_len ns
 have hll := cszL_len l
 generalize ownB (.mk k p n s t ls ns l) = B at hB ⊢
 have kp := fun o σ => k_Parts (k := k) (labels := ls.length) (o := o) (σ := σ) (by omega) (by omega)
 have kt := fun σ => k_SText (k := k) (p := p) (n := n) (s := s) (t := t) (ls := ls) (ns := ns) (l := l) (σ := σ) (by omega)
 have ka := fun k σ => k_All (l := ls) (k := k) (σ := σ) (by omega)
 have kn := fun k σ => k_All (l := ns) (k := k) (σ := σ) (by omega)
 have kr := fun σ => k_Rises (l := ls) (σ := σ)
 have ki := fun k σ => k_Is (s := t) (k := k) (σ := σ) (by omega)
 rw [encE_mk] at kt ⊢
 have hte : (!List.isEmpty t) = decide (t ≠ []) := by cases t <;> simp
 have hte2 : List.isEmpty t = decide (t = []) := by cases t <;> simp
 have hz : ((ls.length : Int) + ns.length == 0) = decide (ls.length + ns.length = 0) := by rw [Bool.eq_iff_iff, beq_iff_eq, decide_eq_true_iff]; omega
 refine acalls_fit Tryz.func72 (by kernel_rfl) c72 rfl (by simp [a72]) fun hf => ?_
 clear hf
 rw [← hte] at hB
 simp -implicitDefEqProofs (disch := omega) [-getElem?_pos, a72]
 refine (kp _ _).then fun r hr => ?_
 subst hr
 obtain ⟨P, hP⟩ : ∃ P, P = partsN k ls.length (!List.isEmpty t) := ⟨_, rfl⟩
 rw [← hP] at hB ⊢
 by_cases h1 : (l.length : Int) = P
 rotate_left
 ·rw [if_pos (.inl h1)] at hB
  simp -implicitDefEqProofs (disch := omega) [-getElem?_pos, h1]
  exact .fin (.v (.bool false)) ⟨by rw [hB], rfl⟩ (.refl _)
 by_cases h2 : n < 0
 ·rw [if_pos (.inr (.inl h2))] at hB
  simp -implicitDefEqProofs (disch := omega) [-getElem?_pos, h1, h2]
  exact .fin (.v (.bool false)) ⟨by rw [hB], rfl⟩ (.refl _)
 by_cases h3 : 0 < n
 ·by_cases h4 : k = 1
  rotate_left
  ·rw [if_pos (.inr (.inr (.inl ⟨h3, h4⟩)))] at hB
   simp -implicitDefEqProofs (disch := omega) [-getElem?_pos, h1, h2, h3, h4]
   exact .fin (.v (.bool false)) ⟨by rw [hB], rfl⟩ (.refl _)
  subst h4
  simp -implicitDefEqProofs (disch := omega) [-getElem?_pos, h1, h2, h3]
  refine (kt _).then fun r hr => ?_
  subst hr
  cases hT : textB 1 s with
  | false =>
   rw [if_pos (.inr (.inr (.inr hT)))] at hB
   simp -implicitDefEqProofs (disch := omega) [-getElem?_pos]
   exact .fin (.v (.bool false)) ⟨by rw [hB], rfl⟩ (.refl _)
  | true =>
   rw [if_neg (by simp [h1, h2, hT]), if_neg (by decide), if_neg (by decide), if_neg (by decide)] at hB
   simp -implicitDefEqProofs (disch := omega) [-getElem?_pos]
   refine .mk (fun ht => ?_) fun ht => ?_
   ·simp -implicitDefEqProofs (disch := omega) [-getElem?_pos, ht]
    exact .fin (.v (.bool ((ls.length : Int) + ns.length == 0))) ⟨by rw [hB, hz]; simp [ht], rfl⟩ (.refl _)
   ·simp -implicitDefEqProofs (disch := omega) [-getElem?_pos, ht]
    exact .fin (.v (.bool false)) ⟨by rw [hB]; simp [ht], rfl⟩ (.refl _)
 ·simp -implicitDefEqProofs (disch := omega) [-getElem?_pos, h1, h2, h3]
  refine (kt _).then fun r hr => ?_
  subst hr
  cases hT : textB k s with
  | false =>
   rw [if_pos (.inr (.inr (.inr hT)))] at hB
   simp -implicitDefEqProofs (disch := omega) [-getElem?_pos]
   exact .fin (.v (.bool false)) ⟨by rw [hB], rfl⟩ (.refl _)
  | true =>
   rw [if_neg (by simp [h1, h2, h3, hT])] at hB
   by_cases h8 : k = 8
   ·rw [if_pos h8] at hB
    subst h8
    simp -implicitDefEqProofs (disch := omega) [-getElem?_pos]
    refine (ka 1 _).then fun r hr => ?_
    subst hr
    cases hc0 : ls.all fun s => isL s 1 with
    | false =>
     rw [hc0] at hB
     simp -implicitDefEqProofs (disch := omega) [-getElem?_pos]
     exact .fin (.v (.bool false)) ⟨by rw [hB]; simp, rfl⟩ (.refl _)
    | true =>
     rw [hc0] at hB
     simp -implicitDefEqProofs (disch := omega) [-getElem?_pos]
     refine (kr _).then fun r hr => ?_
     subst hr
     cases hc2 : riseL ls && decide (ls.length ≤ 30) with
     | false =>
      rw [hc2] at hB
      simp -implicitDefEqProofs (disch := omega) [-getElem?_pos]
      exact .fin (.v (.bool false)) ⟨by rw [hB]; simp, rfl⟩ (.refl _)
     | true =>
      rw [hc2] at hB
      simp -implicitDefEqProofs (disch := omega) [-getElem?_pos]
      refine .mk (fun hz1 => ?_) fun hz1 => ?_
      ·simp -implicitDefEqProofs (disch := omega) [-getElem?_pos, hz1]
       exact .fin (.v (.bool (List.isEmpty t))) ⟨by rw [hB, hte2]; simp [hz1], rfl⟩ (.refl _)
      ·simp -implicitDefEqProofs (disch := omega) [-getElem?_pos, hz1]
       exact .fin (.v (.bool false)) ⟨by rw [hB]; simp [hz1], rfl⟩ (.refl _)
   rw [if_neg h8] at hB
   by_cases h14 : k = 14
   ·rw [if_pos h14] at hB
    subst h14
    simp -implicitDefEqProofs (disch := omega) [-getElem?_pos]
    refine (ka 3 _).then fun r hr => ?_
    subst hr
    cases hc0 : ls.all fun s => isL s 3 with
    | false =>
     rw [hc0] at hB
     simp -implicitDefEqProofs (disch := omega) [-getElem?_pos]
     exact .fin (.v (.bool false)) ⟨by rw [hB]; simp, rfl⟩ (.refl _)
    | true =>
     rw [hc0] at hB
     simp -implicitDefEqProofs (disch := omega) [-getElem?_pos]
     refine (kr _).then fun r hr => ?_
     subst hr
     cases hc2 : riseL ls && decide (ls.length ≤ 30) with
     | false =>
      rw [hc2] at hB
      simp -implicitDefEqProofs (disch := omega) [-getElem?_pos]
      exact .fin (.v (.bool false)) ⟨by rw [hB]; simp, rfl⟩ (.refl _)
     | true =>
      rw [hc2] at hB
      simp -implicitDefEqProofs (disch := omega) [-getElem?_pos]
      refine .mk (fun he1 => ?_) fun he1 => ?_
      rotate_left
      ·simp -implicitDefEqProofs (disch := omega) [-getElem?_pos, he1]
       exact .fin (.v (.bool false)) ⟨by rw [hB]; have : ¬ ns.length = ls.length := fun h => he1 (by rw [h]); simp [this], rfl⟩ (.refl _)
      have he2 : ns.length = ls.length := by omega
      simp -implicitDefEqProofs (disch := omega) [-getElem?_pos, he1]
      refine (kn 1 _).then fun r hr => ?_
      subst hr
      cases hcn : ns.all fun s => isL s 1 with
      | false =>
       rw [hcn] at hB
       simp -implicitDefEqProofs (disch := omega) [-getElem?_pos]
       exact .fin (.v (.bool false)) ⟨by rw [hB]; simp, rfl⟩ (.refl _)
      | true =>
       rw [hcn] at hB
       simp -implicitDefEqProofs (disch := omega) [-getElem?_pos]
       refine .mk (fun ht => ?_) fun ht => ?_
       ·simp -implicitDefEqProofs (disch := omega) [-getElem?_pos, ht]
        exact .fin (.v (.bool (decide (1 < (l.length : Int))))) ⟨by rw [hB]; simp [ht, he2]; omega, rfl⟩ (.refl _)
       ·simp -implicitDefEqProofs (disch := omega) [-getElem?_pos, ht]
        refine (ki 1 _).then fun r hr => ?_
        subst hr
        cases hct : isL t 1 with
        | false =>
         rw [hct] at hB
         simp -implicitDefEqProofs (disch := omega) [-getElem?_pos]
         exact .fin (.v (.bool false)) ⟨by rw [hB]; simp [ht], rfl⟩ (.refl _)
        | true =>
         rw [hct] at hB
         simp -implicitDefEqProofs (disch := omega) [-getElem?_pos]
         exact .fin (.v (.bool (decide (1 < (l.length : Int))))) ⟨by rw [hB]; simp [he2]; omega, rfl⟩ (.refl _)
   rw [if_neg h14] at hB
   by_cases h7 : k = 7
   ·rw [if_pos h7] at hB
    subst h7
    simp -implicitDefEqProofs (disch := omega) [-getElem?_pos]
    refine (ki 1 _).then fun r hr => ?_
    subst hr
    cases hc0 : isL t 1 with
    | false =>
     rw [hc0] at hB
     simp -implicitDefEqProofs (disch := omega) [-getElem?_pos]
     exact .fin (.v (.bool false)) ⟨by rw [hB]; simp, rfl⟩ (.refl _)
    | true =>
     rw [hc0] at hB
     simp -implicitDefEqProofs (disch := omega) [-getElem?_pos]
     exact .fin (.v (.bool ((ls.length : Int) + ns.length == 0))) ⟨by rw [hB, hz]; simp, rfl⟩ (.refl _)
   rw [if_neg h7] at hB
   simp -implicitDefEqProofs (disch := omega) [-getElem?_pos, h8, h14, h7]
   refine .mk (fun ht => ?_) fun ht => ?_
   ·simp -implicitDefEqProofs (disch := omega) [-getElem?_pos, ht]
    exact .fin (.v (.bool ((ls.length : Int) + ns.length == 0))) ⟨by rw [hB, hz]; simp [ht], rfl⟩ (.refl _)
   ·simp -implicitDefEqProofs (disch := omega) [-getElem?_pos, ht]
    exact .fin (.v (.bool false)) ⟨by rw [hB]; simp [ht], rfl⟩ (.refl _)
theorem k_IndexFuncEx {xs : List Ex} {f : Bool} {fd : D} {p : Ex → Bool} {σ : Sg} (hp : ∀ x ∈ xs, WCall Tryz.prog fd [.v (encE x)] σ fun r σ' => r = .v (.bool (p x)) ∧ σ' = σ) :
  ACalls Tryz.prog 111 [.v (.sl (some 8) f (xs.map encE)), fd] σ fun r σ' => r = .v (.int .i64 ((xs.findIdx? p).elim (-1) fun i => (i : Int))) ∧ σ' = σ := by
 refine acalls_fit Tryz.func111 (by kernel_rfl) c111 rfl (by simp [a111]) fun hf => ?_
 simp at hf
 simp -implicitDefEqProofs (disch := omega) [-getElem?_pos, a111]
 refine W_loop (α := Nat) 0 (fun i => xs.length - i) (fun i => ⟨[(0, .v (.sl (some 8) f (xs.map encE))), (1, fd), (7, .v (.int .i64 xs.length)), (8, .v (.int .i64 i))], σ⟩) (fun i => i ≤ xs.length ∧ xs.findIdx? p = ((xs.drop i).findIdx? p).map fun k => k + i)
  (.eq (by simp)) ⟨by omega, by simp⟩ fun i ⟨hi, he⟩ => ?_
 simp -implicitDefEqProofs (disch := omega) [-getElem?_pos]
 refine .mk (fun h => ?_) fun h => ?_
 ·simp -implicitDefEqProofs (disch := omega) [-getElem?_pos]
  refine ⟨by omega, fun x hx => ?_⟩
  refine (hp x (List.mem_of_getElem? hx)).then fun r hr => ?_
  subst hr
  have hdc := drop_cons hx
  rw [hdc, List.findIdx?_cons] at he
  simp -implicitDefEqProofs (disch := omega) [-getElem?_pos]
  refine .mk (fun hq => ?_) fun hq => ?_
  ·rw [if_pos hq] at he
   simp -implicitDefEqProofs (disch := omega) [-getElem?_pos]
   refine .fin _ ⟨?_, rfl⟩ (.refl _)
   rw [he]
   simp
  ·rw [if_neg hq] at he
   simp -implicitDefEqProofs (disch := omega) [-getElem?_pos]
   refine ⟨i + 1, ⟨by omega, ?_⟩, by dsimp only; omega, .eq (by simp)⟩
   rw [he]
   simp only [Option.map_map]
   congr 1
   funext k
   simp only [Function.comp]
   omega
 ·simp -implicitDefEqProofs (disch := omega) [-getElem?_pos]
  refine .fin _ ⟨?_, rfl⟩ (.refl _)
  rw [he, List.drop_eq_nil_of_le (by omega)]
  rfl
theorem k_ContainsFuncEx {xs : List Ex} {f : Bool} {fd : D} {p : Ex → Bool} {σ : Sg} (hp : ∀ x ∈ xs, WCall Tryz.prog fd [.v (encE x)] σ fun r σ' => r = .v (.bool (p x)) ∧ σ' = σ) :
  ACalls Tryz.prog 73 [.v (.sl (some 8) f (xs.map encE)), fd] σ fun r σ' => r = .v (.bool (xs.any p)) ∧ σ' = σ := by
 refine acalls_fit Tryz.func73 (by kernel_rfl) c73 rfl (by simp [a73]) fun hf => ?_
 simp -implicitDefEqProofs (disch := omega) [-getElem?_pos, a73]
 refine (k_IndexFuncEx hp).then fun r hr => ?_
 subst hr
 simp -implicitDefEqProofs (disch := omega) [-getElem?_pos]
 refine .fin _ ⟨?_, rfl⟩ (.refl _)
 congr 2
 cases h : xs.findIdx? p with
 | none =>
  have h2 := List.findIdx?_eq_none_iff.1 h
  simp
  exact fun x hx => by simpa using h2 x hx
 | some i =>
  have h2 := List.findIdx?_eq_some_iff_getElem.1 h
  obtain ⟨hlt, hq, _⟩ := h2
  simp
  exact ⟨_, List.getElem_mem hlt, hq⟩
mutual
def fineB : Ex → Bool
 | .mk k p n s t ls ns l => ownB (.mk k p n s t ls ns l) && fineLB l
def fineLB : List Ex → Bool
 | [] => true
 | x :: l => fineB x && fineLB l
end
theorem any_fine : ∀ l : List Ex, l.any (fun x => !fineB x) = !fineLB l
 | [] => rfl
 | x :: l => by rw [List.any_cons, any_fine l, fineLB, Bool.not_and]
theorem k_Fine1 {e : Ex} {σ : Sg} (hF : ∀ σ, ACalls Tryz.prog 47 [.v (encE e)] σ fun r σ' => r = .v (.bool (fineB e)) ∧ σ' = σ) : ACalls Tryz.prog 74 [.v (encE e)] σ fun r σ' => r = .v (.bool (!fineB e)) ∧ σ' = σ := by
 obtain ⟨b, hb⟩ : ∃ b, b = fineB e := ⟨_, rfl⟩
 rw [← hb] at hF ⊢
 cases e with
 | mk k p n s t ls ns l =>
 rw [encE_mk] at hF ⊢
 refine acalls_fit Tryz.func74 (by kernel_rfl) c74 rfl (by simp [a74]) fun hf => ?_
 clear hf
 simp -implicitDefEqProofs (disch := omega) [-getElem?_pos, a74]
 refine (hF _).then fun r hr => ?_
 subst hr
 simp -implicitDefEqProofs (disch := omega) [-getElem?_pos]
 exact .fin _ ⟨rfl, rfl⟩ (.refl _)
theorem k_Fine (e : Ex) : ∀ {σ : Sg}, csz e ≤ 1048576 → ACalls Tryz.prog 47 [.v (encE e)] σ fun r σ' => r = .v (.bool (fineB e)) ∧ σ' = σ := by
 refine Ex.ind (P := fun e => ∀ {σ : Sg}, csz e ≤ 1048576 → ACalls Tryz.prog 47 [.v (encE e)] σ fun r σ' => r = .v (.bool (fineB e)) ∧ σ' = σ) (fun k p n s t ls ns l ih => ?_) e
 intro σ he
 have ko := fun σ => k_Own (e := .mk k p n s t ls ns l) (σ := σ) he
 have hB : fineB (.mk k p n s t ls ns l) = (ownB (.mk k p n s t ls ns l) && fineLB l) := by rw [fineB]
 generalize fineB (.mk k p n s t ls ns l) = B at hB ⊢
 generalize ownB (.mk k p n s t ls ns l) = O at hB ko
 have hsz : ∀ x ∈ l, csz x ≤ 1048576 := fun x hx => by
  have := cszL_mem hx
  simp only [csz] at he
  omega
 have kc := fun σ => k_ContainsFuncEx (xs := l) (f := false) (fd := .v (.fn 74)) (p := fun x => !fineB x) (σ := σ) fun x hx => by
  rw [WCall_fn]
  exact k_Fine1 fun σ => ih x hx (hsz x hx)
 rw [encE_mk] at ko ⊢
 refine acalls_fit Tryz.func47 (by kernel_rfl) c47 rfl (by simp [a47]) fun hf => ?_
 clear hf
 simp -implicitDefEqProofs (disch := omega) [-getElem?_pos, a47]
 refine (ko _).then fun r hr => ?_
 subst hr
 cases O with
 | false =>
  simp -implicitDefEqProofs (disch := omega) [-getElem?_pos]
  exact .fin (.v (.bool false)) ⟨by rw [hB]; simp, rfl⟩ (.refl _)
 | true =>
  simp -implicitDefEqProofs (disch := omega) [-getElem?_pos]
  refine (kc _).then fun r hr => ?_
  rw [any_fine] at hr
  subst hr
  simp -implicitDefEqProofs (disch := omega) [-getElem?_pos]
  exact .fin (.v (.bool (fineLB l))) ⟨by rw [hB]; simp, rfl⟩ (by simp)
def mayB (e : Ex) : Bool := decide (dep e ≤ 60) && (decide (nds e ≤ 1500) && fineB e)
theorem k_May {e : Ex} {σ : Sg} (he : csz e ≤ 1048576) : ACalls Tryz.prog 23 [.v (encE e)] σ fun r σ' => r = .v (.bool (mayB e)) ∧ σ' = σ := by
 have kd := fun σ => k_Depth e (σ := σ) he
 have kn := fun σ => k_Nodes e (σ := σ) he
 have kf := fun σ => k_Fine e (σ := σ) he
 have hB : mayB e = (decide (dep e ≤ 60) && (decide (nds e ≤ 1500) && fineB e)) := rfl
 generalize mayB e = B at hB ⊢
 generalize fineB e = F at hB kf
 generalize dep e = d at hB kd
 generalize nds e = m at hB kn
 cases e with
 | mk k p n s t ls ns l =>
 rw [encE_mk] at kd kn kf ⊢
 refine acalls_fit Tryz.func23 (by kernel_rfl) c23 rfl (by simp [a23]) fun hf => ?_
 clear hf
 simp -implicitDefEqProofs (disch := omega) [-getElem?_pos, a23]
 refine (kd _).then fun r hr => ?_
 subst hr
 simp -implicitDefEqProofs (disch := omega) [-getElem?_pos]
 refine .mk (fun h1 => ?_) fun h1 => ?_
 rotate_left
 ·simp -implicitDefEqProofs (disch := omega) [-getElem?_pos]
  exact .fin (.v (.bool false)) ⟨by rw [hB]; simp; intros; omega, rfl⟩ (.refl _)
 simp -implicitDefEqProofs (disch := omega) [-getElem?_pos]
 refine (kn _).then fun r hr => ?_
 subst hr
 simp -implicitDefEqProofs (disch := omega) [-getElem?_pos]
 refine .mk (fun h2 => ?_) fun h2 => ?_
 rotate_left
 ·simp -implicitDefEqProofs (disch := omega) [-getElem?_pos]
  exact .fin (.v (.bool false)) ⟨by rw [hB]; simp; intros; omega, rfl⟩ (.refl _)
 simp -implicitDefEqProofs (disch := omega) [-getElem?_pos]
 refine (kf _).then fun r hr => ?_
 subst hr
 simp -implicitDefEqProofs (disch := omega) [-getElem?_pos]
 exact .fin (.v (.bool F)) ⟨by rw [hB, decide_eq_true (by omega : d ≤ 60), decide_eq_true (by omega : m ≤ 1500)]; simp, rfl⟩ (.refl _)
def celE : Ex → List V
 | .mk k p n s t ls ns l => [.int .i64 k, .int .i64 p, .int .i64 n, .str s, .str t, .sl none false (ls.map .str), .sl none false (ns.map .str), .sl (some 8) false (l.map encE)]
theorem celE_enc (e : Ex) : encE e = .agg (celE e) := by cases e; exact encE_mk
theorem celE_one (e : Ex) : ∀ c ∈ celE e, c.one = true := by cases e; simp [celE, V.one]
theorem VLes.append : ∀ {a b c d : List V}, VLes a b → VLes c d → VLes (a ++ c) (b ++ d)
 | [], [], _, _, _, h => h
 | x :: a, y :: b, _, _, h, k => ⟨h.1, VLes.append h.2 k⟩
 | [], _ :: _, _, _, h, _ => h.elim
 | _ :: _, [], _, _, h, _ => h.elim
def ELes : List V → List Ex → Prop
 | [], [] => True
 | .agg cs :: xs, e :: l => VLes cs (celE e) ∧ ELes xs l
 | _, _ => False
theorem ELes.flat : ∀ {xs : List V} {l : List Ex}, ELes xs l → VLes (V.flat xs) (V.flat (l.map encE)) ∧ xs.length = l.length
 | [], [], _ => ⟨trivial, rfl⟩
 | .agg cs :: xs, e :: l, h => by
  obtain ⟨h1, h2⟩ := ELes.flat h.2
  refine ⟨?_, by simp [h2]⟩
  simp only [V.flat, List.map_cons, List.flatMap_cons, celE_enc, V.cells] at h1 ⊢
  exact VLes.append h.1 h1
theorem flat_one : ∀ l : List Ex, ∀ c ∈ V.flat (l.map encE), c.one = true
 | [], c, h => by cases h
 | e :: l, c, h => by
  simp only [V.flat, List.map_cons, List.flatMap_cons, celE_enc, V.cells, List.mem_append] at h
  rcases h with h | h
  ·exact celE_one e c h
  ·exact flat_one l c (by simpa only [V.flat, celE_enc] using h)
theorem exs_le {f : Bool} {xs : List V} {l : List Ex} (h : ELes xs l) : VLe (.sl (some 8) f xs) (.sl (some 8) false (l.map encE)) := by
 obtain ⟨h1, h2⟩ := h.flat
 exact .sl (by simpa using h2) (fun y hy => by obtain ⟨e, _, rfl⟩ := List.mem_map.1 hy; exact encE_shape e) (flat_one l) h1
theorem ex_le {cs : List V} {e : Ex} (h : VLes cs (celE e)) : VLe (.agg cs) (encE e) := by
 rw [celE_enc]
 exact .agg h (celE_one e)
theorem leaf_le {k p n : Int} {s t : Str} : VLes [.int .i64 k, .int .i64 p, .int .i64 n, .str s, .str t, .snil, .snil, .snil] (celE (.mk k p n s t [] [] [])) := ⟨.refl _, .refl _, .refl _, .refl _, .refl _, .snil, .snil, .snil, trivial⟩
theorem vles_refl : ∀ xs : List V, VLes xs xs
 | [] => trivial
 | x :: xs => ⟨.refl _, vles_refl xs⟩
theorem VLes.len : ∀ {xs ys : List V}, VLes xs ys → xs.length = ys.length
 | [], [], _ => rfl
 | x :: xs, y :: ys, h => by simp [VLes.len h.2]
 | [], _ :: _, h => h.elim
 | _ :: _, [], h => h.elim
theorem VLes.at : ∀ {xs ys : List V} {i : Nat} {x y : V}, VLes xs ys → xs[i]? = some x → ys[i]? = some y → VLe x y
 | _ :: _, _ :: _, 0, _, _, h, h1, h2 => by cases h1; cases h2; exact h.1
 | _ :: xs, _ :: ys, i + 1, x, y, h, h1, h2 => VLes.at (i := i) h.2 (by simpa using h1) (by simpa using h2)
theorem Weak.obLe {B : Sg} {env env' : List (Nat × D)} {σ σ' : Sg} (o : Nat) (cs cs' : List D) (ho : σ.objs[o]? = some (.cells cs)) (hne : cs ≠ []) (hlen : cs'.length = cs.length)
  (hle : ∀ (i : Nat) d d', cs[i]? = some d → cs'[i]? = some d' → D.Le d d') (hσ : ⟨σ.objs.set o (.cells cs'), σ.toks⟩ = σ') (h : EnvEq env env') : Weak B ⟨env, σ⟩ ⟨env', σ'⟩ := by
 subst hσ
 refine ⟨fun n hn => ?_, fun m0 m w0 w tmps hB hX hI hE => ?_⟩
 ·rcases h.spec n with e | e
  ·exact e.trans hn
  ·exact e
 ·have hI2 := hI.obLe (o := o) (cs := cs) (cs' := cs') ho hne hlen.symm fun i d d' hd hd' u hu => hle i d d' hd hd' _ _ _ hu
  refine ⟨_, hI2, fun n => ?_, hX⟩
  show RepD _ w (Go.Abs.look env' n) _
  rcases h.spec n with e | e
  ·rw [e]; exact hE n
  ·rw [e]; exact .junk _
theorem obE_cel (e : Ex) : obE e = .cells ((celE e).map .v) := by cases e; rfl
theorem Weak.exLe {B : Sg} {env env' : List (Nat × D)} {σ σ' : Sg} (o : Nat) (xs : List V) (e : Ex) (ho : σ.objs[o]? = some (.cells (xs.map .v))) (hle : VLes xs (celE e)) (hσ : ⟨σ.objs.set o (obE e), σ.toks⟩ = σ') (h : EnvEq env env') : Weak B ⟨env, σ⟩ ⟨env', σ'⟩ := by
 rw [obE_cel] at hσ
 have hl := VLes.len hle
 refine Weak.obLe o _ _ ho (fun h0 => ?_) (by simp [hl]) (fun i d d' hd hd' => ?_) hσ h
 ·have : xs.length = 0 := by simpa using congrArg List.length h0
  cases e
  simp [celE] at hl
  omega
 ·rw [List.getElem?_map] at hd hd'
  cases hx : xs[i]? with
  | none => rw [hx] at hd; cases hd
  | some x =>
   cases hy : (celE e)[i]? with
   | none => rw [hy] at hd'; cases hd'
   | some y =>
    rw [hx] at hd
    rw [hy] at hd'
    cases hd
    cases hd'
    exact (VLes.at hle hx hy).d
theorem lit1 {k p n : Int} {s t : Str} {a : Ex} : VLes [.int .i64 k, .int .i64 p, .int .i64 n, .str s, .str t, .snil, .snil, .sl (some 8) true [encE a]] (celE (.mk k p n s t [] [] [a])) :=
 ⟨.refl _, .refl _, .refl _, .refl _, .refl _, .snil, .snil, by rw [celE_enc]; exact exs_le ⟨vles_refl _, trivial⟩, trivial⟩
theorem lit2 {k p n : Int} {s t : Str} {a b : Ex} : VLes [.int .i64 k, .int .i64 p, .int .i64 n, .str s, .str t, .snil, .snil, .sl (some 8) true [encE a, encE b]] (celE (.mk k p n s t [] [] [a, b])) :=
 ⟨.refl _, .refl _, .refl _, .refl _, .refl _, .snil, .snil, by rw [celE_enc, celE_enc]; exact exs_le ⟨vles_refl _, vles_refl _, trivial⟩, trivial⟩
theorem Weak.lit1 {B : Sg} {env env' : List (Nat × D)} {σ σ' : Sg} {k p n : Int} {s t : Str} {a : Ex} (o : Nat) (ho : σ.objs[o]? = some (.cells [.v (.int .i64 k), .v (.int .i64 p), .v (.int .i64 n), .v (.str s), .v (.str t), .v .snil, .v .snil, .v (.sl (some 8) true [encE a])]))
  (hσ : ⟨σ.objs.set o (obE (.mk k p n s t [] [] [a])), σ.toks⟩ = σ') (h : EnvEq env env') : Weak B ⟨env, σ⟩ ⟨env', σ'⟩ := Weak.exLe o [.int .i64 k, .int .i64 p, .int .i64 n, .str s, .str t, .snil, .snil, .sl (some 8) true [encE a]] _ ho Go.Proofs.YtpdeaekmgljeaaaGreatDoor.lit1 hσ h
theorem Weak.lit2 {B : Sg} {env env' : List (Nat × D)} {σ σ' : Sg} {k p n : Int} {s t : Str} {a b : Ex} (o : Nat) (ho : σ.objs[o]? = some (.cells [.v (.int .i64 k), .v (.int .i64 p), .v (.int .i64 n), .v (.str s), .v (.str t), .v .snil, .v .snil, .v (.sl (some 8) true [encE a, encE b])]))
  (hσ : ⟨σ.objs.set o (obE (.mk k p n s t [] [] [a, b])), σ.toks⟩ = σ') (h : EnvEq env env') : Weak B ⟨env, σ⟩ ⟨env', σ'⟩ := Weak.exLe o [.int .i64 k, .int .i64 p, .int .i64 n, .str s, .str t, .snil, .snil, .sl (some 8) true [encE a, encE b]] _ ho Go.Proofs.YtpdeaekmgljeaaaGreatDoor.lit2 hσ h
def zOb : Ob := .cells [.v (.int .i64 0), .v (.int .i64 0), .v (.int .i64 0), .v (.str []), .v (.str []), .v .snil, .v .snil, .v .snil]
theorem obE_low {e : Ex} {n k : Nat} : (obE e).low n k := by
 cases e
 simp [obE_mk, Ob.low]
theorem zOb_low {n k : Nat} : zOb.low n k := by simp [zOb, Ob.low]
theorem low_two {e : Ex} {n k : Nat} : ∀ ob ∈ [zOb, obE e], ob.low n k := by
 intro ob hm
 simp only [List.mem_cons, List.not_mem_nil, or_false] at hm
 rcases hm with rfl | rfl
 ·exact zOb_low
 ·exact obE_low
theorem Weak.dropP {os ys xs zs : List Ob} {p : Nat} {X Y : Ob} {tk : List Nat} {env env' : List (Nat × D)} (hz : zs = ys ++ xs) (hY : ∀ n k, Y.low n k) (hys : ∀ ob ∈ ys, ob.low (os.length + ys.length) tk.length) (h : EnvEq env env') (l : EnvLow (os.length + ys.length) tk.length env') :
  Weak ⟨os.set p X, tk⟩ ⟨env, ⟨os.set p Y ++ zs, tk⟩⟩ ⟨env', ⟨os.set p Y ++ ys, tk⟩⟩ := by
 subst hz
 have hl : (os.set p Y ++ ys).length = os.length + ys.length := by simp
 have := Weak.drop (B := ⟨os.set p X, tk⟩) (os := os.set p Y ++ ys) (xs := xs) (ts := tk) (ts' := []) (env := env) (env' := env') (by simp) (Nat.le_refl _) (fun ob hm => ?_) (by rw [hl]; exact h.ok l)
 ·simpa using this
 ·rcases List.mem_append.1 hm with hm | hm
  ·exact low_set2 (hY _ _) ob hm
  ·rw [hl]; exact .inr (hys ob hm)
def PCt (C : PC) (k M : Nat) (f : PF) : Prop := ∀ (p : Nat) (st : PSt) (σ : Sg), OkP C st → rem C st < M → σ.objs[p]? = some (prs C st) → ACalls Tryz.prog k [.ptr p 0] σ fun r σ' => r = .v (encE (f st).e) ∧ σ' = ⟨σ.objs.set p (prs C (f st).st), σ.toks⟩
structure PoS where
 g : Nat
 a : Ex
 st : PSt
theorem k_Post {C : PC} {M : Nat} {f : PF} (hf : PCt C 209 M f) (hon : On C f) : PCt C 206 M (postP C f) := by
 intro p st σ ok hM hp
 refine pset hp fun os tk hl => ?_
 clear hp σ
 have k1 := fun r tk' => hf p st ⟨os.set p (prs C st) ++ r, tk'⟩ ok hM (by simp [hl])
 have kt := fun st s r (ok : OkP C st) => k_Takes (C := C) (st := st) (p := p) (s := s) (σ := ⟨os.set p (prs C st) ++ r, tk⟩) (by simp [hl]) ok
 have kx := fun st r (ok : OkP C st) => k_TextP (C := C) (st := st) (p := p) (k := 1) (σ := ⟨os.set p (prs C st) ++ r, tk⟩) (by simp [hl]) ok (by decide)
 have hlow := fun st n k => prs_low (C := C) (st := st) (n := n) (k := k)
 have ok1 := (hon st).ok ok
 simp only [set_app_set hl] at k1 kt kx
 unfold postP
 have hrem : rem C (f st).st < C.L.length + 1 := by
  unfold rem
  split <;> omega
 generalize (f st).e = a0 at *
 generalize (f st).st = st1 at *
 obtain ⟨F, hF⟩ : ∃ F, F = postL C (C.L.length + 1) a0 st1 := ⟨_, rfl⟩
 rw [← hF]
 cases a0 with
 | mk k0 p0 n0 s0 t0 ls0 ns0 l0 =>
 rw [encE_mk] at k1
 refine acalls_fit Tryz.func206 (by kernel_rfl) c206 rfl (by simp [a206]) fun hf => ?_
 clear hf
 simp -implicitDefEqProofs (disch := omega) [-getElem?_pos, a206]
 refine (k1 _ _).mono fun r σ' hr => ?_
 obtain ⟨rfl, rfl⟩ := hr
 simp -implicitDefEqProofs (disch := omega) [-getElem?_pos]
 refine W_loop (α := PoS) ⟨C.L.length + 1, .mk k0 p0 n0 s0 t0 ls0 ns0 l0, st1⟩ (fun x => x.g) (fun x => ⟨[(0, .ptr p 0), (2, .ptr os.length 0), (3, .ptr (os.length + 1) 0)], ⟨os.set p (prs C x.st) ++ [zOb, obE x.a], tk⟩⟩)
  (fun x => F = postL C x.g x.a x.st ∧ rem C x.st < x.g ∧ OkP C x.st) (.eq2 (by simp [zOb, obE_mk]) (by simp)) ⟨hF, hrem, ok1⟩ fun ⟨g, a, st⟩ ⟨hF, hrem, ok⟩ => ?_
 dsimp only at hF hrem ok ⊢
 cases a with
 | mk k p' n s t ls ns l =>
 obtain ⟨g, rfl⟩ : ∃ g', g = g' + 1 := ⟨g - 1, by omega⟩
 rw [postL] at hF
 have k92 := fun r => kt st [92] r ok
 have k46 := fun r => kt st [46] r ok
 unfold takeP at k92 k46
 have step : ∀ (c : Int) (b : Bool), st.bad = none ∧ st.i < C.L.length → F = postL C g (.mk c p' 0 (textP C 1 (advP st)).s [] [] [] [.mk k p' n s t ls ns l]) (textP C 1 (advP st)).st →
   (F = postL C g (.mk c p' 0 (textP C 1 (advP st)).s [] [] [] [.mk k p' n s t ls ns l]) (textP C 1 (advP st)).st ∧ rem C (textP C 1 (advP st)).st < g ∧ OkP C (textP C 1 (advP st)).st) := fun c b hin hF => by
  have hpos := rem_pos hin
  have hrt := (Fwd.text (C := C) (st := advP st) (k := 1) (by decide)).le
  rw [rem_adv] at hrt
  exact ⟨hF, by omega, (ok.adv hin.2).text (by decide)⟩
 cases h1 : sees C st 0 [92] with
 | true =>
  have hin := sees_in h1
  rw [if_pos h1] at hF
  simp only [h1, if_true] at k92
  simp -implicitDefEqProofs (disch := omega) [-getElem?_pos, obE_mk]
  refine (k92 _).mono fun r σ' hr => ?_
  obtain ⟨rfl, rfl⟩ := hr
  simp -implicitDefEqProofs (disch := omega) [-getElem?_pos]
  refine (kx (advP st) _ (ok.adv hin.2)).mono fun r σ' hr => ?_
  obtain ⟨rfl, rfl⟩ := hr
  simp -implicitDefEqProofs (disch := omega) [-getElem?_pos]
  refine ⟨⟨g, .mk 11 p' 0 (textP C 1 (advP st)).s [] [] [] [.mk k p' n s t ls ns l], (textP C 1 (advP st)).st⟩, step 11 true hin hF, by dsimp only; omega, Weak.lit1 (k := 11) (p := p') (n := 0) (s := (textP C 1 (advP st)).s) (t := []) (a := .mk k p' n s t ls ns l) (os.length + 1) ?_ ?_ (by simp)⟩
  ·simp [encE_mk]
  ·simp
 | false =>
  rw [if_neg (by simp [h1])] at hF
  simp only [h1, Bool.false_eq_true, if_false] at k92
  cases h2 : sees C st 0 [46] with
  | true =>
   have hin := sees_in h2
   rw [if_pos h2] at hF
   simp only [h2, if_true] at k46
   simp -implicitDefEqProofs (disch := omega) [-getElem?_pos, obE_mk]
   refine (k92 _).mono fun r σ' hr => ?_
   obtain ⟨rfl, rfl⟩ := hr
   simp -implicitDefEqProofs (disch := omega) [-getElem?_pos]
   refine (k46 _).mono fun r σ' hr => ?_
   obtain ⟨rfl, rfl⟩ := hr
   simp -implicitDefEqProofs (disch := omega) [-getElem?_pos]
   refine (kx (advP st) _ (ok.adv hin.2)).mono fun r σ' hr => ?_
   obtain ⟨rfl, rfl⟩ := hr
   simp -implicitDefEqProofs (disch := omega) [-getElem?_pos]
   refine ⟨⟨g, .mk 9 p' 0 (textP C 1 (advP st)).s [] [] [] [.mk k p' n s t ls ns l], (textP C 1 (advP st)).st⟩, step 9 true hin hF, by dsimp only; omega, Weak.lit1 (k := 9) (p := p') (n := 0) (s := (textP C 1 (advP st)).s) (t := []) (a := .mk k p' n s t ls ns l) (os.length + 1) ?_ ?_ (by simp)⟩
   ·simp [encE_mk]
   ·simp
  | false =>
   rw [if_neg (by simp [h2])] at hF
   subst hF
   simp only [h2, Bool.false_eq_true, if_false] at k46
   dsimp only
   rw [encE_mk]
   simp -implicitDefEqProofs (disch := omega) [-getElem?_pos, obE_mk, zOb]
   refine (k92 _).mono fun r σ' hr => ?_
   obtain ⟨rfl, rfl⟩ := hr
   simp -implicitDefEqProofs (disch := omega) [-getElem?_pos]
   refine (k46 _).mono fun r σ' hr => ?_
   obtain ⟨rfl, rfl⟩ := hr
   simp -implicitDefEqProofs (disch := omega) [-getElem?_pos]
   exact .finS _ ⟨_, tk⟩ ⟨rfl, rfl⟩ (.refl _) (low_set2 (hlow _ _ _))
theorem k_Atom {C : PC} {st : PSt} {p : Nat} {σ : Sg} (hp : σ.objs[p]? = some (prs C st)) (ok : OkP C st) : ACalls Tryz.prog 205 [.ptr p 0] σ fun r σ' => r = .v (.bool (atomB C st)) ∧ σ' = σ := by
 have ka := k_Ahead (σ := σ) (k := 0) (n := 0) hp ok rfl (by omega)
 have ks := fun s => k_Sees (σ := σ) (k := 0) (n := 0) (s := s) hp ok rfl (by omega)
 unfold atomB
 generalize ahd C st 0 = t at *
 unfold encK at ka
 refine acalls_fit Tryz.func205 (by kernel_rfl) c205 rfl (by simp [a205]) fun hf => ?_
 clear hf
 simp -implicitDefEqProofs (disch := omega) [-getElem?_pos, a205]
 refine ka.then fun r hr => ?_
 subst hr
 by_cases h1 : t.k = 1
 ·simp -implicitDefEqProofs (disch := omega) [-getElem?_pos, h1]
  exact .fin _ ⟨by simp [h1], rfl⟩ (.refl _)
 by_cases h4 : t.k = 4
 ·simp -implicitDefEqProofs (disch := omega) [-getElem?_pos, h1, h4]
  exact .fin _ ⟨by simp [h4], rfl⟩ (.refl _)
 by_cases h5 : t.k = 5
 ·simp -implicitDefEqProofs (disch := omega) [-getElem?_pos, h1, h4, h5]
  exact .fin _ ⟨by simp [h5], rfl⟩ (.refl _)
 simp -implicitDefEqProofs (disch := omega) [-getElem?_pos, h1, h4, h5]
 have hr := ks wRead
 have ho := ks [40]
 have hb := ks [123]
 refine hr.then fun r hr => ?_
 subst hr
 cases hx1 : sees C st 0 wRead with
 | true =>
  simp -implicitDefEqProofs (disch := omega) [-getElem?_pos, hx1]
  exact .fin _ ⟨by simp [hx1], rfl⟩ (.refl _)
 | false =>
  simp -implicitDefEqProofs (disch := omega) [-getElem?_pos, hx1]
  refine ho.then fun r hr => ?_
  subst hr
  cases hx2 : sees C st 0 [40] with
  | true =>
   simp -implicitDefEqProofs (disch := omega) [-getElem?_pos, hx2]
   exact .fin _ ⟨by simp [hx2], rfl⟩ (.refl _)
  | false =>
   simp -implicitDefEqProofs (disch := omega) [-getElem?_pos, hx2]
   refine hb.then fun r hr => ?_
   subst hr
   simp -implicitDefEqProofs (disch := omega) [-getElem?_pos]
   exact .fin _ ⟨by simp [h1, h4, h5, hx1, hx2], rfl⟩ (.refl _)
structure ApS where
 g : Nat
 a : Ex
 st : PSt
theorem k_App {C : PC} {M : Nat} {f : PF} (hf : PCt C 204 M (preP C f)) (hq : PCt C 206 M (postP C f)) (hon : On C f) (htk : Takes C f) : PCt C 202 M (appP C f) := by
 intro p st σ ok hM hp
 refine pset hp fun os tk hl => ?_
 clear hp σ
 have k1 := fun r tk' => hf p st ⟨os.set p (prs C st) ++ r, tk'⟩ ok hM (by simp [hl])
 have k2 := fun st r (ok : OkP C st) (hM : rem C st < M) => hq p st ⟨os.set p (prs C st) ++ r, tk⟩ ok hM (by simp [hl])
 have ka := fun st r (ok : OkP C st) => k_Atom (C := C) (st := st) (p := p) (σ := ⟨os.set p (prs C st) ++ r, tk⟩) (by simp [hl]) ok
 have hlow := fun st n k => prs_low (C := C) (st := st) (n := n) (k := k)
 have ok1 := (on_pre hon st).ok ok
 have hM1 := Nat.lt_of_le_of_lt (on_pre hon st).le hM
 simp only [set_app_set hl] at k1 k2
 unfold appP
 have hrem : rem C (preP C f st).st < C.L.length + 1 := by
  unfold rem
  split <;> omega
 generalize (preP C f st).e = a0 at *
 generalize (preP C f st).st = st1 at *
 obtain ⟨F, hF⟩ : ∃ F, F = appL C f (C.L.length + 1) a0 st1 := ⟨_, rfl⟩
 rw [← hF]
 cases a0 with
 | mk k0 p0 n0 s0 t0 ls0 ns0 l0 =>
 rw [encE_mk] at k1
 refine acalls_fit Tryz.func202 (by kernel_rfl) c202 rfl (by simp [a202]) fun hf => ?_
 clear hf
 simp -implicitDefEqProofs (disch := omega) [-getElem?_pos, a202]
 refine (k1 _ _).mono fun r σ' hr => ?_
 obtain ⟨rfl, rfl⟩ := hr
 simp -implicitDefEqProofs (disch := omega) [-getElem?_pos]
 refine W_loop (α := ApS) ⟨C.L.length + 1, .mk k0 p0 n0 s0 t0 ls0 ns0 l0, st1⟩ (fun x => x.g) (fun x => ⟨[(0, .ptr p 0), (2, .ptr os.length 0), (3, .ptr (os.length + 1) 0)], ⟨os.set p (prs C x.st) ++ [zOb, obE x.a], tk⟩⟩)
  (fun x => F = appL C f x.g x.a x.st ∧ rem C x.st < x.g ∧ OkP C x.st ∧ rem C x.st < M) (.eq2 (by simp [zOb, obE_mk]) (by simp)) ⟨hF, hrem, ok1, hM1⟩ fun ⟨g, a, st⟩ ⟨hF, hrem, ok, hM⟩ => ?_
 dsimp only at hF hrem ok hM ⊢
 cases a with
 | mk k p' n s t ls ns l =>
 obtain ⟨g, rfl⟩ : ∃ g', g = g' + 1 := ⟨g - 1, by omega⟩
 rw [appL] at hF
 have ka := fun r => ka st r ok
 have k2 := fun r => k2 st r ok hM
 cases h1 : atomB C st with
 | true =>
  rw [if_pos h1] at hF
  have hlt := takes_post htk st h1
  have ok2 := (on_post hon st).ok ok
  generalize (postP C f st).e = b at *
  generalize (postP C f st).st = st2 at *
  cases b with
  | mk k9 p9 n9 s9 t9 ls9 ns9 l9 =>
  rw [encE_mk] at k2
  simp -implicitDefEqProofs (disch := omega) [-getElem?_pos, obE_mk]
  refine (ka _).then fun r hr => ?_
  subst hr
  simp -implicitDefEqProofs (disch := omega) [-getElem?_pos, h1]
  refine (k2 _).mono fun r σ' hr => ?_
  obtain ⟨rfl, rfl⟩ := hr
  simp -implicitDefEqProofs (disch := omega) [-getElem?_pos]
  refine ⟨⟨g, .mk 5 p' 0 [] [] [] [] [.mk k p' n s t ls ns l, .mk k9 p9 n9 s9 t9 ls9 ns9 l9], st2⟩, ⟨hF, by dsimp only; omega, ok2, by dsimp only; omega⟩, by dsimp only; omega,
   .trans (Weak.lit2 (env' := [(0, .ptr p 0), (2, .ptr os.length 0), (3, .ptr (os.length + 1) 0)]) (k := 5) (p := p') (n := 0) (s := []) (t := []) (a := .mk k p' n s t ls ns l) (b := .mk k9 p9 n9 s9 t9 ls9 ns9 l9) (os.length + 1) (by simp [encE_mk]) rfl (by simp)) ?_⟩
  exact .trans (.eq2 (env' := [(0, .ptr p 0), (2, .ptr os.length 0), (3, .ptr (os.length + 1) 0)]) (by simp; rfl) (by simp)) (Weak.dropP (ys := [zOb, obE (.mk 5 p' 0 [] [] [] [] [.mk k p' n s t ls ns l, .mk k9 p9 n9 s9 t9 ls9 ns9 l9])]) rfl (fun n k => prs_low) low_two (by simp) (by simp; omega))
 | false =>
  rw [if_neg (by simp [h1])] at hF
  subst hF
  dsimp only
  rw [encE_mk]
  simp -implicitDefEqProofs (disch := omega) [-getElem?_pos, obE_mk, zOb]
  refine (ka _).then fun r hr => ?_
  subst hr
  simp -implicitDefEqProofs (disch := omega) [-getElem?_pos, h1]
  exact .finS _ ⟨_, tk⟩ ⟨rfl, rfl⟩ (.refl _) (low_set2 (hlow _ _ _))
def celI (y : Itm) : List V := .int .i64 y.p :: .str y.key :: .str y.own :: celE y.e
def encI (y : Itm) : V := .agg (celI y)
theorem cel_len (e : Ex) : (celE e).length = 8 := by cases e; rfl
@[simp] theorem celI_len (y : Itm) : (celI y).length = 11 := by simp [celI, cel_len]
def rowsI : List Itm → List D
 | [] => []
 | x :: l => (celI x).map .v ++ rowsI l
def cI (l : List Itm) (rest : List D) : List D := rowsI l ++ rest
def cellsI (l : List Itm) (rest : List D) : Ob := .cells (cI l rest)
theorem rowsI_eq : ∀ l : List Itm, rowsI l = (V.flat (l.map encI)).map .v
 | [] => rfl
 | x :: l => by rw [rowsI, rowsI_eq l]; simp [V.flat, encI, V.cells]
theorem rowsI_len : ∀ l : List Itm, (rowsI l).length = l.length * 11
 | [] => rfl
 | x :: l => by rw [rowsI, List.length_append, rowsI_len l, List.length_map, celI_len, List.length_cons]; omega
@[simp] theorem cI_len (l : List Itm) (rest : List D) : (cI l rest).length = l.length * 11 + rest.length := by rw [cI, List.length_append, rowsI_len]
theorem wcells {l : List Itm} {rest : List D} {K : List D → Prop} : WCells (some (cellsI l rest)) K = K (cI l rest) := rfl
theorem rows_take : ∀ {l : List Itm} {rest : List D} {i : Nat} {x : Itm}, l[i]? = some x → List.take 11 (List.drop (i * 11) (cI l rest)) = (celI x).map .v
 | y :: l, rest, 0, x, h => by
  obtain rfl : y = x := by simpa using h
  have e : 11 = ((celI y).map D.v).length := by rw [List.length_map, celI_len]
  rw [cI, rowsI, Nat.zero_mul, List.drop_zero, List.append_assoc]
  conv => lhs; rw [e]
  rw [List.take_left]
 | y :: l, rest, i + 1, x, h => by
  have e : (i + 1) * 11 = ((celI y).map D.v).length + i * 11 := by rw [List.length_map, celI_len]; omega
  rw [cI, rowsI, List.append_assoc, e, List.drop_length_add_append]
  exact rows_take (l := l) (rest := rest) (by simpa using h)
 | [], rest, i, x, h => by simp at h
theorem allV_v : ∀ xs : List V, allV (xs.map .v) = some xs
 | [] => rfl
 | y :: ys => by simp [allV, allV_v ys]
theorem rows_put : ∀ {l : List Itm} {rest : List D} {i : Nat} {x : Itm}, i < l.length → List.take (i * 11) (cI l rest) ++ ((celI x).map .v ++ List.drop (i * 11 + 11) (cI l rest)) = cI (l.set i x) rest
 | [], rest, i, x, h => by simp at h
 | y :: l, rest, 0, x, h => by
  have e : 0 * 11 + 11 = ((celI y).map D.v).length := by rw [List.length_map, celI_len]
  rw [e, Nat.zero_mul, List.take_zero, List.nil_append, List.set_cons_zero, cI, rowsI, List.append_assoc, List.drop_left, cI, rowsI, List.append_assoc]
 | y :: l, rest, i + 1, x, h => by
  have ih := rows_put (l := l) (rest := rest) (i := i) (x := x) (by simpa using h)
  have e : (i + 1) * 11 = ((celI y).map D.v).length + i * 11 := by rw [List.length_map, celI_len]; omega
  have e2 : (i + 1) * 11 + 11 = ((celI y).map D.v).length + (i * 11 + 11) := by rw [List.length_map, celI_len]; omega
  have c : ∀ z l, cI (z :: l) rest = (celI z).map D.v ++ cI l rest := fun z l => by rw [cI, rowsI, List.append_assoc]; rfl
  rw [List.set_cons_succ, c, c, e2, List.drop_length_add_append, e, List.take_length_add_append, List.append_assoc, ih]
theorem rows_put2 {l : List Itm} {rest : List D} {i j : Nat} {x z : Itm} (h : i < l.length) : List.take (i * 11) (cI (l.set j z) rest) ++ ((celI x).map .v ++ List.drop (i * 11 + 11) (cI (l.set j z) rest)) = cI ((l.set j z).set i x) rest :=
 rows_put (by simpa using h)
def Plain (rest : List D) : Prop := ∀ d ∈ rest, d = .junk ∨ ∃ v, d = .v v
theorem cellsI_low {l : List Itm} {rest : List D} (h : Plain rest) {n k : Nat} : (cellsI l rest).low n k := by
 refine D.lows_get.2 fun d hd => ?_
 rcases List.mem_append.1 hd with hd | hd
 ·rw [rowsI_eq] at hd
  obtain ⟨v, _, rfl⟩ := List.mem_map.1 hd
  trivial
 ·rcases h d hd with rfl | ⟨v, rfl⟩ <;> trivial
theorem swapI_eq {l : List Itm} {i j : Nat} {x y : Itm} (hx : l[i]? = some x) (hy : l[j]? = some y) : swapI l i j = (l.set i y).set j x := by
 unfold swapI
 rw [hx, hy]
def CmpOk (fd : D) : Prop := ∀ (x y : Itm) (σ : Sg), WCall Tryz.prog fd [.v (.agg (celI x)), .v (.agg (celI y))] σ fun r σ' => r = .v (.int .i64 (Lib.compareBytes x.key y.key)) ∧ σ' = σ
theorem ltL_eq {l : List Itm} {i j : Nat} {x y : Itm} (hx : l[i]? = some x) (hy : l[j]? = some y) : ltL l i j = decide (Lib.compareBytes x.key y.key < 0) := by
 unfold ltL
 rw [hx, hy]
 rfl
theorem halfI {i j : Nat} (h : i < j) (hj : (j : Int) ≤ 4611686018427387904) : IntKind.wrap .i64 (ishr .u64 ((i : Int) + j) 1) = ((i + j) / 2 : Nat) := by
 unfold ishr
 simp [IntKind.bits]
 rw [Int.fdiv_eq_ediv_of_nonneg _ (by omega)]
 rw [wrap_i64 (by omega) (by omega)]
structure PoI where
 f : Nat
 i : Nat
 l : List Itm
theorem k_SwapR {o a b n len : Nat} {c : Option Nat} {l : List Itm} {rest : List D} {fd : D} {σ : Sg} (ho : σ.objs[o]? = some (cellsI l rest)) (hpl : Plain rest) (hlen : len = l.length) (ha : a + n ≤ l.length) (hb : b + n ≤ l.length) (hL : l.length ≤ 1048576) :
  ACalls Tryz.prog 207 [.msl o 0 len (some 11) c, .v (.int .i64 a), .v (.int .i64 b), .v (.int .i64 n), fd] σ fun r σ' => r = .tup [] ∧ σ' = ⟨σ.objs.set o (cellsI (swapR a b n 0 l) rest), σ.toks⟩ := by
 refine pset ho fun os tk hl => ?_
 clear ho σ
 subst hlen
 refine acalls_fit Tryz.func207 (by kernel_rfl) c207W rfl (by simp [a207W]) fun hf => ?_
 clear hf
 simp -implicitDefEqProofs (disch := omega) [-getElem?_pos, a207W]
 refine W_loop (α := PoI) ⟨n, 0, l⟩ (fun x => x.f) (fun x => ⟨[(0, .msl o 0 l.length (some 11) c), (1, .v (.int .i64 a)), (2, .v (.int .i64 b)), (3, .v (.int .i64 n)), (4, fd), (10, .v (.int .i64 x.i))], ⟨os.set o (cellsI x.l rest), tk⟩⟩)
  (fun x => swapR a b n 0 l = swapR a b x.f x.i x.l ∧ x.i + x.f = n ∧ x.l.length = l.length) (.eq (by simp)) ⟨rfl, by simp, rfl⟩ fun ⟨f, i, l'⟩ ⟨he, hi, hll⟩ => ?_
 dsimp only at he hi hll ⊢
 simp -implicitDefEqProofs (disch := omega) [-getElem?_pos]
 refine .mk (fun h => ?_) fun h => ?_
 ·obtain ⟨x, hx⟩ : ∃ x, l'[a + i]? = some x := ⟨_, List.getElem?_eq_getElem (by omega)⟩
  obtain ⟨y, hy⟩ : ∃ y, l'[b + i]? = some y := ⟨_, List.getElem?_eq_getElem (by omega)⟩
  have e1 : ((a : Int) + i).toNat = a + i := by omega
  have e2 : ((b : Int) + i).toNat = b + i := by omega
  obtain ⟨f, rfl⟩ : ∃ f', f = f' + 1 := ⟨f - 1, by omega⟩
  rw [swapR, swapI_eq hx hy] at he
  simp -implicitDefEqProofs (disch := omega) [-getElem?_pos, wcells, e1, e2, rows_take hx, rows_take hy, allV_v, rows_put, rows_put2]
  repeat (first | (refine ⟨(by omega : _ ≤ _), ?_⟩) | (refine ⟨(by omega : _ < _), ?_⟩))
  exact ⟨⟨f, i + 1, (l'.set (a + i) y).set (b + i) x⟩, ⟨he, by dsimp only; omega, by simp [hll]⟩, by dsimp only; omega, .eq2 rfl (by simp)⟩
 ·obtain rfl : f = 0 := by omega
  rw [swapR] at he
  simp -implicitDefEqProofs (disch := omega) [-getElem?_pos]
  rw [← he]
  exact .finS _ ⟨_, tk⟩ ⟨rfl, rfl⟩ (.refl _) (low_set2 (cellsI_low hpl))
structure InS where
 f : Nat
 i : Nat
 l : List Itm
theorem k_Ins {o a b len : Nat} {c : Option Nat} {l : List Itm} {rest : List D} {fd : D} {σ : Sg} (hcmp : CmpOk fd) (ho : σ.objs[o]? = some (cellsI l rest)) (hpl : Plain rest) (hlen : len = l.length) (hb : b ≤ l.length) (hL : l.length ≤ 1048576) (haL : a ≤ 1048576) :
  ACalls Tryz.prog 199 [.msl o 0 len (some 11) c, .v (.int .i64 a), .v (.int .i64 b), fd] σ fun r σ' => r = .tup [] ∧ σ' = ⟨σ.objs.set o (cellsI (insS a b l) rest), σ.toks⟩ := by
 refine pset ho fun os tk hl => ?_
 clear ho σ
 subst hlen
 refine acalls_fit Tryz.func199 (by kernel_rfl) c199W rfl (by simp [a199W]) fun hf => ?_
 clear hf
 simp -implicitDefEqProofs (disch := omega) [-getElem?_pos, a199W]
 refine W_loop (α := InS) ⟨b - (a + 1), a + 1, l⟩ (fun x => x.f) (fun x => ⟨[(0, .msl o 0 l.length (some 11) c), (1, .v (.int .i64 a)), (2, .v (.int .i64 b)), (3, fd), (8, .v (.int .i64 x.i))], ⟨os.set o (cellsI x.l rest), tk⟩⟩)
  (fun x => insS a b l = insOut a b x.f x.l ∧ (x.i + x.f = b ∨ (x.f = 0 ∧ b ≤ x.i)) ∧ x.l.length = l.length ∧ a < x.i) (.eq (by simp)) ⟨rfl, by dsimp only; omega, rfl, by dsimp only; omega⟩ fun ⟨f, i, l'⟩ ⟨he, hi, hll, hai⟩ => ?_
 dsimp only at he hi hll hai ⊢
 simp -implicitDefEqProofs (disch := omega) [-getElem?_pos]
 refine .mk (fun h => ?_) fun h => ?_
 rotate_left
 ·obtain rfl : f = 0 := by omega
  rw [insOut] at he
  simp -implicitDefEqProofs (disch := omega) [-getElem?_pos]
  rw [← he]
  exact .finS _ ⟨_, tk⟩ ⟨rfl, rfl⟩ (.refl _) (low_set2 (cellsI_low hpl))
 obtain ⟨f, rfl⟩ : ∃ f', f = f' + 1 := ⟨f - 1, by omega⟩
 rw [insOut, show b - (f + 1) = i by omega] at he
 simp -implicitDefEqProofs (disch := omega) [-getElem?_pos]
 refine W_loop (α := InS) ⟨0, i, l'⟩ (fun x => x.i) (fun x => ⟨[(0, .msl o 0 l.length (some 11) c), (1, .v (.int .i64 a)), (2, .v (.int .i64 b)), (3, fd), (8, .v (.int .i64 i)), (9, .v (.int .i64 x.i))], ⟨os.set o (cellsI x.l rest), tk⟩⟩)
  (fun x => insIn a i l' = insIn a x.i x.l ∧ x.i ≤ i ∧ x.l.length = l.length) (.eq (by simp)) ⟨rfl, Nat.le_refl _, hll⟩ fun ⟨g, j, m⟩ ⟨hem, hji, hml⟩ => ?_
 dsimp only at hem hji hml ⊢
 have hstop : insIn a i l' = m → insS a b l = insOut a b f m := fun h => by rw [he, h]
 simp -implicitDefEqProofs (disch := omega) [-getElem?_pos]
 refine .mk (fun h => ?_) fun h => ?_
 ·obtain ⟨j, rfl⟩ : ∃ j', j = j' + 1 := ⟨j - 1, by omega⟩
  obtain ⟨x, hx⟩ : ∃ x, m[j + 1]? = some x := ⟨_, List.getElem?_eq_getElem (by omega)⟩
  obtain ⟨y, hy⟩ : ∃ y, m[j]? = some y := ⟨_, List.getElem?_eq_getElem (by omega)⟩
  have e2 : (((j + 1 : Nat) : Int) - 1).toNat = j := by omega
  have e1 : ((j : Int) + 1).toNat = j + 1 := by omega
  rw [insIn, ltL_eq hx hy] at hem
  have sw := swapI_eq hx hy
  simp -implicitDefEqProofs (disch := omega) [-getElem?_pos, wcells, e1, e2, rows_take hx, rows_take hy, allV_v]
  repeat (first | (refine ⟨(by omega : _ ≤ _), ?_⟩) | (refine ⟨(by omega : _ < _), ?_⟩))
  refine (hcmp x y _).then fun r hr => ?_
  subst hr
  simp -implicitDefEqProofs (disch := omega) [-getElem?_pos]
  refine .mk (fun hq => ?_) fun hq => ?_
  ·rw [if_pos ⟨by omega, by simpa using hq⟩, sw] at hem
   simp -implicitDefEqProofs (disch := omega) [-getElem?_pos, wcells, e1, e2, rows_take hx, rows_take hy, allV_v, rows_put, rows_put2]
   repeat (first | (refine ⟨(by omega : _ ≤ _), ?_⟩) | (refine ⟨(by omega : _ < _), ?_⟩))
   exact ⟨⟨0, j, (m.set (j + 1) y).set j x⟩, ⟨hem, by dsimp only; omega, by simp [hml]⟩, by dsimp only; omega, .eq2 rfl (by simp)⟩
  ·rw [if_neg (by rintro ⟨_, h9⟩; exact hq (by simpa using h9))] at hem
   simp -implicitDefEqProofs (disch := omega) [-getElem?_pos]
   exact ⟨⟨f, i + 1, m⟩, ⟨hstop hem, by dsimp only; omega, hml, by dsimp only; omega⟩, by dsimp only; omega, .eq2 rfl (by simp)⟩
 ·have hem2 : insIn a i l' = m := by
   rw [hem]
   cases j with
   | zero => rfl
   | succ j => rw [insIn, if_neg (by omega)]
  simp -implicitDefEqProofs (disch := omega) [-getElem?_pos]
  exact ⟨⟨f, i + 1, m⟩, ⟨hstop hem2, by dsimp only; omega, hml, by dsimp only; omega⟩, by dsimp only; omega, .eq2 rfl (by simp)⟩
structure RoS where
 f : Nat
 x : RotS
theorem k_Rot {o a m b len : Nat} {c : Option Nat} {l : List Itm} {rest : List D} {fd : D} {σ : Sg} (ho : σ.objs[o]? = some (cellsI l rest)) (hpl : Plain rest) (hlen : len = l.length) (ham : a < m) (hmb : m < b) (hb : b ≤ l.length) (hL : l.length ≤ 1048576) :
  ACalls Tryz.prog 203 [.msl o 0 len (some 11) c, .v (.int .i64 a), .v (.int .i64 m), .v (.int .i64 b), fd] σ fun r σ' => r = .tup [] ∧ σ' = ⟨σ.objs.set o (cellsI (rotI a m b l) rest), σ.toks⟩ := by
 refine pset ho fun os tk hl => ?_
 clear ho σ
 subst hlen
 have ks := fun (l' : List Itm) (a b n : Nat) (hll : l'.length = l.length) (ha : a + n ≤ l'.length) (hb : b + n ≤ l'.length) => k_SwapR (o := o) (a := a) (b := b) (n := n) (len := l.length) (c := c) (l := l') (rest := rest) (fd := fd) (σ := ⟨os.set o (cellsI l' rest), tk⟩) (by simp [hl]) hpl hll.symm ha hb (by omega)
 simp only [List.set_set] at ks
 unfold rotI
 obtain ⟨F, hF⟩ : ∃ F, F = rotL m (b - a) ⟨m - a, b - m, l⟩ := ⟨_, rfl⟩
 rw [← hF]
 have hlen : ∀ a b f i (l : List Itm), (swapR a b f i l).length = l.length := fun a b f i l => (swapR_sub a b f i l).len
 have hma : (m : Int) - a = ((m - a : Nat) : Int) := by omega
 have hbm : (b : Int) - m = ((b - m : Nat) : Int) := by omega
 refine acalls_fit Tryz.func203 (by kernel_rfl) c203 rfl (by simp [a203]) fun hf => ?_
 clear hf
 simp -implicitDefEqProofs (disch := omega) [-getElem?_pos, a203, hma, hbm]
 refine W_loop (α := RoS) ⟨b - a, ⟨m - a, b - m, l⟩⟩ (fun x => x.x.i + x.x.j) (fun x => ⟨[(0, .msl o 0 l.length (some 11) c), (1, .v (.int .i64 a)), (2, .v (.int .i64 m)), (3, .v (.int .i64 b)), (4, fd), (10, .v (.int .i64 x.x.i)), (11, .v (.int .i64 x.x.j))], ⟨os.set o (cellsI x.x.l rest), tk⟩⟩)
  (fun x => F = rotL m x.f x.x ∧ 0 < x.x.i ∧ 0 < x.x.j ∧ x.x.i ≤ m - a ∧ x.x.j ≤ b - m ∧ x.x.i + x.x.j ≤ x.f ∧ x.x.l.length = l.length) (.eq (by simp)) ⟨hF, by dsimp only; omega, by dsimp only; omega, Nat.le_refl _, Nat.le_refl _, by dsimp only; omega, rfl⟩ fun ⟨f, ⟨i, j, l'⟩⟩ ⟨he, hi0, hj0, hi, hj, hf, hll⟩ => ?_
 dsimp only at he hi0 hj0 hi hj hf hll ⊢
 obtain ⟨f, rfl⟩ : ∃ f', f = f' + 1 := ⟨f - 1, by omega⟩
 rw [rotL] at he
 dsimp only at he
 by_cases hij : i = j
 ·rw [if_pos hij] at he
  subst he hij
  have k1 := ks l' (m - i) m i hll (by omega) (by omega)
  have hmi : (m : Int) - i = ((m - i : Nat) : Int) := by omega
  simp -implicitDefEqProofs (disch := omega) [-getElem?_pos, hmi]
  refine k1.mono fun r σ' hr => ?_
  obtain ⟨rfl, rfl⟩ := hr
  simp -implicitDefEqProofs (disch := omega) [-getElem?_pos]
  exact .finS _ ⟨_, tk⟩ ⟨rfl, rfl⟩ (.refl _) (low_set2 (cellsI_low hpl))
 ·rw [if_neg hij] at he
  by_cases hlt : j < i
  ·rw [if_pos hlt] at he
   have k1 := ks l' (m - i) m j hll (by omega) (by omega)
   have hmi : (m : Int) - i = ((m - i : Nat) : Int) := by omega
   have hij2 : (i : Int) - j = ((i - j : Nat) : Int) := by omega
   simp -implicitDefEqProofs (disch := omega) [-getElem?_pos]
   refine .mk (fun h9 => absurd h9 (by omega)) fun _ => ?_
   simp -implicitDefEqProofs (disch := omega) [-getElem?_pos]
   refine .mk (fun _ => ?_) fun h9 => absurd hlt (by omega)
   simp -implicitDefEqProofs (disch := omega) [-getElem?_pos, hmi]
   refine k1.mono fun r σ' hr => ?_
   obtain ⟨rfl, rfl⟩ := hr
   simp -implicitDefEqProofs (disch := omega) [-getElem?_pos, hij2]
   exact ⟨⟨f, ⟨i - j, j, _⟩⟩, ⟨he, by dsimp only; omega, hj0, by dsimp only; omega, hj, by dsimp only; omega, by rw [hlen]; exact hll⟩, by dsimp only; omega, .eq2 rfl (by simp)⟩
  ·rw [if_neg hlt] at he
   have k1 := ks l' (m - i) (m + j - i) i hll (by omega) (by omega)
   have hmi : (m : Int) - i = ((m - i : Nat) : Int) := by omega
   have hmj : (m : Int) + j - i = ((m + j - i : Nat) : Int) := by omega
   have hij2 : (j : Int) - i = ((j - i : Nat) : Int) := by omega
   simp -implicitDefEqProofs (disch := omega) [-getElem?_pos]
   refine .mk (fun h9 => absurd h9 (by omega)) fun _ => ?_
   simp -implicitDefEqProofs (disch := omega) [-getElem?_pos]
   refine .mk (fun h9 => absurd h9 (by omega)) fun _ => ?_
   simp -implicitDefEqProofs (disch := omega) [-getElem?_pos, hmi, hmj]
   refine k1.mono fun r σ' hr => ?_
   obtain ⟨rfl, rfl⟩ := hr
   simp -implicitDefEqProofs (disch := omega) [-getElem?_pos, hij2]
   exact ⟨⟨f, ⟨i, j - i, _⟩⟩, ⟨he, hi0, by dsimp only; omega, hi, by dsimp only; omega, by dsimp only; omega, by rw [hlen]; exact hll⟩, by dsimp only; omega, .eq2 rfl (by simp)⟩
end Go.Proofs.YtpdeaekmgljeaaaGreatDoor
