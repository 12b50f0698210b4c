/-
  The parser reads an expression's tokens as it, I: what may follow, level by level. (Own work.)
-/
import Derived.Test.YtpdeaekmgljeaaaGreatDoorN15
set_option linter.unusedVariables false
set_option linter.unusedSimpArgs false
namespace Go.Proofs.YtpdeaekmgljeaaaGreatDoor
open Go Go.Abs
mutual
def stripE : Ex → Ex
 | .mk k _ n s t ls ns l => .mk k 0 n s t ls ns (stripL l)
def stripL : List Ex → List Ex
 | [] => []
 | x :: l => stripE x :: stripL l
end
theorem stripL_eq : ∀ l, stripL l = l.map stripE
 | [] => by simp [stripL]
 | x :: l => by simp [stripL, stripL_eq l]
def kR : List CT → Int
 | [] => 0
 | t :: _ => t.k
def sR : List CT → Str
 | [] => []
 | t :: _ => t.s
def seesR (R : List CT) (s : Str) : Bool := (decide (kR R = 2) || decide (kR R = 6)) && decide (sR R = s)
def atomR (R : List CT) : Bool := decide (kR R = 1) || (decide (kR R = 4) || (decide (kR R = 5) || (seesR R wRead || (seesR R [40] || seesR R [123]))))
def Dr (C : PC) (i : Nat) (R : List CT) : Prop := (C.L.map core).drop i = R
theorem Dr.get {C : PC} {i : Nat} {R : List CT} (h : Dr C i R) (n : Nat) : ((C.L[i + n]?).getD zTk).k = kR (R.drop n) ∧ ((C.L[i + n]?).getD zTk).s = sR (R.drop n) ∧ ((C.L[i + n]?).getD zTk).n = (R.drop n).head?.elim 0 (·.n) := by
 have h2 : (C.L.map core).drop (i + n) = R.drop n := by rw [← h, List.drop_drop]
 have h3 : (R.drop n).head? = (C.L[i + n]?).map core := by rw [← h2, List.head?_drop, List.getElem?_map]
 cases hd : C.L[i + n]? with
 | none =>
  rw [hd] at h3
  have : R.drop n = [] := by cases hr : R.drop n with
   | nil => rfl
   | cons x r => rw [hr] at h3; cases h3
  rw [this]
  exact ⟨rfl, rfl, rfl⟩
 | some t =>
  rw [hd] at h3
  cases hr : R.drop n with
  | nil => rw [hr] at h3; cases h3
  | cons x r =>
   rw [hr] at h3
   cases h3
   exact ⟨rfl, rfl, rfl⟩
theorem Dr.hd0 {C : PC} {i : Nat} {R : List CT} (h : Dr C i R) (n : Nat) : (ahd C ⟨i, none⟩ n).k = kR (R.drop n) ∧ (ahd C ⟨i, none⟩ n).s = sR (R.drop n) := by
 have := h.get n
 exact ⟨this.1, this.2.1⟩
theorem Dr.k {C : PC} {i : Nat} {R : List CT} (h : Dr C i R) : (ahd C ⟨i, none⟩ 0).k = kR R := (h.hd0 0).1
theorem Dr.s {C : PC} {i : Nat} {R : List CT} (h : Dr C i R) : (ahd C ⟨i, none⟩ 0).s = sR R := (h.hd0 0).2
theorem Dr.se {C : PC} {i : Nat} {R : List CT} (h : Dr C i R) (s : Str) : sees C ⟨i, none⟩ 0 s = seesR R s := by
 unfold sees seesT seesR
 rw [h.k, h.s]
theorem Dr.se1 {C : PC} {i : Nat} {t : CT} {R : List CT} (h : Dr C i (t :: R)) (s : Str) : sees C ⟨i, none⟩ 1 s = seesR R s := by
 unfold sees seesT seesR
 rw [(h.hd0 1).1, (h.hd0 1).2]
 rfl
theorem Dr.next {C : PC} {i : Nat} {t : CT} {R : List CT} (h : Dr C i (t :: R)) : Dr C (i + 1) R := by
 unfold Dr at h ⊢
 rw [← List.drop_drop, h]
 rfl
theorem Dr.skip {C : PC} {i : Nat} {X R : List CT} (h : Dr C i (X ++ R)) : Dr C (i + X.length) R := by
 unfold Dr at h ⊢
 rw [← List.drop_drop, h]
 simp
theorem Dr.atom {C : PC} {i : Nat} {R : List CT} (h : Dr C i R) : atomB C ⟨i, none⟩ = atomR R := by
 unfold atomB atomR
 rw [h.k, h.se, h.se, h.se]
theorem Dr.must {C : PC} {i : Nat} {t : CT} {R : List CT} (h : Dr C i (t :: R)) (s : Str) (ht : t = wdT s ∨ t = sgT s) : mustP C s ⟨i, none⟩ = ⟨i + 1, none⟩ := by
 unfold mustP
 rw [h.se, if_pos]
 ·rfl
 ·unfold seesR kR sR
  rcases ht with rfl | rfl <;> simp
theorem Dr.text {C : PC} {i : Nat} {t : CT} {R : List CT} (h : Dr C i (t :: R)) {k : Int} (ht : t.k = k) : textP C k ⟨i, none⟩ = ⟨t.s, ⟨i + 1, none⟩⟩ := by
 unfold textP
 rw [h.k, h.s, if_pos (by exact ht)]
 rfl
theorem Dr.op {C : PC} {i : Nat} {R : List CT} (h : Dr C i R) (ops : List Str) : opP C ops ⟨i, none⟩ = ops.find? fun s => seesR R s := by
 unfold opP
 congr 1
 funext s
 exact h.se s
theorem Dr.len {C : PC} {i : Nat} {X R : List CT} (h : Dr C i (X ++ R)) (hX : X ≠ []) : i + X.length ≤ C.L.length := by
 unfold Dr at h
 have := congrArg List.length h
 rw [List.length_drop, List.length_map, List.length_append] at this
 have : X.length ≠ 0 := fun h => hX (List.length_eq_zero_iff.1 h)
 omega
def Good (C : PC) (f : PF) (X : List CT) (e : Ex) (F : List CT → Prop) : Prop := ∀ i R, Dr C i (X ++ R) → F R → ∃ e', f ⟨i, none⟩ = ⟨e', ⟨i + X.length, none⟩⟩ ∧ stripE e' = stripE e
def F0 : List CT → Prop := fun _ => True
def F1 : List CT → Prop := fun R => seesR R [92] = false ∧ seesR R [46] = false
def F2 : List CT → Prop := fun R => F1 R ∧ atomR R = false
def Fops (ops : List Str) : List CT → Prop := fun R => ∀ s ∈ ops, seesR R s = false
def F3 : List CT → Prop := fun R => F2 R ∧ Fops [[42], [47], [35]] R
def F4 : List CT → Prop := fun R => F3 R ∧ Fops [[43], [45], [94]] R
def F5 : List CT → Prop := fun R => F4 R ∧ Fops [[60], [61, 61]] R
def F6 : List CT → Prop := fun R => F5 R ∧ seesR R sSet = false
theorem Good.mono {C : PC} {f : PF} {X : List CT} {e : Ex} {F G : List CT → Prop} (h : Good C f X e F) (hg : ∀ R, G R → F R) : Good C f X e G := fun i R hd hR => h i R hd (hg R hR)
theorem find_none {ops : List Str} {R : List CT} (h : Fops ops R) : (ops.find? fun s => seesR R s) = none := by
 rw [List.find?_eq_none]
 intro s hs
 simp [h s hs]
theorem post_of {C : PC} {f : PF} {X : List CT} {e : Ex} (h : Good C f X e F0) : Good C (postP C f) X e F1 := fun i R hd hR => by
 obtain ⟨e', h1, h2⟩ := h i R hd trivial
 refine ⟨e', ?_, h2⟩
 unfold postP
 rw [h1]
 dsimp only
 rw [postL, hd.skip.se, hd.skip.se, if_neg (by simp [hR.1]), if_neg (by simp [hR.2])]
def headR (X : List CT) : Option Int := if kR X = 3 then some 13
 else if kR X = 2 ∨ kR X = 6 then (if sR X = wRef then some 17 else if sR X = wPrint then some 20 else if sR X = wShow then some 21 else if sR X = [33] then some 18 else none)
 else none
theorem Dr.head {C : PC} {i : Nat} {R : List CT} (h : Dr C i R) : headP (ahd C ⟨i, none⟩ 0) = headR R := by
 unfold headP headR
 rw [h.k, h.s]
theorem headR_app {X R : List CT} (h : X ≠ []) : headR (X ++ R) = headR X := by
 cases X with
 | nil => exact absurd rfl h
 | cons x X => rfl
theorem pre_of {C : PC} {f : PF} {X : List CT} {e : Ex} (h : Good C f X e F0) (hX : X ≠ []) (hn : headR X = none) : Good C (preP C f) X e F1 := fun i R hd hR => by
 obtain ⟨e', h1, h2⟩ := post_of h i R hd hR
 refine ⟨e', ?_, h2⟩
 unfold preP
 rw [hd.head, headR_app hX, hn]
 exact h1
theorem app_of {C : PC} {f : PF} {X : List CT} {e : Ex} (h : Good C (preP C f) X e F1) : Good C (appP C f) X e F2 := fun i R hd hR => by
 obtain ⟨e', h1, h2⟩ := h i R hd hR.1
 refine ⟨e', ?_, h2⟩
 unfold appP
 rw [h1]
 dsimp only
 rw [appL, hd.skip.atom, if_neg (by simp [hR.2])]
theorem row_of {C : PC} {f : PF} {X : List CT} {e : Ex} {F : List CT → Prop} {ops : List Str} (h : Good C f X e F) : Good C (rowP C f ops) X e (fun R => F R ∧ Fops ops R) := fun i R hd hR => by
 obtain ⟨e', h1, h2⟩ := h i R hd hR.1
 refine ⟨e', ?_, h2⟩
 unfold rowP
 rw [h1]
 dsimp only
 rw [rowL, hd.skip.op, find_none hR.2]
theorem mul_of {C : PC} {f : PF} {X : List CT} {e : Ex} (h : Good C (appP C f) X e F2) : Good C (mulP C f) X e F3 := row_of h
theorem sum_of {C : PC} {f : PF} {X : List CT} {e : Ex} (h : Good C (mulP C f) X e F3) : Good C (sumP C f) X e F4 := row_of h
theorem cmp_of {C : PC} {f : PF} {X : List CT} {e : Ex} (h : Good C (sumP C f) X e F4) : Good C (cmpP C f) X e F5 := fun i R hd hR => by
 obtain ⟨e', h1, h2⟩ := h i R hd hR.1
 refine ⟨e', ?_, h2⟩
 unfold cmpP
 rw [h1]
 dsimp only
 rw [hd.skip.op, find_none hR.2]
theorem set_of {C : PC} {f : PF} {X : List CT} {e : Ex} (g : Nat) (h : Good C (cmpP C f) X e F5) : Good C (setP C f (g + 1)) X e F6 := fun i R hd hR => by
 obtain ⟨e', h1, h2⟩ := h i R hd hR.1
 refine ⟨e', ?_, h2⟩
 rw [setP, h1]
 dsimp only
 rw [hd.skip.se, if_neg (by simp [hR.2])]
def kwR (X : List CT) : Bool := seesR X wFn || (seesR X wLet || (seesR X wIf || seesR X wMatch))
theorem seesR_app {X R : List CT} (h : X ≠ []) (s : Str) : seesR (X ++ R) s = seesR X s := by
 cases X with
 | nil => exact absurd rfl h
 | cons x X => rfl
theorem expr_of3 {C : PC} {pe f : PF} {X : List CT} {e : Ex} (h : Good C (setP C f (C.L.length + 1)) X e F6) (hX : X ≠ []) (hk : kwR X = false) : Good C (exprF C pe f) X e F6 := fun i R hd hR => by
 obtain ⟨e', h1, h2⟩ := h i R hd hR
 refine ⟨e', ?_, h2⟩
 unfold kwR at hk
 simp only [Bool.or_eq_false_iff] at hk
 unfold exprF
 rw [hd.se, hd.se, hd.se, hd.se, seesR_app hX, seesR_app hX, seesR_app hX, seesR_app hX, hk.1, hk.2.1, hk.2.2.1, hk.2.2.2]
 simp only [Bool.false_eq_true, if_false]
 exact h1
theorem k_Texts5 {a b : List Str} {σ : Sg} : ACalls Tryz.prog 46 [.v (vS a), .v (vS b)] σ fun r σ' => r = .v (.bool (decide (a = b))) ∧ σ' = σ := by
 refine acalls_fit Tryz.func46 (by kernel_rfl) c46 rfl (by simp [a46]) fun hf => ?_
 simp at hf
 simp -implicitDefEqProofs (disch := omega) [-getElem?_pos, a46]
 refine .mk (fun hl => ?_) fun hl => ?_
 rotate_left
 ·simp -implicitDefEqProofs (disch := omega) [-getElem?_pos]
  exact .fin _ ⟨by simp; intro h; exact hl (by rw [h]), rfl⟩ (.refl _)
 simp -implicitDefEqProofs (disch := omega) [-getElem?_pos]
 refine W_loop (α := Nat) 0 (fun i => a.length - i) (fun i => ⟨[(0, .v (vS a)), (1, .v (vS b)), (5, .v (.int .i64 i))], σ⟩) (fun i => i ≤ a.length ∧ (a = b ↔ a.drop i = b.drop i))
  (.eq (by simp)) ⟨by omega, by simp⟩ fun i ⟨hi, he⟩ => ?_
 simp -implicitDefEqProofs (disch := omega) [-getElem?_pos]
 refine .mk (fun h => ?_) fun h => ?_
 ·simp -implicitDefEqProofs (disch := omega) [-getElem?_pos]
  refine ⟨by omega, fun x hx => ?_⟩
  refine ⟨by omega, fun y hy => ?_⟩
  rw [drop_cons hx, drop_cons hy] at he
  refine .mk (fun hq => ?_) fun hq => ?_
  ·subst hq
   simp -implicitDefEqProofs (disch := omega) [-getElem?_pos]
   refine ⟨i + 1, ⟨by omega, ?_⟩, by dsimp only; omega, .eq (by simp)⟩
   simpa using he
  ·simp -implicitDefEqProofs (disch := omega) [-getElem?_pos]
   refine .fin _ ⟨?_, rfl⟩ (.refl _)
   rw [decide_eq_false (fun h' => hq (List.cons.inj (he.1 h')).1)]
 ·simp -implicitDefEqProofs (disch := omega) [-getElem?_pos]
  refine .fin _ ⟨?_, rfl⟩ (.refl _)
  rw [List.drop_eq_nil_of_le (by omega), List.drop_eq_nil_of_le (by omega)] at he
  rw [decide_eq_true (he.2 rfl)]
noncomputable instance : DecidableEq Ex := fun _ _ => Classical.propDecidable _
noncomputable def sameB (a b : Ex) : Bool := decide (stripE a = stripE b)
theorem stripE_mk {k p n : Int} {s t : Str} {ls ns : List Str} {l : List Ex} : stripE (.mk k p n s t ls ns l) = .mk k 0 n s t ls ns (l.map stripE) := by
 rw [stripE, stripL_eq]
theorem k_Same5 (a : Ex) : ∀ (b : Ex) {σ : Sg}, csz a ≤ 1048576 → ACalls Tryz.prog 19 [.v (encE a), .v (encE b)] σ fun r σ' => r = .v (.bool (sameB a b)) ∧ σ' = σ := by
 refine Ex.ind (P := fun a => ∀ (b : Ex) {σ : Sg}, csz a ≤ 1048576 → ACalls Tryz.prog 19 [.v (encE a), .v (encE b)] σ fun r σ' => r = .v (.bool (sameB a b)) ∧ σ' = σ) (fun k p n s t ls ns l ih => ?_) a
 intro b σ he
 simp only [csz] at he
 have hll := cszL_len l
 cases b with
 | mk k2 p2 n2 s2 t2 ls2 ns2 l2 =>
 have hB : sameB (.mk k p n s t ls ns l) (.mk k2 p2 n2 s2 t2 ls2 ns2 l2) = decide (k = k2 ∧ n = n2 ∧ s = s2 ∧ t = t2 ∧ ls = ls2 ∧ ns = ns2 ∧ l.map stripE = l2.map stripE) := by
  unfold sameB
  rw [stripE_mk, stripE_mk]
  simp
 generalize sameB (.mk k p n s t ls ns l) (.mk k2 p2 n2 s2 t2 ls2 ns2 l2) = B at hB ⊢
 rw [encE_mk, encE_mk]
 refine acalls_fit Tryz.func19 (by kernel_rfl) c19 rfl (by simp [a19]) fun hf => ?_
 clear hf
 simp -implicitDefEqProofs (disch := omega) [-getElem?_pos, a19]
 refine k_Texts5.then fun r hr => ?_
 subst hr
 simp -implicitDefEqProofs (disch := omega) [-getElem?_pos]
 refine k_Texts5.then fun r hr => ?_
 subst hr
 by_cases h1 : k = k2
 rotate_left
 ·simp -implicitDefEqProofs (disch := omega) [-getElem?_pos, h1]
  exact .fin (.v (.bool false)) ⟨by rw [hB]; simp [h1], rfl⟩ (.refl _)
 by_cases h2 : n = n2
 rotate_left
 ·simp -implicitDefEqProofs (disch := omega) [-getElem?_pos, h1, h2]
  exact .fin (.v (.bool false)) ⟨by rw [hB]; simp [h2], rfl⟩ (.refl _)
 by_cases h3 : s = s2
 rotate_left
 ·simp -implicitDefEqProofs (disch := omega) [-getElem?_pos, h1, h2, h3]
  exact .fin (.v (.bool false)) ⟨by rw [hB]; simp [h3], rfl⟩ (.refl _)
 by_cases h4 : t = t2
 rotate_left
 ·simp -implicitDefEqProofs (disch := omega) [-getElem?_pos, h1, h2, h3, h4]
  exact .fin (.v (.bool false)) ⟨by rw [hB]; simp [h4], rfl⟩ (.refl _)
 by_cases h5 : ls = ls2
 rotate_left
 ·simp -implicitDefEqProofs (disch := omega) [-getElem?_pos, h1, h2, h3, h4, h5]
  exact .fin (.v (.bool false)) ⟨by rw [hB]; simp [h5], rfl⟩ (.refl _)
 by_cases h6 : ns = ns2
 rotate_left
 ·simp -implicitDefEqProofs (disch := omega) [-getElem?_pos, h1, h2, h3, h4, h5, h6]
  exact .fin (.v (.bool false)) ⟨by rw [hB]; simp [h6], rfl⟩ (.refl _)
 subst h1 h2 h3 h4 h5 h6
 by_cases h7 : l.length = l2.length
 rotate_left
 ·have h7i : ¬ (l.length : Int) = l2.length := by omega
  simp -implicitDefEqProofs (disch := omega) [-getElem?_pos, h7, h7i]
  refine .fin (.v (.bool false)) ⟨?_, rfl⟩ (.refl _)
  rw [hB, decide_eq_false]
  rintro ⟨_, _, _, _, _, _, h⟩
  exact h7 (by simpa using congrArg List.length h)
 simp -implicitDefEqProofs (disch := omega) [-getElem?_pos, h7]
 refine W_loop (α := Nat) 0 (fun i => l.length - i) (fun i => ⟨[(2, .ptr σ.objs.length 0), (3, .ptr (σ.objs.length + 1) 0), (4, .v (.bool false)), (7, .v (.int .i64 i))], ⟨σ.objs ++ [obE (.mk k p n s t ls ns l), obE (.mk k p2 n s t ls ns l2)], σ.toks⟩⟩)
  (fun i => i ≤ l.length ∧ (l.map stripE = l2.map stripE ↔ (l.drop i).map stripE = (l2.drop i).map stripE)) (.eq2 (by simp [obE_mk]) (by simp)) ⟨by omega, by simp⟩ fun i ⟨hi, he2⟩ => ?_
 simp -implicitDefEqProofs (disch := omega) [-getElem?_pos, obE_mk]
 refine .mk (fun h => ?_) fun h => ?_
 ·simp -implicitDefEqProofs (disch := omega) [-getElem?_pos]
  refine ⟨by omega, ?_⟩
  intro x hx
  refine ⟨by omega, ?_⟩
  intro y hy
  rw [drop_cons hx, drop_cons hy, List.map_cons, List.map_cons] at he2
  have hx1 := cszL_mem (List.mem_of_getElem? hx)
  refine (ih x (List.mem_of_getElem? hx) y (by omega)).then fun r hr => ?_
  subst hr
  by_cases hq : stripE x = stripE y
  ·rw [hq] at he2
   have hs : sameB x y = true := decide_eq_true hq
   simp -implicitDefEqProofs (disch := omega) [-getElem?_pos, hs]
   refine ⟨i + 1, ⟨by omega, ?_⟩, by dsimp only; omega, .eq2 (by simp [obE_mk]) (by simp)⟩
   simpa using he2
  ·have hs : sameB x y = false := decide_eq_false hq
   simp -implicitDefEqProofs (disch := omega) [-getElem?_pos, hs]
   refine .fin (.v (.bool false)) ⟨?_, rfl⟩ (.refl _)
   have hne : ¬ l.map stripE = l2.map stripE := fun h => hq (List.cons.inj (he2.1 h)).1
   rw [hB]
   simp [hne]
 ·simp -implicitDefEqProofs (disch := omega) [-getElem?_pos]
  refine .fin (.v (.bool true)) ⟨?_, rfl⟩ (.refl _)
  rw [List.drop_eq_nil_of_le (by omega), List.drop_eq_nil_of_le (by omega)] at he2
  rw [hB]
  simp [he2.2 rfl]
theorem fineL_mem2 : ∀ {l : List Ex} {x : Ex}, fineLB l = true → x ∈ l → fineB x = true
 | y :: l, x, h, hx => by
  rw [fineLB, Bool.and_eq_true] at h
  rcases List.mem_cons.1 hx with rfl | hx
  ·exact h.1
  ·exact fineL_mem2 h.2 hx
theorem intsL_mem2 : ∀ {l : List Ex} {x : Ex}, intsL l → x ∈ l → intsE x
 | y :: l, x, h, hx => by
  rw [intsL] at h
  rcases List.mem_cons.1 hx with rfl | hx
  ·exact h.1
  ·exact intsL_mem2 h.2 hx
theorem ops_sign {s : Str} (h : s ∈ opsL) : s ∈ signsL := by
 simp only [opsL, List.mem_cons, List.not_mem_nil, or_false] at h
 rcases h with rfl | rfl | rfl | rfl | rfl | rfl | rfl | rfl <;> decide
theorem armL_more : ∀ (ls ns : List Str) (l m : List Str), ns.length = ls.length → l.length = ls.length → armL ls ns (l ++ m) = armL ls ns l
 | [], _, _, _, _, _ => rfl
 | _ :: _, [], _, _, h, _ => by simp at h
 | _ :: _, _ :: _, [], _, _, h => by simp at h
 | a :: ls, n :: ns, x :: l, m, h, h2 => by
  simp only [List.cons_append, armL]
  rw [armL_more ls ns l m (by simpa using h) (by simpa using h2)]
theorem armT_more : ∀ (ls ns : List Str) (l m : List (List CT)), ns.length = ls.length → l.length = ls.length → armT ls ns (l ++ m) = armT ls ns l
 | [], _, _, _, _, _ => rfl
 | _ :: _, [], _, _, h, _ => by simp at h
 | _ :: _, _ :: _, [], _, _, h => by simp at h
 | a :: ls, n :: ns, x :: l, m, h, h2 => by
  simp only [List.cons_append, armT]
  rw [armT_more ls ns l m (by simpa using h) (by simpa using h2)]
theorem lx_e (e : Ex) : fineB e = true → intsE e → Lx e := by
 refine Ex.ind (P := fun e => fineB e = true → intsE e → Lx e) (fun k p n s t ls ns l ih hf hi w M hs hw => ?_) e
 rw [fineB, Bool.and_eq_true] at hf
 rw [intsE] at hi
 have hl : ∀ x ∈ l, Lx x := fun x hx => ih x hx (fineL_mem2 hf.2 hx) (intsL_mem2 hi.2 hx)
 have hS := shp_of hf.1
 obtain ⟨hi1, hi2⟩ := hi.1
 clear ih hf hi
 rw [showL, tkE]
 cases hS with
 | int h => exact lex_nr h hi2 hs hw
 | text h =>
  show LexTo ((quoteE s).getD [] ++ w) _
  rw [h]
  exact lex_text h hw
 | var h => exact lex_nm h hs hw
 | fn h =>
  have h0 := hl _ (.head _)
  show LexTo ([102, 110, 32] ++ s ++ [32, 45, 62, 32] ++ showL _ ++ w) (wdT wFn :: nmT s :: sgT sArr :: (tkE _ ++ M))
  simp only [List.append_assoc, List.cons_append, List.nil_append]
  exact lex_wd (s := wFn) (by decide) safe_sp (lex_sp (lex_nm h safe_sp (lex_sp (lex_sgs (s := sArr) (by decide) (lex_sp (h0 _ _ hs hw))))))
 | app =>
  have h0 := hl _ (.head _)
  have h1 := hl _ (.tail _ (.head _))
  show LexTo (smallT (kdE _, showL _) ++ [32] ++ smallT (kdE _, showL _) ++ w) (smE _ ++ smE _ ++ M)
  simp only [List.append_assoc, List.cons_append, List.nil_append]
  exact lx_small h0 safe_sp (lex_sp (lx_small h1 hs hw))
 | letE h =>
  have h0 := hl _ (.head _)
  have h1 := hl _ (.tail _ (.head _))
  show LexTo ([108, 101, 116, 32] ++ s ++ [32, 61, 32] ++ showL _ ++ [32, 105, 110, 32] ++ showL _ ++ w) (wdT wLet :: nmT s :: sgT [61] :: (tkE _ ++ wdT wIn :: tkE _) ++ M)
  simp only [List.append_assoc, List.cons_append, List.nil_append]
  exact lex_wd (s := wLet) (by decide) safe_sp (lex_sp (lex_nm h safe_sp (lex_sp (lex_sgs (s := [61]) (by decide) (lex_sp (h0 _ _ safe_sp (lex_sp (lex_wd (s := wIn) (by decide) safe_sp (lex_sp (h1 _ _ hs hw))))))))))
 | recE h h2 =>
  have h0 := hl _ (.head _)
  have h1 := hl _ (.tail _ (.head _))
  show LexTo ([108, 101, 116, 32, 114, 101, 99, 32] ++ s ++ [32] ++ t ++ [32, 61, 32] ++ showL _ ++ [32, 105, 110, 32] ++ showL _ ++ w) (wdT wLet :: wdT wRec :: nmT s :: nmT t :: sgT [61] :: (tkE _ ++ wdT wIn :: tkE _) ++ M)
  simp only [List.append_assoc, List.cons_append, List.nil_append]
  exact lex_wd (s := wLet) (by decide) safe_sp (lex_sp (lex_wd (s := wRec) (by decide) safe_sp (lex_sp (lex_nm h safe_sp (lex_sp (lex_nm h2 safe_sp (lex_sp (lex_sgs (s := [61]) (by decide) (lex_sp (h0 _ _ safe_sp (lex_sp (lex_wd (s := wIn) (by decide) safe_sp (lex_sp (h1 _ _ hs hw))))))))))))))
 | record h hr hll h30 =>
  show LexTo ([123] ++ Lib.join (items ls ((showQ l).map (·.2))) [44, 32] ++ [125] ++ w) (sgT [123] :: (fldT true ls ((tkQ l).map (·.2)) ++ [sgT [125]]) ++ M)
  rw [fld_join, showK_kinds, tkK_kinds]
  simp only [List.append_assoc, List.cons_append, List.nil_append]
  exact lex_one (by simp) (lx_fld true ls l h hl _ _ safe_rb (lex_one (by simp) hw))
 | sel h =>
  have h0 := hl _ (.head _)
  show LexTo (smallT (kdE _, showL _) ++ [46] ++ s ++ w) (smE _ ++ [sgT [46], nmT s] ++ M)
  simp only [List.append_assoc, List.cons_append, List.nil_append]
  exact lx_small h0 safe_dt (lex_one (by simp) (lex_nm h hs hw))
 | ext h =>
  have h0 := hl _ (.head _)
  have h1 := hl _ (.tail _ (.head _))
  show LexTo ([123] ++ s ++ [32, 61, 32] ++ showL _ ++ [32, 124, 32] ++ showL _ ++ [125] ++ w) (sgT [123] :: nmT s :: sgT [61] :: (tkE _ ++ sgT [124] :: (tkE _ ++ [sgT [125]])) ++ M)
  simp only [List.append_assoc, List.cons_append, List.nil_append]
  exact lex_one (by simp) (lex_nm h safe_sp (lex_sp (lex_sgs (s := [61]) (by decide) (lex_sp (h0 _ _ safe_sp (lex_sp (lex_sgs (s := [124]) (by decide) (lex_sp (h1 _ _ safe_rb (lex_one (by simp) hw))))))))))
 | cut h =>
  have h0 := hl _ (.head _)
  show LexTo (smallT (kdE _, showL _) ++ [92] ++ s ++ w) (smE _ ++ [sgT [92], nmT s] ++ M)
  simp only [List.append_assoc, List.cons_append, List.nil_append]
  exact lx_small h0 safe_bs (lex_one (by simp) (lex_nm h hs hw))
 | upd h =>
  have h0 := hl _ (.head _)
  have h1 := hl _ (.tail _ (.head _))
  show LexTo ([123] ++ smallT (kdE _, showL _) ++ [32, 119, 105, 116, 104, 32] ++ s ++ [32, 61, 32] ++ showL _ ++ [125] ++ w) (sgT [123] :: (smE _ ++ wdT wWith :: nmT s :: sgT [61] :: (tkE _ ++ [sgT [125]])) ++ M)
  simp only [List.append_assoc, List.cons_append, List.nil_append]
  exact lex_one (by simp) (lx_small h1 safe_sp (lex_sp (lex_wd (s := wWith) (by decide) safe_sp (lex_sp (lex_nm h safe_sp (lex_sp (lex_sgs (s := [61]) (by decide) (lex_sp (h0 _ _ safe_rb (lex_one (by simp) hw))))))))))
 | tag h =>
  have h0 := hl _ (.head _)
  show LexTo ((s ++ [32]) ++ smallT (kdE _, showL _) ++ w) (tgT s :: smE _ ++ M)
  simp only [List.append_assoc, List.cons_append, List.nil_append]
  exact lex_tg h safe_sp (lex_sp (lx_small h0 hs hw))
 | @matc _ _ _ _ x l last h h2 hr hll hn h30 ht =>
  have h0 := hl _ (.head _)
  show LexTo ([109, 97, 116, 99, 104, 32] ++ showL x ++ [32, 119, 105, 116, 104] ++ (armL ls ns (((showQ (x :: (l ++ last))).map (·.2)).drop 1)).flatten ++ elseT t (((showQ (x :: (l ++ last))).map (·.2)).getD (ls.length + 1) []) ++ [32, 101, 110, 100] ++ w)
   (wdT wMatch :: (tkE x ++ wdT wWith :: (armT ls ns (((tkQ (x :: (l ++ last))).map (·.2)).drop 1) ++ (elsT t (((tkQ (x :: (l ++ last))).map (·.2)).getD (ls.length + 1) []) ++ [wdT wEnd]))) ++ M)
  rw [showK_kinds, tkK_kinds, List.map_cons, List.map_cons, List.drop_succ_cons, List.drop_zero, List.drop_succ_cons, List.drop_zero, List.getD_cons_succ, List.getD_cons_succ, List.map_append, List.map_append, armL_more _ _ _ _ hn (by simp [hll]), armT_more _ _ _ _ hn (by simp [hll])]
  have hend : LexTo ([32, 101, 110, 100] ++ w) (wdT wEnd :: M) := lex_sp (lex_wd (s := wEnd) (by decide) hs hw)
  have hels : LexTo (elseT t ((l.map showL ++ last.map showL).getD ls.length []) ++ ([32, 101, 110, 100] ++ w)) (elsT t ((l.map tkE ++ last.map tkE).getD ls.length []) ++ (wdT wEnd :: M)) ∧ Safe (elseT t ((l.map showL ++ last.map showL).getD ls.length []) ++ ([32, 101, 110, 100] ++ w)) := by
   rcases ht with ⟨rfl, rfl, _⟩ | ⟨ht, y, rfl⟩
   ·exact ⟨hend, safe_sp⟩
   ·have hy := hl y (by simp)
    have hne : t ≠ [] := by rintro rfl; cases ht
    have hg : ∀ {α : Type} (f : Ex → List α), (l.map f ++ [y].map f).getD ls.length [] = f y := fun f => by
     rw [List.getD_eq_getElem?_getD, List.getElem?_append_right (by simp [hll])]
     simp [hll]
    rw [hg, hg]
    unfold elseT elsT
    rw [if_neg hne, if_neg hne]
    simp only [List.append_assoc, List.cons_append, List.nil_append]
    exact ⟨lex_sp (lex_sgs (s := [124]) (by decide) (lex_sp (lex_nm ht safe_sp (lex_sp (lex_sgs (s := [45, 62]) (by decide) (lex_sp (hy _ _ safe_sp hend))))))), safe_sp⟩
  have harm := lx_arm ls ns l h h2 (fun x hx => hl x (by simp [hx])) _ _ hels.2 hels.1
  simp only [List.append_assoc, List.cons_append, List.nil_append] at harm ⊢
  exact lex_wd (s := wMatch) (by decide) safe_sp (lex_sp (h0 _ _ safe_sp (lex_sp (lex_wd (s := wWith) (by decide) harm.2 harm.1))))
 | ifE =>
  have h0 := hl _ (.head _)
  have h1 := hl _ (.tail _ (.head _))
  have h2 := hl _ (.tail _ (.tail _ (.head _)))
  show LexTo ([105, 102, 32] ++ showL _ ++ [32, 116, 104, 101, 110, 32] ++ showL _ ++ [32, 101, 108, 115, 101, 32] ++ showL _ ++ w) (wdT wIf :: (tkE _ ++ wdT wThen :: (tkE _ ++ wdT wElse :: tkE _)) ++ M)
  simp only [List.append_assoc, List.cons_append, List.nil_append]
  exact lex_wd (s := wIf) (by decide) safe_sp (lex_sp (h0 _ _ safe_sp (lex_sp (lex_wd (s := wThen) (by decide) safe_sp (lex_sp (h1 _ _ safe_sp (lex_sp (lex_wd (s := wElse) (by decide) safe_sp (lex_sp (h2 _ _ hs hw))))))))))
 | op h =>
  have h0 := hl _ (.head _)
  have h1 := hl _ (.tail _ (.head _))
  show LexTo (smallT (kdE _, showL _) ++ [32] ++ s ++ [32] ++ smallT (kdE _, showL _) ++ w) (smE _ ++ sgT s :: smE _ ++ M)
  simp only [List.append_assoc, List.cons_append, List.nil_append]
  exact lx_small h0 safe_sp (lex_sp (lex_sgs (ops_sign h) (lex_sp (lx_small h1 hs hw))))
 | ref =>
  have h0 := hl _ (.head _)
  show LexTo ([114, 101, 102, 32] ++ smallT (kdE _, showL _) ++ w) (wdT wRef :: smE _ ++ M)
  simp only [List.append_assoc, List.cons_append, List.nil_append]
  exact lex_wd (s := wRef) (by decide) safe_sp (lex_sp (lx_small h0 hs hw))
 | get =>
  have h0 := hl _ (.head _)
  show LexTo ([33] ++ smallT (kdE _, showL _) ++ w) (sgT [33] :: smE _ ++ M)
  simp only [List.append_assoc, List.cons_append, List.nil_append]
  exact lex_one (by simp) (lx_small h0 hs hw)
 | set =>
  have h0 := hl _ (.head _)
  have h1 := hl _ (.tail _ (.head _))
  show LexTo (smallT (kdE _, showL _) ++ [32, 58, 61, 32] ++ smallT (kdE _, showL _) ++ w) (smE _ ++ sgT sSet :: smE _ ++ M)
  simp only [List.append_assoc, List.cons_append, List.nil_append]
  exact lx_small h0 safe_sp (lex_sp (lex_sgs (s := sSet) (by decide) (lex_sp (lx_small h1 hs hw))))
 | print =>
  have h0 := hl _ (.head _)
  show LexTo ([112, 114, 105, 110, 116, 32] ++ smallT (kdE _, showL _) ++ w) (wdT wPrint :: smE _ ++ M)
  simp only [List.append_assoc, List.cons_append, List.nil_append]
  exact lex_wd (s := wPrint) (by decide) safe_sp (lex_sp (lx_small h0 hs hw))
 | shw =>
  have h0 := hl _ (.head _)
  show LexTo ([115, 104, 111, 119, 32] ++ smallT (kdE _, showL _) ++ w) (wdT wShow :: smE _ ++ M)
  simp only [List.append_assoc, List.cons_append, List.nil_append]
  exact lex_wd (s := wShow) (by decide) safe_sp (lex_sp (lx_small h0 hs hw))
 | read => exact lex_wd (s := wRead) (by decide) hs hw
theorem cutF_of_runs {b : Str} : ∀ (f i : Nat) (acc r : List Tk), b.length < f + i → i ≤ b.length → Runs b i r → cutF f b i acc = .ok (acc ++ r)
 | 0, i, acc, r, h, hi, hr => by omega
 | f + 1, i, acc, [], h, hi, hr => by
  rw [cutF, show b[spanE blaB b i]? = none from hr]
  simp
 | f + 1, i, acc, t :: r, h, hi, ⟨c, to, h1, h2, h3⟩ => by
  have ho := oneL_to h1 h2
  have hge := spanE_ge blaB b i
  rw [cutF, h1]
  dsimp only
  rw [h2]
  dsimp only
  rw [cutF_of_runs f to _ r (by omega) (by omega) h3]
  simp
def Opens (X : List CT) : Prop := ∃ t r, X = t :: r ∧ (t.k = 4 ∨ t.k = 5 ∨ t.k = 1 ∨ t = wdT wRead ∨ t = sgT [40] ∨ t = sgT [123])
theorem f6 {t : CT} {R : List CT} (h : t = sgT [41] ∨ t = sgT [125] ∨ t = sgT [44] ∨ t = sgT [124] ∨ t = wdT wIn ∨ t = wdT wThen ∨ t = wdT wElse ∨ t = wdT wWith ∨ t = wdT wEnd) : F6 (t :: R) := by
 have h2 : ∀ s ∈ ([[92], [46], wRead, [40], [123], [42], [47], [35], [43], [45], [94], [60], [61, 61], sSet] : List Str), seesR (t :: R) s = false := by
  intro s hs
  simp only [List.mem_cons, List.not_mem_nil, or_false] at hs
  rcases h with rfl | rfl | rfl | rfl | rfl | rfl | rfl | rfl | rfl <;> rcases hs with rfl | rfl | rfl | rfl | rfl | rfl | rfl | rfl | rfl | rfl | rfl | rfl | rfl | rfl <;> rfl
 have hk : kR (t :: R) ≠ 1 ∧ kR (t :: R) ≠ 4 ∧ kR (t :: R) ≠ 5 := by
  rcases h with rfl | rfl | rfl | rfl | rfl | rfl | rfl | rfl | rfl <;> simp [kR]
 refine ⟨⟨⟨⟨⟨⟨h2 _ (by simp), h2 _ (by simp)⟩, ?_⟩, fun s hs => h2 s ?_⟩, fun s hs => h2 s ?_⟩, fun s hs => h2 s ?_⟩, h2 _ (by simp)⟩
 ·unfold atomR
  rw [h2 wRead (by simp), h2 [40] (by simp), h2 [123] (by simp)]
  simp [hk.1, hk.2.1, hk.2.2]
 all_goals simp only [List.mem_cons, List.not_mem_nil, or_false] at hs ⊢
 all_goals rcases hs with rfl | hs
 all_goals first | simp | skip
 all_goals rcases hs with rfl | hs
 all_goals first | simp | (subst hs; simp)
theorem f6_nil : F6 [] := by
 refine ⟨⟨⟨⟨⟨⟨rfl, rfl⟩, rfl⟩, fun s hs => rfl⟩, fun s hs => rfl⟩, fun s hs => rfl⟩, rfl⟩
theorem sees_sg {s u : Str} {R : List CT} : seesR (sgT s :: R) u = decide (s = u) := by
 unfold seesR kR sR
 simp
theorem Opens.ne {X : List CT} (h : Opens X) : X ≠ [] := by
 obtain ⟨t, r, rfl, _⟩ := h
 simp
theorem Opens.not {X R : List CT} (h : Opens X) {s : Str} (h1 : wRead ≠ s) (h2 : [40] ≠ s) (h3 : [123] ≠ s) : seesR (X ++ R) s = false := by
 obtain ⟨t, r, rfl, h⟩ := h
 unfold seesR kR sR
 rw [List.cons_append]
 dsimp only
 rcases h with h | h | h | rfl | rfl | rfl
 ·simp [h]
 ·simp [h]
 ·simp [h]
 ·simp only [decide_eq_false h1, Bool.and_false]
 ·simp only [decide_eq_false h2, Bool.and_false]
 ·simp only [decide_eq_false h3, Bool.and_false]
theorem Opens.f1 {X R : List CT} (h : Opens X) : F1 (X ++ R) := ⟨h.not (by decide) (by decide) (by decide), h.not (by decide) (by decide) (by decide)⟩
theorem Opens.atom {X R : List CT} (h : Opens X) : atomR (X ++ R) = true := by
 obtain ⟨t, r, rfl, h⟩ := h
 unfold atomR seesR kR sR
 rw [List.cons_append]
 dsimp only
 rcases h with h | h | h | rfl | rfl | rfl
 ·simp [h]
 ·simp [h]
 ·simp [h]
 ·rfl
 ·rfl
 ·rfl
theorem Opens.head {X : List CT} (h : Opens X) : headR X = none := by
 obtain ⟨t, r, rfl, h⟩ := h
 unfold headR kR sR
 dsimp only
 rcases h with h | h | h | rfl | rfl | rfl
 ·simp [h]
 ·simp [h]
 ·simp [h]
 ·rfl
 ·rfl
 ·rfl
theorem Opens.kw {X R : List CT} (h : Opens X) : kwR (X ++ R) = false := by
 unfold kwR
 rw [h.not (by decide) (by decide) (by decide), h.not (by decide) (by decide) (by decide), h.not (by decide) (by decide) (by decide), h.not (by decide) (by decide) (by decide)]
 rfl
theorem up_post {C : PC} {pe f : PF} {X : List CT} {e : Ex} (h : Good C (postP C f) X e F1) (hX : X ≠ []) (hh : headR X = none) : Good C (preP C f) X e F1 := fun i R hd hR => by
 obtain ⟨e', h1, h2⟩ := h i R hd hR
 refine ⟨e', ?_, h2⟩
 unfold preP
 rw [hd.head, headR_app hX, hh]
 exact h1
theorem up_cmp {C : PC} {pe f : PF} {X : List CT} {e : Ex} (h : Good C (cmpP C f) X e F5) (hX : X ≠ []) (hk : kwR X = false) : Good C (exprF C pe f) X e F6 := expr_of3 (set_of _ h) hX hk
theorem up_sum {C : PC} {pe f : PF} {X : List CT} {e : Ex} (h : Good C (sumP C f) X e F4) (hX : X ≠ []) (hk : kwR X = false) : Good C (exprF C pe f) X e F6 := up_cmp (cmp_of h) hX hk
theorem up_mul {C : PC} {pe f : PF} {X : List CT} {e : Ex} (h : Good C (mulP C f) X e F3) (hX : X ≠ []) (hk : kwR X = false) : Good C (exprF C pe f) X e F6 := up_sum (sum_of h) hX hk
theorem up_app {C : PC} {pe f : PF} {X : List CT} {e : Ex} (h : Good C (appP C f) X e F2) (hX : X ≠ []) (hk : kwR X = false) : Good C (exprF C pe f) X e F6 := up_mul (mul_of h) hX hk
theorem up_pre {C : PC} {pe f : PF} {X : List CT} {e : Ex} (h : Good C (preP C f) X e F1) (hX : X ≠ []) (hk : kwR X = false) : Good C (exprF C pe f) X e F6 := up_app (app_of h) hX hk
theorem up_prim {C : PC} {pe f : PF} {X : List CT} {e : Ex} (h : Good C f X e F0) (hX : Opens X) : Good C (exprF C pe f) X e F6 :=
 up_pre (pre_of h hX.ne hX.head) hX.ne (by have := hX.kw (R := []); rwa [List.append_nil] at this)
theorem find_some {ops : List Str} {s : Str} {R : List CT} (h : s ∈ ops) : (ops.find? fun u => seesR (sgT s :: R) u) = some s := by
 induction ops with
 | nil => cases h
 | cons x ops ih =>
  rw [List.find?_cons, sees_sg]
  by_cases hx : s = x
  ·subst hx; simp
  ·rcases List.mem_cons.1 h with rfl | h
   ·exact absurd rfl hx
   ·simp [hx, ih h]
theorem strip2 {k n : Int} {p : Int} {s t : Str} {a b x y : Ex} (h1 : stripE a = stripE x) (h2 : stripE b = stripE y) {q : Int} : stripE (.mk k p n s t [] [] [a, b]) = stripE (.mk k q n s t [] [] [x, y]) := by
 simp [stripE, stripL, h1, h2]
theorem strip1 {k n : Int} {p : Int} {s t : Str} {a x : Ex} (h1 : stripE a = stripE x) {q : Int} : stripE (.mk k p n s t [] [] [a]) = stripE (.mk k q n s t [] [] [x]) := by
 simp [stripE, stripL, h1]
theorem row_one {C : PC} {f : PF} {X Y : List CT} {x y : Ex} {F : List CT → Prop} {ops : List Str} {s : Str} {p : Int} (hs : s ∈ ops) (hX : X ≠ []) (h1 : Good C f X x F) (h2 : Good C f Y y F) (hF : ∀ R, F (sgT s :: R)) :
  Good C (rowP C f ops) (X ++ sgT s :: Y) (.mk 16 p 0 s [] [] [] [x, y]) (fun R => F R ∧ Fops ops R) := fun i R hd hR => by
 have hlen := hd.len (by simp)
 rw [List.append_assoc, List.cons_append] at hd
 obtain ⟨a, ha, hsa⟩ := h1 i _ hd (hF _)
 have hd2 := hd.skip
 obtain ⟨b, hb, hsb⟩ := h2 _ R hd2.next hR.1
 refine ⟨opE s a b, ?_, strip2 hsa hsb⟩
 unfold rowP
 rw [ha]
 dsimp only
 have hl : ∃ g, C.L.length = g + 1 := ⟨C.L.length - 1, by simp only [List.length_append, List.length_cons] at hlen; omega⟩
 obtain ⟨g, hg⟩ := hl
 rw [hg, rowL, hd2.op, find_some hs]
 dsimp only
 rw [show advP ⟨i + X.length, none⟩ = ⟨i + X.length + 1, none⟩ from rfl, hb]
 dsimp only
 rw [rowL, (hd2.next.skip).op, find_none hR.2]
 simp only [List.length_append, List.length_cons]
 congr 2
 omega
theorem cmp_one {C : PC} {f : PF} {X Y : List CT} {x y : Ex} {s : Str} {p : Int} (hs : s ∈ [[60], [61, 61]]) (h1 : Good C (sumP C f) X x F4) (h2 : Good C (sumP C f) Y y F4) (hF : ∀ R, F4 (sgT s :: R)) :
  Good C (cmpP C f) (X ++ sgT s :: Y) (.mk 16 p 0 s [] [] [] [x, y]) F5 := fun i R hd hR => by
 rw [List.append_assoc, List.cons_append] at hd
 obtain ⟨a, ha, hsa⟩ := h1 i _ hd (hF _)
 have hd2 := hd.skip
 obtain ⟨b, hb, hsb⟩ := h2 _ R hd2.next hR.1
 refine ⟨opE s a b, ?_, strip2 hsa hsb⟩
 unfold cmpP
 rw [ha]
 dsimp only
 rw [hd2.op, find_some hs]
 dsimp only
 rw [show advP ⟨i + X.length, none⟩ = ⟨i + X.length + 1, none⟩ from rfl, hb]
 simp only [List.length_append, List.length_cons]
 congr 2
 omega
theorem set_one {C : PC} {f : PF} {X Y : List CT} {x y : Ex} {p : Int} (h1 : Good C (cmpP C f) X x F5) (h2 : Good C (cmpP C f) Y y F5) (hF : ∀ R, F5 (sgT sSet :: R)) :
  Good C (setP C f (C.L.length + 1)) (X ++ sgT sSet :: Y) (.mk 19 p 0 [] [] [] [] [x, y]) F6 := fun i R hd hR => by
 have hlen := hd.len (by simp)
 rw [List.append_assoc, List.cons_append] at hd
 obtain ⟨a, ha, hsa⟩ := h1 i _ hd (hF _)
 have hd2 := hd.skip
 have hl : ∃ g, C.L.length = g + 1 := ⟨C.L.length - 1, by simp only [List.length_append, List.length_cons] at hlen; omega⟩
 obtain ⟨g, hg⟩ := hl
 obtain ⟨b, hb, hsb⟩ := set_of g h2 _ R hd2.next hR
 refine ⟨.mk 19 (atE a) 0 [] [] [] [] [a, b], ?_, strip2 hsa hsb⟩
 rw [hg, setP, ha]
 dsimp only
 rw [hd2.se, sees_sg, if_pos (by decide), show advP ⟨i + X.length, none⟩ = ⟨i + X.length + 1, none⟩ from rfl, hb]
 simp only [List.length_append, List.length_cons]
 congr 2
 omega
theorem app_one {C : PC} {f : PF} {X Y : List CT} {x y : Ex} {p : Int} (h1 : Good C f X x F0) (h2 : Good C f Y y F0) (hX : Opens X) (hY : Opens Y) : Good C (appP C f) (X ++ Y) (.mk 5 p 0 [] [] [] [] [x, y]) F2 := fun i R hd hR => by
 have hlen := hd.len (by simp [hX.ne])
 rw [List.append_assoc] at hd
 obtain ⟨a, ha, hsa⟩ := pre_of h1 hX.ne hX.head i _ hd hY.f1
 have hd2 := hd.skip
 obtain ⟨b, hb, hsb⟩ := post_of h2 _ R hd2 hR.1
 have hX1 : 1 ≤ X.length := by
  obtain ⟨t, r, rfl, _⟩ := hX
  simp
 have hl : ∃ g, C.L.length = g + 1 := ⟨C.L.length - 1, by simp only [List.length_append] at hlen; omega⟩
 obtain ⟨g, hg⟩ := hl
 refine ⟨.mk 5 (atE a) 0 [] [] [] [] [a, b], ?_, strip2 hsa hsb⟩
 unfold appP
 rw [ha, hg]
 dsimp only
 rw [appL, hd2.atom, hY.atom, if_pos rfl, hb]
 dsimp only
 rw [appL, hd2.skip.atom, hR.2, if_neg (by simp)]
 simp only [List.length_append]
 congr 2
 omega
theorem post_one {C : PC} {f : PF} {X : List CT} {x : Ex} {s : Str} {p k : Int} (h1 : Good C f X x F0) (c : UInt8) (hc : (k = 9 ∧ c = 46) ∨ (k = 11 ∧ c = 92)) : Good C (postP C f) (X ++ [sgT [c], nmT s]) (.mk k p 0 s [] [] [] [x]) F1 := fun i R hd hR => by
 have hlen := hd.len (by simp)
 rw [List.append_assoc] at hd
 obtain ⟨a, ha, hsa⟩ := h1 i _ hd trivial
 have hd2 : Dr C (i + X.length) (sgT [c] :: nmT s :: R) := hd.skip
 have hl : ∃ g, C.L.length = g + 1 := ⟨C.L.length - 1, by simp only [List.length_append, List.length_cons] at hlen; omega⟩
 obtain ⟨g, hg⟩ := hl
 refine ⟨.mk k (atE a) 0 s [] [] [] [a], ?_, strip1 hsa⟩
 unfold postP
 rw [ha, hg]
 dsimp only
 have hd3 := hd2.next
 have ht := Dr.text hd3 (k := 1) rfl
 have he := hd3.next
 rcases hc with ⟨rfl, rfl⟩ | ⟨rfl, rfl⟩
 ·rw [postL, hd2.se, hd2.se, sees_sg, sees_sg, if_neg (by first | decide | simp [kR, seesR, sR]), if_pos (by decide), show advP ⟨i + X.length, none⟩ = ⟨i + X.length + 1, none⟩ from rfl, ht]
  dsimp only
  rw [postL, Dr.se he, Dr.se he, hR.1, hR.2, if_neg (by simp), if_neg (by simp)]
  simp only [List.length_append, List.length_cons, List.length_nil]
  rfl
 ·rw [postL, hd2.se, sees_sg, if_pos (by decide), show advP ⟨i + X.length, none⟩ = ⟨i + X.length + 1, none⟩ from rfl, ht]
  dsimp only
  rw [postL, Dr.se he, Dr.se he, hR.1, hR.2, if_neg (by simp), if_neg (by simp)]
  simp only [List.length_append, List.length_cons, List.length_nil]
  rfl
theorem pre_one {C : PC} {f : PF} {X : List CT} {x : Ex} {s : Str} {p k : Int} {t : CT} (h1 : Good C f X x F0) (ht : headR [t] = some k) (hs : (if k = 13 then t.s else []) = s) : Good C (preP C f) (t :: X) (.mk k p 0 s [] [] [] [x]) F1 := fun i R hd hR => by
 rw [List.cons_append] at hd
 obtain ⟨a, ha, hsa⟩ := post_of h1 _ R hd.next hR
 refine ⟨.mk k (placeP C ⟨i, none⟩) 0 s [] [] [] [a], ?_, strip1 hsa⟩
 unfold preP
 rw [hd.head, show headR (t :: (X ++ R)) = some k from ht]
 dsimp only
 rw [show advP ⟨i, none⟩ = ⟨i + 1, none⟩ from rfl, ha, hd.s, show (if k = 13 then sR (t :: (X ++ R)) else []) = s from hs]
 simp only [List.length_cons]
 congr 2
 omega
theorem prim_par {C : PC} {pe f : PF} {X : List CT} {x : Ex} (h1 : Good C pe X x F6) : Good C (primF C pe f) (sgT [40] :: (X ++ [sgT [41]])) x F0 := fun i R hd _ => by
 rw [List.cons_append, List.append_assoc] at hd
 obtain ⟨a, ha, hsa⟩ := h1 _ _ hd.next (f6 (by simp))
 refine ⟨a, ?_, hsa⟩
 have hd2 := hd.next.skip
 have hm := Dr.must hd2 [41] (.inr rfl)
 unfold primF
 dsimp only
 rw [hd.k, hd.se, hd.se, if_neg (by first | decide | simp [kR, seesR, sR]), if_neg (by first | decide | simp [kR, seesR, sR]), if_neg (by first | decide | simp [kR, seesR, sR]), sees_sg, sees_sg, if_neg (by first | decide | simp [kR, seesR, sR]), if_pos (by decide), show advP ⟨i, none⟩ = ⟨i + 1, none⟩ from rfl, ha]
 dsimp only
 rw [hm]
 simp only [List.length_cons, List.length_append, List.length_nil]
 congr 2
 omega
theorem prim_num {C : PC} {pe f : PF} {n : Nat} {p : Int} : Good C (primF C pe f) [⟨4, n, []⟩] (.mk 1 p n [] [] [] [] []) F0 := fun i R hd _ => by
 refine ⟨.mk 1 (placeP C ⟨i, none⟩) n [] [] [] [] [], ?_, by simp [stripE, stripL]⟩
 rw [List.cons_append, List.nil_append] at hd
 have hn := (hd.get 0).2.2
 unfold primF
 dsimp only
 rw [hd.k, if_pos (by rfl)]
 have : (ahd C ⟨i, none⟩ 0).n = n := hn
 rw [this]
 rfl
theorem prim_text {C : PC} {pe f : PF} {s : Str} {p : Int} : Good C (primF C pe f) [⟨5, 0, s⟩] (.mk 2 p 0 s [] [] [] []) F0 := fun i R hd _ => by
 refine ⟨.mk 2 (placeP C ⟨i, none⟩) 0 s [] [] [] [], ?_, by simp [stripE, stripL]⟩
 rw [List.cons_append, List.nil_append] at hd
 unfold primF
 dsimp only
 rw [hd.k, hd.s, if_neg (by first | decide | simp [kR, seesR, sR]), if_pos (by rfl)]
 rfl
theorem prim_var {C : PC} {pe f : PF} {s : Str} {p : Int} : Good C (primF C pe f) [nmT s] (.mk 3 p 0 s [] [] [] []) F0 := fun i R hd _ => by
 refine ⟨.mk 3 (placeP C ⟨i, none⟩) 0 s [] [] [] [], ?_, by simp [stripE, stripL]⟩
 rw [List.cons_append, List.nil_append] at hd
 unfold primF
 dsimp only
 rw [hd.k, hd.s, if_neg (by first | decide | simp [kR, seesR, sR]), if_neg (by first | decide | simp [kR, seesR, sR]), if_pos (by rfl)]
 rfl
theorem prim_read {C : PC} {pe f : PF} {p : Int} : Good C (primF C pe f) [wdT wRead] (.mk 22 p 0 [] [] [] [] []) F0 := fun i R hd _ => by
 refine ⟨.mk 22 (placeP C ⟨i, none⟩) 0 [] [] [] [] [], ?_, by simp [stripE, stripL]⟩
 rw [List.cons_append, List.nil_append] at hd
 unfold primF
 dsimp only
 rw [hd.k, hd.se, if_neg (by first | decide | simp [kR, seesR, sR]), if_neg (by first | decide | simp [kR, seesR, sR]), if_neg (by first | decide | simp [kR, seesR, sR]), if_pos (by rfl)]
 rfl
theorem prim_brace {C : PC} {pe f : PF} {X : List CT} {x : Ex} (h : ∀ p i R, Dr C i (X ++ R) → ∃ e', bracesP C pe f p ⟨i, none⟩ = ⟨e', ⟨i + X.length, none⟩⟩ ∧ stripE e' = stripE x) : Good C (primF C pe f) (sgT [123] :: X) x F0 := fun i R hd _ => by
 rw [List.cons_append] at hd
 obtain ⟨a, ha, hsa⟩ := h (placeP C ⟨i, none⟩) _ R hd.next
 refine ⟨a, ?_, hsa⟩
 unfold primF
 dsimp only
 rw [hd.k, hd.se, hd.se, hd.se, sees_sg, sees_sg, sees_sg, if_neg (by first | decide | simp [kR, seesR, sR]), if_neg (by first | decide | simp [kR, seesR, sR]), if_neg (by first | decide | simp [kR, seesR, sR]), if_neg (by first | decide | simp [kR, seesR, sR]), if_neg (by first | decide | simp [kR, seesR, sR]), if_pos (by decide), show advP ⟨i, none⟩ = ⟨i + 1, none⟩ from rfl, ha]
 simp only [List.length_cons]
 congr 2
 omega
theorem rise_lt : ∀ {l : List Str} {x : Str}, riseL (x :: l) = true → ∀ y ∈ l, x < y
 | [], x, _, y, hy => by cases hy
 | a :: l, x, h, y, hy => by
  rw [riseL, Bool.and_eq_true, decide_eq_true_eq] at h
  rcases List.mem_cons.1 hy with rfl | hy
  ·exact h.1
  ·exact List.lt_trans h.1 (rise_lt h.2 y hy)
theorem rise_tl : ∀ {l : List Str} {x : Str}, riseL (x :: l) = true → riseL l = true
 | [], _, _ => rfl
 | a :: l, x, h => by
  rw [riseL, Bool.and_eq_true] at h
  exact h.2
theorem rise_nodup : ∀ {l : List Str}, riseL l = true → l.Nodup
 | [], _ => .nil
 | x :: l, h => List.nodup_cons.2 ⟨fun hx => absurd (rise_lt h x hx) (List.lt_irrefl x), rise_nodup (rise_tl h)⟩
theorem hasKey_no {l : List Itm} {s : Str} {r : List Str} (h : (l.map (·.key) ++ s :: r).Nodup) : hasKey l s = false := by
 unfold hasKey
 rw [List.any_eq_false]
 intro y hy hk
 have hd := (List.nodup_append.1 h).2.2 y.key (List.mem_map.2 ⟨y, hy, rfl⟩) s (by simp)
 exact hd (by simpa using hk)
theorem fld_len : ∀ (b : Bool) (ls : List Str) (X : List (List CT)), X.length = ls.length → ls.length ≤ (fldT b ls X).length
 | b, [], X, _ => Nat.zero_le _
 | b, _ :: _, [], h => by simp at h
 | b, s :: ls, x :: X, h => by
  have := fld_len false ls X (by simpa using h)
  simp only [fldT, List.length_append, List.length_cons]
  omega
theorem fld_false {s : Str} {ls : List Str} {x : List CT} {X : List (List CT)} : fldT false (s :: ls) (x :: X) = sgT [44] :: fldT true (s :: ls) (x :: X) := by
 simp [fldT]
theorem flds_all {C : PC} {pe : PF} : ∀ (ls : List Str) (l : List Ex) (g i : Nat) (acc : List Itm) (R : List CT), ls ≠ [] → l.length = ls.length → ls.length ≤ g → (∀ x ∈ l, Good C pe (tkE x) x F6) → (acc.map (·.key) ++ ls).Nodup →
  Dr C i (fldT true ls (l.map tkE) ++ sgT [125] :: R) → ∃ l', fldsL C pe g ⟨acc, ⟨i, none⟩⟩ = .all (acc ++ l') ⟨i + (fldT true ls (l.map tkE)).length, none⟩ ∧ l'.map (·.key) = ls ∧ l'.map (fun y => stripE y.e) = l.map stripE
 | [], _, _, _, _, _, h, _, _, _, _, _ => absurd rfl h
 | _ :: _, [], _, _, _, _, _, h, _, _, _, _ => by simp at h
 | _ :: _, _ :: _, 0, _, _, _, _, _, h, _, _, _ => by simp at h
 | s :: ls, x :: l, g + 1, i, acc, R, _, hl, hg, hgood, hnd, hd => by
  have hk := hasKey_no hnd
  have hx := hgood x (by simp)
  have hT : fldT true (s :: ls) ((x :: l).map tkE) ++ sgT [125] :: R = nmT s :: sgT [61] :: (tkE x ++ (fldT false ls (l.map tkE) ++ sgT [125] :: R)) := by simp [fldT]
  have hL : (fldT true (s :: ls) ((x :: l).map tkE)).length = 2 + (tkE x).length + (fldT false ls (l.map tkE)).length := by
   simp only [fldT, List.map_cons, List.length_append, List.length_cons, if_true, List.length_nil]
   omega
  rw [hT] at hd
  rw [hL]
  have h1 := Dr.text hd (k := 1) rfl
  have h2 := Dr.must hd.next [61] (.inr rfl)
  cases ls with
  | nil =>
   obtain rfl : l = [] := List.length_eq_zero_iff.1 (by simpa using hl)
   have hd3 := hd.next.next
   simp only [fldT, List.map_nil, List.nil_append] at hd3
   obtain ⟨a, ha, hsa⟩ := hx _ _ hd3 (f6 (by simp))
   have hd4 := hd3.skip
   refine ⟨[⟨placeP C ⟨i, none⟩, s, [], a⟩], ?_, rfl, by simp [hsa]⟩
   rw [fldsL]
   dsimp only
   rw [h1]
   dsimp only
   rw [hk, if_neg (show ¬ (false = true) by simp), h2, ha]
   dsimp only
   rw [hd4.se, hd4.se, sees_sg, sees_sg, if_neg (by simp), if_neg (by simp)]
   simp only [fldT, List.map_nil, List.length_nil]
   congr 2
   omega
  | cons s2 ls =>
   cases l with
   | nil => simp at hl
   | cons x2 l =>
    have hd3 := hd.next.next
    rw [List.map_cons, fld_false, List.cons_append] at hd3
    obtain ⟨a, ha, hsa⟩ := hx _ _ hd3 (f6 (by simp))
    have hd4 := hd3.skip
    obtain ⟨l', hr, hk', hs'⟩ := flds_all (s2 :: ls) (x2 :: l) g (i + 1 + 1 + (tkE x).length + 1) (acc ++ [⟨placeP C ⟨i, none⟩, s, [], a⟩]) R (by simp) (by simpa using hl) (by simp at hg ⊢; omega) (fun y hy => hgood y (by simp [List.mem_cons.1 hy])) (by simpa using hnd) hd4.next
    refine ⟨⟨placeP C ⟨i, none⟩, s, [], a⟩ :: l', ?_, by simp [hk'], by simp [hsa, hs']⟩
    rw [fldsL]
    dsimp only
    rw [h1]
    dsimp only
    rw [hk, if_neg (show ¬ (false = true) by simp), h2, ha]
    dsimp only
    rw [hd4.se, hd4.se, sees_sg, sees_sg, if_neg (by simp), if_pos (by simp), show advP ⟨i + 1 + 1 + (tkE x).length, none⟩ = ⟨i + 1 + 1 + (tkE x).length + 1, none⟩ from rfl, hr]
    simp only [List.append_assoc, List.cons_append, List.nil_append]
    rw [List.map_cons, fld_false]
    simp only [List.length_cons, List.map_cons]
    congr 2
    omega
def SrtOk (C : PC) : Prop := ∀ l : List Itm, riseL (l.map (·.key)) = true → C.srt l = l
theorem good_record {C : PC} {pe f : PF} (hS : SrtOk C) {p : Int} {ls : List Str} {l : List Ex} (hl : l.length = ls.length) (hr : riseL ls = true) (hg : ∀ x ∈ l, Good C pe (tkE x) x F6) :
  Good C (primF C pe f) (sgT [123] :: (fldT true ls (l.map tkE) ++ [sgT [125]])) (.mk 8 p 0 [] [] ls [] l) F0 := by
 refine prim_brace fun q i R hd => ?_
 cases ls with
 | nil =>
  obtain rfl : l = [] := List.length_eq_zero_iff.1 (by simpa using hl)
  simp only [fldT, List.nil_append, List.cons_append, List.map_nil] at hd ⊢
  refine ⟨.mk 8 q 0 [] [] [] [] [], ?_, by simp [stripE, stripL]⟩
  unfold bracesP
  rw [hd.se, sees_sg, if_pos (by decide)]
  rfl
 | cons s ls =>
  cases l with
  | nil => simp at hl
  | cons x l =>
   have hlen := hd.len (by simp)
   have hge := fld_len true (s :: ls) ((x :: l).map tkE) (by simpa using hl)
   simp only [List.append_assoc, List.cons_append, List.nil_append, List.length_append, List.length_cons] at hd hlen
   obtain ⟨l', h1, h2, h3⟩ := flds_all (C := C) (pe := pe) (s :: ls) (x :: l) (C.L.length + 1) i [] R (by simp) hl (by omega) hg (by simpa using rise_nodup hr) hd
   have hd2 := hd.skip
   have hT : ∃ U, fldT true (s :: ls) ((x :: l).map tkE) ++ sgT [125] :: R = nmT s :: sgT [61] :: U := ⟨_, by simp [fldT]; rfl⟩
   obtain ⟨U, hU⟩ := hT
   rw [hU] at hd
   refine ⟨.mk 8 q 0 [] [] (s :: ls) [] (l'.map (·.e)), ?_, by simp [stripE, stripL_eq] at h3 ⊢; exact h3⟩
   unfold bracesP
   rw [hd.se, hd.k, hd.se1, sees_sg, if_neg (by first | decide | simp [kR, seesR, sR]), if_neg (by first | decide | simp [kR, seesR, sR]), h1]
   dsimp only
   rw [List.nil_append, hS l' (by rw [h2]; exact hr), h2, hd2.must [125] (.inr rfl)]
   simp only [List.length_append, List.length_cons, List.length_nil]
   rfl
theorem good_ext {C : PC} {pe f : PF} {p : Int} {s : Str} {x y : Ex} (hx : Good C pe (tkE x) x F6) (hy : Good C pe (tkE y) y F6) :
  Good C (primF C pe f) (sgT [123] :: nmT s :: sgT [61] :: (tkE x ++ sgT [124] :: (tkE y ++ [sgT [125]]))) (.mk 10 p 0 s [] [] [] [x, y]) F0 := by
 refine prim_brace fun q i R hd => ?_
 simp only [List.append_assoc, List.cons_append, List.nil_append] at hd
 have h1 := Dr.text hd (k := 1) rfl
 have h2 := Dr.must hd.next [61] (.inr rfl)
 obtain ⟨a, ha, hsa⟩ := hx _ _ hd.next.next (f6 (by simp))
 have hd4 := hd.next.next.skip
 obtain ⟨b, hb, hsb⟩ := hy _ _ hd4.next (f6 (by simp))
 have hd5 := hd4.next.skip
 refine ⟨.mk 10 q 0 s [] [] [] [a, b], ?_, strip2 hsa hsb⟩
 unfold bracesP
 rw [hd.se, hd.k, hd.se1, sees_sg, if_neg (by first | decide | simp [kR, seesR, sR]), if_neg (by first | decide | simp [kR, seesR, sR]), fldsL]
 dsimp only
 rw [h1]
 dsimp only
 rw [show hasKey [] s = false from rfl, if_neg (show ¬ (false = true) by simp), h2, ha]
 dsimp only
 rw [hd4.se, sees_sg, if_pos (by simp), show advP ⟨i + 1 + 1 + (tkE x).length, none⟩ = ⟨i + 1 + 1 + (tkE x).length + 1, none⟩ from rfl, hb]
 dsimp only
 rw [hd5.must [125] (.inr rfl)]
 simp only [List.length_append, List.length_cons, List.length_nil]
 congr 2
 omega
theorem good_upd {C : PC} {pe f : PF} {p : Int} {s : Str} {x y : Ex} (hx : Good C pe (tkE x) x F6) (hy : Good C f (smE y) y F0) (hO : Opens (smE y)) (hV : kR (smE y) ≠ 1 ∨ ∃ t, smE y = [t]) :
  Good C (primF C pe f) (sgT [123] :: (smE y ++ wdT wWith :: nmT s :: sgT [61] :: (tkE x ++ [sgT [125]]))) (.mk 12 p 0 s [] [] [] [x, y]) F0 := by
 refine prim_brace fun q i R hd => ?_
 simp only [List.append_assoc, List.cons_append, List.nil_append] at hd
 obtain ⟨b, hb, hsb⟩ := post_of hy _ _ hd ⟨rfl, rfl⟩
 have hd2 := hd.skip
 have h1 := Dr.must hd2 wWith (.inl rfl)
 have h2 := Dr.text hd2.next (k := 1) rfl
 have h3 := Dr.must hd2.next.next [61] (.inr rfl)
 obtain ⟨a, ha, hsa⟩ := hx _ _ hd2.next.next.next (f6 (by simp))
 have hd3 := hd2.next.next.next.skip
 have hc : (ahd C ⟨i, none⟩ 0).k ≠ 1 ∨ sees C ⟨i, none⟩ 1 [61] = false := by
  rcases hV with hV | ⟨t, ht⟩
  ·left
   rw [hd.k]
   obtain ⟨t, r, ht, _⟩ := hO
   rw [ht] at hV ⊢
   exact hV
  ·right
   rw [ht] at hd
   rw [List.cons_append] at hd
   rw [hd.se1]
   rfl
 refine ⟨.mk 12 q 0 s [] [] [] [a, b], ?_, strip2 hsa hsb⟩
 unfold bracesP
 rw [hd.se, hO.not (by decide) (by decide) (by decide), if_neg (by simp), if_pos hc, hb]
 dsimp only
 rw [h1, h2]
 dsimp only
 rw [h3, ha]
 dsimp only
 rw [hd3.must [125] (.inr rfl)]
 simp only [List.length_append, List.length_cons, List.length_nil]
 congr 2
 omega
theorem arm_len2 : ∀ (ls ns : List Str) (X : List (List CT)), ns.length = ls.length → X.length = ls.length → ls.length ≤ (armT ls ns X).length
 | [], _, _, _, _ => Nat.zero_le _
 | _ :: _, [], _, h, _ => by simp at h
 | _ :: _, _ :: _, [], _, h => by simp at h
 | a :: ls, n :: ns, x :: X, h, h2 => by
  have := arm_len2 ls ns X (by simpa using h) (by simpa using h2)
  simp only [armT, List.length_append, List.length_cons]
  omega
theorem els_f6 {t : Str} {Y R : List CT} : F6 (elsT t Y ++ wdT wEnd :: R) := by
 unfold elsT
 split
 ·exact f6 (by simp)
 ·exact f6 (by simp)
theorem arm_f6 {ls ns : List Str} {X : List (List CT)} {t : Str} {Y R : List CT} : F6 (armT ls ns X ++ (elsT t Y ++ wdT wEnd :: R)) := by
 match ls, ns, X with
 | [], _, _ => exact els_f6
 | _ :: _, [], _ => exact els_f6
 | _ :: _, _ :: _, [] => exact els_f6
 | _ :: _, _ :: _, _ :: _ => exact f6 (by simp)
theorem arms_all {C : PC} {pe : PF} {t : Str} {Y : List CT} {last : List Ex} (hlast : (t = [] ∧ last = []) ∨ (t ≠ [] ∧ ∃ y, last = [y] ∧ Y = tkE y ∧ Good C pe (tkE y) y F6)) :
  ∀ (ls ns : List Str) (l : List Ex) (g i : Nat) (acc : List Itm) (first : Bool) (R : List CT), ns.length = ls.length → l.length = ls.length → ls.length + 1 ≤ g → (∀ x ∈ l, Good C pe (tkE x) x F6) → (acc.map (·.key) ++ ls).Nodup → (first = false ∨ ls ≠ [] ∨ t ≠ []) →
  Dr C i (armT ls ns (l.map tkE) ++ (elsT t Y ++ wdT wEnd :: R)) → ∃ l' last' b, armsL C pe (g + 1) ⟨acc, [], [], ⟨i, none⟩, first⟩ = ⟨acc ++ l', t, last', ⟨i + (armT ls ns (l.map tkE)).length + (elsT t Y).length, none⟩, b⟩ ∧ l'.map (·.key) = ls ∧ l'.map (·.own) = ns ∧ l'.map (fun y => stripE y.e) = l.map stripE ∧ last'.map stripE = last.map stripE
 | [], ns, l, g, i, acc, first, R, hn, hl, hg, hgood, hnd, hf, hd => by
  obtain rfl : ns = [] := List.length_eq_zero_iff.1 (by simpa using hn)
  obtain rfl : l = [] := List.length_eq_zero_iff.1 (by simpa using hl)
  simp only [armT, List.map_nil, List.nil_append] at hd
  rcases hlast with ⟨rfl, rfl⟩ | ⟨ht, y, rfl, rfl, hy⟩
  ·obtain rfl : first = false := by simpa using hf
   simp only [elsT, if_pos, List.nil_append] at hd
   refine ⟨[], [], false, ?_, rfl, rfl, rfl, rfl⟩
   rw [armsL, hd.se]
   rw [if_neg (by rintro ⟨_, _, h | h⟩ <;> cases h)]
   simp [armT, elsT]
  ·unfold elsT at hd
   rw [if_neg ht] at hd
   simp only [List.cons_append] at hd
   have h1 := Dr.must hd [124] (.inr rfl)
   have h2 := Dr.text hd.next (k := 1) rfl
   have h3 := Dr.must hd.next.next sArr (.inr rfl)
   obtain ⟨b, hb, hsb⟩ := hy _ _ hd.next.next.next (f6 (by simp))
   refine ⟨[], [b], false, ?_, rfl, rfl, rfl, by simp [hsb]⟩
   rw [armsL, hd.se, sees_sg, if_pos ⟨rfl, rfl, .inr (by simp)⟩, armF]
   try dsimp only
   rw [h1]
   try dsimp only
   rw [hd.next.k, if_pos (by rfl), h2]
   try dsimp only
   rw [h3, hb]
   try dsimp only
   obtain ⟨g', rfl⟩ : ∃ g', g = g' + 1 := ⟨g - 1, by simp at hg; omega⟩
   rw [armsL, if_neg (by rintro ⟨_, h, _⟩; exact ht h)]
   unfold elsT
   rw [if_neg ht]
   simp only [armT, List.map_nil, List.append_nil, List.length_nil, List.length_cons]
   congr 2
   omega
 | _ :: _, [], _, _, _, _, _, _, h, _, _, _, _, _, _ => by simp at h
 | _ :: _, _ :: _, [], _, _, _, _, _, _, h, _, _, _, _, _ => by simp at h
 | a :: ls, n :: ns, x :: l, g, i, acc, first, R, hn, hl, hg, hgood, hnd, hf, hd => by
  have hk := hasKey_no hnd
  simp only [armT, List.map_cons, List.cons_append, List.append_assoc] at hd
  have h1 := Dr.must hd [124] (.inr rfl)
  have h2 := Dr.text hd.next (k := 3) rfl
  have h3 := Dr.text hd.next.next (k := 1) rfl
  have h4 := Dr.must hd.next.next.next sArr (.inr rfl)
  obtain ⟨b, hb, hsb⟩ := hgood x (by simp) _ _ hd.next.next.next.next arm_f6
  obtain ⟨g', rfl⟩ : ∃ g', g = g' + 1 := ⟨g - 1, by simp at hg; omega⟩
  obtain ⟨l', last', b', hr, hk', ho', hs', hl'⟩ := arms_all hlast ls ns l g' (i + 1 + 1 + 1 + 1 + (tkE x).length) (acc ++ [⟨placeP C ⟨i + 1, none⟩, a, n, b⟩]) false R (by simpa using hn) (by simpa using hl) (by simp at hg; omega) (fun y hy => hgood y (by simp [hy])) (by simpa using hnd) (.inl rfl) hd.next.next.next.next.skip
  refine ⟨⟨placeP C ⟨i + 1, none⟩, a, n, b⟩ :: l', last', b', ?_, by simp [hk'], by simp [ho'], by simp [hsb, hs'], hl'⟩
  rw [armsL, hd.se, sees_sg, if_pos ⟨rfl, rfl, .inr (by simp)⟩, armF]
  try dsimp only
  rw [h1]
  try dsimp only
  rw [hd.next.k, if_neg (by first | decide | simp [kR, seesR, sR]), h2]
  try dsimp only
  rw [hk, if_neg (show ¬ (false = true) by simp), h3]
  try dsimp only
  rw [h4, hb]
  try dsimp only
  rw [hr]
  simp only [armT, List.map_cons, List.append_assoc, List.cons_append, List.nil_append, List.length_cons, List.length_append]
  congr 2
  omega
theorem good_match {C : PC} {pe f : PF} (hS : SrtOk C) {p : Int} {t : Str} {ls ns : List Str} {x : Ex} {l last : List Ex} (hr : riseL ls = true) (hl : l.length = ls.length) (hn : ns.length = ls.length) {Y : List CT}
  (hlast : (t = [] ∧ last = [] ∧ ls ≠ []) ∨ (t ≠ [] ∧ ∃ y, last = [y] ∧ Y = tkE y ∧ Good C pe (tkE y) y F6)) (hx : Good C pe (tkE x) x F6) (hg : ∀ y ∈ l, Good C pe (tkE y) y F6) :
  Good C (exprF C pe f) (wdT wMatch :: (tkE x ++ wdT wWith :: (armT ls ns (l.map tkE) ++ (elsT t Y ++ [wdT wEnd])))) (.mk 14 p 0 [] t ls ns (x :: (l ++ last))) F6 := fun i R hd hR => by
 have hlen := hd.len (by simp)
 have hge := arm_len2 ls ns (l.map tkE) hn (by simpa using hl)
 simp only [List.append_assoc, List.cons_append, List.nil_append, List.length_append, List.length_cons, List.length_nil] at hd hlen
 obtain ⟨a, ha, hsa⟩ := hx _ _ hd.next (f6 (by simp))
 have hd2 := hd.next.skip
 have h1 := Dr.must hd2 wWith (.inl rfl)
 have hla2 : (t = [] ∧ last = []) ∨ (t ≠ [] ∧ ∃ y, last = [y] ∧ Y = tkE y ∧ Good C pe (tkE y) y F6) := by
  rcases hlast with ⟨h1, h2, _⟩ | h
  ·exact .inl ⟨h1, h2⟩
  ·exact .inr h
 obtain ⟨l', last', b', hr', hk', ho', hs', hl'⟩ := arms_all hla2 ls ns l C.L.length (i + 1 + (tkE x).length + 1) [] true R hn hl (by omega) hg (by simpa using rise_nodup hr) (by rcases hlast with ⟨_, _, h⟩ | ⟨h, _⟩ <;> simp [h]) hd2.next
 have hd3 : Dr C (i + 1 + (tkE x).length + 1 + (armT ls ns (l.map tkE)).length + (elsT t Y).length) (wdT wEnd :: R) := hd2.next.skip.skip
 have h3 := Dr.must hd3 wEnd (.inl rfl)
 refine ⟨.mk 14 (placeP C ⟨i, none⟩) 0 [] t ls ns (a :: (l'.map (·.e) ++ last')), ?_, ?_⟩
 ·unfold exprF
  rw [hd.se, hd.se, hd.se, hd.se, if_neg (by first | decide | simp [kR, seesR, sR]), if_neg (by first | decide | simp [kR, seesR, sR]), if_neg (by first | decide | simp [kR, seesR, sR]), if_pos (by rfl), show advP ⟨i, none⟩ = ⟨i + 1, none⟩ from rfl, matchP]
  try dsimp only
  rw [ha]
  try dsimp only
  rw [h1, hr']
  try dsimp only
  rw [h3, List.nil_append, hS l' (by rw [hk']; exact hr), hk', ho']
  simp only [List.length_append, List.length_cons, List.length_nil]
  congr 2
  omega
 ·simp only [stripE, stripL_eq, List.map_cons, List.map_append, List.map_map, hsa, hl']
  congr 1
  congr 1
  congr 1
theorem good_fn {C : PC} {pe f : PF} {p : Int} {s : Str} {x : Ex} (hx : Good C pe (tkE x) x F6) : Good C (exprF C pe f) (wdT wFn :: nmT s :: sgT sArr :: tkE x) (.mk 4 p 0 s [] [] [] [x]) F6 := fun i R hd hR => by
 simp only [List.cons_append] at hd
 have h1 := Dr.text hd.next (k := 1) rfl
 have h2 := Dr.must hd.next.next sArr (.inr rfl)
 obtain ⟨a, ha, hsa⟩ := hx _ _ hd.next.next.next hR
 refine ⟨.mk 4 (placeP C ⟨i, none⟩) 0 s [] [] [] [a], ?_, strip1 hsa⟩
 unfold exprF
 rw [hd.se, if_pos (by rfl), show advP ⟨i, none⟩ = ⟨i + 1, none⟩ from rfl, h1]
 try dsimp only
 rw [h2, ha]
 simp only [List.length_cons]
 congr 2
 omega
theorem good_let2 {C : PC} {pe : PF} {k p q : Int} {s t : Str} {x y : Ex} (hx : Good C pe (tkE x) x F6) (hy : Good C pe (tkE y) y F6) {i : Nat} {R : List CT} (hd : Dr C i (sgT [61] :: (tkE x ++ wdT wIn :: (tkE y ++ R)))) (hR : F6 R) :
  ∃ e', let2P C pe k q s t ⟨i, none⟩ = ⟨e', ⟨i + (1 + ((tkE x).length + (1 + (tkE y).length))), none⟩⟩ ∧ stripE e' = stripE (.mk k p 0 s t [] [] [x, y]) := by
 have h1 := Dr.must hd [61] (.inr rfl)
 obtain ⟨a, ha, hsa⟩ := hx _ _ hd.next (f6 (by simp))
 have hd2 := hd.next.skip
 have h2 := Dr.must hd2 wIn (.inl rfl)
 obtain ⟨b, hb, hsb⟩ := hy _ _ hd2.next hR
 refine ⟨.mk k q 0 s t [] [] [a, b], ?_, strip2 hsa hsb⟩
 unfold let2P
 rw [h1, ha]
 try dsimp only
 rw [h2, hb]
 dsimp only
 congr 2
 omega
theorem good_let {C : PC} {pe f : PF} {p : Int} {s : Str} {x y : Ex} (hx : Good C pe (tkE x) x F6) (hy : Good C pe (tkE y) y F6) : Good C (exprF C pe f) (wdT wLet :: nmT s :: sgT [61] :: (tkE x ++ wdT wIn :: tkE y)) (.mk 6 p 0 s [] [] [] [x, y]) F6 := fun i R hd hR => by
 simp only [List.append_assoc, List.cons_append] at hd
 have h1 := Dr.text hd.next (k := 1) rfl
 obtain ⟨a, ha, hsa⟩ := good_let2 (k := 6) (p := p) (q := placeP C ⟨i, none⟩) (s := s) (t := []) hx hy hd.next.next hR
 refine ⟨a, ?_, hsa⟩
 unfold exprF
 rw [hd.se, hd.se, if_neg (by first | decide | simp [kR, seesR, sR]), if_pos (by rfl), show advP ⟨i, none⟩ = ⟨i + 1, none⟩ from rfl, letP, hd.next.se, if_neg (by simp [seesR, kR]), h1]
 try dsimp only
 rw [ha]
 simp only [List.length_cons, List.length_append]
 congr 2
 omega
theorem good_rec {C : PC} {pe f : PF} {p : Int} {s t : Str} {x y : Ex} (hx : Good C pe (tkE x) x F6) (hy : Good C pe (tkE y) y F6) : Good C (exprF C pe f) (wdT wLet :: wdT wRec :: nmT s :: nmT t :: sgT [61] :: (tkE x ++ wdT wIn :: tkE y)) (.mk 7 p 0 s t [] [] [x, y]) F6 := fun i R hd hR => by
 simp only [List.append_assoc, List.cons_append] at hd
 have h1 := Dr.text hd.next.next (k := 1) rfl
 have h2 := Dr.text hd.next.next.next (k := 1) rfl
 obtain ⟨a, ha, hsa⟩ := good_let2 (k := 7) (p := p) (q := placeP C ⟨i, none⟩) (s := s) (t := t) hx hy hd.next.next.next.next hR
 refine ⟨a, ?_, hsa⟩
 unfold exprF
 rw [hd.se, hd.se, if_neg (by first | decide | simp [kR, seesR, sR]), if_pos (by rfl), show advP ⟨i, none⟩ = ⟨i + 1, none⟩ from rfl, letP, hd.next.se, if_pos (by rfl), show advP ⟨i + 1, none⟩ = ⟨i + 1 + 1, none⟩ from rfl, h1]
 try dsimp only
 rw [h2]
 try dsimp only
 rw [ha]
 simp only [List.length_cons, List.length_append]
 congr 2
 omega
theorem good_if {C : PC} {pe f : PF} {p : Int} {x y z : Ex} (hx : Good C pe (tkE x) x F6) (hy : Good C pe (tkE y) y F6) (hz : Good C pe (tkE z) z F6) : Good C (exprF C pe f) (wdT wIf :: (tkE x ++ wdT wThen :: (tkE y ++ wdT wElse :: tkE z))) (.mk 15 p 0 [] [] [] [] [x, y, z]) F6 := fun i R hd hR => by
 simp only [List.append_assoc, List.cons_append] at hd
 obtain ⟨a, ha, hsa⟩ := hx _ _ hd.next (f6 (by simp))
 have hd2 := hd.next.skip
 have h1 := Dr.must hd2 wThen (.inl rfl)
 obtain ⟨b, hb, hsb⟩ := hy _ _ hd2.next (f6 (by simp))
 have hd3 := hd2.next.skip
 have h2 := Dr.must hd3 wElse (.inl rfl)
 obtain ⟨c, hc, hsc⟩ := hz _ _ hd3.next hR
 refine ⟨.mk 15 (placeP C ⟨i, none⟩) 0 [] [] [] [] [a, b, c], ?_, by simp [stripE, stripL, hsa, hsb, hsc]⟩
 unfold exprF
 rw [hd.se, hd.se, hd.se, if_neg (by first | decide | simp [kR, seesR, sR]), if_neg (by first | decide | simp [kR, seesR, sR]), if_pos (by rfl), show advP ⟨i, none⟩ = ⟨i + 1, none⟩ from rfl, ifP]
 try dsimp only
 rw [ha]
 try dsimp only
 rw [h1, hb]
 try dsimp only
 rw [h2, hc]
 simp only [List.length_cons, List.length_append]
 congr 2
 omega
theorem sm_not {x : Ex} {T : List CT} (hT : tkE x = T) (hk : soleK (kdE x) = false) : smE x = sgT [40] :: (T ++ [sgT [41]]) := by
 unfold smE smT
 dsimp only
 rw [hk, hT]
 rfl
theorem sm_sole {x : Ex} {T : List CT} (hT : tkE x = T) (hk : soleK (kdE x) = true) : smE x = T := by
 unfold smE smT
 dsimp only
 rw [hk, hT]
 rfl
structure Sm (x : Ex) : Prop where
 o : Opens (smE x)
 v : kR (smE x) ≠ 1 ∨ ∃ t, smE x = [t]
 p : 1 ≤ (tkE x).length
 q : 1 ≤ (smE x).length
 r : (tkE x).length ≤ (smE x).length
theorem sm_par {x : Ex} {t : CT} {T : List CT} (hT : tkE x = t :: T) (hk : soleK (kdE x) = false) : Sm x := by
 have h := sm_not hT hk
 exact ⟨⟨_, _, h, by simp⟩, .inl (by rw [h]; simp [kR]), by rw [hT]; simp, by rw [h]; simp, by rw [h, hT]; simp⟩
theorem sm_self {x : Ex} {t : CT} {T : List CT} (hT : tkE x = t :: T) (hk : soleK (kdE x) = true) (ho : t.k = 4 ∨ t.k = 5 ∨ t.k = 1 ∨ t = wdT wRead ∨ t = sgT [40] ∨ t = sgT [123]) (hv : t.k ≠ 1 ∨ T = []) : Sm x := by
 have h := sm_sole hT hk
 refine ⟨⟨t, T, h, ho⟩, ?_, by rw [hT]; simp, by rw [h]; simp, by rw [h, hT]; simp⟩
 rw [h]
 rcases hv with hv | rfl
 ·exact .inl hv
 ·exact .inr ⟨t, rfl⟩
theorem app_head {X Y : List CT} (h : Opens X) : ∃ t T, X ++ Y = t :: T := by
 obtain ⟨t, r, rfl, _⟩ := h
 exact ⟨t, r ++ Y, rfl⟩
theorem sm_of {x : Ex} (h : Shp x) (hl : ∀ (k p n : Int) (s t : Str) (ls ns : List Str) (l : List Ex), x = .mk k p n s t ls ns l → ∀ y ∈ l, Sm y) : Sm x := by
 have h0 := fun k p n s t ls ns y l e => (hl k p n s t ls ns (y :: l) e y (.head _)).o
 cases h with
 | int h => exact sm_self (t := ⟨4, _, []⟩) rfl rfl (by simp) (by simp)
 | @text p s q h => exact sm_self (t := ⟨5, 0, s⟩) rfl rfl (by simp) (by simp)
 | @var p s h => exact sm_self (t := nmT s) rfl rfl (by simp) (by simp)
 | fn h => exact sm_par (t := wdT wFn) rfl rfl
 | @app p x y =>
  obtain ⟨t, T, ht⟩ := app_head (Y := smE y) (h0 _ _ _ _ _ _ _ x _ rfl)
  exact sm_par (t := t) (T := T) ht rfl
 | letE h => exact sm_par (t := wdT wLet) rfl rfl
 | recE h h2 => exact sm_par (t := wdT wLet) rfl rfl
 | record h hr hll h30 => exact sm_self (t := sgT [123]) rfl rfl (by simp) (by simp)
 | @sel p s x h =>
  obtain ⟨t, T, ht⟩ := app_head (Y := [sgT [46], nmT s]) (h0 _ _ _ _ _ _ _ x _ rfl)
  exact sm_par (t := t) (T := T) ht rfl
 | ext h => exact sm_self (t := sgT [123]) rfl rfl (by simp) (by simp)
 | @cut p s x h =>
  obtain ⟨t, T, ht⟩ := app_head (Y := [sgT [92], nmT s]) (h0 _ _ _ _ _ _ _ x _ rfl)
  exact sm_par (t := t) (T := T) ht rfl
 | upd h => exact sm_self (t := sgT [123]) rfl rfl (by simp) (by simp)
 | @tag p s x h => exact sm_par (t := tgT s) rfl rfl
 | matc h h2 hr hll hn h30 ht => exact sm_par (t := wdT wMatch) rfl rfl
 | ifE => exact sm_par (t := wdT wIf) rfl rfl
 | @op p s x y h =>
  obtain ⟨t, T, ht⟩ := app_head (Y := sgT s :: smE y) (h0 _ _ _ _ _ _ _ x _ rfl)
  exact sm_par (t := t) (T := T) ht rfl
 | ref => exact sm_par (t := wdT wRef) rfl rfl
 | get => exact sm_par (t := sgT [33]) rfl rfl
 | @set p x y =>
  obtain ⟨t, T, ht⟩ := app_head (Y := sgT sSet :: smE y) (h0 _ _ _ _ _ _ _ x _ rfl)
  exact sm_par (t := t) (T := T) ht rfl
 | print => exact sm_par (t := wdT wPrint) rfl rfl
 | shw => exact sm_par (t := wdT wShow) rfl rfl
 | read => exact sm_self (t := wdT wRead) rfl rfl (by simp) (by simp)
theorem fine_shp {e : Ex} (h : fineB e = true) : Shp e := by
 cases e with
 | mk k p n s t ls ns l =>
 rw [fineB, Bool.and_eq_true] at h
 exact shp_of h.1
theorem fine_sm (e : Ex) : fineB e = true → Sm e := by
 refine Ex.ind (P := fun e => fineB e = true → Sm e) (fun k p n s t ls ns l ih h => ?_) e
 refine sm_of (fine_shp h) fun k' p' n' s' t' ls' ns' l' he y hy => ?_
 cases he
 rw [fineB, Bool.and_eq_true] at h
 exact ih y hy (fineL_mem2 h.2 hy)
structure Rd (C : PC) (x : Ex) : Prop where
 e : ∀ n, 2 * (tkE x).length ≤ n → Good C (pP C n).e (tkE x) x F6
 r : ∀ n, 2 * (tkE x).length + 1 ≤ n → Good C (pP C n).r (smE x) x F0
theorem rd_not {C : PC} {e : Ex} {T : List CT} (hT : tkE e = T) (hk : soleK (kdE e) = false) (hp : 1 ≤ T.length) (h : ∀ m, 2 * T.length ≤ m + 1 → Good C (exprF C (pP C m).e (pP C (m + 1)).r) T e F6) : Rd C e := by
 have he : ∀ n, 2 * T.length ≤ n → Good C (pP C n).e T e F6 := fun n hn => by
  obtain ⟨m, rfl⟩ : ∃ m, n = m + 1 := ⟨n - 1, by omega⟩
  exact h m hn
 refine ⟨by rw [hT]; exact he, fun n hn => ?_⟩
 rw [hT] at hn
 rw [sm_not hT hk]
 obtain ⟨m, rfl⟩ : ∃ m, n = m + 1 := ⟨n - 1, by omega⟩
 exact prim_par (he m (by omega))
theorem rd_sole {C : PC} {e : Ex} {T : List CT} (hT : tkE e = T) (hk : soleK (kdE e) = true) (hO : Opens T) (h : ∀ m, 2 * T.length ≤ m + 1 → Good C (primF C (pP C m).e (pP C m).r) T e F0) : Rd C e := by
 have hp : 1 ≤ T.length := by
  obtain ⟨t, r, rfl, _⟩ := hO
  simp
 refine ⟨fun n hn => ?_, fun n hn => ?_⟩
 ·rw [hT] at hn ⊢
  obtain ⟨m, rfl⟩ : ∃ m, n = m + 1 := ⟨n - 1, by omega⟩
  exact up_prim (h m hn) hO
 ·rw [hT] at hn
  rw [sm_sole hT hk]
  obtain ⟨m, rfl⟩ : ∃ m, n = m + 1 := ⟨n - 1, by omega⟩
  exact h m (by omega)
theorem opens_app {X Y : List CT} (h : Opens X) : X ++ Y ≠ [] := by
 obtain ⟨t, r, rfl, _⟩ := h
 simp
theorem fldT_mem : ∀ (b : Bool) (ls : List Str) (l : List Ex) (x : Ex), l.length = ls.length → x ∈ l → (tkE x).length ≤ (fldT b ls (l.map tkE)).length
 | b, [], [], x, _, h => by cases h
 | b, [], _ :: _, x, h, _ => by simp at h
 | b, _ :: _, [], x, h, _ => by simp at h
 | b, s :: ls, y :: l, x, hl, h => by
  simp only [fldT, List.map_cons, List.length_append, List.length_cons]
  rcases List.mem_cons.1 h with rfl | h
  ·omega
  ·have := fldT_mem false ls l x (by simpa using hl) h
   omega
theorem armT_mem : ∀ (ls ns : List Str) (l : List Ex) (x : Ex), ns.length = ls.length → l.length = ls.length → x ∈ l → (tkE x).length ≤ (armT ls ns (l.map tkE)).length
 | [], _, [], x, _, _, h => by cases h
 | [], _, _ :: _, x, _, h, _ => by simp at h
 | _ :: _, [], _, x, h, _, _ => by simp at h
 | _ :: _, _ :: _, [], x, _, h, _ => by simp at h
 | s :: ls, n :: ns, y :: l, x, hn, hl, h => by
  simp only [armT, List.map_cons, List.length_append, List.length_cons]
  rcases List.mem_cons.1 h with rfl | h
  ·omega
  ·have := armT_mem ls ns l x (by simpa using hn) (by simpa using hl) h
   omega
theorem f_sg {s : Str} (h : s ∈ ([[43], [45], [94], [60], [61, 61], sSet] : List Str)) (R : List CT) : F3 (sgT s :: R) := by
 simp only [List.mem_cons, List.not_mem_nil, or_false] at h
 rcases h with rfl | rfl | rfl | rfl | rfl | rfl <;> exact ⟨⟨⟨rfl, rfl⟩, rfl⟩, fun u hu => by
  rw [sees_sg]
  simp only [List.mem_cons, List.not_mem_nil, or_false] at hu
  rcases hu with rfl | rfl | rfl <;> rfl⟩
theorem f_sg4 {s : Str} (h : s ∈ ([[60], [61, 61], sSet] : List Str)) (R : List CT) : F4 (sgT s :: R) := by
 refine ⟨f_sg (by simp only [List.mem_cons, List.not_mem_nil, or_false] at h ⊢; rcases h with h | h | h <;> simp [h]) R, fun u hu => ?_⟩
 rw [sees_sg]
 simp only [List.mem_cons, List.not_mem_nil, or_false] at h hu
 rcases h with rfl | rfl | rfl <;> rcases hu with rfl | rfl | rfl <;> rfl
theorem f_sg5 (R : List CT) : F5 (sgT sSet :: R) := by
 refine ⟨f_sg4 (by simp) R, fun u hu => ?_⟩
 rw [sees_sg]
 simp only [List.mem_cons, List.not_mem_nil, or_false] at hu
 rcases hu with rfl | rfl <;> rfl
theorem rd_e {C : PC} (hC : SrtOk C) (e : Ex) : fineB e = true → Rd C e := by
 refine Ex.ind (P := fun e => fineB e = true → Rd C e) (fun k p n s t ls ns l ih h => ?_) e
 have hS := fine_shp h
 rw [fineB, Bool.and_eq_true] at h
 have hl : ∀ x ∈ l, Rd C x := fun x hx => ih x hx (fineL_mem2 h.2 hx)
 have hm : ∀ x ∈ l, Sm x := fun x hx => fine_sm x (fineL_mem2 h.2 hx)
 clear ih h
 cases hS with
 | @int p n h =>
  refine rd_sole (T := [⟨4, n.toNat, []⟩]) rfl rfl ⟨_, _, rfl, by simp⟩ fun m _ => ?_
  obtain ⟨u, rfl⟩ := Int.eq_ofNat_of_zero_le h
  exact prim_num
 | text h => exact rd_sole (T := [⟨5, 0, s⟩]) rfl rfl ⟨_, _, rfl, by simp⟩ fun m _ => prim_text
 | var h => exact rd_sole (T := [nmT s]) rfl rfl ⟨_, _, rfl, by simp⟩ fun m _ => prim_var
 | @fn p s x h =>
  have h0 := hl x (by simp)
  refine rd_not (T := wdT wFn :: nmT s :: sgT sArr :: tkE x) rfl rfl (by simp) fun m hn => good_fn (h0.e m ?_)
  simp only [List.length_cons] at hn
  omega
 | @app p x y =>
  have h0 := hl x (by simp)
  have h1 := hl y (by simp)
  have m0 := hm x (by simp)
  have m1 := hm y (by simp)
  have := m0.p; have := m1.p; have := m0.q; have := m1.q; have := m0.r; have := m1.r
  refine rd_not (T := smE x ++ smE y) rfl rfl (by simp only [List.length_append]; omega) fun m hn => ?_
  simp only [List.length_append] at hn
  exact up_app (app_one (h0.r _ (by omega)) (h1.r _ (by omega)) m0.o m1.o) (opens_app m0.o) m0.o.kw
 | @letE p s x y h =>
  have h0 := hl x (by simp)
  have h1 := hl y (by simp)
  refine rd_not (T := wdT wLet :: nmT s :: sgT [61] :: (tkE x ++ wdT wIn :: tkE y)) rfl rfl (by simp) fun m hn => ?_
  simp only [List.length_cons, List.length_append] at hn
  exact good_let (h0.e m (by omega)) (h1.e m (by omega))
 | @recE p s t x y h h2 =>
  have h0 := hl x (by simp)
  have h1 := hl y (by simp)
  refine rd_not (T := wdT wLet :: wdT wRec :: nmT s :: nmT t :: sgT [61] :: (tkE x ++ wdT wIn :: tkE y)) rfl rfl (by simp) fun m hn => ?_
  simp only [List.length_cons, List.length_append] at hn
  exact good_rec (h0.e m (by omega)) (h1.e m (by omega))
 | record h hr hll h30 =>
  have hT : tkE (.mk 8 p 0 [] [] ls [] l) = sgT [123] :: (fldT true ls (l.map tkE) ++ [sgT [125]]) := by
   show sgT [123] :: (fldT true ls ((tkQ l).map (·.2)) ++ [sgT [125]]) = _
   rw [tkK_kinds]
  refine rd_sole hT rfl ⟨_, _, rfl, by simp⟩ fun m hn => ?_
  simp only [List.length_cons, List.length_append, List.length_nil] at hn
  refine good_record hC hll hr fun x hx => (hl x hx).e m ?_
  have := fldT_mem true ls l x hll hx
  omega
 | @sel p s x h =>
  have h0 := hl x (by simp)
  have m0 := hm x (by simp)
  have := m0.r
  refine rd_not (T := smE x ++ [sgT [46], nmT s]) rfl rfl (by simp) fun m hn => ?_
  simp only [List.length_append, List.length_cons, List.length_nil] at hn
  exact up_pre (up_post (pe := (pP C m).e) (post_one (h0.r _ (by omega)) 46 (.inl ⟨rfl, rfl⟩)) (opens_app m0.o) (by rw [headR_app m0.o.ne]; exact m0.o.head)) (opens_app m0.o) m0.o.kw
 | @ext p s x y h =>
  have h0 := hl x (by simp)
  have h1 := hl y (by simp)
  refine rd_sole (T := sgT [123] :: nmT s :: sgT [61] :: (tkE x ++ sgT [124] :: (tkE y ++ [sgT [125]]))) rfl rfl ⟨_, _, rfl, by simp⟩ fun m hn => ?_
  simp only [List.length_append, List.length_cons, List.length_nil] at hn
  exact good_ext (h0.e m (by omega)) (h1.e m (by omega))
 | @cut p s x h =>
  have h0 := hl x (by simp)
  have m0 := hm x (by simp)
  have := m0.r
  refine rd_not (T := smE x ++ [sgT [92], nmT s]) rfl rfl (by simp) fun m hn => ?_
  simp only [List.length_append, List.length_cons, List.length_nil] at hn
  exact up_pre (up_post (pe := (pP C m).e) (post_one (h0.r _ (by omega)) 92 (.inr ⟨rfl, rfl⟩)) (opens_app m0.o) (by rw [headR_app m0.o.ne]; exact m0.o.head)) (opens_app m0.o) m0.o.kw
 | @upd p s x y h =>
  have h0 := hl x (by simp)
  have h1 := hl y (by simp)
  have m1 := hm y (by simp)
  have := m1.r
  refine rd_sole (T := sgT [123] :: (smE y ++ wdT wWith :: nmT s :: sgT [61] :: (tkE x ++ [sgT [125]]))) rfl rfl ⟨_, _, rfl, by simp⟩ fun m hn => ?_
  simp only [List.length_append, List.length_cons, List.length_nil] at hn
  exact good_upd (h0.e m (by omega)) (h1.r m (by omega)) m1.o m1.v
 | @tag p s x h =>
  have h0 := hl x (by simp)
  have m0 := hm x (by simp)
  have := m0.r
  refine rd_not (T := tgT s :: smE x) rfl rfl (by simp) fun m hn => ?_
  simp only [List.length_cons] at hn
  exact up_pre (pre_one (k := 13) (h0.r _ (by omega)) rfl rfl) (by simp) rfl
 | @matc p t ls ns x l last h h2 hr hll hn h30 ht =>
  have h0 := hl x (by simp)
  have hT : tkE (.mk 14 p 0 [] t ls ns (x :: (l ++ last))) = wdT wMatch :: (tkE x ++ wdT wWith :: (armT ls ns (l.map tkE) ++ (elsT t ((last.map tkE).getD 0 []) ++ [wdT wEnd]))) := by
   show wdT wMatch :: (tkE x ++ wdT wWith :: (armT ls ns (((tkQ (x :: (l ++ last))).map (·.2)).drop 1) ++ (elsT t (((tkQ (x :: (l ++ last))).map (·.2)).getD (ls.length + 1) []) ++ [wdT wEnd]))) = _
   rw [tkK_kinds, List.map_cons, List.drop_succ_cons, List.drop_zero, List.getD_cons_succ, List.map_append, armT_more _ _ _ _ hn (by simp [hll])]
   congr 6
   rw [List.getD_eq_getElem?_getD, List.getElem?_append_right (by simp [hll]), List.getD_eq_getElem?_getD]
   simp [hll]
  refine rd_not hT rfl (by simp) fun m hb => ?_
  simp only [List.length_append, List.length_cons, List.length_nil] at hb
  refine good_match hC hr hll hn ?_ (h0.e m (by omega)) fun y hy => (hl y (by simp [hy])).e m ?_
  ·rcases ht with ht | ⟨ht, y, rfl⟩
   ·exact .inl ht
   ·have hne : t ≠ [] := by rintro rfl; cases ht
    refine .inr ⟨hne, y, rfl, rfl, (hl y (by simp)).e m ?_⟩
    simp only [elsT, if_neg hne, List.length_cons, List.map_cons, List.getD_cons_zero] at hb
    omega
  ·have := armT_mem ls ns l y hn hll hy
   omega
 | @ifE p x y z =>
  have h0 := hl x (by simp)
  have h1 := hl y (by simp)
  have h2 := hl z (by simp)
  refine rd_not (T := wdT wIf :: (tkE x ++ wdT wThen :: (tkE y ++ wdT wElse :: tkE z))) rfl rfl (by simp) fun m hn => ?_
  simp only [List.length_append, List.length_cons, List.length_nil] at hn
  exact good_if (h0.e m (by omega)) (h1.e m (by omega)) (h2.e m (by omega))
 | @op p s x y h =>
  have h0 := hl x (by simp)
  have h1 := hl y (by simp)
  have m0 := hm x (by simp)
  have m1 := hm y (by simp)
  have := m0.r; have := m1.r
  refine rd_not (T := smE x ++ sgT s :: smE y) rfl rfl (by simp only [List.length_append, List.length_cons]; omega) fun m hn => ?_
  simp only [List.length_append, List.length_cons] at hn
  have g0 := h0.r (m + 1) (by omega)
  have g1 := h1.r (m + 1) (by omega)
  have a0 := app_of (pre_of g0 m0.o.ne m0.o.head)
  have a1 := app_of (pre_of g1 m1.o.ne m1.o.head)
  have hne : smE x ++ sgT s :: smE y ≠ [] := by simp
  have hkw : kwR (smE x ++ sgT s :: smE y) = false := m0.o.kw
  simp only [opsL, List.mem_cons, List.not_mem_nil, or_false] at h
  rcases h with rfl | rfl | rfl | rfl | rfl | rfl | rfl | rfl
  ·exact up_sum (row_one (s := [43]) (ops := [[43], [45], [94]]) (by simp) m0.o.ne (mul_of a0) (mul_of a1) (f_sg (s := [43]) (by simp))) hne hkw
  ·exact up_sum (row_one (s := [45]) (ops := [[43], [45], [94]]) (by simp) m0.o.ne (mul_of a0) (mul_of a1) (f_sg (s := [45]) (by simp))) hne hkw
  ·exact up_mul (row_one (s := [42]) (ops := [[42], [47], [35]]) (by simp) m0.o.ne a0 a1 fun R => ⟨⟨rfl, rfl⟩, rfl⟩) hne hkw
  ·exact up_mul (row_one (s := [47]) (ops := [[42], [47], [35]]) (by simp) m0.o.ne a0 a1 fun R => ⟨⟨rfl, rfl⟩, rfl⟩) hne hkw
  ·exact up_cmp (cmp_one (s := [60]) (by simp) (sum_of (mul_of a0)) (sum_of (mul_of a1)) (f_sg4 (s := [60]) (by simp))) hne hkw
  ·exact up_cmp (cmp_one (s := [61, 61]) (by simp) (sum_of (mul_of a0)) (sum_of (mul_of a1)) (f_sg4 (s := [61, 61]) (by simp))) hne hkw
  ·exact up_sum (row_one (s := [94]) (ops := [[43], [45], [94]]) (by simp) m0.o.ne (mul_of a0) (mul_of a1) (f_sg (s := [94]) (by simp))) hne hkw
  ·exact up_mul (row_one (s := [35]) (ops := [[42], [47], [35]]) (by simp) m0.o.ne a0 a1 fun R => ⟨⟨rfl, rfl⟩, rfl⟩) hne hkw
 | @ref p x =>
  have h0 := hl x (by simp)
  have := (hm x (by simp)).r
  refine rd_not (T := wdT wRef :: smE x) rfl rfl (by simp) fun m hn => ?_
  simp only [List.length_cons] at hn
  exact up_pre (pre_one (k := 17) (h0.r _ (by omega)) rfl rfl) (by simp) rfl
 | @get p x =>
  have h0 := hl x (by simp)
  have := (hm x (by simp)).r
  refine rd_not (T := sgT [33] :: smE x) rfl rfl (by simp) fun m hn => ?_
  simp only [List.length_cons] at hn
  exact up_pre (pre_one (k := 18) (h0.r _ (by omega)) rfl rfl) (by simp) rfl
 | @set p x y =>
  have h0 := hl x (by simp)
  have h1 := hl y (by simp)
  have m0 := hm x (by simp)
  have m1 := hm y (by simp)
  have := m0.r; have := m1.r
  refine rd_not (T := smE x ++ sgT sSet :: smE y) rfl rfl (by simp only [List.length_append, List.length_cons]; omega) fun m hn => ?_
  simp only [List.length_append, List.length_cons] at hn
  have a0 := cmp_of (sum_of (mul_of (app_of (pre_of (h0.r (m + 1) (by omega)) m0.o.ne m0.o.head))))
  have a1 := cmp_of (sum_of (mul_of (app_of (pre_of (h1.r (m + 1) (by omega)) m1.o.ne m1.o.head))))
  exact expr_of3 (set_one a0 a1 f_sg5) (by simp) m0.o.kw
 | @print p x =>
  have h0 := hl x (by simp)
  have := (hm x (by simp)).r
  refine rd_not (T := wdT wPrint :: smE x) rfl rfl (by simp) fun m hn => ?_
  simp only [List.length_cons] at hn
  exact up_pre (pre_one (k := 20) (h0.r _ (by omega)) rfl rfl) (by simp) rfl
 | @shw p x =>
  have h0 := hl x (by simp)
  have := (hm x (by simp)).r
  refine rd_not (T := wdT wShow :: smE x) rfl rfl (by simp) fun m hn => ?_
  simp only [List.length_cons] at hn
  exact up_pre (pre_one (k := 21) (h0.r _ (by omega)) rfl rfl) (by simp) rfl
 | read => exact rd_sole (T := [wdT wRead]) rfl rfl ⟨_, _, rfl, by simp⟩ fun m _ => prim_read
theorem cut_text {e : Ex} (hf : fineB e = true) (hi : intsE e) : ∃ ts, Runs (showL e) 0 ts ∧ ts.map core = tkE e := by
 obtain ⟨ts, h1, h2⟩ := lx_e e hf hi [] [] safe_nil lex_nil []
 refine ⟨ts, ?_, by simpa using h2⟩
 simpa using h1
theorem read_back {srt : List Itm → List Itm} (hS : ∀ l : List Itm, riseL (l.map (·.key)) = true → srt l = l) {e : Ex} (hf : fineB e = true) {ts : List Tk} (ht : ts.map core = tkE e) (E n : Nat) (hn : 2 * ts.length ≤ n) :
  ∃ e', (pP ⟨ts, E, srt⟩ n).e ⟨0, none⟩ = ⟨e', ⟨ts.length, none⟩⟩ ∧ stripE e' = stripE e := by
 have hl : (tkE e).length = ts.length := by rw [← ht]; simp
 obtain ⟨e', h1, h2⟩ := (rd_e (C := ⟨ts, E, srt⟩) hS e hf).e n (by omega) 0 [] (by unfold Dr; simp [ht]) f6_nil
 refine ⟨e', ?_, h2⟩
 rw [h1, hl, Nat.zero_add]
theorem cmpB_gt : ∀ {a b : Str}, b < a → ¬ Lib.compareBytes a b < 0
 | [], b, h => by cases h
 | x :: a, [], _ => by simp [Lib.compareBytes]
 | x :: a, y :: b, h => by
  rw [List.cons_lt_cons_iff] at h
  rcases h with h | ⟨rfl, h⟩
  ·simp only [Lib.compareBytes]
   have h1 : ¬ x < y := fun h2 => absurd (UInt8.lt_trans h h2) (UInt8.lt_irrefl _)
   have h2 : x ≠ y := fun e => absurd (e ▸ h) (UInt8.lt_irrefl _)
   simp [h1, h2, h]
  ·have ih := cmpB_gt h
   simp only [Lib.compareBytes]
   simpa using ih
theorem rise_pair : ∀ {l : List Str}, riseL l = true → ∀ (i j : Nat) (a b : Str), i < j → l[i]? = some a → l[j]? = some b → a < b
 | [], _, i, j, a, b, _, ha, _ => by simp at ha
 | x :: l, h, i, j, a, b, hij, ha, hb => by
  cases j with
  | zero => omega
  | succ j =>
   rw [List.getElem?_cons_succ] at hb
   cases i with
   | zero =>
    simp only [List.getElem?_cons_zero, Option.some.injEq] at ha
    subst ha
    exact rise_lt h b (List.mem_of_getElem? hb)
   | succ i =>
    rw [List.getElem?_cons_succ] at ha
    exact rise_pair (rise_tl h) i j a b (by omega) ha hb
theorem sortOk : ∀ l : List Itm, riseL (l.map (·.key)) = true → sortI l = l := fun l h => sortI_id fun i j hij => by
 unfold ltL
 cases hj : l[j]? with
 | none => rfl
 | some y =>
  cases hi : l[i]? with
  | none => rfl
  | some x =>
   have := rise_pair h i j x.key y.key hij (by rw [List.getElem?_map, hi]; rfl) (by rw [List.getElem?_map, hj]; rfl)
   exact decide_eq_false (cmpB_gt this)
theorem strip_own (e : Ex) : ownB (stripE e) = ownB e := by
 cases e with
 | mk k p n s t ls ns l =>
 rw [stripE_mk]
 unfold ownB
 simp only [List.length_map]
theorem strip_all (e : Ex) : fineB (stripE e) = fineB e ∧ dep (stripE e) = dep e ∧ nds (stripE e) = nds e := by
 refine Ex.ind (P := fun e => fineB (stripE e) = fineB e ∧ dep (stripE e) = dep e ∧ nds (stripE e) = nds e) (fun k p n s t ls ns l ih => ?_) e
 have ho := strip_own (.mk k p n s t ls ns l)
 have h1 : fineLB (l.map stripE) = fineLB l ∧ depL (l.map stripE) = depL l ∧ ndsL (l.map stripE) = ndsL l := by
  clear ho
  induction l with
  | nil => exact ⟨rfl, rfl, rfl⟩
  | cons x l ihl =>
   have hx := ih x (by simp)
   have hl := ihl fun y hy => ih y (by simp [hy])
   simp only [List.map_cons, fineLB, depL, ndsL, hx, hl, and_self]
 rw [stripE_mk] at ho ⊢
 simp only [fineB, dep, nds, ho, h1, and_self]
theorem may_strip {a b : Ex} (h : stripE a = stripE b) : mayB a = mayB b := by
 have ha := strip_all a
 have hb := strip_all b
 rw [h] at ha
 unfold mayB
 rw [← ha.1, ← ha.2.1, ← ha.2.2, hb.1, hb.2.1, hb.2.2]
theorem may_fine {e : Ex} (h : mayB e = true) : fineB e = true := by
 unfold mayB at h
 simp only [Bool.and_eq_true] at h
 exact h.2.2
theorem show_prog {e : Ex} (hm : mayB e = true) (hi : intsE e) (hl : (showL e).length ≤ 4000) : ∃ e', progR (showL e) = .ok e' ∧ sameB e e' = true := by
 obtain ⟨ts, h1, h2⟩ := cut_text (may_fine hm) hi
 have hc : cutL (showL e) = .ok ts := by
  unfold cutL
  rw [if_neg (by omega), cutF_of_runs _ 0 [] ts (by omega) (Nat.zero_le _) h1]
  rfl
 obtain ⟨e', h3, h4⟩ := read_back sortOk (may_fine hm) h2 (showL e).length (2 * ts.length + 2) (by omega)
 refine ⟨e', ?_, by unfold sameB; exact decide_eq_true h4.symm⟩
 unfold progR
 rw [hc]
 dsimp only
 unfold progC endP
 dsimp only
 rw [h3]
 dsimp only
 unfold lastP
 dsimp only
 rw [if_neg (by omega)]
 dsimp only
 rw [may_strip h4, hm, if_pos rfl]
theorem prog_may {b : Str} {e : Ex} (h : progR b = .ok e) : mayB e = true ∧ csz e ≤ 1000000 ∧ intsE e := by
 unfold progR at h
 cases hc : cutL b with
 | great => rw [hc] at h; cases h
 | bad q => rw [hc] at h; cases h
 | ok L =>
  rw [hc] at h
  dsimp only at h
  have hf := endP_fit hc
  unfold progC at h
  cases hb : (lastP ⟨L, b.length, sortI⟩ (endP ⟨L, b.length, sortI⟩).st).bad with
  | some q => rw [hb] at h; cases h
  | none =>
   rw [hb] at h
   dsimp only at h
   split at h
   ·rename_i hm
    cases h
    exact ⟨hm, hf hb⟩
   ·cases h
end Go.Proofs.YtpdeaekmgljeaaaGreatDoor
