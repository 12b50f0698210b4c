/-
  Types: their variables, as they are met. (Own work.)
-/
import Derived.Test.YtkpnhcccocaakaaDoorT5
set_option linter.unusedVariables false
set_option linter.unusedSimpArgs false
namespace Go.Proofs.YtkpnhcccocaakaaDoor
open Go Go.Abs

/-- An object's empty slice may be appended to, from a call on. -/
theorem ACalls.tokObj {P : Program} {f : Nat} {ds : List D} {σ : Sg} {R : D → Sg → Prop} {o k : Nat} {cs : List D} (sh : Sh) (ho : σ.objs[o]? = some (.cells cs)) (hk : cs[k]? = some (.v .snil))
    (h : ACalls P f ds ⟨σ.objs.set o (.cells (cs.set k (.tsl σ.toks.length sh []))), σ.toks ++ [0]⟩ R) : ACalls P f ds σ R := by
  have hkl := (List.getElem?_eq_some_iff.1 hk).1
  refine ⟨h.1, fun m w us hI hl hr => ?_⟩
  obtain ⟨hI', hX'⟩ := hI.tadd sh 0 (Nat.zero_le _)
  have hI2 := hI'.obLe (o := o) (cs := cs) (cs' := cs.set k (.tsl σ.toks.length sh [])) ho (by rintro rfl; simp at hk) (by simp) (by
    intro i d d' hd hd' u hu
    rw [List.getElem?_set] at hd'
    split at hd'
    · rename_i e
      subst e
      cases hd'
      rw [hk] at hd
      cases hd
      cases hu with
      | v _ _ hv =>
        cases hv
        have h0 : RepV w (Fz m w) (.sl sh true []) (.slice none 0 0) := .slNil sh true none
        have := h0.tokd (m := m) hX'
        rw [show σ.toks.length = m.toks.length from hI.tok_len.symm]
        exact this
    · rw [hd] at hd'
      cases hd'
      exact hu)
  refine (h.2 _ w us hI2 hl fun i d u hd hu => (hr i d u hd hu).mono hX').mono fun e w' ⟨v, r, σ', m', he, hR, hI3, hX3, hrep⟩ => ⟨v, r, σ', m', he, hR, hI3, hX'.trans hX3, hrep⟩

@[reducible] def vI (l : List Int) : V := .sl none false (l.map fun n => V.int .i64 n)
theorem k_At {l : List Int} {n : Int} {σ : Sg} : ACalls Tryd.prog 21 [.v (vI l), .v (.int .i64 n)] σ fun r σ' => (∃ i : Int, r = .v (.int .i64 i) ∧ (0 ≤ i ↔ n ∈ l)) ∧ σ' = σ := by
  refine acalls_fit Tryd.func21 (by kernel_rfl) c21 rfl (by simp [a21]) fun hf => ?_
  simp at hf
  simp -implicitDefEqProofs (maxSteps := 2000000) (disch := omega) [-getElem?_pos, a21]
  refine W_loop (α := Nat) 0 (fun i => l.length - i) (fun i => ⟨[(0, .v (vI l)), (1, .v (.int .i64 n)), (5, .v (.int .i64 i))], σ⟩) (fun i => i ≤ l.length ∧ (n ∈ l ↔ n ∈ l.drop i)) (.eq (by simp)) ⟨by simp, by simp⟩ fun i ⟨hi, he⟩ => ?_
  simp -implicitDefEqProofs (maxSteps := 2000000) (disch := omega) [-getElem?_pos]
  refine .mk (fun h => ?_) fun h => ?_
  · simp -implicitDefEqProofs (maxSteps := 2000000) (disch := omega) [-getElem?_pos]
    refine ⟨by omega, fun x hx => ?_⟩
    rw [drop_cons hx] at he
    refine .mk (fun hq => ?_) fun hq => ?_
    · simp -implicitDefEqProofs (maxSteps := 2000000) (disch := omega) [-getElem?_pos]
      exact .fin _ ⟨⟨i, rfl, by rw [he, hq]; simp⟩, rfl⟩ (.refl _)
    · simp -implicitDefEqProofs (maxSteps := 2000000) (disch := omega) [-getElem?_pos]
      refine ⟨i + 1, ⟨by omega, ?_⟩, by show l.length - (i + 1) < l.length - i; omega, .eq (by simp)⟩
      rw [he]
      have hq' : ¬ n = x := fun e => hq e.symm
      simp [hq']
  · simp -implicitDefEqProofs (maxSteps := 2000000) (disch := omega) [-getElem?_pos]
    rw [List.drop_eq_nil_of_le (by omega)] at he
    exact .fin _ ⟨⟨-1, rfl, by rw [he]; simp⟩, rfl⟩ (.refl _)
theorem k_IndexI {l : List Int} {n : Int} {σ : Sg} : ACalls Tryd.prog 38 [.v (vI l), .v (.int .i64 n)] σ fun r σ' => (∃ i : Int, r = .v (.int .i64 i) ∧ (0 ≤ i ↔ n ∈ l)) ∧ σ' = σ := by
  refine acalls_fit Tryd.func38 (by kernel_rfl) c38 rfl (by simp [a38]) fun hf => ?_
  simp at hf
  simp -implicitDefEqProofs (maxSteps := 2000000) (disch := omega) [-getElem?_pos, a38]
  refine W_loop (α := Nat) 0 (fun i => l.length - i) (fun i => ⟨[(0, .v (vI l)), (1, .v (.int .i64 n)), (7, .v (.int .i64 l.length)), (8, .v (.int .i64 i))], σ⟩) (fun i => i ≤ l.length ∧ (n ∈ l ↔ n ∈ l.drop i)) (.eq (by simp)) ⟨by simp, by simp⟩ fun i ⟨hi, he⟩ => ?_
  simp -implicitDefEqProofs (maxSteps := 2000000) (disch := omega) [-getElem?_pos]
  refine .mk (fun h => ?_) fun h => ?_
  · simp -implicitDefEqProofs (maxSteps := 2000000) (disch := omega) [-getElem?_pos]
    refine ⟨by omega, fun x hx => ?_⟩
    rw [drop_cons hx] at he
    refine .mk (fun hq => ?_) fun hq => ?_
    · simp -implicitDefEqProofs (maxSteps := 2000000) (disch := omega) [-getElem?_pos]
      exact .fin _ ⟨⟨i, rfl, by rw [he, hq]; simp⟩, rfl⟩ (.refl _)
    · simp -implicitDefEqProofs (maxSteps := 2000000) (disch := omega) [-getElem?_pos]
      refine ⟨i + 1, ⟨by omega, ?_⟩, by show l.length - (i + 1) < l.length - i; omega, .eq (by simp)⟩
      rw [he]
      simp [hq]
  · simp -implicitDefEqProofs (maxSteps := 2000000) (disch := omega) [-getElem?_pos]
    rw [List.drop_eq_nil_of_le (by omega)] at he
    exact .fin _ ⟨⟨-1, rfl, by rw [he]; simp⟩, rfl⟩ (.refl _)
theorem k_ContainsI {l : List Int} {n : Int} {σ : Sg} : ACalls Tryd.prog 24 [.v (vI l), .v (.int .i64 n)] σ fun r σ' => r = .v (.bool (decide (n ∈ l))) ∧ σ' = σ := by
  refine acalls_fit Tryd.func24 (by kernel_rfl) c24 rfl (by simp [a24]) fun hf => ?_
  clear hf
  simp -implicitDefEqProofs (maxSteps := 2000000) (disch := omega) [-getElem?_pos, a24]
  refine k_IndexI.then fun r hr => ?_
  obtain ⟨i, rfl, hi⟩ := hr
  simp -implicitDefEqProofs (maxSteps := 2000000) (disch := omega) [-getElem?_pos]
  exact .fin _ ⟨by simp [hi], rfl⟩ (.refl _)

/-- The variables that were met. -/
structure Vs where
  ts : List Int
  rs : List Int
def addI (l : List Int) (n : Int) : List Int := if n ∈ l then l else l ++ [n]
mutual
def vis : Tp → Vs → Vs
  | .mk k n l ls tl, w =>
    let w2 := visL l (if k = 7 then ⟨addI w.ts n, w.rs⟩ else w)
    if isRowN k = true ∧ 0 ≤ tl then ⟨w2.ts, addI w2.rs tl⟩ else w2
def visL : List Tp → Vs → Vs
  | [], w => w
  | x :: l, w => visL l (vis x w)
end
theorem visL_get : ∀ {l : List Tp} {i : Nat} {x : Tp} {w : Vs}, l[i]? = some x → visL (l.take (i + 1)) w = vis x (visL (l.take i) w)
  | [], i, x, w, h => by simp at h
  | y :: l, 0, x, w, h => by simp at h; subst h; simp [visL]
  | y :: l, i + 1, x, w, h => by
    have := visL_get (l := l) (i := i) (x := x) (w := vis y w) (by simpa using h)
    simp only [List.take_succ_cons, visL]
    exact this
theorem addI_len (l : List Int) (n : Int) : (addI l n).length ≤ l.length + 1 := by
  unfold addI
  split <;> simp
theorem vis_len (t : Tp) : ∀ w : Vs, (vis t w).ts.length ≤ w.ts.length + tbk t ∧ (vis t w).rs.length ≤ w.rs.length + tbk t := by
  refine Tp.ind (P := fun t => ∀ w : Vs, (vis t w).ts.length ≤ w.ts.length + tbk t ∧ (vis t w).rs.length ≤ w.rs.length + tbk t) (fun k n l ls tl ih w => ?_) t
  have hL : ∀ (l : List Tp) (w : Vs), (∀ x ∈ l, ∀ w : Vs, (vis x w).ts.length ≤ w.ts.length + tbk x ∧ (vis x w).rs.length ≤ w.rs.length + tbk x) → (visL l w).ts.length ≤ w.ts.length + tbkL l ∧ (visL l w).rs.length ≤ w.rs.length + tbkL l := by
    intro l
    induction l with
    | nil => intro w _; simp [visL]
    | cons x l ih2 =>
      intro w h
      have h1 := h x (by simp) w
      have h2 := ih2 (vis x w) fun y hy => h y (by simp [hy])
      simp only [visL, tbkL]
      omega
  have h1 := hL l (if k = 7 then ⟨addI w.ts n, w.rs⟩ else w) ih
  have h2 : (if k = 7 then (⟨addI w.ts n, w.rs⟩ : Vs) else w).ts.length ≤ w.ts.length + 1 ∧ (if k = 7 then (⟨addI w.ts n, w.rs⟩ : Vs) else w).rs.length ≤ w.rs.length := by
    split
    · exact ⟨addI_len _ _, Nat.le_refl _⟩
    · exact ⟨by omega, Nat.le_refl _⟩
  simp only [vis, tbk]
  have h3 := addI_len (visL l (if k = 7 then ⟨addI w.ts n, w.rs⟩ else w)).rs tl
  split
  · dsimp only
    omega
  · omega
theorem visL_len (l : List Tp) : ∀ w : Vs, (visL l w).ts.length ≤ w.ts.length + tbkL l ∧ (visL l w).rs.length ≤ w.rs.length + tbkL l := by
  induction l with
  | nil => intro w; simp [visL]
  | cons x l ih2 =>
    intro w
    have h1 := vis_len x w
    have h2 := ih2 (vis x w)
    simp only [visL, tbkL]
    omega
def VO (σ : Sg) (p a b : Nat) (w : Vs) : Sg := ⟨σ.objs.set p (.cells [.tsl a none (w.ts.map fun n => V.int .i64 n), .tsl b none (w.rs.map fun n => V.int .i64 n)]), (σ.toks.set a w.ts.length).set b w.rs.length⟩
def MeetOk (t : Tp) : Prop := ∀ {p a b : Nat} {w : Vs} {σ : Sg}, tbk t ≤ 1048576 → w.ts.length + tbk t ≤ 2000000 → w.rs.length + tbk t ≤ 2000000 → p < σ.objs.length → a < σ.toks.length → b < σ.toks.length → a ≠ b →
  ACalls Tryd.prog 7 [.ptr p 0, .v (encT t)] (VO σ p a b w) fun r σ' => r = .tup [] ∧ σ' = VO σ p a b (vis t w)
set_option maxHeartbeats 1000000 in
theorem k_Meet (t : Tp) : MeetOk t := by
  refine Tp.ind (P := MeetOk) (fun k n l ls tl ih => ?_) t
  intro p a b w σ he hw1 hw2 hp ha hb hab
  simp only [tbk] at he hw1 hw2
  have hll := tbkL_len l
  rw [encT_mk]
  have q1 : ∀ w r, ((VO σ p a b w).objs ++ r)[p]? = some (.cells [.tsl a none (w.ts.map fun n => V.int .i64 n), .tsl b none (w.rs.map fun n => V.int .i64 n)]) := fun w r => by
    rw [List.getElem?_append_left (by simpa [VO] using hp)]
    simp [VO, hp]
  have q2 : ∀ w : Vs, (VO σ p a b w).toks[a]? = some w.ts.length := fun w => by
    simp only [VO]
    rw [List.getElem?_set_ne (Ne.symm hab), List.getElem?_set_self ha]
  have q3 : ∀ w : Vs, (VO σ p a b w).toks[b]? = some w.rs.length := fun w => by
    simp only [VO]
    rw [List.getElem?_set_self (by simpa using hb)]
  refine acalls_fit Tryd.func7 (by kernel_rfl) c7 rfl (by simp [a7]) fun hf => ?_
  clear hf
  have hVl0 : (VO σ p a b w).objs.length = σ.objs.length := by simp [VO]
  have qbox : ∀ w B r, ((VO σ p a b w).objs ++ (B :: r))[σ.objs.length]? = some B := fun w B r => by
    rw [List.getElem?_append_right (by rw [VO]; simp)]
    simp [VO]
  have hset : ∀ w X r, ((VO σ p a b w).objs ++ r).set p X = (VO σ p a b w).objs.set p X ++ r := fun w X r => List.set_append_left _ _ (by simpa [VO] using hp)
  have hT : ∀ w m, (VO σ p a b w).objs.set p (.cells [.tsl a none (w.ts.map (fun n => V.int .i64 n) ++ [V.int .i64 m]), .tsl b none (w.rs.map fun n => V.int .i64 n)]) = (VO σ p a b ⟨w.ts ++ [m], w.rs⟩).objs := fun w m => by simp [VO]
  have hT2 : ∀ (w : Vs) (m : Int), (VO σ p a b w).toks.set a (w.ts.length + 1) = (VO σ p a b ⟨w.ts ++ [m], w.rs⟩).toks := fun w m => by
    simp only [VO, List.length_append, List.length_cons, List.length_nil]
    rw [List.set_comm _ _ (Ne.symm hab), List.set_set]
  have hR : ∀ w m, (VO σ p a b w).objs.set p (.cells [.tsl a none (w.ts.map fun n => V.int .i64 n), .tsl b none (w.rs.map (fun n => V.int .i64 n) ++ [V.int .i64 m])]) = (VO σ p a b ⟨w.ts, w.rs ++ [m]⟩).objs := fun w m => by simp [VO]
  have hR2 : ∀ (w : Vs) (m : Int), (VO σ p a b w).toks.set b (w.rs.length + 1) = (VO σ p a b ⟨w.ts, w.rs ++ [m]⟩).toks := fun w m => by
    simp only [VO, List.length_append, List.length_cons, List.length_nil]
    rw [List.set_set]
  have hfin : ∀ (w' : Vs) (B : Ob), PostV (VO σ p a b w) (.tup []) ⟨(VO σ p a b w').objs ++ [B], (VO σ p a b w').toks⟩ fun r σ' => r = .tup [] ∧ σ' = VO σ p a b w' := fun w' B =>
    .finS (R := fun r σ' => r = .tup [] ∧ σ' = VO σ p a b w') (.tup []) ⟨(VO σ p a b w').objs, (VO σ p a b w').toks⟩ ⟨rfl, rfl⟩ (.refl _) (low_set2 (by simp [VO]; omega)) (by simp) (by simp [VO]) (by simp [VO]) (by simp [VO]) (by simp [VO])
  by_cases h7 : k = 7
  · subst h7
    simp -implicitDefEqProofs (maxSteps := 2000000) (disch := omega) [-getElem?_pos, a7, q1, q2, q3, hVl0, qbox]
    refine (ACalls.argA k_At .tsl).then fun r hr => ?_
    obtain ⟨ix, rfl, hix⟩ := hr
    by_cases hmem : n ∈ w.ts
    · have hix' : ¬ ix < 0 := by have := hix.2 hmem; omega
      obtain ⟨w1, hw1e⟩ : ∃ w1, w1 = w := ⟨_, rfl⟩
      have hw1l : w1.ts.length ≤ w.ts.length + 1 ∧ w1.rs.length ≤ w.rs.length := by rw [hw1e]; simp
      have hvv : vis (.mk 7 n l ls tl) w = visL l w1 := by rw [hw1e]; simp [vis, isRowN, addI, hmem]
      simp -implicitDefEqProofs (maxSteps := 2000000) (disch := omega) [-getElem?_pos, hix']
      refine W_loop (α := Nat) 0 (fun i => l.length - i) (fun i => ⟨[(0, .ptr p 0), (3, .ptr σ.objs.length 0), (4, .v (.int .i64 i))], ⟨(VO σ p a b (visL (l.take i) w1)).objs ++ [.cells [.v (.int .i64 7), .v (.int .i64 n), .v (.sl (some 5) false (l.map encT)), .v (.sl none false (ls.map .str)), .v (.int .i64 tl)]], (VO σ p a b (visL (l.take i) w1)).toks⟩⟩)
        (fun i => i ≤ l.length) (.eq2 (by simp [visL, hw1e]) (by simp [visL, hw1e])) (by simp) fun i hi => ?_
      have hvl := visL_len (l.take i) w1
      have htk := tbkL_take l i
      have hVl : (VO σ p a b (visL (l.take i) w1)).objs.length = σ.objs.length := by simp [VO]
      simp -implicitDefEqProofs (maxSteps := 2000000) (disch := omega) [-getElem?_pos, hVl, qbox]
      refine .mk (fun h => ?_) fun h => ?_
      · simp -implicitDefEqProofs (maxSteps := 2000000) (disch := omega) [-getElem?_pos, hVl, qbox]
        refine ⟨by omega, ?_⟩
        intro x hx
        have hmx := List.mem_of_getElem? hx
        have hx1 := tbkL_mem hmx
        have hx2 := tbkL_get hx
        have hx3 := tbkL_take l (i + 1)
        have hcall := ih x hmx (p := p) (a := a) (b := b) (w := visL (l.take i) w1) (σ := ⟨σ.objs ++ [.cells [.v (.int .i64 7), .v (.int .i64 n), .v (.sl (some 5) false (l.map encT)), .v (.sl none false (ls.map .str)), .v (.int .i64 tl)]], σ.toks⟩) (by omega) (by omega) (by omega) (by simp; omega) ha hb hab
        have hst : ∀ w, VO ⟨σ.objs ++ [.cells [.v (.int .i64 7), .v (.int .i64 n), .v (.sl (some 5) false (l.map encT)), .v (.sl none false (ls.map .str)), .v (.int .i64 tl)]], σ.toks⟩ p a b w = ⟨(VO σ p a b w).objs ++ [.cells [.v (.int .i64 7), .v (.int .i64 n), .v (.sl (some 5) false (l.map encT)), .v (.sl none false (ls.map .str)), .v (.int .i64 tl)]], (VO σ p a b w).toks⟩ := fun w => by
          simp [VO, List.set_append_left, hp]
        rw [hst] at hcall
        refine hcall.mono fun r σ' hr => ?_
        obtain ⟨rfl, rfl⟩ := hr
        rw [hst]
        simp -implicitDefEqProofs (maxSteps := 2000000) (disch := omega) [-getElem?_pos, hVl, qbox]
        exact ⟨i + 1, by omega, by show l.length - (i + 1) < l.length - i; omega, .eq2 (by rw [visL_get hx]) (by simp [visL_get hx])⟩
      have hil : i = l.length := by omega
      subst hil
      rw [List.take_length] at *
      simp -implicitDefEqProofs (maxSteps := 2000000) (disch := omega) [-getElem?_pos, hVl, qbox]
      rw [hvv]
      exact hfin _ _


    · have hix' : ix < 0 := by
        have : ¬ 0 ≤ ix := fun h => hmem (hix.1 h)
        omega
      obtain ⟨w1, hw1e⟩ : ∃ w1 : Vs, w1 = ⟨w.ts ++ [n], w.rs⟩ := ⟨_, rfl⟩
      have hw1l : w1.ts.length ≤ w.ts.length + 1 ∧ w1.rs.length ≤ w.rs.length := by rw [hw1e]; simp
      have hvv : vis (.mk 7 n l ls tl) w = visL l w1 := by rw [hw1e]; simp [vis, isRowN, addI, hmem]
      simp -implicitDefEqProofs (maxSteps := 2000000) (disch := omega) [-getElem?_pos, hix', q1, q2, q3, hVl0, hset, qbox]
      refine ⟨by omega, ?_⟩
      rw [hT, hT2 w n, ← hw1e]
      refine W_loop (α := Nat) 0 (fun i => l.length - i) (fun i => ⟨[(0, .ptr p 0), (3, .ptr σ.objs.length 0), (4, .v (.int .i64 i))], ⟨(VO σ p a b (visL (l.take i) w1)).objs ++ [.cells [.v (.int .i64 7), .v (.int .i64 n), .v (.sl (some 5) false (l.map encT)), .v (.sl none false (ls.map .str)), .v (.int .i64 tl)]], (VO σ p a b (visL (l.take i) w1)).toks⟩⟩)
        (fun i => i ≤ l.length) (.eq (by simp [visL])) (by simp) fun i hi => ?_
      have hvl := visL_len (l.take i) w1
      have htk := tbkL_take l i
      have hVl : (VO σ p a b (visL (l.take i) w1)).objs.length = σ.objs.length := by simp [VO]
      simp -implicitDefEqProofs (maxSteps := 2000000) (disch := omega) [-getElem?_pos, hVl, qbox]
      refine .mk (fun h => ?_) fun h => ?_
      · simp -implicitDefEqProofs (maxSteps := 2000000) (disch := omega) [-getElem?_pos, hVl, qbox]
        refine ⟨by omega, ?_⟩
        intro x hx
        have hmx := List.mem_of_getElem? hx
        have hx1 := tbkL_mem hmx
        have hx2 := tbkL_get hx
        have hx3 := tbkL_take l (i + 1)
        have hcall := ih x hmx (p := p) (a := a) (b := b) (w := visL (l.take i) w1) (σ := ⟨σ.objs ++ [.cells [.v (.int .i64 7), .v (.int .i64 n), .v (.sl (some 5) false (l.map encT)), .v (.sl none false (ls.map .str)), .v (.int .i64 tl)]], σ.toks⟩) (by omega) (by omega) (by omega) (by simp; omega) ha hb hab
        have hst : ∀ w, VO ⟨σ.objs ++ [.cells [.v (.int .i64 7), .v (.int .i64 n), .v (.sl (some 5) false (l.map encT)), .v (.sl none false (ls.map .str)), .v (.int .i64 tl)]], σ.toks⟩ p a b w = ⟨(VO σ p a b w).objs ++ [.cells [.v (.int .i64 7), .v (.int .i64 n), .v (.sl (some 5) false (l.map encT)), .v (.sl none false (ls.map .str)), .v (.int .i64 tl)]], (VO σ p a b w).toks⟩ := fun w => by
          simp [VO, List.set_append_left, hp]
        rw [hst] at hcall
        refine hcall.mono fun r σ' hr => ?_
        obtain ⟨rfl, rfl⟩ := hr
        rw [hst]
        simp -implicitDefEqProofs (maxSteps := 2000000) (disch := omega) [-getElem?_pos, hVl, qbox]
        exact ⟨i + 1, by omega, by show l.length - (i + 1) < l.length - i; omega, .eq2 (by rw [visL_get hx]) (by simp [visL_get hx])⟩
      have hil : i = l.length := by omega
      subst hil
      rw [List.take_length] at *
      simp -implicitDefEqProofs (maxSteps := 2000000) (disch := omega) [-getElem?_pos, hVl, qbox]
      rw [hvv]
      exact hfin _ _


  obtain ⟨w1, hw1e⟩ : ∃ w1, w1 = w := ⟨_, rfl⟩
  have hw1l : w1.ts.length ≤ w.ts.length + 1 ∧ w1.rs.length ≤ w.rs.length := by rw [hw1e]; simp
  by_cases h4 : k = 4
  · subst h4
    have hvv : vis (.mk 4 n l ls tl) w = if 0 ≤ tl then ⟨(visL l w1).ts, addI (visL l w1).rs tl⟩ else visL l w1 := by rw [hw1e]; simp [vis, isRowN]
    simp -implicitDefEqProofs (maxSteps := 2000000) (disch := omega) [-getElem?_pos, a7, q1, q2, q3, hVl0, qbox]
    refine W_loop (α := Nat) 0 (fun i => l.length - i) (fun i => ⟨[(0, .ptr p 0), (3, .ptr σ.objs.length 0), (4, .v (.int .i64 i))], ⟨(VO σ p a b (visL (l.take i) w1)).objs ++ [.cells [.v (.int .i64 4), .v (.int .i64 n), .v (.sl (some 5) false (l.map encT)), .v (.sl none false (ls.map .str)), .v (.int .i64 tl)]], (VO σ p a b (visL (l.take i) w1)).toks⟩⟩)
      (fun i => i ≤ l.length) (.eq2 (by simp [visL, hw1e]) (by simp [visL, hw1e])) (by simp) fun i hi => ?_
    have hvl := visL_len (l.take i) w1
    have htk := tbkL_take l i
    have hVl : (VO σ p a b (visL (l.take i) w1)).objs.length = σ.objs.length := by simp [VO]
    simp -implicitDefEqProofs (maxSteps := 2000000) (disch := omega) [-getElem?_pos, hVl, qbox]
    refine .mk (fun h => ?_) fun h => ?_
    · simp -implicitDefEqProofs (maxSteps := 2000000) (disch := omega) [-getElem?_pos, hVl, qbox]
      refine ⟨by omega, ?_⟩
      intro x hx
      have hmx := List.mem_of_getElem? hx
      have hx1 := tbkL_mem hmx
      have hx2 := tbkL_get hx
      have hx3 := tbkL_take l (i + 1)
      have hcall := ih x hmx (p := p) (a := a) (b := b) (w := visL (l.take i) w1) (σ := ⟨σ.objs ++ [.cells [.v (.int .i64 4), .v (.int .i64 n), .v (.sl (some 5) false (l.map encT)), .v (.sl none false (ls.map .str)), .v (.int .i64 tl)]], σ.toks⟩) (by omega) (by omega) (by omega) (by simp; omega) ha hb hab
      have hst : ∀ w, VO ⟨σ.objs ++ [.cells [.v (.int .i64 4), .v (.int .i64 n), .v (.sl (some 5) false (l.map encT)), .v (.sl none false (ls.map .str)), .v (.int .i64 tl)]], σ.toks⟩ p a b w = ⟨(VO σ p a b w).objs ++ [.cells [.v (.int .i64 4), .v (.int .i64 n), .v (.sl (some 5) false (l.map encT)), .v (.sl none false (ls.map .str)), .v (.int .i64 tl)]], (VO σ p a b w).toks⟩ := fun w => by
        simp [VO, List.set_append_left, hp]
      rw [hst] at hcall
      refine hcall.mono fun r σ' hr => ?_
      obtain ⟨rfl, rfl⟩ := hr
      rw [hst]
      simp -implicitDefEqProofs (maxSteps := 2000000) (disch := omega) [-getElem?_pos, hVl, qbox]
      exact ⟨i + 1, by omega, by show l.length - (i + 1) < l.length - i; omega, .eq2 (by rw [visL_get hx]) (by simp [visL_get hx])⟩
    have hil : i = l.length := by omega
    subst hil
    rw [List.take_length] at *
    generalize visL l w1 = w2 at *
    simp -implicitDefEqProofs (maxSteps := 2000000) (disch := omega) [-getElem?_pos, hVl, qbox]
    refine .mk (fun htl => ?_) fun htl => ?_
    rotate_left
    · simp -implicitDefEqProofs (maxSteps := 2000000) (disch := omega) [-getElem?_pos, hVl, qbox]
      rw [if_neg htl] at hvv
      rw [hvv]
      exact hfin _ _
    rw [if_pos htl] at hvv
    simp -implicitDefEqProofs (maxSteps := 2000000) (disch := omega) [-getElem?_pos, hVl, qbox, q1, q2, q3]
    refine (ACalls.argA k_At .tsl).then fun r hr => ?_
    obtain ⟨ix, rfl, hix⟩ := hr
    by_cases hmem : tl ∈ w2.rs
    · have hix' : ¬ ix < 0 := by have := hix.2 hmem; omega
      simp -implicitDefEqProofs (maxSteps := 2000000) (disch := omega) [-getElem?_pos, hix', hVl, qbox]
      have hv2 : vis (.mk 4 n l ls tl) w = w2 := by rw [hvv]; simp [addI, hmem]
      rw [hv2]
      exact hfin _ _
    · have hix' : ix < 0 := by
        have : ¬ 0 ≤ ix := fun h => hmem (hix.1 h)
        omega
      simp -implicitDefEqProofs (maxSteps := 2000000) (disch := omega) [-getElem?_pos, hix', hVl, qbox, q1, q2, q3, hset]
      have hv2 : vis (.mk 4 n l ls tl) w = ⟨w2.ts, w2.rs ++ [tl]⟩ := by rw [hvv]; simp [addI, hmem]
      rw [hv2]
      refine ⟨by omega, ?_⟩
      rw [hR, hR2]
      exact hfin _ _


  by_cases h5 : k = 5
  · subst h5
    have hvv : vis (.mk 5 n l ls tl) w = if 0 ≤ tl then ⟨(visL l w1).ts, addI (visL l w1).rs tl⟩ else visL l w1 := by rw [hw1e]; simp [vis, isRowN]
    simp -implicitDefEqProofs (maxSteps := 2000000) (disch := omega) [-getElem?_pos, a7, q1, q2, q3, hVl0, qbox]
    refine W_loop (α := Nat) 0 (fun i => l.length - i) (fun i => ⟨[(0, .ptr p 0), (3, .ptr σ.objs.length 0), (4, .v (.int .i64 i))], ⟨(VO σ p a b (visL (l.take i) w1)).objs ++ [.cells [.v (.int .i64 5), .v (.int .i64 n), .v (.sl (some 5) false (l.map encT)), .v (.sl none false (ls.map .str)), .v (.int .i64 tl)]], (VO σ p a b (visL (l.take i) w1)).toks⟩⟩)
      (fun i => i ≤ l.length) (.eq2 (by simp [visL, hw1e]) (by simp [visL, hw1e])) (by simp) fun i hi => ?_
    have hvl := visL_len (l.take i) w1
    have htk := tbkL_take l i
    have hVl : (VO σ p a b (visL (l.take i) w1)).objs.length = σ.objs.length := by simp [VO]
    simp -implicitDefEqProofs (maxSteps := 2000000) (disch := omega) [-getElem?_pos, hVl, qbox]
    refine .mk (fun h => ?_) fun h => ?_
    · simp -implicitDefEqProofs (maxSteps := 2000000) (disch := omega) [-getElem?_pos, hVl, qbox]
      refine ⟨by omega, ?_⟩
      intro x hx
      have hmx := List.mem_of_getElem? hx
      have hx1 := tbkL_mem hmx
      have hx2 := tbkL_get hx
      have hx3 := tbkL_take l (i + 1)
      have hcall := ih x hmx (p := p) (a := a) (b := b) (w := visL (l.take i) w1) (σ := ⟨σ.objs ++ [.cells [.v (.int .i64 5), .v (.int .i64 n), .v (.sl (some 5) false (l.map encT)), .v (.sl none false (ls.map .str)), .v (.int .i64 tl)]], σ.toks⟩) (by omega) (by omega) (by omega) (by simp; omega) ha hb hab
      have hst : ∀ w, VO ⟨σ.objs ++ [.cells [.v (.int .i64 5), .v (.int .i64 n), .v (.sl (some 5) false (l.map encT)), .v (.sl none false (ls.map .str)), .v (.int .i64 tl)]], σ.toks⟩ p a b w = ⟨(VO σ p a b w).objs ++ [.cells [.v (.int .i64 5), .v (.int .i64 n), .v (.sl (some 5) false (l.map encT)), .v (.sl none false (ls.map .str)), .v (.int .i64 tl)]], (VO σ p a b w).toks⟩ := fun w => by
        simp [VO, List.set_append_left, hp]
      rw [hst] at hcall
      refine hcall.mono fun r σ' hr => ?_
      obtain ⟨rfl, rfl⟩ := hr
      rw [hst]
      simp -implicitDefEqProofs (maxSteps := 2000000) (disch := omega) [-getElem?_pos, hVl, qbox]
      exact ⟨i + 1, by omega, by show l.length - (i + 1) < l.length - i; omega, .eq2 (by rw [visL_get hx]) (by simp [visL_get hx])⟩
    have hil : i = l.length := by omega
    subst hil
    rw [List.take_length] at *
    generalize visL l w1 = w2 at *
    simp -implicitDefEqProofs (maxSteps := 2000000) (disch := omega) [-getElem?_pos, hVl, qbox]
    refine .mk (fun htl => ?_) fun htl => ?_
    rotate_left
    · simp -implicitDefEqProofs (maxSteps := 2000000) (disch := omega) [-getElem?_pos, hVl, qbox]
      rw [if_neg htl] at hvv
      rw [hvv]
      exact hfin _ _
    rw [if_pos htl] at hvv
    simp -implicitDefEqProofs (maxSteps := 2000000) (disch := omega) [-getElem?_pos, hVl, qbox, q1, q2, q3]
    refine (ACalls.argA k_At .tsl).then fun r hr => ?_
    obtain ⟨ix, rfl, hix⟩ := hr
    by_cases hmem : tl ∈ w2.rs
    · have hix' : ¬ ix < 0 := by have := hix.2 hmem; omega
      simp -implicitDefEqProofs (maxSteps := 2000000) (disch := omega) [-getElem?_pos, hix', hVl, qbox]
      have hv2 : vis (.mk 5 n l ls tl) w = w2 := by rw [hvv]; simp [addI, hmem]
      rw [hv2]
      exact hfin _ _
    · have hix' : ix < 0 := by
        have : ¬ 0 ≤ ix := fun h => hmem (hix.1 h)
        omega
      simp -implicitDefEqProofs (maxSteps := 2000000) (disch := omega) [-getElem?_pos, hix', hVl, qbox, q1, q2, q3, hset]
      have hv2 : vis (.mk 5 n l ls tl) w = ⟨w2.ts, w2.rs ++ [tl]⟩ := by rw [hvv]; simp [addI, hmem]
      rw [hv2]
      refine ⟨by omega, ?_⟩
      rw [hR, hR2]
      exact hfin _ _


  have hvv : vis (.mk k n l ls tl) w = visL l w1 := by rw [hw1e]; simp [vis, isRowN, h4, h5, h7]
  simp -implicitDefEqProofs (maxSteps := 2000000) (disch := omega) [-getElem?_pos, a7, q1, q2, q3, hVl0, qbox, h4, h5, h7]
  refine W_loop (α := Nat) 0 (fun i => l.length - i) (fun i => ⟨[(0, .ptr p 0), (3, .ptr σ.objs.length 0), (4, .v (.int .i64 i))], ⟨(VO σ p a b (visL (l.take i) w1)).objs ++ [.cells [.v (.int .i64 k), .v (.int .i64 n), .v (.sl (some 5) false (l.map encT)), .v (.sl none false (ls.map .str)), .v (.int .i64 tl)]], (VO σ p a b (visL (l.take i) w1)).toks⟩⟩)
    (fun i => i ≤ l.length) (.eq2 (by simp [visL, hw1e]) (by simp [visL, hw1e])) (by simp) fun i hi => ?_
  have hvl := visL_len (l.take i) w1
  have htk := tbkL_take l i
  have hVl : (VO σ p a b (visL (l.take i) w1)).objs.length = σ.objs.length := by simp [VO]
  simp -implicitDefEqProofs (maxSteps := 2000000) (disch := omega) [-getElem?_pos, hVl, qbox]
  refine .mk (fun h => ?_) fun h => ?_
  · simp -implicitDefEqProofs (maxSteps := 2000000) (disch := omega) [-getElem?_pos, hVl, qbox]
    refine ⟨by omega, ?_⟩
    intro x hx
    have hmx := List.mem_of_getElem? hx
    have hx1 := tbkL_mem hmx
    have hx2 := tbkL_get hx
    have hx3 := tbkL_take l (i + 1)
    have hcall := ih x hmx (p := p) (a := a) (b := b) (w := visL (l.take i) w1) (σ := ⟨σ.objs ++ [.cells [.v (.int .i64 k), .v (.int .i64 n), .v (.sl (some 5) false (l.map encT)), .v (.sl none false (ls.map .str)), .v (.int .i64 tl)]], σ.toks⟩) (by omega) (by omega) (by omega) (by simp; omega) ha hb hab
    have hst : ∀ w, VO ⟨σ.objs ++ [.cells [.v (.int .i64 k), .v (.int .i64 n), .v (.sl (some 5) false (l.map encT)), .v (.sl none false (ls.map .str)), .v (.int .i64 tl)]], σ.toks⟩ p a b w = ⟨(VO σ p a b w).objs ++ [.cells [.v (.int .i64 k), .v (.int .i64 n), .v (.sl (some 5) false (l.map encT)), .v (.sl none false (ls.map .str)), .v (.int .i64 tl)]], (VO σ p a b w).toks⟩ := fun w => by
      simp [VO, List.set_append_left, hp]
    rw [hst] at hcall
    refine hcall.mono fun r σ' hr => ?_
    obtain ⟨rfl, rfl⟩ := hr
    rw [hst]
    simp -implicitDefEqProofs (maxSteps := 2000000) (disch := omega) [-getElem?_pos, hVl, qbox]
    exact ⟨i + 1, by omega, by show l.length - (i + 1) < l.length - i; omega, .eq2 (by rw [visL_get hx]) (by simp [visL_get hx])⟩
  have hil : i = l.length := by omega
  subst hil
  rw [List.take_length] at *
  simp -implicitDefEqProofs (maxSteps := 2000000) (disch := omega) [-getElem?_pos, hVl, qbox, h4, h5, h7]
  rw [hvv]
  exact hfin _ _


end Go.Proofs.YtkpnhcccocaakaaDoor
