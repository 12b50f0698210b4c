/-
  Expressions: what they stand for; how great they are. (Own work.)
-/
import Derived.Test.YtbifjffjibnjjaaDoorG1
import Derived.Test.YtbifjffjibnjjaaDoorF6
import Derived.Test.YtbifjffjibnjjaaDoorAbsY
set_option linter.unusedVariables false
set_option linter.unusedSimpArgs false
namespace Go.Proofs.YtbifjffjibnjjaaDoor
open Go Go.Abs

/-- An expression: kind, place, number, texts, labels, names, parts. -/
inductive Ex where
  | mk (k p n : Int) (s t : Str) (ls ns : List Str) (l : List Ex)

mutual
def encE : Ex → V
  | .mk k p n s t ls ns l => .agg [.int .i64 k, .int .i64 p, .int .i64 n, .str s, .str t, .sl none false (ls.map .str), .sl none false (ns.map .str), .sl (some 8) false (encEs l)]
def encEs : List Ex → List V
  | [] => []
  | x :: l => encE x :: encEs l
end
theorem encEs_eq : ∀ l, encEs l = l.map encE
  | [] => by simp [encEs]
  | x :: l => by simp [encEs, encEs_eq l]
theorem encE_mk {k p n : Int} {s t : Str} {ls ns : List Str} {l : List Ex} : encE (.mk k p n s t ls ns l) = .agg [.int .i64 k, .int .i64 p, .int .i64 n, .str s, .str t, .sl none false (ls.map .str), .sl none false (ns.map .str), .sl (some 8) false (l.map encE)] := by
  rw [encE, encEs_eq]
theorem encE_shape (e : Ex) : (encE e).shape = some 8 := by
  cases e
  rw [encE_mk]
  rfl
attribute [irreducible] encE

theorem Ex.ind {P : Ex → Prop} (h : ∀ k p n s t ls ns l, (∀ x ∈ l, P x) → P (.mk k p n s t ls ns l)) (e : Ex) : P e := by
  refine Ex.rec (motive_1 := P) (motive_2 := fun l => ∀ x ∈ l, P x) (fun k p n s t ls ns l ih => h k p n s t ls ns l ih) (by simp) (fun x l h1 h2 y hy => ?_) e
  rcases List.mem_cons.1 hy with rfl | hy
  · exact h1
  · exact h2 y hy

/-- How great: with all texts. -/
def nsz : List Str → Nat
  | [] => 0
  | x :: l => x.length + 1 + nsz l
mutual
def csz : Ex → Nat
  | .mk _ _ _ s t ls ns l => 8 + s.length + t.length + nsz ls + nsz ns + cszL l
def cszL : List Ex → Nat
  | [] => 0
  | x :: l => csz x + cszL l
end
theorem bulk_strs : ∀ ns : List Str, V.bulkL (ns.map .str) = nsz ns
  | [] => rfl
  | x :: l => by simp [V.bulkL, V.bulk, nsz, bulk_strs l]
theorem bulk_ex (e : Ex) : (encE e).bulk = csz e := by
  refine Ex.ind (P := fun e => (encE e).bulk = csz e) (fun k p n s t ls ns l ih => ?_) e
  have hl : V.bulkL (l.map encE) = cszL l := by
    clear e
    induction l with
    | nil => rfl
    | cons x l ih2 => simp only [List.map_cons, V.bulkL, cszL]; rw [ih x (by simp), ih2 fun y hy => ih y (by simp [hy])]
  rw [encE_mk]
  simp only [V.bulk, V.bulkL, csz, bulk_strs, hl]
  omega
theorem nsz_get {l : List Str} {i : Nat} {x : Str} (h : l[i]? = some x) : nsz (l.take (i + 1)) = nsz (l.take i) + (x.length + 1) := by
  induction l generalizing i with
  | nil => simp at h
  | cons y l ih =>
    cases i with
    | zero => simp at h; subst h; simp [nsz]
    | succ i => have := ih (by simpa using h); simp only [List.take_succ_cons, nsz] at *; omega
theorem cszL_get {l : List Ex} {i : Nat} {x : Ex} (h : l[i]? = some x) : cszL (l.take (i + 1)) = cszL (l.take i) + csz x := by
  induction l generalizing i with
  | nil => simp at h
  | cons y l ih =>
    cases i with
    | zero => simp at h; subst h; simp [cszL]
    | succ i => have := ih (by simpa using h); simp only [List.take_succ_cons, cszL] at *; omega
theorem nsz_take (l : List Str) (i : Nat) : nsz (l.take i) ≤ nsz l := by
  induction l generalizing i with
  | nil => simp
  | cons y l ih =>
    cases i with
    | zero => simp [nsz]
    | succ i => have := ih i; simp only [List.take_succ_cons, nsz]; omega
theorem cszL_take (l : List Ex) (i : Nat) : cszL (l.take i) ≤ cszL l := by
  induction l generalizing i with
  | nil => simp
  | cons y l ih =>
    cases i with
    | zero => simp [cszL]
    | succ i => have := ih i; simp only [List.take_succ_cons, cszL]; omega
theorem nsz_len (l : List Str) : l.length ≤ nsz l := by
  induction l with
  | nil => simp
  | cons y l ih => simp only [nsz, List.length_cons]; omega
theorem csz_pos (e : Ex) : 8 ≤ csz e := by cases e; simp only [csz]; omega
theorem cszL_len (l : List Ex) : 8 * l.length ≤ cszL l := by
  induction l with
  | nil => simp
  | cons y l ih => have := csz_pos y; simp only [cszL, List.length_cons]; omega
theorem cszL_mem {l : List Ex} {x : Ex} (h : x ∈ l) : csz x ≤ cszL l := by
  induction l with
  | nil => cases h
  | cons y l ih =>
    simp only [cszL]
    rcases List.mem_cons.1 h with rfl | h
    · omega
    · have := ih h; omega

structure KSt where
  i : Nat
  m : Int
def obE : Ex → Ob
  | .mk k p n s t ls ns l => .cells [.v (.int .i64 k), .v (.int .i64 p), .v (.int .i64 n), .v (.str s), .v (.str t), .v (.sl none false (ls.map .str)), .v (.sl none false (ns.map .str)), .v (.sl (some 8) false (l.map encE))]
theorem obE_mk {k p n : Int} {s t : Str} {ls ns : List Str} {l : List Ex} : obE (.mk k p n s t ls ns l) = .cells [.v (.int .i64 k), .v (.int .i64 p), .v (.int .i64 n), .v (.str s), .v (.str t), .v (.sl none false (ls.map .str)), .v (.sl none false (ns.map .str)), .v (.sl (some 8) false (l.map encE))] := rfl
theorem k_Count (e : Ex) : ∀ {m : Int} {σ : Sg}, csz e ≤ 1048576 → -2000000 ≤ m → m ≤ 2000000 → ACalls Tryd.prog 33 [.v (encE e), .v (.int .i64 m)] σ fun r σ' => (∃ m' : Int, m - csz e ≤ m' ∧ m' ≤ m ∧ r = .v (.int .i64 m')) ∧ σ' = σ := by
  refine Ex.ind (P := fun e => ∀ {m : Int} {σ : Sg}, csz e ≤ 1048576 → -2000000 ≤ m → m ≤ 2000000 → ACalls Tryd.prog 33 [.v (encE e), .v (.int .i64 m)] σ fun r σ' => (∃ m' : Int, m - csz e ≤ m' ∧ m' ≤ m ∧ r = .v (.int .i64 m')) ∧ σ' = σ) (fun k p n s t ls ns l ih => ?_) e
  intro m σ he h1 h2
  simp only [csz] at he ⊢
  have hnl := nsz_len ns
  have hnl2 := nsz_len ls
  have hll := cszL_len l
  rw [encE_mk]
  refine acalls_fit Tryd.func33 (by kernel_rfl) c33 rfl (by simp [a33]) fun hf => ?_
  clear hf
  simp -implicitDefEqProofs (maxSteps := 2000000) (disch := omega) [-getElem?_pos, a33]
  obtain ⟨os, hos⟩ : ∃ os, os = σ.objs ++ [Ob.cells [.v (.int .i64 k), .v (.int .i64 p), .v (.int .i64 n), .v (.str s), .v (.str t), .v (.sl none false (ls.map .str)), .v (.sl none false (ns.map .str)), .v (.sl (some 8) false (l.map encE))]] := ⟨_, rfl⟩
  have ho : os[σ.objs.length]? = some (Ob.cells [.v (.int .i64 k), .v (.int .i64 p), .v (.int .i64 n), .v (.str s), .v (.str t), .v (.sl none false (ls.map .str)), .v (.sl none false (ns.map .str)), .v (.sl (some 8) false (l.map encE))]) := by rw [hos]; simp
  refine W_loop (α := KSt) ⟨0, m - 1 - s.length - t.length⟩ (fun x => ls.length - x.i) (fun x => ⟨[(2, .ptr σ.objs.length 0), (1, .v (.int .i64 x.m)), (5, .v (.int .i64 x.i))], ⟨os, σ.toks⟩⟩)
    (fun x => x.i ≤ ls.length ∧ x.m = m - 1 - s.length - t.length - nsz (ls.take x.i)) (.eq2 (by simp [hos]) (by simp)) ⟨by simp, by simp [nsz]⟩ fun ⟨i, m1⟩ ⟨hi, hm⟩ => ?_
  dsimp only at hi hm ⊢
  have hnt := nsz_take ls i
  simp -implicitDefEqProofs (maxSteps := 2000000) (disch := omega) [-getElem?_pos, ho]
  refine .mk (fun h => ?_) fun h => ?_
  · simp -implicitDefEqProofs (maxSteps := 2000000) (disch := omega) [-getElem?_pos, ho]
    refine ⟨by omega, ?_⟩
    intro x hx
    have hx1 := nsz_get hx
    have hx2 := nsz_take ls (i + 1)
    simp -implicitDefEqProofs (maxSteps := 2000000) (disch := omega) [-getElem?_pos, ho]
    refine ⟨⟨i + 1, m1 - 1 - x.length⟩, ⟨by dsimp only; omega, by dsimp only; omega⟩, by dsimp only; omega, .eq (by simp)⟩
  rw [List.take_of_length_le (by omega)] at hm
  clear hnt
  have hnt2 := nsz_take ns
  simp -implicitDefEqProofs (maxSteps := 2000000) (disch := omega) [-getElem?_pos, ho]
  refine W_loop (α := KSt) ⟨0, m1⟩ (fun x => ns.length - x.i) (fun x => ⟨[(2, .ptr σ.objs.length 0), (1, .v (.int .i64 x.m)), (6, .v (.int .i64 x.i))], ⟨os, σ.toks⟩⟩)
    (fun x => x.i ≤ ns.length ∧ x.m = m1 - nsz (ns.take x.i)) (.eq (by simp)) ⟨by simp, by simp [nsz]⟩ fun ⟨i, m2⟩ ⟨hi, hm4⟩ => ?_
  dsimp only at hi hm4 ⊢
  have hnt := nsz_take ns i
  simp -implicitDefEqProofs (maxSteps := 2000000) (disch := omega) [-getElem?_pos, ho]
  refine .mk (fun h => ?_) fun h => ?_
  · simp -implicitDefEqProofs (maxSteps := 2000000) (disch := omega) [-getElem?_pos, ho]
    refine ⟨by omega, ?_⟩
    intro x hx
    have hx1 := nsz_get hx
    have hx2 := nsz_take ns (i + 1)
    simp -implicitDefEqProofs (maxSteps := 2000000) (disch := omega) [-getElem?_pos, ho]
    refine ⟨⟨i + 1, m2 - 1 - x.length⟩, ⟨by dsimp only; omega, by dsimp only; omega⟩, by dsimp only; omega, .eq (by simp)⟩
  rw [List.take_of_length_le (by omega)] at hm4
  clear hnt
  simp -implicitDefEqProofs (maxSteps := 2000000) (disch := omega) [-getElem?_pos, ho]
  refine W_loop (α := KSt) ⟨0, m2⟩ (fun x => l.length - x.i) (fun x => ⟨[(2, .ptr σ.objs.length 0), (1, .v (.int .i64 x.m)), (7, .v (.int .i64 x.i))], ⟨os, σ.toks⟩⟩)
    (fun x => x.i ≤ l.length ∧ x.m ≤ m2 ∧ m2 - cszL (l.take x.i) ≤ x.m) (.eq (by simp)) ⟨by simp, by simp, by simp [cszL]⟩ fun ⟨i, m3⟩ ⟨hi, hm2, hm3⟩ => ?_
  dsimp only at hi hm2 hm3 ⊢
  have hlt := cszL_take l i
  simp -implicitDefEqProofs (maxSteps := 2000000) (disch := omega) [-getElem?_pos, ho]
  refine .mk (fun h => ?_) fun h => ?_
  · simp -implicitDefEqProofs (maxSteps := 2000000) (disch := omega) [-getElem?_pos, ho]
    refine .mk (fun h3 => ?_) fun h3 => ?_
    · simp -implicitDefEqProofs (maxSteps := 2000000) (disch := omega) [-getElem?_pos, ho]
      refine ⟨by omega, ?_⟩
      intro x hx
      have hx1 := cszL_get hx
      have hx2 := cszL_take l (i + 1)
      refine (ih x (List.mem_of_getElem? hx) (by omega) (by omega) (by omega)).then fun r hr => ?_
      obtain ⟨m', h5, h6, rfl⟩ := hr
      simp -implicitDefEqProofs (maxSteps := 2000000) (disch := omega) [-getElem?_pos, ho]
      refine ⟨⟨i + 1, m'⟩, ⟨by dsimp only; omega, by dsimp only; omega, by dsimp only; omega⟩, by dsimp only; omega, .eq (by simp)⟩
    · simp -implicitDefEqProofs (maxSteps := 2000000) (disch := omega) [-getElem?_pos, ho]
      subst hos
      exact .fin _ ⟨⟨m3, by omega, by omega, rfl⟩, rfl⟩ (.refl _)
  · simp -implicitDefEqProofs (maxSteps := 2000000) (disch := omega) [-getElem?_pos, ho]
    subst hos
    exact .fin _ ⟨⟨m3, by omega, by omega, rfl⟩, rfl⟩ (.refl _)

/-- Some truth. -/
def isB (r : D) : Prop := ∃ b, r = .v (.bool b)
theorem k_Few {e : Ex} {σ : Sg} (he : csz e ≤ 1048576) : ACalls Tryd.prog 14 [.v (encE e)] σ fun r σ' => isB r ∧ σ' = σ := by
  have hc := fun σ => k_Count e (m := 20000) (σ := σ) he (by omega) (by omega)
  cases e with
  | mk k p n s t ls ns l =>
  rw [encE_mk] at hc ⊢
  refine acalls_fit Tryd.func14 (by kernel_rfl) c14 rfl (by simp [a14]) fun hf => ?_
  clear hf
  simp -implicitDefEqProofs (maxSteps := 2000000) (disch := omega) [-getElem?_pos, a14]
  refine (hc _).then fun r hr => ?_
  obtain ⟨m', h5, h6, rfl⟩ := hr
  simp -implicitDefEqProofs (maxSteps := 2000000) (disch := omega) [-getElem?_pos]
  exact .fin _ ⟨⟨_, rfl⟩, rfl⟩ (.refl _)

mutual
def nds : Ex → Nat
  | .mk _ _ _ _ _ _ _ l => 1 + ndsL l
def ndsL : List Ex → Nat
  | [] => 0
  | x :: l => nds x + ndsL l
end
theorem ndsL_get {l : List Ex} {i : Nat} {x : Ex} (h : l[i]? = some x) : ndsL (l.take (i + 1)) = ndsL (l.take i) + nds x := by
  induction l generalizing i with
  | nil => simp at h
  | cons y l ih =>
    cases i with
    | zero => simp at h; subst h; simp [ndsL]
    | succ i => have := ih (by simpa using h); simp only [List.take_succ_cons, ndsL] at *; omega
theorem ndsL_take (l : List Ex) (i : Nat) : ndsL (l.take i) ≤ ndsL l := by
  induction l generalizing i with
  | nil => simp
  | cons y l ih =>
    cases i with
    | zero => simp [ndsL]
    | succ i => have := ih i; simp only [List.take_succ_cons, ndsL]; omega
theorem nds_le (e : Ex) : nds e ≤ csz e := by
  refine Ex.ind (P := fun e => nds e ≤ csz e) (fun k p n s t ls ns l ih => ?_) e
  have hl : ndsL l ≤ cszL l := by
    clear e
    induction l with
    | nil => simp [ndsL]
    | cons x l ih2 => have h1 := ih x (by simp); have h2 := ih2 fun y hy => ih y (by simp [hy]); simp only [ndsL, cszL]; omega
  simp only [nds, csz]
  omega
theorem k_RNodes (e : Ex) : ∀ {σ : Sg}, csz e ≤ 1048576 → ACalls Tryd.prog 16 [.v (encE e)] σ fun r σ' => r = .v (.int .i64 (nds e)) ∧ σ' = σ := by
  refine Ex.ind (P := fun e => ∀ {σ : Sg}, csz e ≤ 1048576 → ACalls Tryd.prog 16 [.v (encE e)] σ fun r σ' => r = .v (.int .i64 (nds e)) ∧ σ' = σ) (fun k p n s t ls ns l ih => ?_) e
  intro σ he
  have hn := nds_le (.mk k p n s t ls ns l)
  simp only [csz, nds] at he hn ⊢
  rw [encE_mk]
  have hll := cszL_len l
  refine acalls_fit Tryd.func16 (by kernel_rfl) c16 rfl (by simp [a16]) fun hf => ?_
  clear hf
  simp -implicitDefEqProofs (maxSteps := 2000000) (disch := omega) [-getElem?_pos, a16]
  refine W_loop (α := Nat) 0 (fun i => l.length - i) (fun i => ⟨[(1, .ptr σ.objs.length 0), (3, .v (.int .i64 (1 + ndsL (l.take i) : Nat))), (4, .v (.int .i64 i))], ⟨σ.objs ++ [obE (.mk k p n s t ls ns l)], σ.toks⟩⟩)
    (fun i => i ≤ l.length) (.eq2 (by simp [obE_mk]) (by simp [ndsL])) (by omega) fun i hi => ?_
  have hnt := ndsL_take l i
  simp -implicitDefEqProofs (maxSteps := 2000000) (disch := omega) [-getElem?_pos, obE_mk]
  refine .mk (fun h => ?_) fun h => ?_
  · simp -implicitDefEqProofs (maxSteps := 2000000) (disch := omega) [-getElem?_pos]
    refine ⟨by omega, ?_⟩
    intro x hx
    have hx1 := cszL_mem (List.mem_of_getElem? hx)
    have hx2 := ndsL_get hx
    have hx3 := ndsL_take l (i + 1)
    refine (ih x (List.mem_of_getElem? hx) (by omega)).then fun r hr => ?_
    subst hr
    simp -implicitDefEqProofs (maxSteps := 2000000) (disch := omega) [-getElem?_pos]
    exact ⟨i + 1, by omega, by dsimp only; omega, .eq2 (by simp [obE_mk]) (by simp [hx2]; omega)⟩
  · rw [List.take_of_length_le (by omega)]
    simp -implicitDefEqProofs (maxSteps := 2000000) (disch := omega) [-getElem?_pos]
    exact .fin _ ⟨by simp, rfl⟩ (.refl _)

end Go.Proofs.YtbifjffjibnjjaaDoor
