/-
  Core expressions: what they stand for; how great they are. (Own work.)
-/
import Derived.Test.YtbifjffjibnjjaaDoorG1
import Derived.Test.YtbifjffjibnjjaaDoorF3
import Derived.Test.YtbifjffjibnjjaaDoorF4
import Derived.Test.YtbifjffjibnjjaaDoorAbsY
set_option linter.unusedVariables false
set_option linter.unusedSimpArgs false
namespace Go.Proofs.YtbifjffjibnjjaaDoor
open Go Go.Abs

/-- An expression without labels. -/
inductive Co where
  | mk (k n : Int) (s t : Str) (ns : List Str) (l : List Co)

mutual
def encC : Co → V
  | .mk k n s t ns l => .agg [.int .i64 k, .int .i64 n, .str s, .str t, .sl none false (ns.map .str), .sl (some 6) false (encCs l)]
def encCs : List Co → List V
  | [] => []
  | x :: l => encC x :: encCs l
end
theorem encCs_eq : ∀ l, encCs l = l.map encC
  | [] => by simp [encCs]
  | x :: l => by simp [encCs, encCs_eq l]
theorem encC_mk {k n : Int} {s t : Str} {ns : List Str} {l : List Co} : encC (.mk k n s t ns l) = .agg [.int .i64 k, .int .i64 n, .str s, .str t, .sl none false (ns.map .str), .sl (some 6) false (l.map encC)] := by
  rw [encC, encCs_eq]
theorem encC_shape (e : Co) : (encC e).shape = some 6 := by
  cases e
  rw [encC_mk]
  rfl
attribute [irreducible] encC

theorem Co.ind {P : Co → Prop} (h : ∀ k n s t ns l, (∀ x ∈ l, P x) → P (.mk k n s t ns l)) (e : Co) : P e := by
  refine Co.rec (motive_1 := P) (motive_2 := fun l => ∀ x ∈ l, P x) (fun k n s t ns l ih => h k n s t ns l ih) (by simp) (fun x l h1 h2 y hy => ?_) e
  rcases List.mem_cons.1 hy with rfl | hy
  · exact h1
  · exact h2 y hy

/-- How great: with all texts. -/
def nsz : List Str → Nat
  | [] => 0
  | x :: l => x.length + 1 + nsz l
mutual
def csz : Co → Nat
  | .mk _ _ s t ns l => 6 + s.length + t.length + nsz ns + cszL l
def cszL : List Co → Nat
  | [] => 0
  | x :: l => csz x + cszL l
end
theorem bulk_strs : ∀ ns : List Str, V.bulkL (ns.map .str) = nsz ns
  | [] => rfl
  | x :: l => by simp [V.bulkL, V.bulk, nsz, bulk_strs l]
theorem bulk_co (e : Co) : (encC e).bulk = csz e := by
  refine Co.ind (P := fun e => (encC e).bulk = csz e) (fun k n s t ns l ih => ?_) e
  have hl : V.bulkL (l.map encC) = cszL l := by
    clear e
    induction l with
    | nil => rfl
    | cons x l ih2 => simp only [List.map_cons, V.bulkL, cszL]; rw [ih x (by simp), ih2 fun y hy => ih y (by simp [hy])]
  rw [encC_mk]
  simp only [V.bulk, V.bulkL, csz, bulk_strs, hl]
  omega
theorem nsz_get {l : List Str} {i : Nat} {x : Str} (h : l[i]? = some x) : nsz (l.take (i + 1)) = nsz (l.take i) + (x.length + 1) := by
  induction l generalizing i with
  | nil => simp at h
  | cons y l ih =>
    cases i with
    | zero => simp at h; subst h; simp [nsz]
    | succ i => have := ih (by simpa using h); simp only [List.take_succ_cons, nsz] at *; omega
theorem cszL_get {l : List Co} {i : Nat} {x : Co} (h : l[i]? = some x) : cszL (l.take (i + 1)) = cszL (l.take i) + csz x := by
  induction l generalizing i with
  | nil => simp at h
  | cons y l ih =>
    cases i with
    | zero => simp at h; subst h; simp [cszL]
    | succ i => have := ih (by simpa using h); simp only [List.take_succ_cons, cszL] at *; omega
theorem nsz_take (l : List Str) (i : Nat) : nsz (l.take i) ≤ nsz l := by
  induction l generalizing i with
  | nil => simp
  | cons y l ih =>
    cases i with
    | zero => simp [nsz]
    | succ i => have := ih i; simp only [List.take_succ_cons, nsz]; omega
theorem cszL_take (l : List Co) (i : Nat) : cszL (l.take i) ≤ cszL l := by
  induction l generalizing i with
  | nil => simp
  | cons y l ih =>
    cases i with
    | zero => simp [cszL]
    | succ i => have := ih i; simp only [List.take_succ_cons, cszL]; omega
theorem nsz_len (l : List Str) : l.length ≤ nsz l := by
  induction l with
  | nil => simp
  | cons y l ih => simp only [nsz, List.length_cons]; omega
theorem csz_pos (e : Co) : 6 ≤ csz e := by cases e; simp only [csz]; omega
theorem cszL_len (l : List Co) : 6 * l.length ≤ cszL l := by
  induction l with
  | nil => simp
  | cons y l ih => have := csz_pos y; simp only [cszL, List.length_cons]; omega
theorem cszL_mem {l : List Co} {x : Co} (h : x ∈ l) : csz x ≤ cszL l := by
  induction l with
  | nil => cases h
  | cons y l ih =>
    simp only [cszL]
    rcases List.mem_cons.1 h with rfl | h
    · omega
    · have := ih h; omega

structure CSt where
  i : Nat
  m : Int
theorem k_Count (e : Co) : ∀ {m : Int} {σ : Sg}, csz e ≤ 1048576 → -2000000 ≤ m → m ≤ 2000000 → ACalls Tryd.prog 30 [.v (encC e), .v (.int .i64 m)] σ fun r σ' => (∃ m' : Int, m - csz e ≤ m' ∧ m' ≤ m ∧ r = .v (.int .i64 m')) ∧ σ' = σ := by
  refine Co.ind (P := fun e => ∀ {m : Int} {σ : Sg}, csz e ≤ 1048576 → -2000000 ≤ m → m ≤ 2000000 → ACalls Tryd.prog 30 [.v (encC e), .v (.int .i64 m)] σ fun r σ' => (∃ m' : Int, m - csz e ≤ m' ∧ m' ≤ m ∧ r = .v (.int .i64 m')) ∧ σ' = σ) (fun k n s t ns l ih => ?_) e
  intro m σ he h1 h2
  simp only [csz] at he ⊢
  have hnl := nsz_len ns
  have hll := cszL_len l
  rw [encC_mk]
  refine acalls_fit Tryd.func30 (by kernel_rfl) c30 rfl (by simp [a30]) fun hf => ?_
  clear hf
  simp -implicitDefEqProofs (maxSteps := 2000000) (disch := omega) [-getElem?_pos, a30]
  obtain ⟨os, hos⟩ : ∃ os, os = σ.objs ++ [Ob.cells [.v (.int .i64 k), .v (.int .i64 n), .v (.str s), .v (.str t), .v (.sl none false (ns.map .str)), .v (.sl (some 6) false (l.map encC))]] := ⟨_, rfl⟩
  have ho : os[σ.objs.length]? = some (Ob.cells [.v (.int .i64 k), .v (.int .i64 n), .v (.str s), .v (.str t), .v (.sl none false (ns.map .str)), .v (.sl (some 6) false (l.map encC))]) := by rw [hos]; simp
  refine W_loop (α := CSt) ⟨0, m - 1 - s.length - t.length⟩ (fun x => ns.length - x.i) (fun x => ⟨[(2, .ptr σ.objs.length 0), (1, .v (.int .i64 x.m)), (5, .v (.int .i64 x.i))], ⟨os, σ.toks⟩⟩)
    (fun x => x.i ≤ ns.length ∧ x.m = m - 1 - s.length - t.length - nsz (ns.take x.i)) (.eq2 (by simp [hos]) (by simp)) ⟨by simp, by simp [nsz]⟩ fun ⟨i, m1⟩ ⟨hi, hm⟩ => ?_
  dsimp only at hi hm ⊢
  have hnt := nsz_take ns i
  simp -implicitDefEqProofs (maxSteps := 2000000) (disch := omega) [-getElem?_pos, ho]
  refine .mk (fun h => ?_) fun h => ?_
  · simp -implicitDefEqProofs (maxSteps := 2000000) (disch := omega) [-getElem?_pos, ho]
    refine ⟨by omega, ?_⟩
    intro x hx
    have hx1 := nsz_get hx
    have hx2 := nsz_take ns (i + 1)
    simp -implicitDefEqProofs (maxSteps := 2000000) (disch := omega) [-getElem?_pos, ho]
    refine ⟨⟨i + 1, m1 - 1 - x.length⟩, ⟨by dsimp only; omega, by dsimp only; omega⟩, by dsimp only; omega, .eq (by simp)⟩
  rw [List.take_of_length_le (by omega)] at hm
  clear hnt
  simp -implicitDefEqProofs (maxSteps := 2000000) (disch := omega) [-getElem?_pos, ho]
  refine W_loop (α := CSt) ⟨0, m1⟩ (fun x => l.length - x.i) (fun x => ⟨[(2, .ptr σ.objs.length 0), (1, .v (.int .i64 x.m)), (6, .v (.int .i64 x.i))], ⟨os, σ.toks⟩⟩)
    (fun x => x.i ≤ l.length ∧ x.m ≤ m1 ∧ m1 - cszL (l.take x.i) ≤ x.m) (.eq (by simp)) ⟨by simp, by simp, by simp [cszL]⟩ fun ⟨i, m2⟩ ⟨hi, hm2, hm3⟩ => ?_
  dsimp only at hi hm2 hm3 ⊢
  have hlt := cszL_take l i
  simp -implicitDefEqProofs (maxSteps := 2000000) (disch := omega) [-getElem?_pos, ho]
  refine .mk (fun h => ?_) fun h => ?_
  · simp -implicitDefEqProofs (maxSteps := 2000000) (disch := omega) [-getElem?_pos, ho]
    refine .mk (fun h3 => ?_) fun h3 => ?_
    · simp -implicitDefEqProofs (maxSteps := 2000000) (disch := omega) [-getElem?_pos, ho]
      refine ⟨by omega, ?_⟩
      intro x hx
      have hx1 := cszL_get hx
      have hx2 := cszL_take l (i + 1)
      refine (ih x (List.mem_of_getElem? hx) (by omega) (by omega) (by omega)).then fun r hr => ?_
      obtain ⟨m', h5, h6, rfl⟩ := hr
      simp -implicitDefEqProofs (maxSteps := 2000000) (disch := omega) [-getElem?_pos, ho]
      refine ⟨⟨i + 1, m'⟩, ⟨by dsimp only; omega, by dsimp only; omega, by dsimp only; omega⟩, by dsimp only; omega, .eq (by simp)⟩
    · simp -implicitDefEqProofs (maxSteps := 2000000) (disch := omega) [-getElem?_pos, ho]
      subst hos
      exact .fin _ ⟨⟨m2, by omega, by omega, rfl⟩, rfl⟩ (.refl _)
  · simp -implicitDefEqProofs (maxSteps := 2000000) (disch := omega) [-getElem?_pos, ho]
    subst hos
    exact .fin _ ⟨⟨m2, by omega, by omega, rfl⟩, rfl⟩ (.refl _)

/-- Some truth. -/
def isB (r : D) : Prop := ∃ b, r = .v (.bool b)
theorem k_Few {e : Co} {σ : Sg} (he : csz e ≤ 1048576) : ACalls Tryd.prog 8 [.v (encC e)] σ fun r σ' => isB r ∧ σ' = σ := by
  have hc := fun σ => k_Count e (m := 5000) (σ := σ) he (by omega) (by omega)
  cases e with
  | mk k n s t ns l =>
  rw [encC_mk] at hc ⊢
  refine acalls_fit Tryd.func8 (by kernel_rfl) c8 rfl (by simp [a8]) fun hf => ?_
  clear hf
  simp -implicitDefEqProofs (maxSteps := 2000000) (disch := omega) [-getElem?_pos, a8]
  refine (hc _).then fun r hr => ?_
  obtain ⟨m', h5, h6, rfl⟩ := hr
  simp -implicitDefEqProofs (maxSteps := 2000000) (disch := omega) [-getElem?_pos]
  exact .fin _ ⟨⟨_, rfl⟩, rfl⟩ (.refl _)

/-- The names that an expression binds in its part. -/
def bnd (k : Int) (s t : Str) (ns : List Str) (i : Nat) : List Str :=
  if k = 4 then (if i = 0 then [s] else [])
  else if k = 6 then (if i = 1 then [s] else [])
  else if k = 7 then (if i = 1 then [s] else if i = 0 then [s, t] else [])
  else if k = 14 then (if i = 0 then [] else if (i - 1) / 2 < ns.length then (if i % 2 = 0 then (ns[(i - 1) / 2]?).toList else []) else [t])
  else []
theorem half_of {i : Nat} (h : 0 < i) : ∃ q p : Nat, ((i : Int) - 1).tdiv 2 = q ∧ (i : Int).tmod 2 = p ∧ (i - 1) / 2 = q ∧ i % 2 = p ∧ q ≤ i := by
  refine ⟨(i - 1) / 2, i % 2, ?_, ?_, rfl, rfl, by omega⟩
  · rw [Int.tdiv_eq_ediv_of_nonneg (by omega)]; omega
  · rw [Int.tmod_eq_emod_of_nonneg (by omega)]; omega
theorem beq_dec {a b : Str} : (a == b) = decide (a = b) := by cases h : decide (a = b) <;> simp at h <;> simp [h]
theorem k_Binds {k n : Int} {s t : Str} {ns : List Str} {l : List Co} {i : Nat} {x : Str} {σ : Sg} (hi : i ≤ 1048576) (hn : ns.length ≤ 1048576) :
    ACalls Tryd.prog 73 [.v (encC (.mk k n s t ns l)), .v (.int .i64 i), .v (.str x)] σ fun r σ' => r = .v (.bool (decide (x ∈ bnd k s t ns i))) ∧ σ' = σ := by
  rw [encC_mk]
  refine acalls_fit Tryd.func73 (by kernel_rfl) c73 rfl (by simp [a73]) fun hf => ?_
  clear hf
  by_cases h4 : k = 4
  · subst h4
    by_cases h0 : i = 0
    · subst h0
      simp -implicitDefEqProofs (maxSteps := 2000000) (disch := omega) [-getElem?_pos, a73]
      exact .fin _ ⟨by simp [bnd, beq_dec], rfl⟩ (.refl _)
    · simp -implicitDefEqProofs (maxSteps := 2000000) (disch := omega) [-getElem?_pos, a73, h0]
      exact .fin _ ⟨by simp [bnd, h0], rfl⟩ (.refl _)
  by_cases h6 : k = 6
  · subst h6
    by_cases h0 : i = 1
    · subst h0
      simp -implicitDefEqProofs (maxSteps := 2000000) (disch := omega) [-getElem?_pos, a73]
      exact .fin _ ⟨by simp [bnd, beq_dec], rfl⟩ (.refl _)
    · have h0i : ¬ (i : Int) = 1 := by omega
      simp -implicitDefEqProofs (maxSteps := 2000000) (disch := omega) [-getElem?_pos, a73, h0i]
      exact .fin _ ⟨by simp [bnd, h0], rfl⟩ (.refl _)
  by_cases h7 : k = 7
  · subst h7
    by_cases h0 : i = 0
    · subst h0
      simp -implicitDefEqProofs (maxSteps := 2000000) (disch := omega) [-getElem?_pos, a73]
      refine .mk (fun hq => ?_) fun hq => ?_
      · simp -implicitDefEqProofs (maxSteps := 2000000) (disch := omega) [-getElem?_pos]
        exact .fin _ ⟨by simp [bnd, hq], rfl⟩ (.refl _)
      · simp -implicitDefEqProofs (maxSteps := 2000000) (disch := omega) [-getElem?_pos]
        exact .fin _ ⟨by simp [bnd, beq_dec, hq], rfl⟩ (.refl _)
    by_cases h1 : i = 1
    · subst h1
      simp -implicitDefEqProofs (maxSteps := 2000000) (disch := omega) [-getElem?_pos, a73]
      refine .mk (fun hq => ?_) fun hq => ?_
      · simp -implicitDefEqProofs (maxSteps := 2000000) (disch := omega) [-getElem?_pos]
        exact .fin _ ⟨by simp [bnd, hq], rfl⟩ (.refl _)
      · simp -implicitDefEqProofs (maxSteps := 2000000) (disch := omega) [-getElem?_pos]
        exact .fin _ ⟨by simp [bnd, beq_dec, hq], rfl⟩ (.refl _)
    · have h2 : ¬ (i : Int) < 2 := by omega
      simp -implicitDefEqProofs (maxSteps := 2000000) (disch := omega) [-getElem?_pos, a73, h0, h1, h2]
      exact .fin _ ⟨by simp [bnd, h0, h1], rfl⟩ (.refl _)
  by_cases h14 : k = 14
  · subst h14
    by_cases h0 : i = 0
    · subst h0
      simp -implicitDefEqProofs (maxSteps := 2000000) (disch := omega) [-getElem?_pos, a73]
      exact .fin _ ⟨by simp [bnd], rfl⟩ (.refl _)
    · obtain ⟨q, p, hq, hr, hq', hr', hlt2⟩ := half_of (i := i) (by omega)
      simp -implicitDefEqProofs (maxSteps := 2000000) (disch := omega) [-getElem?_pos, a73, h0, hq, hr]
      refine .mk (fun hc => ?_) fun hc => ?_
      · simp -implicitDefEqProofs (maxSteps := 2000000) (disch := omega) [-getElem?_pos, hr]
        refine .mk (fun hm => ?_) fun hm => ?_
        · simp -implicitDefEqProofs (maxSteps := 2000000) (disch := omega) [-getElem?_pos]
          refine ⟨by omega, ?_⟩
          intro y hy
          exact .fin _ ⟨by simp only [bnd, h0, hq', hr', hc, hm, hy, beq_dec]; simp, rfl⟩ (.refl _)
        · simp -implicitDefEqProofs (maxSteps := 2000000) (disch := omega) [-getElem?_pos]
          exact .fin _ ⟨by simp [bnd, h0, hq', hr', hc, hm], rfl⟩ (.refl _)
      · simp -implicitDefEqProofs (maxSteps := 2000000) (disch := omega) [-getElem?_pos]
        exact .fin _ ⟨by simp [bnd, h0, hq', hc, beq_dec], rfl⟩ (.refl _)
  simp -implicitDefEqProofs (maxSteps := 2000000) (disch := omega) [-getElem?_pos, a73, h4, h6, h7, h14]
  exact .fin _ ⟨by simp [bnd, h4, h6, h7, h14], rfl⟩ (.refl _)
theorem one_slice {α : Type} {l : List α} {j : Nat} (h : j < l.length) : (l.take (j + 1)).drop j = (l[j]?).toList := by
  rw [List.take_add_one, List.drop_left' (by simp; omega)]
theorem k_binds {k n : Int} {s t : Str} {ns : List Str} {l : List Co} {i : Nat} {σ : Sg} (hi : i ≤ 1048576) (hn : ns.length ≤ 1048576) :
    ACalls Tryd.prog 70 [.v (encC (.mk k n s t ns l)), .v (.int .i64 i)] σ fun r σ' => r = .v (vS (bnd k s t ns i)) ∧ σ' = σ := by
  rw [encC_mk]
  refine acalls_fit Tryd.func70 (by kernel_rfl) c70 rfl (by simp [a70]) fun hf => ?_
  clear hf
  by_cases h4 : k = 4
  · subst h4
    by_cases h0 : i = 0
    · subst h0
      simp -implicitDefEqProofs (maxSteps := 2000000) (disch := omega) [-getElem?_pos, a70]
      exact .fin _ ⟨by simp [bnd], rfl⟩ .lax
    · simp -implicitDefEqProofs (maxSteps := 2000000) (disch := omega) [-getElem?_pos, a70, h0]
      exact .fin (.v (vS [])) ⟨by simp [bnd, h0], rfl⟩ .snil
  by_cases h6 : k = 6
  · subst h6
    by_cases h0 : i = 1
    · subst h0
      simp -implicitDefEqProofs (maxSteps := 2000000) (disch := omega) [-getElem?_pos, a70]
      exact .fin _ ⟨by simp [bnd], rfl⟩ .lax
    · have h0i : ¬ (i : Int) = 1 := by omega
      simp -implicitDefEqProofs (maxSteps := 2000000) (disch := omega) [-getElem?_pos, a70, h0i]
      exact .fin (.v (vS [])) ⟨by simp [bnd, h0], rfl⟩ .snil
  by_cases h7 : k = 7
  · subst h7
    by_cases h0 : i = 0
    · subst h0
      simp -implicitDefEqProofs (maxSteps := 2000000) (disch := omega) [-getElem?_pos, a70]
      exact .fin _ ⟨by simp [bnd], rfl⟩ .lax
    by_cases h1 : i = 1
    · subst h1
      simp -implicitDefEqProofs (maxSteps := 2000000) (disch := omega) [-getElem?_pos, a70]
      exact .fin _ ⟨by simp [bnd], rfl⟩ .lax
    · have h1i : ¬ (i : Int) = 1 := by omega
      simp -implicitDefEqProofs (maxSteps := 2000000) (disch := omega) [-getElem?_pos, a70, h0, h1i]
      exact .fin (.v (vS [])) ⟨by simp [bnd, h0, h1], rfl⟩ .snil
  by_cases h14 : k = 14
  · subst h14
    by_cases h0 : i = 0
    · subst h0
      simp -implicitDefEqProofs (maxSteps := 2000000) (disch := omega) [-getElem?_pos, a70]
      exact .fin (.v (vS [])) ⟨by simp [bnd], rfl⟩ .snil
    · obtain ⟨q, p, hq, hr, hq', hr', hlt2⟩ := half_of (i := i) (by omega)
      simp -implicitDefEqProofs (maxSteps := 2000000) (disch := omega) [-getElem?_pos, a70, h0, hq, hr]
      refine .mk (fun hc => ?_) fun hc => ?_
      · simp -implicitDefEqProofs (maxSteps := 2000000) (disch := omega) [-getElem?_pos, hr]
        refine .mk (fun hm => ?_) fun hm => ?_
        · simp -implicitDefEqProofs (maxSteps := 2000000) (disch := omega) [-getElem?_pos, hq]
          repeat refine ⟨by omega, ?_⟩
          exact .fin _ ⟨by rw [one_slice (by simpa using hc)]; simp [bnd, h0, hq', hr', hc, hm], rfl⟩ (.refl _)
        · simp -implicitDefEqProofs (maxSteps := 2000000) (disch := omega) [-getElem?_pos]
          exact .fin (.v (vS [])) ⟨by simp [bnd, h0, hq', hr', hc, hm], rfl⟩ .snil
      · simp -implicitDefEqProofs (maxSteps := 2000000) (disch := omega) [-getElem?_pos]
        exact .fin _ ⟨by simp [bnd, h0, hq', hc], rfl⟩ .lax
  simp -implicitDefEqProofs (maxSteps := 2000000) (disch := omega) [-getElem?_pos, a70, h4, h6, h7, h14]
  exact .fin (.v (vS [])) ⟨by simp [bnd, h4, h6, h7, h14], rfl⟩ .snil
end Go.Proofs.YtbifjffjibnjjaaDoor
