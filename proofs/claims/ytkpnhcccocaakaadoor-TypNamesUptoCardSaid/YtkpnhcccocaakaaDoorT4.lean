/-
  Types: the document's answer to whether they may be; how great they are. (Own work.)
-/
import Derived.Test.YtkpnhcccocaakaaDoorT3
set_option linter.unusedVariables false
set_option linter.unusedSimpArgs false
namespace Go.Proofs.YtkpnhcccocaakaaDoor
open Go Go.Abs

theorem k_May (t : Tp) {σ : Sg} (ht : tsz t ≤ 1048576) : ACalls Tryd.prog 9 [.v (encT t)] σ fun r σ' => r = .v (.bool (fineS t 0).1) ∧ σ' = σ := by
  have hF := fun (p : Nat) σ h => k_Fine t (c := 0) (p := p) (σ := σ) (by omega) ht h
  obtain ⟨fv, hfv⟩ : ∃ fv, fv = fineS t 0 := ⟨_, rfl⟩
  rw [← hfv] at hF ⊢
  cases t with
  | mk k n l ls tl =>
  rw [encT_mk] at hF ⊢
  refine acalls_fit Tryd.func9 (by kernel_rfl) c9 rfl (by simp [a9]) fun hf => ?_
  clear hf
  simp -implicitDefEqProofs (maxSteps := 2000000) (disch := omega) [-getElem?_pos, a9]
  refine (hF _ _ (by simp)).mono fun r σ' hr => ?_
  obtain ⟨rfl, rfl⟩ := hr
  simp -implicitDefEqProofs (maxSteps := 2000000) (disch := omega) [-getElem?_pos, atN]
  exact .fin _ ⟨rfl, rfl⟩ (.refl _)

theorem k_RIs {l : List Str} {σ : Sg} : ACalls Tryd.prog 45 [.v (vS l)] σ fun r σ' => r = .v (.bool (isS l)) ∧ σ' = σ := by
  refine acalls_fit Tryd.func45 (by kernel_rfl) c45 rfl (by simp [a45]) fun hf => ?_
  simp at hf
  simp -implicitDefEqProofs (maxSteps := 2000000) (disch := omega) [-getElem?_pos, a45]
  refine W_loop (α := Nat) 0 (fun i => l.length - i) (fun i => ⟨[(0, .v (vS l)), (3, .v (.int .i64 (i + 1 : Nat)))], σ⟩) (fun i => i ≤ l.length ∧ isS l = isS (l.drop i))
    (.eq (by simp)) ⟨by omega, by simp⟩ fun i ⟨hi, he⟩ => ?_
  simp -implicitDefEqProofs (maxSteps := 2000000) (disch := omega) [-getElem?_pos]
  refine .mk (fun h => ?_) fun h => ?_
  · simp -implicitDefEqProofs (maxSteps := 2000000) (disch := omega) [-getElem?_pos]
    repeat refine ⟨by omega, ?_⟩
    intro y hy
    repeat refine ⟨by omega, ?_⟩
    intro x hx
    rw [isS_step hx hy] at he
    refine .mk (fun hq => ?_) fun hq => ?_
    · simp -implicitDefEqProofs (maxSteps := 2000000) (disch := omega) [-getElem?_pos]
      exact .fin _ ⟨by rw [he, decide_eq_false (leq_iff.1 hq)]; rfl, rfl⟩ (.refl _)
    · simp -implicitDefEqProofs (maxSteps := 2000000) (disch := omega) [-getElem?_pos]
      exact ⟨i + 1, ⟨by omega, by rw [he, decide_eq_true (Classical.byContradiction fun h => hq (leq_iff.2 h)), Bool.true_and]⟩, by dsimp only; omega, .eq (by simp)⟩
  · simp -implicitDefEqProofs (maxSteps := 2000000) (disch := omega) [-getElem?_pos]
    rw [isS_last (by omega)] at he
    exact .fin _ ⟨by rw [he], rfl⟩ (.refl _)

/-! How great -/
def nsz : List Str → Nat
  | [] => 0
  | x :: l => x.length + 1 + nsz l
mutual
/-- How great: with all texts. -/
def tbk : Tp → Nat
  | .mk _ _ l ls _ => 5 + tbkL l + nsz ls
def tbkL : List Tp → Nat
  | [] => 0
  | x :: l => tbk x + tbkL l
end
theorem nsz_get {l : List Str} {i : Nat} {x : Str} (h : l[i]? = some x) : nsz (l.take (i + 1)) = nsz (l.take i) + (x.length + 1) := by
  induction l generalizing i with
  | nil => simp at h
  | cons y l ih =>
    cases i with
    | zero => simp at h; subst h; simp [nsz]
    | succ i => have := ih (by simpa using h); simp only [List.take_succ_cons, nsz] at *; omega
theorem nsz_take (l : List Str) (i : Nat) : nsz (l.take i) ≤ nsz l := by
  induction l generalizing i with
  | nil => simp
  | cons y l ih =>
    cases i with
    | zero => simp [nsz]
    | succ i => have := ih i; simp only [List.take_succ_cons, nsz]; omega
theorem nsz_len (l : List Str) : l.length ≤ nsz l := by
  induction l with
  | nil => simp
  | cons y l ih => simp only [nsz, List.length_cons]; omega
theorem tbk_pos (t : Tp) : 5 ≤ tbk t := by cases t; simp only [tbk]; omega
theorem tbkL_len (l : List Tp) : 5 * l.length ≤ tbkL l := by
  induction l with
  | nil => simp
  | cons x l ih => have := tbk_pos x; simp only [tbkL, List.length_cons]; omega
theorem tbkL_mem {l : List Tp} {x : Tp} (h : x ∈ l) : tbk x ≤ tbkL l := by
  induction l with
  | nil => cases h
  | cons y l ih =>
    simp only [tbkL]
    rcases List.mem_cons.1 h with rfl | h
    · omega
    · have := ih h; omega
theorem tbkL_get {l : List Tp} {i : Nat} {x : Tp} (h : l[i]? = some x) : tbkL (l.take (i + 1)) = tbkL (l.take i) + tbk x := by
  induction l generalizing i with
  | nil => simp at h
  | cons y l ih =>
    cases i with
    | zero => simp at h; subst h; simp [tbkL]
    | succ i => have := ih (by simpa using h); simp only [List.take_succ_cons, tbkL] at *; omega
theorem tbkL_take (l : List Tp) (i : Nat) : tbkL (l.take i) ≤ tbkL l := by
  induction l generalizing i with
  | nil => simp
  | cons y l ih =>
    cases i with
    | zero => simp [tbkL]
    | succ i => have := ih i; simp only [List.take_succ_cons, tbkL]; omega
theorem tsz_tbk (t : Tp) : tsz t ≤ tbk t := by
  refine Tp.ind (P := fun t => tsz t ≤ tbk t) (fun k n l ls tl ih => ?_) t
  have hl : tszL l ≤ tbkL l := by
    induction l with
    | nil => simp [tszL]
    | cons x l ih2 => have h1 := ih x (by simp); have h2 := ih2 fun y hy => ih y (by simp [hy]); simp only [tszL, tbkL]; omega
  have := nsz_len ls
  simp only [tsz, tbk]
  omega
structure CSt where
  i : Nat
  m : Int
theorem k_TCount (t : Tp) : ∀ {m : Int} {σ : Sg}, tbk t ≤ 1048576 → -2000000 ≤ m → m ≤ 2000000 → ACalls Tryd.prog 20 [.v (encT t), .v (.int .i64 m)] σ fun r σ' => (∃ m' : Int, m - tbk t ≤ m' ∧ m' ≤ m ∧ r = .v (.int .i64 m')) ∧ σ' = σ := by
  refine Tp.ind (P := fun t => ∀ {m : Int} {σ : Sg}, tbk t ≤ 1048576 → -2000000 ≤ m → m ≤ 2000000 → ACalls Tryd.prog 20 [.v (encT t), .v (.int .i64 m)] σ fun r σ' => (∃ m' : Int, m - tbk t ≤ m' ∧ m' ≤ m ∧ r = .v (.int .i64 m')) ∧ σ' = σ) (fun k n l ls tl ih => ?_) t
  intro m σ he h1 h2
  simp only [tbk] at he ⊢
  have hnl := nsz_len ls
  have hll := tbkL_len l
  rw [encT_mk]
  refine acalls_fit Tryd.func20 (by kernel_rfl) c20 rfl (by simp [a20]) fun hf => ?_
  clear hf
  simp -implicitDefEqProofs (maxSteps := 2000000) (disch := omega) [-getElem?_pos, a20]
  refine W_loop (α := CSt) ⟨0, m - 1⟩ (fun x => ls.length - x.i) (fun x => ⟨[(2, .ptr σ.objs.length 0), (1, .v (.int .i64 x.m)), (5, .v (.int .i64 x.i))], ⟨σ.objs ++ [.cells [.v (.int .i64 k), .v (.int .i64 n), .v (.sl (some 5) false (l.map encT)), .v (.sl none false (ls.map .str)), .v (.int .i64 tl)]], σ.toks⟩⟩)
    (fun x => x.i ≤ ls.length ∧ x.m = m - 1 - nsz (ls.take x.i)) (.eq (by simp)) ⟨by simp, by simp [nsz]⟩ fun ⟨i, m1⟩ ⟨hi, hm⟩ => ?_
  dsimp only at hi hm ⊢
  have hnt := nsz_take ls i
  simp -implicitDefEqProofs (maxSteps := 2000000) (disch := omega) [-getElem?_pos]
  refine .mk (fun h => ?_) fun h => ?_
  · simp -implicitDefEqProofs (maxSteps := 2000000) (disch := omega) [-getElem?_pos]
    refine ⟨by omega, ?_⟩
    intro x hx
    have hx1 := nsz_get hx
    have hx2 := nsz_take ls (i + 1)
    simp -implicitDefEqProofs (maxSteps := 2000000) (disch := omega) [-getElem?_pos]
    refine ⟨⟨i + 1, m1 - 1 - x.length⟩, ⟨by dsimp only; omega, by dsimp only; omega⟩, by dsimp only; omega, .eq (by simp)⟩
  rw [List.take_of_length_le (by omega)] at hm
  clear hnt
  simp -implicitDefEqProofs (maxSteps := 2000000) (disch := omega) [-getElem?_pos]
  refine W_loop (α := CSt) ⟨0, m1⟩ (fun x => l.length - x.i) (fun x => ⟨[(2, .ptr σ.objs.length 0), (1, .v (.int .i64 x.m)), (6, .v (.int .i64 x.i))], ⟨σ.objs ++ [.cells [.v (.int .i64 k), .v (.int .i64 n), .v (.sl (some 5) false (l.map encT)), .v (.sl none false (ls.map .str)), .v (.int .i64 tl)]], σ.toks⟩⟩)
    (fun x => x.i ≤ l.length ∧ x.m ≤ m1 ∧ m1 - tbkL (l.take x.i) ≤ x.m) (.eq (by simp)) ⟨by simp, by simp, by simp [tbkL]⟩ fun ⟨i, m2⟩ ⟨hi, hm2, hm3⟩ => ?_
  dsimp only at hi hm2 hm3 ⊢
  have hlt := tbkL_take l i
  simp -implicitDefEqProofs (maxSteps := 2000000) (disch := omega) [-getElem?_pos]
  refine .mk (fun h => ?_) fun h => ?_
  · simp -implicitDefEqProofs (maxSteps := 2000000) (disch := omega) [-getElem?_pos]
    refine .mk (fun h3 => ?_) fun h3 => ?_
    · simp -implicitDefEqProofs (maxSteps := 2000000) (disch := omega) [-getElem?_pos]
      refine ⟨by omega, ?_⟩
      intro x hx
      have hx1 := tbkL_get hx
      have hx2 := tbkL_take l (i + 1)
      refine (ih x (List.mem_of_getElem? hx) (by omega) (by omega) (by omega)).then fun r hr => ?_
      obtain ⟨m', h5, h6, rfl⟩ := hr
      simp -implicitDefEqProofs (maxSteps := 2000000) (disch := omega) [-getElem?_pos]
      refine ⟨⟨i + 1, m'⟩, ⟨by dsimp only; omega, by dsimp only; omega, by dsimp only; omega⟩, by dsimp only; omega, .eq (by simp)⟩
    · simp -implicitDefEqProofs (maxSteps := 2000000) (disch := omega) [-getElem?_pos]
      exact .fin _ ⟨⟨m2, by omega, by omega, rfl⟩, rfl⟩ (.refl _)
  · simp -implicitDefEqProofs (maxSteps := 2000000) (disch := omega) [-getElem?_pos]
    exact .fin _ ⟨⟨m2, by omega, by omega, rfl⟩, rfl⟩ (.refl _)
theorem k_TFew (t : Tp) {σ : Sg} (he : tbk t ≤ 1048576) : ACalls Tryd.prog 6 [.v (encT t)] σ fun r σ' => (∃ m : Int, r = .v (.int .i64 m)) ∧ σ' = σ := by
  have hc := fun σ => k_TCount t (m := 5000) (σ := σ) he (by omega) (by omega)
  cases t with
  | mk k n l ls tl =>
  rw [encT_mk] at hc ⊢
  refine acalls_fit Tryd.func6 (by kernel_rfl) c6 rfl (by simp [a6]) fun hf => ?_
  clear hf
  simp -implicitDefEqProofs (maxSteps := 2000000) (disch := omega) [-getElem?_pos, a6]
  refine (hc _).then fun r hr => ?_
  obtain ⟨m', h5, h6, rfl⟩ := hr
  simp -implicitDefEqProofs (maxSteps := 2000000) (disch := omega) [-getElem?_pos]
  exact .fin _ ⟨⟨_, rfl⟩, rfl⟩ (.refl _)

mutual
def tnd : Tp → Nat
  | .mk _ _ l _ _ => 1 + tndL l
def tndL : List Tp → Nat
  | [] => 0
  | x :: l => tnd x + tndL l
end
theorem tndL_get {l : List Tp} {i : Nat} {x : Tp} (h : l[i]? = some x) : tndL (l.take (i + 1)) = tndL (l.take i) + tnd x := by
  induction l generalizing i with
  | nil => simp at h
  | cons y l ih =>
    cases i with
    | zero => simp at h; subst h; simp [tndL]
    | succ i => have := ih (by simpa using h); simp only [List.take_succ_cons, tndL] at *; omega
theorem tndL_take (l : List Tp) (i : Nat) : tndL (l.take i) ≤ tndL l := by
  induction l generalizing i with
  | nil => simp
  | cons y l ih =>
    cases i with
    | zero => simp [tndL]
    | succ i => have := ih i; simp only [List.take_succ_cons, tndL]; omega
theorem tnd_le (t : Tp) : tnd t ≤ tbk t := by
  refine Tp.ind (P := fun t => tnd t ≤ tbk t) (fun k n l ls tl ih => ?_) t
  have hl : tndL l ≤ tbkL l := by
    induction l with
    | nil => simp [tndL]
    | cons x l ih2 => have h1 := ih x (by simp); have h2 := ih2 fun y hy => ih y (by simp [hy]); simp only [tndL, tbkL]; omega
  simp only [tnd, tbk]
  omega
theorem k_RTNodes (t : Tp) : ∀ {σ : Sg}, tbk t ≤ 1048576 → ACalls Tryd.prog 28 [.v (encT t)] σ fun r σ' => r = .v (.int .i64 (tnd t)) ∧ σ' = σ := by
  refine Tp.ind (P := fun t => ∀ {σ : Sg}, tbk t ≤ 1048576 → ACalls Tryd.prog 28 [.v (encT t)] σ fun r σ' => r = .v (.int .i64 (tnd t)) ∧ σ' = σ) (fun k n l ls tl ih => ?_) t
  intro σ he
  have hn := tnd_le (.mk k n l ls tl)
  simp only [tbk, tnd] at he hn ⊢
  have hll := tbkL_len l
  rw [encT_mk]
  refine acalls_fit Tryd.func28 (by kernel_rfl) c28 rfl (by simp [a28]) fun hf => ?_
  clear hf
  simp -implicitDefEqProofs (maxSteps := 2000000) (disch := omega) [-getElem?_pos, a28]
  refine W_loop (α := Nat) 0 (fun i => l.length - i) (fun i => ⟨[(1, .ptr σ.objs.length 0), (3, .v (.int .i64 (1 + tndL (l.take i) : Nat))), (4, .v (.int .i64 i))], ⟨σ.objs ++ [.cells [.v (.int .i64 k), .v (.int .i64 n), .v (.sl (some 5) false (l.map encT)), .v (.sl none false (ls.map .str)), .v (.int .i64 tl)]], σ.toks⟩⟩)
    (fun i => i ≤ l.length) (.eq (by simp [tndL])) (by omega) fun i hi => ?_
  have hnt := tndL_take l i
  simp -implicitDefEqProofs (maxSteps := 2000000) (disch := omega) [-getElem?_pos]
  refine .mk (fun h => ?_) fun h => ?_
  · simp -implicitDefEqProofs (maxSteps := 2000000) (disch := omega) [-getElem?_pos]
    refine ⟨by omega, ?_⟩
    intro x hx
    have hx1 := tbkL_mem (List.mem_of_getElem? hx)
    have hx2 := tndL_get hx
    have hx3 := tndL_take l (i + 1)
    refine (ih x (List.mem_of_getElem? hx) (by omega)).then fun r hr => ?_
    subst hr
    simp -implicitDefEqProofs (maxSteps := 2000000) (disch := omega) [-getElem?_pos]
    exact ⟨i + 1, by omega, by show l.length - (i + 1) < l.length - i; omega, .eq (by simp [hx2]; omega)⟩
  · rw [List.take_of_length_le (by omega)]
    simp -implicitDefEqProofs (maxSteps := 2000000) (disch := omega) [-getElem?_pos]
    exact .fin _ ⟨by simp, rfl⟩ (.refl _)
end Go.Proofs.YtkpnhcccocaakaaDoor
