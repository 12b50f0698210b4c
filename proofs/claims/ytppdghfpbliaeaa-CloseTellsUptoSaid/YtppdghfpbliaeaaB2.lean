/-
  Layer 9: labels, what the library does. (Own work.)
-/
import Derived.Test.YtppdghfpbliaeaaB1
set_option linter.unusedVariables false
set_option linter.unusedSimpArgs false
namespace Go.Proofs.Ytppdghfpbliaeaa
open Go Go.Abs

theorem k_IsNaN {s : Str} {σ : Sg} : ACalls Try.prog 63 [.v (.str s)] σ fun r σ' => r = .v (.bool false) ∧ σ' = σ := by
  refine acalls_fit Try.func63 (by kernel_rfl) c63 rfl (by simp [a63]) fun hf => ?_
  simp -implicitDefEqProofs (maxSteps := 2000000) (disch := omega) [-getElem?_pos, a63]
  exact .fin _ ⟨rfl, rfl⟩ (.refl _)
theorem k_IsNaN2 {s : Str} {σ : Sg} : ACalls Try.prog 81 [.v (.str s)] σ fun r σ' => r = .v (.bool false) ∧ σ' = σ := by
  refine acalls_fit Try.func81 (by kernel_rfl) c81 rfl (by simp [a81]) fun hf => ?_
  simp -implicitDefEqProofs (maxSteps := 2000000) (disch := omega) [-getElem?_pos, a81]
  exact .fin _ ⟨rfl, rfl⟩ (.refl _)
theorem k_CmpLess {s t : Str} {σ : Sg} : ACalls Try.prog 62 [.v (.str s), .v (.str t)] σ fun r σ' => r = .v (.bool (decide (s < t))) ∧ σ' = σ := by
  refine acalls_fit Try.func62 (by kernel_rfl) c62 rfl (by simp [a62]) fun hf => ?_
  clear hf
  simp -implicitDefEqProofs (maxSteps := 2000000) (disch := omega) [-getElem?_pos, a62]
  refine k_IsNaN2.then fun r hr => ?_
  subst hr
  simp -implicitDefEqProofs (maxSteps := 2000000) (disch := omega) [-getElem?_pos]
  exact .fin _ ⟨by rw [less_eq], rfl⟩ (.refl _)

/-- The first place whose word isn't less. -/
def at0 (l : List Str) (s : Str) : Nat := (l.takeWhile fun x => decide (x < s)).length
def sorted (l : List Str) : Prop := ∀ (i j : Nat) x y, i < j → l[i]? = some x → l[j]? = some y → x ≤ y

theorem half {i j : Nat} (h : i < j) (hj : (j : Int) ≤ 4611686018427387904) : IntKind.wrap .i64 (ishr .u64 ((i : Int) + j) 1) = ((i + j) / 2 : Nat) := by
  unfold ishr
  simp [IntKind.bits]
  rw [Int.fdiv_eq_ediv_of_nonneg _ (by omega)]
  rw [wrap_i64 (by omega) (by omega)]

structure ISt where
  i : Nat
  j : Nat

theorem takeWhile_at {l : List Str} {p : Str → Bool} {n : Nat} (h1 : ∀ (i : Nat) x, i < n → l[i]? = some x → p x = true) (h2 : ∀ x, l[n]? = some x → p x = false) (hn : n ≤ l.length) : (l.takeWhile p).length = n := by
  induction l generalizing n with
  | nil => simp at hn; simp [hn]
  | cons a l ih =>
    cases n with
    | zero => simp [List.takeWhile_cons, h2 a rfl]
    | succ n =>
      rw [List.takeWhile_cons, if_pos (h1 0 a (by omega) rfl), List.length_cons, ih (fun i x (hi : i < n) hx => h1 (i + 1) x (by omega) (by simpa using hx)) (fun x hx => h2 x (by simpa using hx)) (by simpa using hn)]

theorem k_BinSearch {l : List Str} {s : Str} {σ : Sg} (hs : sorted l) (hl : l.length ≤ 1000000) : ACalls Try.prog 48 [.v (vS l), .v (.str s)] σ fun r σ' => r = .tup [.v (.int .i64 (at0 l s)), .v (.bool (decide (l[at0 l s]? = some s)))] ∧ σ' = σ := by
  refine acalls_fit Try.func48 (by kernel_rfl) c48 rfl (by simp [a48]) fun hf => ?_
  clear hf
  simp -implicitDefEqProofs (maxSteps := 2000000) (disch := omega) [-getElem?_pos, a48]
  refine W_loop (α := ISt) ⟨0, l.length⟩ (fun x => x.j - x.i) (fun x => ⟨[(0, .v (vS l)), (1, .v (.str s)), (6, .v (.int .i64 l.length)), (7, .v (.int .i64 x.i)), (8, .v (.int .i64 x.j))], σ⟩)
    (fun x => x.i ≤ x.j ∧ x.j ≤ l.length ∧ (∀ (k : Nat) y, k < x.i → l[k]? = some y → y < s) ∧ ∀ (k : Nat) y, x.j ≤ k → l[k]? = some y → s ≤ y)
    (.eq (by simp)) ⟨by simp, by simp, by simp, fun k y hk hy => absurd (List.getElem?_eq_some_iff.1 hy).1 (by simp at hk; omega)⟩ fun ⟨i, j⟩ ⟨hij, hj, h1, h2⟩ => ?_
  dsimp only at hij hj h1 h2 ⊢
  simp -implicitDefEqProofs (maxSteps := 2000000) (disch := omega) [-getElem?_pos]
  refine .mk (fun h => ?_) fun h => ?_
  · have hh := half h (by omega)
    have hm : (i + j) / 2 < j := by omega
    generalize hmid : (i + j) / 2 = m at hh hm
    simp -implicitDefEqProofs (maxSteps := 2000000) (disch := omega) [-getElem?_pos, hh]
    repeat refine ⟨by omega, ?_⟩
    intro y hy
    refine k_CmpLess.then fun r hr => ?_
    subst hr
    simp -implicitDefEqProofs (maxSteps := 2000000) (disch := omega) [-getElem?_pos]
    refine .mk (fun hq => ?_) fun hq => ?_
    · simp -implicitDefEqProofs (maxSteps := 2000000) (disch := omega) [-getElem?_pos]
      refine ⟨⟨m + 1, j⟩, ⟨by dsimp only; omega, by dsimp only; omega, fun k z hk hz => ?_, h2⟩, by dsimp only; omega, .eq (by simp)⟩
      dsimp only at hk
      rcases Nat.lt_or_ge k m with h3 | h3
      · exact List.lt_of_le_of_lt (hs k m z y h3 hz hy) hq
      · obtain rfl : k = m := by omega
        rw [hy] at hz
        cases hz
        exact hq
    · simp -implicitDefEqProofs (maxSteps := 2000000) (disch := omega) [-getElem?_pos]
      refine ⟨⟨i, m⟩, ⟨by dsimp only; omega, by dsimp only; omega, h1, fun k z hk hz => ?_⟩, by dsimp only; omega, .eq (by simp)⟩
      dsimp only at hk
      have hq' : s ≤ y := List.not_lt.1 hq
      rcases Nat.lt_or_ge m k with h3 | h3
      · exact List.le_trans hq' (hs m k y z h3 hy hz)
      · obtain rfl : k = m := by omega
        rw [hy] at hz
        cases hz
        exact hq'
  · have hat : at0 l s = i := takeWhile_at (fun k y hk hy => decide_eq_true (h1 k y hk hy)) (fun y hy => decide_eq_false (List.not_lt.2 (h2 i y (by omega) hy))) (by omega)
    simp -implicitDefEqProofs (maxSteps := 2000000) (disch := omega) [-getElem?_pos]
    refine .mk (fun h3 => ?_) fun h3 => ?_
    · simp -implicitDefEqProofs (maxSteps := 2000000) (disch := omega) [-getElem?_pos]
      repeat refine ⟨by omega, ?_⟩
      intro y hy
      refine .mk (fun h4 => ?_) fun h4 => ?_
      · simp -implicitDefEqProofs (maxSteps := 2000000) (disch := omega) [-getElem?_pos]
        exact .fin _ ⟨by rw [hat, hy, h4]; simp, rfl⟩ (.refl _)
      · simp -implicitDefEqProofs (maxSteps := 2000000) (disch := omega) [-getElem?_pos]
        repeat refine ⟨by omega, ?_⟩
        intro y' hy'
        obtain rfl : y' = y := by rw [hy] at hy'; exact (Option.some.inj hy').symm
        refine k_IsNaN.then fun r hr => ?_
        subst hr
        simp -implicitDefEqProofs (maxSteps := 2000000) (disch := omega) [-getElem?_pos]
        exact .fin _ ⟨by rw [hat, hy]; simp [h4], rfl⟩ (.refl _)
    · simp -implicitDefEqProofs (maxSteps := 2000000) (disch := omega) [-getElem?_pos]
      exact .fin _ ⟨by simp [hat], rfl⟩ (.refl _)

theorem k_Has {l : List Str} {s : Str} {σ : Sg} (hs : sorted l) (hl : l.length ≤ 1000000) : ACalls Try.prog 23 [.v (vS l), .v (.str s)] σ fun r σ' => r = .v (.bool (decide (l[at0 l s]? = some s))) ∧ σ' = σ := by
  refine acalls_fit Try.func23 (by kernel_rfl) c23 rfl (by simp [a23]) fun hf => ?_
  clear hf
  simp -implicitDefEqProofs (maxSteps := 2000000) (disch := omega) [-getElem?_pos, a23]
  refine (k_BinSearch hs hl).then fun r hr => ?_
  subst hr
  simp -implicitDefEqProofs (maxSteps := 2000000) (disch := omega) [-getElem?_pos]
  exact .fin _ ⟨rfl, rfl⟩ (.refl _)

theorem k_SearchStrings1 {l : List Str} {s : Str} {k : Nat} {y : Str} {o p : Nat} {σ : Sg} (h1 : σ.objs[o]? = some (.cells [.v (vS l)])) (h2 : σ.objs[p]? = some (.cells [.v (.str s)])) (hk : l[k]? = some y) :
    ACalls Try.prog 65 [.v (.int .i64 k), .ptr o 0, .ptr p 0] σ fun r σ' => r = .v (.bool (decide (s ≤ y))) ∧ σ' = σ := by
  have hkl := (List.getElem?_eq_some_iff.1 hk).1
  refine acalls_fit Try.func65 (by kernel_rfl) c65 rfl (by simp [a65]) fun hf => ?_
  clear hf
  simp -implicitDefEqProofs (maxSteps := 2000000) (disch := omega) [-getElem?_pos, a65, h1, h2]
  repeat refine ⟨by omega, ?_⟩
  intro y' hy'
  obtain rfl : y' = y := by rw [hk] at hy'; exact (Option.some.inj hy').symm
  rw [less_eq]
  exact .fin _ ⟨by congr 3; rw [Bool.eq_iff_iff]; simp, rfl⟩ (.refl _)
theorem k_Search {l : List Str} {s : Str} {fd : D} {σ : Sg} (hs : sorted l) (hl : l.length ≤ 1000000) (hp : ∀ (k : Nat) y, l[k]? = some y → WCall Try.prog fd [.v (.int .i64 k)] σ fun r σ' => r = .v (.bool (decide (s ≤ y))) ∧ σ' = σ) :
    ACalls Try.prog 64 [.v (.int .i64 l.length), fd] σ fun r σ' => r = .v (.int .i64 (at0 l s)) ∧ σ' = σ := by
  refine acalls_fit Try.func64 (by kernel_rfl) c64 rfl (by simp [a64]) fun hf => ?_
  clear hf
  simp -implicitDefEqProofs (maxSteps := 2000000) (disch := omega) [-getElem?_pos, a64]
  refine W_loop (α := ISt) ⟨0, l.length⟩ (fun x => x.j - x.i) (fun x => ⟨[(1, fd), (5, .v (.int .i64 x.i)), (6, .v (.int .i64 x.j))], σ⟩)
    (fun x => x.i ≤ x.j ∧ x.j ≤ l.length ∧ (∀ (k : Nat) y, k < x.i → l[k]? = some y → y < s) ∧ ∀ (k : Nat) y, x.j ≤ k → l[k]? = some y → s ≤ y)
    (.eq (by simp)) ⟨by simp, by simp, by simp, fun k y hk hy => absurd (List.getElem?_eq_some_iff.1 hy).1 (by simp at hk; omega)⟩ fun ⟨i, j⟩ ⟨hij, hj, h1, h2⟩ => ?_
  dsimp only at hij hj h1 h2 ⊢
  simp -implicitDefEqProofs (maxSteps := 2000000) (disch := omega) [-getElem?_pos]
  refine .mk (fun h => ?_) fun h => ?_
  · have hh := half h (by omega)
    have hm : (i + j) / 2 < j := by omega
    generalize hmid : (i + j) / 2 = m at hh hm
    simp -implicitDefEqProofs (maxSteps := 2000000) (disch := omega) [-getElem?_pos, hh]
    obtain ⟨y, hy⟩ : ∃ y, l[m]? = some y := ⟨_, List.getElem?_eq_getElem (by omega)⟩
    refine (hp m y hy).then fun r hr => ?_
    subst hr
    simp -implicitDefEqProofs (maxSteps := 2000000) (disch := omega) [-getElem?_pos]
    refine .mk (fun hq => ?_) fun hq => ?_
    rotate_left
    · simp -implicitDefEqProofs (maxSteps := 2000000) (disch := omega) [-getElem?_pos]
      refine ⟨⟨i, m⟩, ⟨by dsimp only; omega, by dsimp only; omega, h1, fun k z hk hz => ?_⟩, by dsimp only; omega, .eq (by simp)⟩
      dsimp only at hk
      have hq' : s ≤ y := List.not_lt.1 hq
      rcases Nat.lt_or_ge m k with h3 | h3
      · exact List.le_trans hq' (hs m k y z h3 hy hz)
      · obtain rfl : k = m := by omega
        rw [hy] at hz
        cases hz
        exact hq'
    · simp -implicitDefEqProofs (maxSteps := 2000000) (disch := omega) [-getElem?_pos]
      refine ⟨⟨m + 1, j⟩, ⟨by dsimp only; omega, by dsimp only; omega, fun k z hk hz => ?_, h2⟩, by dsimp only; omega, .eq (by simp)⟩
      dsimp only at hk
      have hq' : y < s := hq
      rcases Nat.lt_or_ge k m with h3 | h3
      · exact List.lt_of_le_of_lt (hs k m z y h3 hz hy) hq'
      · obtain rfl : k = m := by omega
        rw [hy] at hz
        cases hz
        exact hq'
  · have hat : at0 l s = i := takeWhile_at (fun k y hk hy => decide_eq_true (h1 k y hk hy)) (fun y hy => decide_eq_false (List.not_lt.2 (h2 i y (by omega) hy))) (by omega)
    simp -implicitDefEqProofs (maxSteps := 2000000) (disch := omega) [-getElem?_pos]
    exact .fin _ ⟨by rw [hat], rfl⟩ (.refl _)
theorem k_SearchStrings {l : List Str} {s : Str} {σ : Sg} (hs : sorted l) (hl : l.length ≤ 1000000) : ACalls Try.prog 49 [.v (vS l), .v (.str s)] σ fun r σ' => r = .v (.int .i64 (at0 l s)) ∧ σ' = σ := by
  refine acalls_fit Try.func49 (by kernel_rfl) c49 rfl (by simp [a49]) fun hf => ?_
  clear hf
  simp -implicitDefEqProofs (maxSteps := 2000000) (disch := omega) [-getElem?_pos, a49]
  refine (k_Search (l := l) (s := s) hs hl fun k y hy => WCall_caps.symm ▸ k_SearchStrings1 (l := l) (s := s) (by simp) (by simp) hy).then fun r hr => ?_
  subst hr
  simp -implicitDefEqProofs (maxSteps := 2000000) (disch := omega) [-getElem?_pos]
  exact .fin _ ⟨rfl, rfl⟩ (.refl _)
theorem k_Offset {l : List Str} {s : Str} {σ : Sg} (hs : sorted l) (hl : l.length ≤ 1000000) : ACalls Try.prog 24 [.v (vS l), .v (.str s)] σ fun r σ' => r = .v (.int .i64 (at0 l s)) ∧ σ' = σ := by
  refine acalls_fit Try.func24 (by kernel_rfl) c24 rfl (by simp [a24]) fun hf => ?_
  clear hf
  simp -implicitDefEqProofs (maxSteps := 2000000) (disch := omega) [-getElem?_pos, a24]
  refine (k_SearchStrings hs hl).then fun r hr => ?_
  subst hr
  simp -implicitDefEqProofs (maxSteps := 2000000) (disch := omega) [-getElem?_pos]
  exact .fin _ ⟨rfl, rfl⟩ (.refl _)
end Go.Proofs.Ytppdghfpbliaeaa
