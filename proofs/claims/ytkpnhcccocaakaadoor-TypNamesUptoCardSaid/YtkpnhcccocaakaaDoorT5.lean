/-
  Types: the document's answer to whether they may be, walked; it is the same. (Own work.)
-/
import Derived.Test.YtkpnhcccocaakaaDoorT4
set_option linter.unusedVariables false
set_option linter.unusedSimpArgs false
namespace Go.Proofs.YtkpnhcccocaakaaDoor
open Go Go.Abs

def okT (k n : Int) (l : List Tp) (ls : List Str) (tl : Int) : Bool :=
  decide (partsN k ls = l.length) && !decide (n < 0) && !(decide (0 < n) && !decide (k = 7)) && (if isRowN k = true then !decide (tl < -1) && isS ls && !decide ([] ∈ ls) else decide (tl = -1) && decide (ls = []))
mutual
def fineR : Tp → Bool
  | .mk k n l ls tl => okT k n l ls tl && fineRL l
def fineRL : List Tp → Bool
  | [] => true
  | x :: l => fineR x && fineRL l
end
theorem fineRL_true {l : List Tp} (h : ∀ x ∈ l, fineR x = true) : fineRL l = true := by
  induction l with
  | nil => rfl
  | cons x l ih => simp only [fineRL, h x (by simp), ih fun y hy => h y (by simp [hy]), Bool.and_true]
theorem fineRL_false {l : List Tp} {x : Tp} (hx : x ∈ l) (h : fineR x = false) : fineRL l = false := by
  induction l with
  | nil => cases hx
  | cons y l ih =>
    simp only [fineRL]
    rcases List.mem_cons.1 hx with rfl | hx
    · rw [h, Bool.false_and]
    · rw [ih hx, Bool.and_false]
set_option maxHeartbeats 2000000 in
theorem k_RFine (t : Tp) : ∀ {σ : Sg}, tbk t ≤ 1048576 → ACalls Tryd.prog 27 [.v (encT t)] σ fun r σ' => r = .v (.bool (fineR t)) ∧ σ' = σ := by
  refine Tp.ind (P := fun t => ∀ {σ : Sg}, tbk t ≤ 1048576 → ACalls Tryd.prog 27 [.v (encT t)] σ fun r σ' => r = .v (.bool (fineR t)) ∧ σ' = σ) (fun k n l ls tl ih => ?_) t
  intro σ he
  simp only [tbk] at he
  have hll := tbkL_len l
  have hnl := nsz_len ls
  have hF : fineR (.mk k n l ls tl) = (okT k n l ls tl && fineRL l) := by rw [fineR]
  rw [encT_mk]
  refine acalls_fit Tryd.func27 (by kernel_rfl) c27 rfl (by simp [a27]) fun hf => ?_
  clear hf
  by_cases hn : n < 0
  · by_cases h4 : k = 4
    · subst h4
      simp -implicitDefEqProofs (maxSteps := 2000000) (disch := omega) [-getElem?_pos, a27, hn]
      exact .fin _ ⟨by rw [hF]; simp [okT, hn], rfl⟩ (.refl _)
    · simp -implicitDefEqProofs (maxSteps := 2000000) (disch := omega) [-getElem?_pos, a27, hn, h4]
      exact .fin _ ⟨by rw [hF]; simp [okT, hn], rfl⟩ (.refl _)
  by_cases hn0 : n = 0
  rotate_left
  · have hnp : 0 < n := by omega
    have hnn : 0 ≤ n := by omega
    by_cases h7 : k = 7
    · subst h7
      by_cases htl : tl = -1
      rotate_left
      · simp -implicitDefEqProofs (maxSteps := 2000000) (disch := omega) [-getElem?_pos, a27, hn, hn0, htl]
        exact .fin _ ⟨by rw [hF]; simp [okT, partsN, isRowN, htl], rfl⟩ (.refl _)
      subst htl
      by_cases hls : ls = []
      rotate_left
      · have hlp : 0 < ls.length := List.length_pos_iff.2 hls
        simp -implicitDefEqProofs (maxSteps := 2000000) (disch := omega) [-getElem?_pos, a27, hn, hn0, hlp, hls]
        exact .fin _ ⟨by rw [hF]; simp [okT, partsN, isRowN, hls], rfl⟩ (.refl _)
      subst hls
      by_cases hlp : l.length = 0
      rotate_left
      · have hlp' : ¬ (l.length : Int) = 0 := by omega
        have hlq : ¬ (0 : Int) = l.length := by omega
        simp -implicitDefEqProofs (maxSteps := 2000000) (disch := omega) [-getElem?_pos, a27, hn, hn0, hlp, hlp']
        exact .fin _ ⟨by rw [hF]; simp [okT, partsN, isRowN, hlp, hlp', hlq], rfl⟩ (.refl _)
      have hl0 : l = [] := List.eq_nil_of_length_eq_zero hlp
      subst hl0
      simp -implicitDefEqProofs (maxSteps := 2000000) (disch := omega) [-getElem?_pos, a27, hn, hn0]
      refine W_loop (α := Nat) 0 (fun i => 0) (fun i => ⟨[(1, .ptr σ.objs.length 0), (7, .v (.int .i64 0))], ⟨σ.objs ++ [.cells [.v (.int .i64 7), .v (.int .i64 n), .v (.sl (some 5) false []), .v (.sl none false []), .v (.int .i64 (-1))]], σ.toks⟩⟩)
        (fun i => True) (.eq (by simp)) trivial fun i _ => ?_
      simp -implicitDefEqProofs (maxSteps := 2000000) (disch := omega) [-getElem?_pos]
      exact .fin _ ⟨by rw [hF]; simp [okT, partsN, isRowN, fineRL, hnn], rfl⟩ (.refl _)

    · by_cases h4 : k = 4
      · subst h4
        simp -implicitDefEqProofs (maxSteps := 2000000) (disch := omega) [-getElem?_pos, a27, hn, hn0]
        exact .fin _ ⟨by rw [hF]; simp [okT, hnp], rfl⟩ (.refl _)
      · simp -implicitDefEqProofs (maxSteps := 2000000) (disch := omega) [-getElem?_pos, a27, hn, hn0, h4, h7]
        exact .fin _ ⟨by rw [hF]; simp [okT, hnp, h7], rfl⟩ (.refl _)
  subst hn0
  by_cases h7 : k = 7
  · subst h7
    by_cases htl : tl = -1
    rotate_left
    · simp -implicitDefEqProofs (maxSteps := 2000000) (disch := omega) [-getElem?_pos, a27, hll, htl]
      exact .fin _ ⟨by rw [hF]; simp [okT, partsN, isRowN, htl], rfl⟩ (.refl _)
    subst htl
    by_cases hls : ls = []
    rotate_left
    · have hlp : 0 < ls.length := List.length_pos_iff.2 hls
      simp -implicitDefEqProofs (maxSteps := 2000000) (disch := omega) [-getElem?_pos, a27, hll, hlp, hls]
      exact .fin _ ⟨by rw [hF]; simp [okT, partsN, isRowN, hls], rfl⟩ (.refl _)
    subst hls
    by_cases hlp : l.length = 0
    rotate_left
    · have hlp' : ¬ (l.length : Int) = 0 := by omega
      have hlq : ¬ (0 : Int) = l.length := by omega
      simp -implicitDefEqProofs (maxSteps := 2000000) (disch := omega) [-getElem?_pos, a27, hll, hlp, hlp']
      exact .fin _ ⟨by rw [hF]; simp [okT, partsN, isRowN, hlp, hlp', hlq], rfl⟩ (.refl _)
    have hl0 : l = [] := List.eq_nil_of_length_eq_zero hlp
    subst hl0
    simp -implicitDefEqProofs (maxSteps := 2000000) (disch := omega) [-getElem?_pos, a27, hll]
    refine W_loop (α := Nat) 0 (fun i => 0) (fun i => ⟨[(1, .ptr σ.objs.length 0), (7, .v (.int .i64 0))], ⟨σ.objs ++ [.cells [.v (.int .i64 7), .v (.int .i64 0), .v (.sl (some 5) false []), .v (.sl none false []), .v (.int .i64 (-1))]], σ.toks⟩⟩)
      (fun i => True) (.eq (by simp)) trivial fun i _ => ?_
    simp -implicitDefEqProofs (maxSteps := 2000000) (disch := omega) [-getElem?_pos]
    exact .fin _ ⟨by rw [hF]; simp [okT, partsN, isRowN, fineRL, hll], rfl⟩ (.refl _)

  by_cases h1 : k = 1
  · subst h1
    by_cases htl : tl = -1
    rotate_left
    · simp -implicitDefEqProofs (maxSteps := 2000000) (disch := omega) [-getElem?_pos, a27, hll, htl]
      exact .fin _ ⟨by rw [hF]; simp [okT, partsN, isRowN, htl], rfl⟩ (.refl _)
    subst htl
    by_cases hls : ls = []
    rotate_left
    · have hlp : 0 < ls.length := List.length_pos_iff.2 hls
      simp -implicitDefEqProofs (maxSteps := 2000000) (disch := omega) [-getElem?_pos, a27, hll, hlp, hls]
      exact .fin _ ⟨by rw [hF]; simp [okT, partsN, isRowN, hls], rfl⟩ (.refl _)
    subst hls
    by_cases hlp : l.length = 0
    rotate_left
    · have hlp' : ¬ (l.length : Int) = 0 := by omega
      have hlq : ¬ (0 : Int) = l.length := by omega
      simp -implicitDefEqProofs (maxSteps := 2000000) (disch := omega) [-getElem?_pos, a27, hll, hlp, hlp']
      exact .fin _ ⟨by rw [hF]; simp [okT, partsN, isRowN, hlp, hlp', hlq], rfl⟩ (.refl _)
    have hl0 : l = [] := List.eq_nil_of_length_eq_zero hlp
    subst hl0
    simp -implicitDefEqProofs (maxSteps := 2000000) (disch := omega) [-getElem?_pos, a27, hll]
    refine W_loop (α := Nat) 0 (fun i => 0) (fun i => ⟨[(1, .ptr σ.objs.length 0), (7, .v (.int .i64 0))], ⟨σ.objs ++ [.cells [.v (.int .i64 1), .v (.int .i64 0), .v (.sl (some 5) false []), .v (.sl none false []), .v (.int .i64 (-1))]], σ.toks⟩⟩)
      (fun i => True) (.eq (by simp)) trivial fun i _ => ?_
    simp -implicitDefEqProofs (maxSteps := 2000000) (disch := omega) [-getElem?_pos]
    exact .fin _ ⟨by rw [hF]; simp [okT, partsN, isRowN, fineRL, hll], rfl⟩ (.refl _)

  by_cases h2 : k = 2
  · subst h2
    by_cases htl : tl = -1
    rotate_left
    · simp -implicitDefEqProofs (maxSteps := 2000000) (disch := omega) [-getElem?_pos, a27, hll, htl]
      exact .fin _ ⟨by rw [hF]; simp [okT, partsN, isRowN, htl], rfl⟩ (.refl _)
    subst htl
    by_cases hls : ls = []
    rotate_left
    · have hlp : 0 < ls.length := List.length_pos_iff.2 hls
      simp -implicitDefEqProofs (maxSteps := 2000000) (disch := omega) [-getElem?_pos, a27, hll, hlp, hls]
      exact .fin _ ⟨by rw [hF]; simp [okT, partsN, isRowN, hls], rfl⟩ (.refl _)
    subst hls
    by_cases hlp : l.length = 0
    rotate_left
    · have hlp' : ¬ (l.length : Int) = 0 := by omega
      have hlq : ¬ (0 : Int) = l.length := by omega
      simp -implicitDefEqProofs (maxSteps := 2000000) (disch := omega) [-getElem?_pos, a27, hll, hlp, hlp']
      exact .fin _ ⟨by rw [hF]; simp [okT, partsN, isRowN, hlp, hlp', hlq], rfl⟩ (.refl _)
    have hl0 : l = [] := List.eq_nil_of_length_eq_zero hlp
    subst hl0
    simp -implicitDefEqProofs (maxSteps := 2000000) (disch := omega) [-getElem?_pos, a27, hll]
    refine W_loop (α := Nat) 0 (fun i => 0) (fun i => ⟨[(1, .ptr σ.objs.length 0), (7, .v (.int .i64 0))], ⟨σ.objs ++ [.cells [.v (.int .i64 2), .v (.int .i64 0), .v (.sl (some 5) false []), .v (.sl none false []), .v (.int .i64 (-1))]], σ.toks⟩⟩)
      (fun i => True) (.eq (by simp)) trivial fun i _ => ?_
    simp -implicitDefEqProofs (maxSteps := 2000000) (disch := omega) [-getElem?_pos]
    exact .fin _ ⟨by rw [hF]; simp [okT, partsN, isRowN, fineRL, hll], rfl⟩ (.refl _)

  by_cases h6 : k = 6
  · subst h6
    by_cases htl : tl = -1
    rotate_left
    · simp -implicitDefEqProofs (maxSteps := 2000000) (disch := omega) [-getElem?_pos, a27, hll, htl]
      exact .fin _ ⟨by rw [hF]; simp [okT, partsN, isRowN, htl], rfl⟩ (.refl _)
    subst htl
    by_cases hls : ls = []
    rotate_left
    · have hlp : 0 < ls.length := List.length_pos_iff.2 hls
      simp -implicitDefEqProofs (maxSteps := 2000000) (disch := omega) [-getElem?_pos, a27, hll, hlp, hls]
      exact .fin _ ⟨by rw [hF]; simp [okT, partsN, isRowN, hls], rfl⟩ (.refl _)
    subst hls
    by_cases hlp : l.length = 1
    rotate_left
    · have hlp' : ¬ (l.length : Int) = 1 := by omega
      have hlq : ¬ (1 : Int) = l.length := by omega
      simp -implicitDefEqProofs (maxSteps := 2000000) (disch := omega) [-getElem?_pos, a27, hll, hlp, hlp']
      exact .fin _ ⟨by rw [hF]; simp [okT, partsN, isRowN, hlp, hlp', hlq], rfl⟩ (.refl _)
    have hlp' : (l.length : Int) = 1 := by omega
    have hlq : (1 : Int) = l.length := by omega
    simp -implicitDefEqProofs (maxSteps := 2000000) (disch := omega) [-getElem?_pos, a27, hll, hlp, hlp']
    refine W_loop (α := Nat) 0 (fun i => l.length - i) (fun i => ⟨[(1, .ptr σ.objs.length 0), (7, .v (.int .i64 i))], ⟨σ.objs ++ [.cells [.v (.int .i64 6), .v (.int .i64 0), .v (.sl (some 5) false (l.map encT)), .v (.sl none false ([].map .str)), .v (.int .i64 (-1))]], σ.toks⟩⟩)
      (fun i => i ≤ l.length ∧ ∀ x ∈ l.take i, fineR x = true) (.eq (by simp)) ⟨by simp, by simp⟩ fun i ⟨hi, hm⟩ => ?_
    simp -implicitDefEqProofs (maxSteps := 2000000) (disch := omega) [-getElem?_pos]
    refine .mk (fun h => ?_) fun h => ?_
    · simp -implicitDefEqProofs (maxSteps := 2000000) (disch := omega) [-getElem?_pos]
      refine ⟨by omega, ?_⟩
      intro x hx
      have hmx := List.mem_of_getElem? hx
      have hcx := tbkL_mem hmx
      refine (ih x hmx (by omega)).then fun r hr => ?_
      subst hr
      cases hb : fineR x with
      | false =>
        simp -implicitDefEqProofs (maxSteps := 2000000) (disch := omega) [-getElem?_pos]
        exact .fin _ ⟨by rw [hF, fineRL_false hmx hb, Bool.and_false], rfl⟩ (.refl _)
      | true =>
        simp -implicitDefEqProofs (maxSteps := 2000000) (disch := omega) [-getElem?_pos]
        refine ⟨i + 1, ⟨by omega, fun y hy => ?_⟩, by show l.length - (i + 1) < l.length - i; omega, .eq (by simp)⟩
        rw [List.take_add_one, hx] at hy
        simp only [Option.toList, List.mem_append, List.mem_singleton] at hy
        rcases hy with hy | rfl
        · exact hm y hy
        · exact hb
    · rw [List.take_of_length_le (by omega)] at hm
      simp -implicitDefEqProofs (maxSteps := 2000000) (disch := omega) [-getElem?_pos]
      exact .fin _ ⟨by rw [hF, fineRL_true hm]; simp [okT, partsN, isRowN, hlp,], rfl⟩ (.refl _)


  by_cases h3 : k = 3
  · subst h3
    by_cases htl : tl = -1
    rotate_left
    · simp -implicitDefEqProofs (maxSteps := 2000000) (disch := omega) [-getElem?_pos, a27, hll, htl]
      exact .fin _ ⟨by rw [hF]; simp [okT, partsN, isRowN, htl], rfl⟩ (.refl _)
    subst htl
    by_cases hls : ls = []
    rotate_left
    · have hlp : 0 < ls.length := List.length_pos_iff.2 hls
      simp -implicitDefEqProofs (maxSteps := 2000000) (disch := omega) [-getElem?_pos, a27, hll, hlp, hls]
      exact .fin _ ⟨by rw [hF]; simp [okT, partsN, isRowN, hls], rfl⟩ (.refl _)
    subst hls
    by_cases hlp : l.length = 2
    rotate_left
    · have hlp' : ¬ (l.length : Int) = 2 := by omega
      have hlq : ¬ (2 : Int) = l.length := by omega
      simp -implicitDefEqProofs (maxSteps := 2000000) (disch := omega) [-getElem?_pos, a27, hll, hlp, hlp']
      exact .fin _ ⟨by rw [hF]; simp [okT, partsN, isRowN, hlp, hlp', hlq], rfl⟩ (.refl _)
    have hlp' : (l.length : Int) = 2 := by omega
    have hlq : (2 : Int) = l.length := by omega
    simp -implicitDefEqProofs (maxSteps := 2000000) (disch := omega) [-getElem?_pos, a27, hll, hlp, hlp']
    refine W_loop (α := Nat) 0 (fun i => l.length - i) (fun i => ⟨[(1, .ptr σ.objs.length 0), (7, .v (.int .i64 i))], ⟨σ.objs ++ [.cells [.v (.int .i64 3), .v (.int .i64 0), .v (.sl (some 5) false (l.map encT)), .v (.sl none false ([].map .str)), .v (.int .i64 (-1))]], σ.toks⟩⟩)
      (fun i => i ≤ l.length ∧ ∀ x ∈ l.take i, fineR x = true) (.eq (by simp)) ⟨by simp, by simp⟩ fun i ⟨hi, hm⟩ => ?_
    simp -implicitDefEqProofs (maxSteps := 2000000) (disch := omega) [-getElem?_pos]
    refine .mk (fun h => ?_) fun h => ?_
    · simp -implicitDefEqProofs (maxSteps := 2000000) (disch := omega) [-getElem?_pos]
      refine ⟨by omega, ?_⟩
      intro x hx
      have hmx := List.mem_of_getElem? hx
      have hcx := tbkL_mem hmx
      refine (ih x hmx (by omega)).then fun r hr => ?_
      subst hr
      cases hb : fineR x with
      | false =>
        simp -implicitDefEqProofs (maxSteps := 2000000) (disch := omega) [-getElem?_pos]
        exact .fin _ ⟨by rw [hF, fineRL_false hmx hb, Bool.and_false], rfl⟩ (.refl _)
      | true =>
        simp -implicitDefEqProofs (maxSteps := 2000000) (disch := omega) [-getElem?_pos]
        refine ⟨i + 1, ⟨by omega, fun y hy => ?_⟩, by show l.length - (i + 1) < l.length - i; omega, .eq (by simp)⟩
        rw [List.take_add_one, hx] at hy
        simp only [Option.toList, List.mem_append, List.mem_singleton] at hy
        rcases hy with hy | rfl
        · exact hm y hy
        · exact hb
    · rw [List.take_of_length_le (by omega)] at hm
      simp -implicitDefEqProofs (maxSteps := 2000000) (disch := omega) [-getElem?_pos]
      exact .fin _ ⟨by rw [hF, fineRL_true hm]; simp [okT, partsN, isRowN, hlp,], rfl⟩ (.refl _)


  by_cases h4 : k = 4
  · subst h4
    simp -implicitDefEqProofs (maxSteps := 2000000) (disch := omega) [-getElem?_pos, a27, hll]
    refine k_RIs.then fun r hr => ?_
    subst hr
    simp -implicitDefEqProofs (maxSteps := 2000000) (disch := omega) [-getElem?_pos]
    refine k_RHas.then fun r hr => ?_
    subst hr
    by_cases htl : tl < -1
    · simp -implicitDefEqProofs (maxSteps := 2000000) (disch := omega) [-getElem?_pos, htl]
      exact .fin _ ⟨by rw [hF]; simp [okT, partsN, isRowN, htl], rfl⟩ (.refl _)
    cases his : isS ls with
    | false =>
      simp -implicitDefEqProofs (maxSteps := 2000000) (disch := omega) [-getElem?_pos, htl]
      exact .fin _ ⟨by rw [hF]; simp [okT, partsN, isRowN, his], rfl⟩ (.refl _)
    | true =>
    by_cases hem : [] ∈ ls
    · simp -implicitDefEqProofs (maxSteps := 2000000) (disch := omega) [-getElem?_pos, htl, hem]
      exact .fin _ ⟨by rw [hF]; simp [okT, partsN, isRowN, hem], rfl⟩ (.refl _)
    by_cases hlp : l.length = ls.length
    rotate_left
    · have hlp' : ¬ (l.length : Int) = ls.length := by omega
      have hlq : ¬ (ls.length : Int) = l.length := by omega
      have hlr : ¬ ls.length = l.length := by omega
      simp -implicitDefEqProofs (maxSteps := 2000000) (disch := omega) [-getElem?_pos, htl, hem, hlp, hlp']
      exact .fin _ ⟨by rw [hF]; simp [okT, partsN, isRowN, hlp, hlp', hlq, hlr], rfl⟩ (.refl _)
    have hlp' : (l.length : Int) = ls.length := by omega
    simp -implicitDefEqProofs (maxSteps := 2000000) (disch := omega) [-getElem?_pos, htl, hem, hlp, hlp']
    refine W_loop (α := Nat) 0 (fun i => l.length - i) (fun i => ⟨[(1, .ptr σ.objs.length 0), (7, .v (.int .i64 i))], ⟨σ.objs ++ [.cells [.v (.int .i64 4), .v (.int .i64 0), .v (.sl (some 5) false (l.map encT)), .v (.sl none false (ls.map .str)), .v (.int .i64 tl)]], σ.toks⟩⟩)
      (fun i => i ≤ l.length ∧ ∀ x ∈ l.take i, fineR x = true) (.eq (by simp)) ⟨by simp, by simp⟩ fun i ⟨hi, hm⟩ => ?_
    simp -implicitDefEqProofs (maxSteps := 2000000) (disch := omega) [-getElem?_pos]
    refine .mk (fun h => ?_) fun h => ?_
    · simp -implicitDefEqProofs (maxSteps := 2000000) (disch := omega) [-getElem?_pos]
      refine ⟨by omega, ?_⟩
      intro x hx
      have hmx := List.mem_of_getElem? hx
      have hcx := tbkL_mem hmx
      refine (ih x hmx (by omega)).then fun r hr => ?_
      subst hr
      cases hb : fineR x with
      | false =>
        simp -implicitDefEqProofs (maxSteps := 2000000) (disch := omega) [-getElem?_pos]
        exact .fin _ ⟨by rw [hF, fineRL_false hmx hb, Bool.and_false], rfl⟩ (.refl _)
      | true =>
        simp -implicitDefEqProofs (maxSteps := 2000000) (disch := omega) [-getElem?_pos]
        refine ⟨i + 1, ⟨by omega, fun y hy => ?_⟩, by show l.length - (i + 1) < l.length - i; omega, .eq (by simp)⟩
        rw [List.take_add_one, hx] at hy
        simp only [Option.toList, List.mem_append, List.mem_singleton] at hy
        rcases hy with hy | rfl
        · exact hm y hy
        · exact hb
    · rw [List.take_of_length_le (by omega)] at hm
      simp -implicitDefEqProofs (maxSteps := 2000000) (disch := omega) [-getElem?_pos]
      exact .fin _ ⟨by rw [hF, fineRL_true hm]; simp [okT, partsN, isRowN, hlp, htl, his, hem], rfl⟩ (.refl _)


  by_cases h5 : k = 5
  · subst h5
    simp -implicitDefEqProofs (maxSteps := 2000000) (disch := omega) [-getElem?_pos, a27, hll]
    refine k_RIs.then fun r hr => ?_
    subst hr
    simp -implicitDefEqProofs (maxSteps := 2000000) (disch := omega) [-getElem?_pos]
    refine k_RHas.then fun r hr => ?_
    subst hr
    by_cases htl : tl < -1
    · simp -implicitDefEqProofs (maxSteps := 2000000) (disch := omega) [-getElem?_pos, htl]
      exact .fin _ ⟨by rw [hF]; simp [okT, partsN, isRowN, htl], rfl⟩ (.refl _)
    cases his : isS ls with
    | false =>
      simp -implicitDefEqProofs (maxSteps := 2000000) (disch := omega) [-getElem?_pos, htl]
      exact .fin _ ⟨by rw [hF]; simp [okT, partsN, isRowN, his], rfl⟩ (.refl _)
    | true =>
    by_cases hem : [] ∈ ls
    · simp -implicitDefEqProofs (maxSteps := 2000000) (disch := omega) [-getElem?_pos, htl, hem]
      exact .fin _ ⟨by rw [hF]; simp [okT, partsN, isRowN, hem], rfl⟩ (.refl _)
    by_cases hlp : l.length = ls.length
    rotate_left
    · have hlp' : ¬ (l.length : Int) = ls.length := by omega
      have hlq : ¬ (ls.length : Int) = l.length := by omega
      have hlr : ¬ ls.length = l.length := by omega
      simp -implicitDefEqProofs (maxSteps := 2000000) (disch := omega) [-getElem?_pos, htl, hem, hlp, hlp']
      exact .fin _ ⟨by rw [hF]; simp [okT, partsN, isRowN, hlp, hlp', hlq, hlr], rfl⟩ (.refl _)
    have hlp' : (l.length : Int) = ls.length := by omega
    simp -implicitDefEqProofs (maxSteps := 2000000) (disch := omega) [-getElem?_pos, htl, hem, hlp, hlp']
    refine W_loop (α := Nat) 0 (fun i => l.length - i) (fun i => ⟨[(1, .ptr σ.objs.length 0), (7, .v (.int .i64 i))], ⟨σ.objs ++ [.cells [.v (.int .i64 5), .v (.int .i64 0), .v (.sl (some 5) false (l.map encT)), .v (.sl none false (ls.map .str)), .v (.int .i64 tl)]], σ.toks⟩⟩)
      (fun i => i ≤ l.length ∧ ∀ x ∈ l.take i, fineR x = true) (.eq (by simp)) ⟨by simp, by simp⟩ fun i ⟨hi, hm⟩ => ?_
    simp -implicitDefEqProofs (maxSteps := 2000000) (disch := omega) [-getElem?_pos]
    refine .mk (fun h => ?_) fun h => ?_
    · simp -implicitDefEqProofs (maxSteps := 2000000) (disch := omega) [-getElem?_pos]
      refine ⟨by omega, ?_⟩
      intro x hx
      have hmx := List.mem_of_getElem? hx
      have hcx := tbkL_mem hmx
      refine (ih x hmx (by omega)).then fun r hr => ?_
      subst hr
      cases hb : fineR x with
      | false =>
        simp -implicitDefEqProofs (maxSteps := 2000000) (disch := omega) [-getElem?_pos]
        exact .fin _ ⟨by rw [hF, fineRL_false hmx hb, Bool.and_false], rfl⟩ (.refl _)
      | true =>
        simp -implicitDefEqProofs (maxSteps := 2000000) (disch := omega) [-getElem?_pos]
        refine ⟨i + 1, ⟨by omega, fun y hy => ?_⟩, by show l.length - (i + 1) < l.length - i; omega, .eq (by simp)⟩
        rw [List.take_add_one, hx] at hy
        simp only [Option.toList, List.mem_append, List.mem_singleton] at hy
        rcases hy with hy | rfl
        · exact hm y hy
        · exact hb
    · rw [List.take_of_length_le (by omega)] at hm
      simp -implicitDefEqProofs (maxSteps := 2000000) (disch := omega) [-getElem?_pos]
      exact .fin _ ⟨by rw [hF, fineRL_true hm]; simp [okT, partsN, isRowN, hlp, htl, his, hem], rfl⟩ (.refl _)


  have hbad : okT k 0 l ls tl = false := by
    have : ¬ (-1 : Int) = l.length := by omega
    simp [okT, partsN, h1, h2, h3, h4, h5, h6, h7, this]
  by_cases htl : tl = -1
  rotate_left
  · simp -implicitDefEqProofs (maxSteps := 2000000) (disch := omega) [-getElem?_pos, a27, htl, h1, h2, h3, h4, h5, h6, h7]
    exact .fin _ ⟨by rw [hF, hbad]; rfl, rfl⟩ (.refl _)
  subst htl
  by_cases hls : 0 < ls.length
  · simp -implicitDefEqProofs (maxSteps := 2000000) (disch := omega) [-getElem?_pos, a27, hls, h1, h2, h3, h4, h5, h6, h7]
    exact .fin _ ⟨by rw [hF, hbad]; rfl, rfl⟩ (.refl _)
  simp -implicitDefEqProofs (maxSteps := 2000000) (disch := omega) [-getElem?_pos, a27, hls, h1, h2, h3, h4, h5, h6, h7]
  exact .fin _ ⟨by rw [hF, hbad]; rfl, rfl⟩ (.refl _)

/-- Both answers are one. -/
theorem fine_same (t : Tp) : ∀ c, c ≤ 4000 → (fineR t = true → c + tnd t ≤ 4000 → fineS t c = (true, c + tnd t)) ∧ (¬ (fineR t = true ∧ c + tnd t ≤ 4000) → (fineS t c).1 = false) := by
  refine Tp.ind (P := fun t => ∀ c, c ≤ 4000 → (fineR t = true → c + tnd t ≤ 4000 → fineS t c = (true, c + tnd t)) ∧ (¬ (fineR t = true ∧ c + tnd t ≤ 4000) → (fineS t c).1 = false)) (fun k n l ls tl ih c hc => ?_) t
  have hL : ∀ (l : List Tp) (c : Nat), (∀ x ∈ l, ∀ c, c ≤ 4000 → (fineR x = true → c + tnd x ≤ 4000 → fineS x c = (true, c + tnd x)) ∧ (¬ (fineR x = true ∧ c + tnd x ≤ 4000) → (fineS x c).1 = false)) → c ≤ 4000 →
      (fineRL l = true → c + tndL l ≤ 4000 → fineL l c = (true, c + tndL l)) ∧ (¬ (fineRL l = true ∧ c + tndL l ≤ 4000) → (fineL l c).1 = false) := by
    intro l
    induction l with
    | nil =>
      intro c _ hc
      refine ⟨fun _ _ => rfl, fun h => absurd ⟨rfl, ?_⟩ h⟩
      simp only [tndL]
      omega
    | cons x l ih2 =>
      intro c h hc
      have h1 := h x (by simp) c hc
      simp only [fineL, fineRL, tndL, Bool.and_eq_true]
      by_cases hx : fineR x = true ∧ c + tnd x ≤ 4000
      · have e := h1.1 hx.1 hx.2
        have h2 := ih2 (c + tnd x) (fun y hy => h y (by simp [hy])) hx.2
        rw [e]
        simp only
        refine ⟨fun h3 h4 => ?_, fun h3 => ?_⟩
        · rw [h2.1 h3.2 (by omega), Nat.add_assoc]
        · refine h2.2 fun h4 => h3 ⟨⟨hx.1, h4.1⟩, by omega⟩
      · have e := h1.2 hx
        refine ⟨fun h3 h4 => absurd ⟨h3.1, by omega⟩ hx, fun _ => ?_⟩
        cases hfx : fineS x c with
        | mk b c1 =>
          rw [hfx] at e
          dsimp only at e
          subst e
          rfl
  have hl := fun hc1 => hL l (c + 1) ih hc1
  have hT : okT k n l ls tl = true ↔ ¬ (partsN k ls ≠ l.length ∨ n < 0 ∨ (0 < n ∧ k ≠ 7)) ∧ (if isRowN k = true then ¬ (tl < -1 ∨ isS ls = false ∨ [] ∈ ls) else ¬ (tl ≠ -1 ∨ 0 < ls.length)) := by
    unfold okT
    cases isRowN k with
    | true => cases isS ls <;> simp [and_assoc] <;> omega
    | false => simp [and_assoc, List.length_pos_iff] ; omega
  have hS : fineS (.mk k n l ls tl) c = (if 4000 < c + 1 ∨ partsN k ls ≠ l.length ∨ n < 0 ∨ (0 < n ∧ k ≠ 7) then (false, c + 1)
    else if isRowN k = true then (if tl < -1 ∨ isS ls = false ∨ [] ∈ ls then (false, c + 1) else fineL l (c + 1))
    else if tl ≠ -1 ∨ 0 < ls.length then (false, c + 1) else fineL l (c + 1)) := by rw [fineS]
  rw [hS]
  clear hS
  simp only [fineR, tnd, Bool.and_eq_true, hT]
  clear hT
  by_cases h1 : 4000 < c + 1
  · simp only [h1, true_or, if_true]
    exact ⟨fun _ h => by omega, fun _ => trivial⟩
  have hl1 := hl (by omega)
  by_cases h2 : partsN k ls ≠ l.length ∨ n < 0 ∨ (0 < n ∧ k ≠ 7)
  · simp only [h1, h2, or_true, if_true, not_true_eq_false, false_and, false_implies, not_false_eq_true, true_implies, and_self]
  simp only [h1, h2, or_self, if_false, not_false_eq_true, true_and]
  cases hr : isRowN k with
  | true =>
    simp only [if_true]
    by_cases h3 : tl < -1 ∨ isS ls = false ∨ [] ∈ ls
    · simp only [h3, if_true, not_true_eq_false, false_and, false_implies, not_false_eq_true, true_implies, and_self]
    · simp only [h3, if_false, not_false_eq_true, true_and]
      refine ⟨fun h h4 => ?_, fun h => hl1.2 fun h4 => h ⟨h4.1, by omega⟩⟩
      rw [hl1.1 h (by omega), Nat.add_assoc]
  | false =>
    simp only [Bool.false_eq_true, if_false]
    by_cases h3 : tl ≠ -1 ∨ 0 < ls.length
    · simp only [h3, if_true, not_true_eq_false, false_and, false_implies, not_false_eq_true, true_implies, and_self]
    · simp only [h3, if_false, not_false_eq_true, true_and]
      refine ⟨fun h h4 => ?_, fun h => hl1.2 fun h4 => h ⟨h4.1, by omega⟩⟩
      rw [hl1.1 h (by omega), Nat.add_assoc]
theorem fine_may (t : Tp) : (fineS t 0).1 = (fineR t && decide (tnd t ≤ 4000)) := by
  have h := fine_same t 0 (by omega)
  simp only [Nat.zero_add] at h
  by_cases hx : fineR t = true ∧ tnd t ≤ 4000
  · rw [h.1 hx.1 hx.2, hx.1, decide_eq_true hx.2]
    rfl
  · rw [h.2 hx]
    cases hf : fineR t with
    | false => rfl
    | true => rw [decide_eq_false fun h => hx ⟨hf, h⟩]; rfl
theorem k_RMay (t : Tp) {σ : Sg} (ht : tbk t ≤ 1048576) : ACalls Tryd.prog 10 [.v (encT t)] σ fun r σ' => r = .v (.bool (fineS t 0).1) ∧ σ' = σ := by
  have f1 := fun σ => k_RFine t (σ := σ) ht
  have f2 := fun σ => k_RTNodes t (σ := σ) ht
  rw [fine_may]
  obtain ⟨fr, hfr⟩ : ∃ fr, fr = fineR t := ⟨_, rfl⟩
  obtain ⟨nd, hnd⟩ : ∃ nd, nd = tnd t := ⟨_, rfl⟩
  rw [← hfr] at f1 ⊢
  rw [← hnd] at f2 ⊢
  cases t with
  | mk k n l ls tl =>
  rw [encT_mk] at f1 f2 ⊢
  refine acalls_fit Tryd.func10 (by kernel_rfl) c10 rfl (by simp [a10]) fun hf => ?_
  clear hf
  simp -implicitDefEqProofs (maxSteps := 2000000) (disch := omega) [-getElem?_pos, a10]
  refine (f1 _).then fun r hr => ?_
  subst hr
  cases fr with
  | false =>
    simp -implicitDefEqProofs (maxSteps := 2000000) (disch := omega) [-getElem?_pos]
    exact .fin _ ⟨rfl, rfl⟩ (.refl _)
  | true =>
  simp -implicitDefEqProofs (maxSteps := 2000000) (disch := omega) [-getElem?_pos]
  refine (f2 _).then fun r hr => ?_
  subst hr
  simp -implicitDefEqProofs (maxSteps := 2000000) (disch := omega) [-getElem?_pos]
  exact .fin _ ⟨by simp; omega, rfl⟩ (.refl _)
end Go.Proofs.YtkpnhcccocaakaaDoor
