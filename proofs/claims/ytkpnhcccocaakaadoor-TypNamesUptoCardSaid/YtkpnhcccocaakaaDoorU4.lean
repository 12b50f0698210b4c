/-
  Types: a row's labels, put in order, with their parts: of labels that are in order already. (Own work.)
-/
import Derived.Test.YtkpnhcccocaakaaDoorU3
set_option linter.unusedVariables false
set_option linter.unusedSimpArgs false
namespace Go.Proofs.YtkpnhcccocaakaaDoor
open Go Go.Abs

def cellsL (xs : List V) : List D := (V.flat xs).map .v
theorem cellsL_len {xs : List V} (hs : ∀ x ∈ xs, x.shape = some 5) : (cellsL xs).length = xs.length * 5 := by
  unfold cellsL
  rw [List.length_map, V.flat_length hs]
  rfl
theorem cellsL_snoc (xs : List V) (x : V) : cellsL (xs ++ [x]) = cellsL xs ++ x.cells.map .v := by simp [cellsL, V.flat]
theorem isS_rise : ∀ {ls : List Str} {j i : Nat} {x y : Str}, isS ls = true → i < j → ls[i]? = some x → ls[j]? = some y → x < y
  | [], j, i, x, y, _, _, h, _ => by simp at h
  | [a], j, i, x, y, _, hij, h1, h2 => by
    have := (List.getElem?_eq_some_iff.1 h2).1
    simp at this
    omega
  | a :: b :: l, j, i, x, y, h, hij, h1, h2 => by
    simp only [isS, Bool.and_eq_true, decide_eq_true_eq] at h
    obtain ⟨j', rfl⟩ : ∃ j', j = j' + 1 := ⟨j - 1, by omega⟩
    simp only [List.getElem?_cons_succ] at h2
    cases i with
    | succ i =>
      simp only [List.getElem?_cons_succ] at h1
      exact isS_rise h.2 (by omega) h1 h2
    | zero =>
      simp only [List.getElem?_cons_zero, Option.some.injEq] at h1
      subst h1
      cases j' with
      | zero =>
        simp only [List.getElem?_cons_zero, Option.some.injEq] at h2
        subst h2
        exact h.1
      | succ j' => exact List.lt_trans h.1 (isS_rise (i := 0) h.2 (by omega) rfl h2)
theorem cmp_ord {ls : List Str} {x y : Nat} {a b : Str} (hs : isS ls = true) (h1 : ls[x]? = some a) (h2 : ls[y]? = some b) : Lib.compareBytes a b = ordN x y := by
  unfold ordN
  by_cases h : x < y
  · rw [if_pos h, cmpB_lt (isS_rise hs h h1 h2)]
  · rw [if_neg h]
    by_cases h' : y < x
    · rw [if_pos h', cmpB_gt (isS_rise hs h' h2 h1)]
    · rw [if_neg h']
      obtain rfl : x = y := by omega
      rw [h1] at h2
      cases h2
      exact cmpB_eq a
theorem k_Sorted1 {p q x y : Nat} {k n tl : Int} {hd : D} {ls : List Str} {σ : Sg} (hp : σ.objs[p]? = some (.cells [.v (.int .i64 k), .v (.int .i64 n), hd, .v (vS ls), .v (.int .i64 tl)])) (hq : σ.objs[q]? = some (.cells [.ptr p 0])) (hs : isS ls = true) (hx : x < ls.length) (hy : y < ls.length) :
    ACalls Tryd.prog 59 [.v (.int .i64 x), .v (.int .i64 y), .ptr q 0] σ fun r σ' => r = .v (.int .i64 (ordN x y)) ∧ σ' = σ := by
  have h1 := List.getElem?_eq_getElem hx
  have h2 := List.getElem?_eq_getElem hy
  have hc := cmp_ord hs h1 h2
  generalize ls[x] = a at *
  generalize ls[y] = b at *
  have ck := fun σ => k_Compare (a := a) (b := b) (σ := σ)
  rw [hc] at ck
  refine acalls_fit Tryd.func59 (by kernel_rfl) c59 rfl (by simp [a59]) fun hf => ?_
  clear hf
  simp -implicitDefEqProofs (maxSteps := 2000000) (disch := omega) [-getElem?_pos, a59, hq, hp, h1, h2, hx, hy]
  refine (ck _).then fun r hr => ?_
  subst hr
  simp -implicitDefEqProofs (maxSteps := 2000000) (disch := omega) [-getElem?_pos]
  exact .fin _ ⟨rfl, rfl⟩ (.refl _)
theorem k_InsF0 {fd : D} {σ : Sg} : ACalls Tryd.prog 74 [.v (.sl none true []), .v (.int .i64 0), .v (.int .i64 0), fd] σ fun r σ' => r = .tup [] ∧ σ' = σ := by
  refine acalls_fit Tryd.func74 (by kernel_rfl) c74 rfl (by simp [a74]) fun hf => ?_
  clear hf
  simp -implicitDefEqProofs (maxSteps := 2000000) (disch := omega) [-getElem?_pos, a74]
  refine W_loop (α := Nat) 0 (fun i => i) (fun i => ⟨[(2, .v (.int .i64 0)), (8, .v (.int .i64 1))], σ⟩) (fun i => True) (.eq (by simp)) trivial fun i _ => ?_
  simp -implicitDefEqProofs (maxSteps := 2000000) (disch := omega) [-getElem?_pos]
  exact .fin _ ⟨rfl, rfl⟩ (.refl _)
theorem k_PdqF0 {fd : D} {m : Int} {σ : Sg} (hl : fd.low σ.objs.length σ.toks.length) : ACalls Tryd.prog 65 [.v (.sl none true []), .v (.int .i64 0), .v (.int .i64 0), .v (.int .i64 m), fd] σ fun r σ' => r = .tup [] ∧ σ' = σ := by
  refine acalls_fit Tryd.func65 (by kernel_rfl) c65 rfl (by simp [a65]) fun hf => ?_
  clear hf
  simp -implicitDefEqProofs (maxSteps := 2000000) (disch := omega) [-getElem?_pos, a65]
  refine W_loop (α := Nat) 0 (fun i => i) (fun i => ⟨[(0, .v (.sl none true [])), (1, .v (.int .i64 0)), (2, .v (.int .i64 0)), (4, fd)], σ⟩) (fun i => True) (.eq (by simp)) trivial fun i _ => ?_
  simp -implicitDefEqProofs (maxSteps := 2000000) (disch := omega) [-getElem?_pos]
  refine k_InsF0.then fun r hr => ?_
  subst hr
  simp -implicitDefEqProofs (maxSteps := 2000000) (disch := omega) [-getElem?_pos]
  exact .fin _ ⟨rfl, rfl⟩ (.refl _)
theorem k_SortF0 {fd : D} {σ : Sg} (hl : fd.low σ.objs.length σ.toks.length) : ACalls Tryd.prog 58 [.v (.sl none true []), fd] σ fun r σ' => r = .tup [] ∧ σ' = σ := by
  have hn := fun σ => k_LenN (n := 0) (σ := σ) (by omega)
  refine acalls_fit Tryd.func58 (by kernel_rfl) c58 rfl (by simp [a58]) fun hf => ?_
  clear hf
  simp -implicitDefEqProofs (maxSteps := 2000000) (disch := omega) [-getElem?_pos, a58]
  refine (hn _).then fun r hr => ?_
  obtain ⟨m, rfl, _⟩ := hr
  simp -implicitDefEqProofs (maxSteps := 2000000) (disch := omega) [-getElem?_pos]
  refine (k_PdqF0 hl).then fun r hr => ?_
  subst hr
  simp -implicitDefEqProofs (maxSteps := 2000000) (disch := omega) [-getElem?_pos]
  exact .fin _ ⟨rfl, rfl⟩ (.refl _)
/-- What stands for a row's parts. -/
def HdV (hd : D) (l : List Tp) (p : Nat) (σ : Sg) : Prop := (hd = .v .snil ∧ l = []) ∨ ∃ o c rest, hd = .msl o 0 l.length (some 5) (some c) ∧ o ≠ p ∧ σ.objs[o]? = some (.cells (cellsL (l.map encT) ++ rest))
def SortedPost (σ : Sg) (p : Nat) (k n tl : Int) (l : List Tp) (ls : List Str) (r : D) (σ' : Sg) : Prop :=
  r = .v (.bool true) ∧ ((l = [] ∧ ls = [] ∧ σ' = ⟨σ.objs.set p (.cells [.v (.int .i64 k), .v (.int .i64 n), .v .snil, .v .snil, .v (.int .i64 tl)]), σ.toks⟩) ∨
    σ' = ⟨σ.objs.set p (.cells [.v (.int .i64 k), .v (.int .i64 n), .tsl σ.toks.length (some 5) (l.map encT), .tsl (σ.toks.length + 1) none (ls.map .str), .v (.int .i64 tl)]), σ.toks ++ [ls.length, ls.length]⟩)
/-- Numbers so far. -/
def fI (n i : Nat) : List D := (List.range n).map fun j => D.v (.int .i64 (if j < i then (j : Int) else 0))
theorem fI_len (n i : Nat) : (fI n i).length = n := by simp [fI]
theorem fI_zero (n : Nat) : fI n 0 = List.replicate n (D.v (.int .i64 0)) := by
  unfold fI
  simp only [Nat.not_lt_zero, if_false]
  exact List.eq_replicate_iff.2 ⟨by simp, by simp⟩
theorem zeros_fI (n : Nat) : List.map D.v (zerosV [V.int .i64 0] n) = fI n 0 := by
  rw [fI_zero]
  unfold zerosV
  induction n with
  | zero => rfl
  | succ n ih => rw [List.replicate_succ, List.flatten_cons, List.map_append, ih]; rfl
theorem fI_all (n : Nat) : fI n n = cI n := by
  unfold fI cI
  refine List.map_congr_left fun j hj => ?_
  rw [if_pos (List.mem_range.1 hj)]
theorem fI_step {n i : Nat} (h : i < n) : (fI n i).set i (.v (.int .i64 i)) = fI n (i + 1) := by
  apply List.ext_getElem?
  intro j
  simp only [fI, List.getElem?_set, List.getElem?_map, List.length_map, List.length_range]
  by_cases hij : i = j
  · subst hij
    simp [h]
  · by_cases hj : j < n
    · simp only [hij, if_false, List.getElem?_range hj, Option.map_some, Option.some.injEq, D.v.injEq, V.int.injEq, true_and]
      by_cases h1 : j < i
      · rw [if_pos h1, if_pos (by omega)]
      · rw [if_neg h1, if_neg (by omega)]
    · simp [hij, hj]
theorem fI_step2 {n i : Nat} (h : i < n) : List.take i (fI n i) ++ D.v (V.int .i64 (i : Nat)) :: List.drop (i + 1) (fI n i) = fI n (i + 1) := by
  rw [← fI_step h, List.set_eq_take_append_cons_drop, if_pos (by rw [fI_len]; exact h)]
theorem cells_at : ∀ {l : List Tp} {i : Nat} {y : Tp} {rest : List D}, l[i]? = some y → List.take 5 (List.drop (i * 5) (cellsL (l.map encT) ++ rest)) = (encT y).cells.map .v
  | [], i, y, rest, h => by simp at h
  | .mk k n l2 ls tl :: l, 0, y, rest, h => by
    simp only [List.getElem?_cons_zero, Option.some.injEq] at h
    subst h
    simp only [List.map_cons, cellsL, V.flat, List.flatMap_cons, List.map_append, encT_mk, V.cells]
    simp
  | .mk k n l2 ls tl :: l, i + 1, y, rest, h => by
    have ih := cells_at (l := l) (i := i) (rest := rest) (by simpa using h)
    have e : cellsL ((Tp.mk k n l2 ls tl :: l).map encT) = (encT (.mk k n l2 ls tl)).cells.map .v ++ cellsL (l.map encT) := by simp [cellsL, V.flat]
    have h5 : ((encT (.mk k n l2 ls tl)).cells.map D.v).length = 5 := by rw [encT_mk]; rfl
    rw [e, List.append_assoc, show (i + 1) * 5 = ((encT (.mk k n l2 ls tl)).cells.map D.v).length + i * 5 by rw [h5]; omega, ← List.drop_drop, List.drop_left]
    exact ih
theorem k_SortedT {p : Nat} {k n tl : Int} {l : List Tp} {ls : List Str} {hd : D} {σ : Sg} (hp : σ.objs[p]? = some (.cells [.v (.int .i64 k), .v (.int .i64 n), hd, .v (vS ls), .v (.int .i64 tl)])) (hh : HdV hd l p σ) (hs : isS ls = true) (hll : l.length = ls.length) (hle : ls.length ≤ 1048576) :
    ACalls Tryd.prog 53 [.ptr p 0] σ (SortedPost σ p k n tl l ls) := by
  have hpl := (List.getElem?_eq_some_iff.1 hp).1
  have gp : ∀ r, (σ.objs ++ r)[p]? = some (.cells [.v (.int .i64 k), .v (.int .i64 n), hd, .v (vS ls), .v (.int .i64 tl)]) := fun r => by rw [List.getElem?_append_left hpl]; exact hp
  have hI0 := fun σ => ACalls.arg1 (k_Is (l := []) (σ := σ)) (VLe.snil (sh := none) (f := false)).d
  rw [show isS [] = true from rfl] at hI0
  by_cases h0 : ls = []
  · subst h0
    refine acalls_fit Tryd.func53 (by kernel_rfl) c53 rfl (by simp [a53]) fun hf => ?_
    clear hf
    simp -implicitDefEqProofs (maxSteps := 2000000) (disch := omega) [-getElem?_pos, a53, gp]
    have hl0 : l = [] := List.length_eq_zero_iff.1 hll
    subst hl0
    have hd0 : hd = .v .snil ∨ ∃ o c, hd = .msl o 0 0 (some 5) (some c) := by
      rcases hh with ⟨h, _⟩ | ⟨o, c, _, h, _⟩
      · exact .inl h
      · exact .inr ⟨o, c, h⟩
    clear hh
    refine W_loop (α := Nat) 0 (fun i => i) (fun _ => ⟨[(0, .ptr p 0), (1, .ptr σ.objs.length 0), (2, .v (.bool false)), (3, .v (.sl none true [])), (15, .v (.int .i64 0)), (16, .v (.int .i64 0))], ⟨σ.objs ++ [.cells [.ptr p 0]], σ.toks⟩⟩) (fun i => True) (.eq (by simp)) trivial fun i _ => ?_
    simp -implicitDefEqProofs (maxSteps := 2000000) (disch := omega) [-getElem?_pos]
    refine (k_SortF0 (by simp)).then fun r hr => ?_
    subst hr
    rcases hd0 with rfl | ⟨o, c, rfl⟩
    · simp -implicitDefEqProofs (maxSteps := 2000000) (disch := omega) [-getElem?_pos, gp]
      refine W_loop (α := Nat) 0 (fun i => i) (fun _ => ⟨[(1, .ptr σ.objs.length 0), (36, .v (.sl none true [])), (37, .v (.int .i64 0)), (38, .v (.int .i64 0))], ⟨σ.objs.set p (.cells [.v (.int .i64 k), .v (.int .i64 n), .v .snil, .v .snil, .v (.int .i64 tl)]) ++ [.cells [.ptr p 0], .cells [.v (.int .i64 k), .v (.int .i64 n), .v .snil, .v (vS []), .v (.int .i64 tl)]], σ.toks⟩⟩)
        (fun i => True) (.eq (by simp)) trivial fun i _ => ?_
      simp -implicitDefEqProofs (maxSteps := 2000000) (disch := omega) [-getElem?_pos, hpl]
      refine (hI0 _).then fun r hr => ?_
      subst hr
      simp -implicitDefEqProofs (maxSteps := 2000000) (disch := omega) [-getElem?_pos]
      exact .finS _ ⟨σ.objs.set p (.cells [.v (.int .i64 k), .v (.int .i64 n), .v .snil, .v .snil, .v (.int .i64 tl)]), σ.toks⟩ ⟨rfl, .inl ⟨rfl, rfl, rfl⟩⟩ (.refl _) (low_set (by simp)) (by simp) (by simp) (by simp) (by simp) (by simp)
    · simp -implicitDefEqProofs (maxSteps := 2000000) (disch := omega) [-getElem?_pos, gp]
      refine W_loop (α := Nat) 0 (fun i => i) (fun _ => ⟨[(1, .ptr σ.objs.length 0), (36, .v (.sl none true [])), (37, .v (.int .i64 0)), (38, .v (.int .i64 0))], ⟨σ.objs.set p (.cells [.v (.int .i64 k), .v (.int .i64 n), .v .snil, .v .snil, .v (.int .i64 tl)]) ++ [.cells [.ptr p 0], .cells [.v (.int .i64 k), .v (.int .i64 n), .msl o 0 0 (some 5) (some c), .v (vS []), .v (.int .i64 tl)]], σ.toks⟩⟩)
        (fun i => True) (.eq (by simp)) trivial fun i _ => ?_
      simp -implicitDefEqProofs (maxSteps := 2000000) (disch := omega) [-getElem?_pos, hpl]
      refine (hI0 _).then fun r hr => ?_
      subst hr
      simp -implicitDefEqProofs (maxSteps := 2000000) (disch := omega) [-getElem?_pos]
      exact .finS _ ⟨σ.objs.set p (.cells [.v (.int .i64 k), .v (.int .i64 n), .v .snil, .v .snil, .v (.int .i64 tl)]), σ.toks⟩ ⟨rfl, .inl ⟨rfl, rfl, rfl⟩⟩ (.refl _) (low_set (by simp)) (by simp) (by simp) (by simp) (by simp) (by simp)
  · have hpos : 0 < ls.length := List.length_pos_iff.2 h0
    have hn0 : ¬ ls.length = 0 := by omega
    refine acalls_fit Tryd.func53 (by kernel_rfl) c53 rfl (by simp [a53]) fun hf => ?_
    clear hf
    simp -implicitDefEqProofs (maxSteps := 2000000) (disch := omega) [-getElem?_pos, a53, gp, hn0]
    rw [zeros_fI]
    refine ⟨by omega, ?_⟩
    refine W_loop (α := Nat) 0 (fun i => ls.length - i) (fun i => ⟨[(0, .ptr p 0), (1, .ptr σ.objs.length 0), (2, .v (.bool false)), (3, .msl (σ.objs.length + 1) 0 ls.length none (some ls.length)), (15, .v (.int .i64 ls.length)), (16, .v (.int .i64 i))], ⟨σ.objs ++ [.cells [.ptr p 0], .cells (fI ls.length i)], σ.toks⟩⟩)
      (fun i => i ≤ ls.length) (.eq2 rfl (by simp)) (by omega) fun i hi => ?_
    have hfl := fI_len ls.length i
    simp -implicitDefEqProofs (maxSteps := 2000000) (disch := omega) [-getElem?_pos]
    refine .mk (fun h => ?_) fun h => ?_
    · simp -implicitDefEqProofs (maxSteps := 2000000) (disch := omega) [-getElem?_pos, h, hfl]
      exact ⟨by omega, i + 1, by omega, by show ls.length - (i + 1) < ls.length - i; omega, .eq2 (by rw [fI_step2 h]) (by simp)⟩
    · have hil : i = ls.length := by omega
      subst hil
      rw [fI_all]
      obtain ⟨o, c, rest, rfl, hop, hob⟩ : ∃ o c rest, hd = .msl o 0 l.length (some 5) (some c) ∧ o ≠ p ∧ σ.objs[o]? = some (.cells (cellsL (l.map encT) ++ rest)) := by
        rcases hh with ⟨_, h⟩ | h
        · rw [h] at hll; simp at hll; omega
        · exact h
      have go : ∀ X r, (σ.objs.set p X ++ r)[o]? = some (.cells (cellsL (l.map encT) ++ rest)) := fun X r => by
        rw [List.getElem?_append_left (by rw [List.length_set]; exact (List.getElem?_eq_some_iff.1 hob).1), List.getElem?_set_ne (Ne.symm hop)]
        exact hob
      have hS : Srt (.fn 59 [.ptr σ.objs.length 0]) ls.length (σ.objs.length + 1) [] ⟨σ.objs ++ [.cells [.ptr p 0], .cells (cI ls.length)], σ.toks⟩ :=
        ⟨by simp, fun x y r hx hy => by
          rw [WCall_caps]
          exact k_Sorted1 (p := p) (by dsimp only; rw [List.append_assoc]; exact gp _) (by simp) hs hx hy, by simp⟩
      simp -implicitDefEqProofs (maxSteps := 2000000) (disch := omega) [-getElem?_pos, gp]
      refine (k_SortF hS hle hpos).then fun r hr => ?_
      subst hr
      simp -implicitDefEqProofs (maxSteps := 2000000) (disch := omega) [-getElem?_pos, gp]
      refine W_loop (α := Nat) 0 (fun i => ls.length - i) (fun i => ⟨[(1, .ptr σ.objs.length 0), (5, .ptr (σ.objs.length + 2) 0), (36, .msl (σ.objs.length + 1) 0 ls.length none (some ls.length)), (37, .v (.int .i64 ls.length)), (38, .v (.int .i64 i))],
          ⟨σ.objs.set p (.cells [.v (.int .i64 k), .v (.int .i64 n), .tsl σ.toks.length (some 5) (encI l i), .tsl (σ.toks.length + 1) none ((ls.take i).map .str), .v (.int .i64 tl)]) ++ [.cells [.ptr p 0], .cells (cI ls.length), .cells [.v (.int .i64 k), .v (.int .i64 n), .msl o 0 l.length (some 5) (some c), .v (vS ls), .v (.int .i64 tl)]], σ.toks ++ [i, i]⟩⟩)
        (fun i => i ≤ ls.length) (.trans (b := ⟨[(1, .ptr σ.objs.length 0), (5, .ptr (σ.objs.length + 2) 0), (36, .msl (σ.objs.length + 1) 0 ls.length none (some ls.length)), (37, .v (.int .i64 ls.length)), (38, .v (.int .i64 0))], _⟩) (.tokE p 2 (some 5) _ (get_app_set hpl) rfl rfl (by simp)) (.tokE p 3 none _ (by simp [hpl]; rfl) rfl (by simp [hpl, encI_zero]) (by simp))) (by omega) fun i hi => ?_
      have htl := encI_len (l := l) (i := i) (by omega)
      have hts : ((ls.take i).map V.str).length = i := by simp; omega
      simp -implicitDefEqProofs (maxSteps := 2000000) (disch := omega) [-getElem?_pos]
      refine .mk (fun h => ?_) fun h => ?_
      · have hgi := cI_get (rest := []) h
        rw [List.append_nil] at hgi
        have hx := List.getElem?_eq_getElem h
        obtain ⟨y, hy⟩ : ∃ y, l[i]? = some y := ⟨_, List.getElem?_eq_getElem (by omega)⟩
        generalize ls[i] = s at *
        have hcl := cellsL_len (xs := l.map encT) (fun x hx => by obtain ⟨y, _, rfl⟩ := List.mem_map.1 hx; exact encT_shape y)
        rw [List.length_map] at hcl
        have hcy := cells_at (rest := rest) hy
        have hyn := encI_step hy
        have hxn : (ls.take i).map V.str ++ [.str s] = (ls.take (i + 1)).map .str := by rw [List.take_add_one, hx]; simp
        rw [List.map_take, List.map_take] at hxn
        obtain ⟨k2, n2, l2, ls2, tl2⟩ := y
        rw [encT_mk] at hcy hyn
        simp only [V.cells, List.map_cons, List.map_nil] at hcy
        simp -implicitDefEqProofs (maxSteps := 2000000) (disch := omega) [-getElem?_pos, hgi, h, hx, hpl, go, hcy, htl, hts]
        exact ⟨by omega, by rw [hcl]; omega, by omega, by omega, i + 1, by omega, by show ls.length - (i + 1) < ls.length - i; omega, .eq2 (by rw [hyn, hxn]) (by simp)⟩
      · have hil : i = ls.length := by omega
        subst hil
        have hI := fun t σ => ACalls.arg1 (k_Is (l := ls) (σ := σ)) (D.Le.tsl (t := t))
        rw [hs] at hI
        have ht0 : List.take ls.length (ls.map V.str) = ls.map .str := List.take_of_length_le (by simp)
        have he0 : encI l ls.length = l.map encT := encI_all (by omega)
        simp -implicitDefEqProofs (maxSteps := 2000000) (disch := omega) [-getElem?_pos, ht0, he0]
        refine (hI _ _).then fun r hr => ?_
        subst hr
        simp -implicitDefEqProofs (maxSteps := 2000000) (disch := omega) [-getElem?_pos]
        exact .finS _ ⟨σ.objs.set p (.cells [.v (.int .i64 k), .v (.int .i64 n), .tsl σ.toks.length (some 5) (l.map encT), .tsl (σ.toks.length + 1) none (ls.map .str), .v (.int .i64 tl)]), σ.toks ++ [ls.length, ls.length]⟩ ⟨rfl, .inr rfl⟩ (.refl _) (low_set (by simp)) (by simp) (by simp) (by simp) (by simp) (by simp)
end Go.Proofs.YtkpnhcccocaakaaDoor
