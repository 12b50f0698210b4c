/-
  Layer 9: the sort of labels. (Own work.)
-/
import Derived.Test.YtppdghfpbliaeaaB3
import Derived.Test.YtppdghfpbliaeaaShelf
import Derived.Test.YtppdghfpbliaeaaF2
import Derived.Sort.OwnSorted
set_option linter.unusedVariables false
set_option linter.unusedSimpArgs false
namespace Go.Proofs.Ytppdghfpbliaeaa
open Go Go.Abs Go.Sort

def sortS (l : List Str) : List Str := l.mergeSort fun x y => decide (x ≤ y)
theorem sortS_len (l : List Str) : (sortS l).length = l.length := by simp [sortS]

theorem k_Sort {l : List Str} {c o : Nat} {rest : List D} {σ : Sg} (ho : σ.objs[o]? = some (vO l rest)) (hne : l ≠ []) (hl : l.length ≤ 1000000) :
    ACalls Try.prog 46 [.msl o 0 l.length none (some c)] σ fun r σ' => r = .tup [] ∧ σ' = ⟨σ.objs.set o (vO (sortS l) rest), σ.toks⟩ := by
  refine ⟨⟨_, Try.func46, by kernel_rfl, by kernel_rfl⟩, fun m w us hI hlen hr => ?_⟩
  obtain ⟨u, rfl⟩ : ∃ u, us = [u] := by
    match us, hlen with
    | [u], _ => exact ⟨u, rfl⟩
  have hpos : 0 < l.length := List.length_pos_iff.2 hne
  have h0 := hr 0 _ u rfl rfl
  cases h0 with
  | msl _ _ _ _ _ aa cap hol hbb hlc hcm hcc =>
  rcases hbb with ⟨b, rfl, hb⟩ | ⟨h0, _⟩
  · have hb := hI.live ho (by intro e; cases l with | nil => exact hne rfl | cons a l => simp at e) hb
    obtain ⟨us, ty, hh, hsz, hob, hone⟩ := hI.ob o _ b ho hb
    simp only [List.length_append, List.length_map] at hsz
    have hmem : b ∈ m.objb := Gh.mem_objb.2 (List.mem_of_getElem? hb)
    have htake : us.toList.take l.length = l.map encStr := by
      apply List.ext_getElem?
      intro j
      by_cases hj : j < l.length
      · have hju : j < us.size := by omega
        have h1 : (l.map (D.v ∘ V.str) ++ rest)[j]? = some (.v (.str l[j])) := by rw [get_vec hj, List.getElem?_eq_getElem hj]; rfl
        have h2 := (hob j _ us[j] h1 (Array.getElem?_eq_getElem hju)).1.str_inv
        rw [List.getElem?_take_of_lt hj, List.getElem?_map, List.getElem?_eq_getElem hj]
        simp [hju, h2, encStr]
      · rw [List.getElem?_eq_none (by simp; omega), List.getElem?_eq_none (by simp; omega)]
    have hH := holds_of_block (ss := l) hh htake
    refine (Go.Proofs.Any.slices_Sort_string sortLays b 0 cap l w hH (Array.getElem?_eq_some_iff.1 hh).1 (by omega)).mono fun e w' ⟨he, n, os, hw'⟩ => ?_
    subst hw'
    have hg := grownBy_sorted (w := w) (g := b) (n := n) (os := os) (sortS l).toArray
    have hheap := heap_sorted (n := n) (os := os) (sortS l).toArray hh
    obtain ⟨g1, g2, g3, g4, g5⟩ := hg
    have old : ∀ k, k < w.heap.size → k ≠ b → (grow (putRow encStr (Sort.ahead w n) b 0 (sortS l).toArray) os).heap[k]? = w.heap[k]? := fun k hk hne => g5 k hk (by simpa using hne)
    have hX : Ext m w m (grow (putRow encStr (Sort.ahead w n) b 0 (sortS l).toArray) os) := .turned hmem (by assumption) (by assumption) (by assumption) g4 old
    have hmemS : ∀ s ∈ sortS l, s.length ≤ maxLen := by
      intro s hs
      have hs' : s ∈ l := (List.mergeSort_perm l _).mem_iff.1 hs
      obtain ⟨j, hj⟩ := List.mem_iff_getElem?.1 hs'
      have hjl := (List.getElem?_eq_some_iff.1 hj).1
      have hju : j < us.size := by omega
      have h1 : (l.map (D.v ∘ V.str) ++ rest)[j]? = some (.v (.str s)) := by rw [get_vec hjl, hj]; rfl
      exact (hob j _ us[j] h1 (Array.getElem?_eq_getElem hju)).1.str_r
    have hpc : ∀ (i : Nat) u, (putCells encStr 0 (sortS l).toArray us)[i]? = some u → (∃ s, (sortS l)[i]? = some s ∧ u = encStr s) ∨ (l.length ≤ i ∧ us[i]? = some u) := by
      intro i u hu
      simp only [putCells, Array.getElem?_mapIdx] at hu
      cases hui : us[i]? with
      | none => rw [hui] at hu; cases hu
      | some y =>
        rw [hui] at hu
        simp only [Option.map_some, Option.some.injEq, Nat.zero_le, true_and, Nat.zero_add, List.size_toArray, sortS_len, Nat.sub_zero] at hu
        by_cases hil : i < l.length
        · left
          rw [if_pos hil] at hu
          have hs : i < (sortS l).length := by rw [sortS_len]; exact hil
          refine ⟨(sortS l)[i], List.getElem?_eq_getElem hs, ?_⟩
          rw [← hu]
          simp [hs]
        · right
          rw [if_neg hil] at hu
          exact ⟨by omega, by rw [hu]⟩
    have hI' := hI.turned hb hX old (vO (sortS l) rest) ⟨_, ty, hheap, by simp [putCells, sortS_len]; omega, fun i d u hd hu => ⟨?_, ?_⟩, trivial⟩
    · exact ⟨_, _, _, m, he, ⟨rfl, rfl⟩, hI', hX, .tup [] [] rfl (by simp)⟩
    · rcases hpc i u hu with ⟨s, hs, rfl⟩ | ⟨h1, h2⟩
      · have hil : i < (sortS l).length := (List.getElem?_eq_some_iff.1 hs).1
        rw [get_vec hil, hs] at hd
        cases hd
        exact .v _ _ (.str s (hmemS s (List.mem_of_getElem? hs)))
      · have hd' : (l.map (D.v ∘ V.str) ++ rest)[i]? = some d := by
          rw [List.getElem?_append_right (by simp [sortS_len]; omega)] at hd
          rw [List.getElem?_append_right (by simp; omega)]
          simpa [sortS_len] using hd
        exact (hob i d u hd' h2).1.mono hX
    · rcases hpc i u hu with ⟨s, hs, rfl⟩ | ⟨h1, h2⟩
      · rfl
      · have hd' : (l.map (D.v ∘ V.str) ++ rest)[i]? = some d := by
          rw [List.getElem?_append_right (by simp [sortS_len]; omega)] at hd
          rw [List.getElem?_append_right (by simp; omega)]
          simpa [sortS_len] using hd
        exact (hob i d u hd' h2).2
  · omega

theorem k_Ins0 {σ : Sg} : ACalls Try.prog 71 [.v (.sl none true []), .v (.int .i64 0), .v (.int .i64 0)] σ fun r σ' => r = .tup [] ∧ σ' = σ := by
  refine acalls_fit Try.func71 (by kernel_rfl) c71 rfl (by simp [a71]) fun hf => ?_
  clear hf
  simp -implicitDefEqProofs (maxSteps := 2000000) (disch := omega) [-getElem?_pos, a71]
  refine W_loop (α := Nat) 0 (fun i => i) (fun i => ⟨[(2, .v (.int .i64 0)), (6, .v (.int .i64 1))], σ⟩) (fun i => True) (.eq (by simp)) trivial fun i _ => ?_
  simp -implicitDefEqProofs (maxSteps := 2000000) (disch := omega) [-getElem?_pos]
  exact .fin _ ⟨rfl, rfl⟩ (.refl _)
theorem k_Pdq0 {n : Int} {σ : Sg} : ACalls Try.prog 60 [.v (.sl none true []), .v (.int .i64 0), .v (.int .i64 0), .v (.int .i64 n)] σ fun r σ' => r = .tup [] ∧ σ' = σ := by
  refine acalls_fit Try.func60 (by kernel_rfl) c60 rfl (by simp [a60]) fun hf => ?_
  clear hf
  simp -implicitDefEqProofs (maxSteps := 2000000) (disch := omega) [-getElem?_pos, a60]
  refine W_loop (α := Nat) 0 (fun i => i) (fun i => ⟨[(0, .v (.sl none true [])), (1, .v (.int .i64 0)), (2, .v (.int .i64 0))], σ⟩) (fun i => True) (.eq (by simp)) trivial fun i _ => ?_
  simp -implicitDefEqProofs (maxSteps := 2000000) (disch := omega) [-getElem?_pos]
  refine k_Ins0.then fun r hr => ?_
  subst hr
  simp -implicitDefEqProofs (maxSteps := 2000000) (disch := omega) [-getElem?_pos]
  exact .fin _ ⟨rfl, rfl⟩ (.refl _)
set_option maxRecDepth 10000 in
theorem k_Len64 {σ : Sg} : ACalls Try.prog 80 [.v (.int .u64 0)] σ fun r σ' => r = .v (.int .i64 0) ∧ σ' = σ := by
  refine acalls_fit Try.func80 (by kernel_rfl) c80 rfl (by simp [a80]) fun hf => ?_
  clear hf
  simp -implicitDefEqProofs (maxSteps := 2000000) (disch := omega) [-getElem?_pos, a80]
  exact .fin _ ⟨rfl, rfl⟩ (.refl _)
theorem k_Len {σ : Sg} : ACalls Try.prog 61 [.v (.int .u64 0)] σ fun r σ' => r = .v (.int .i64 0) ∧ σ' = σ := by
  refine acalls_fit Try.func61 (by kernel_rfl) c61 rfl (by simp [a61]) fun hf => ?_
  clear hf
  simp -implicitDefEqProofs (maxSteps := 2000000) (disch := omega) [-getElem?_pos, a61]
  refine k_Len64.then fun r hr => ?_
  subst hr
  simp -implicitDefEqProofs (maxSteps := 2000000) (disch := omega) [-getElem?_pos]
  exact .fin _ ⟨rfl, rfl⟩ (.refl _)
theorem k_Sort0 {σ : Sg} : ACalls Try.prog 46 [.v (.sl none true [])] σ fun r σ' => r = .tup [] ∧ σ' = σ := by
  refine acalls_fit Try.func46 (by kernel_rfl) c46 rfl (by simp [a46]) fun hf => ?_
  clear hf
  simp -implicitDefEqProofs (maxSteps := 2000000) (disch := omega) [-getElem?_pos, a46]
  refine k_Len.then fun r hr => ?_
  subst hr
  simp -implicitDefEqProofs (maxSteps := 2000000) (disch := omega) [-getElem?_pos]
  refine k_Pdq0.then fun r hr => ?_
  subst hr
  simp -implicitDefEqProofs (maxSteps := 2000000) (disch := omega) [-getElem?_pos]
  exact .fin _ ⟨rfl, rfl⟩ (.refl _)

/-- A set of labels. -/
def setS (l : List Str) : List Str := cmp (sortS l)
theorem setS_nil : setS [] = [] := by simp [setS, sortS, cmp, cmpN]
theorem k_Of0 {f : Bool} {σ : Sg} : ACalls Try.prog 22 [.v (.sl none f [])] σ fun r σ' => r = .v (vS []) ∧ σ' = σ := by
  refine acalls_fit Try.func22 (by kernel_rfl) c22 rfl (by simp [a22]) fun hf => ?_
  clear hf
  simp -implicitDefEqProofs (maxSteps := 2000000) (disch := omega) [-getElem?_pos, a22]
  refine k_CloneM0.then fun r hr => ?_
  subst hr
  simp -implicitDefEqProofs (maxSteps := 2000000) (disch := omega) [-getElem?_pos]
  refine k_Sort0.then fun r hr => ?_
  subst hr
  simp -implicitDefEqProofs (maxSteps := 2000000) (disch := omega) [-getElem?_pos]
  refine k_Compact0.then fun r hr => ?_
  subst hr
  simp -implicitDefEqProofs (maxSteps := 2000000) (disch := omega) [-getElem?_pos]
  exact .fin _ ⟨rfl, rfl⟩ (.refl _)
theorem k_Of {l : List Str} {f : Bool} {σ : Sg} (hl : l.length ≤ 1000000) : ACalls Try.prog 22 [.v (.sl none f (l.map .str))] σ fun r σ' => r = .v (vS (setS l)) ∧ σ' = σ := by
  by_cases hne : l = []
  · subst hne
    simpa [setS_nil] using k_Of0 (f := f) (σ := σ)
  refine acalls_fit Try.func22 (by kernel_rfl) c22 rfl (by simp [a22]) fun hf => ?_
  clear hf
  simp -implicitDefEqProofs (maxSteps := 2000000) (disch := omega) [-getElem?_pos, a22]
  refine (k_CloneM hne hl).mono fun r σ' h => ?_
  obtain ⟨c, rest, hc, rfl, rfl⟩ := h
  simp -implicitDefEqProofs (maxSteps := 2000000) (disch := omega) [-getElem?_pos]
  have hsne : sortS l ≠ [] := fun e => hne (List.length_eq_zero_iff.1 (by rw [← sortS_len, e]; rfl))
  refine (k_Sort (l := l) (rest := rest) (by simp) hne hl).mono fun r σ' h => ?_
  obtain ⟨rfl, rfl⟩ := h
  simp -implicitDefEqProofs (maxSteps := 2000000) (disch := omega) [-getElem?_pos]
  rw [← sortS_len l]
  refine (k_Compact (l := sortS l) (rest := rest) (by simp) (by rw [sortS_len]; exact hc) (by rw [sortS_len]; exact hl)).mono fun r σ' h => ?_
  obtain ⟨rest', hlen, rfl, rfl⟩ := h
  have hpos : 0 < (sortS l).length := List.length_pos_iff.2 hsne
  simp -implicitDefEqProofs (maxSteps := 2000000) (disch := omega) [-getElem?_pos]

  exact .freeze ((cmp (sortS l)).map .str) _ ⟨rfl, rfl⟩ (by simp; rfl) (by intro e; have := congrArg List.length e; simp only [List.length_append, List.length_map, List.length_nil] at this; omega) (by simp) (by simp) (by intro x hx; obtain ⟨s, _, rfl⟩ := List.mem_map.1 hx; rfl)

theorem k_CloneMM {l : List Str} {c o : Nat} {rest : List D} {σ : Sg} (ho : σ.objs[o]? = some (vO l rest)) (hne : l ≠ []) (hl : l.length ≤ 1000000) : ACalls Try.prog 45 [.msl o 0 l.length none (some c)] σ fun r σ' => ∃ c rest, l.length ≤ c ∧ r = .msl σ.objs.length 0 l.length none (some c) ∧ σ' = ⟨σ.objs ++ [vO l rest], σ.toks⟩ := by
  have hpos : 0 < l.length := List.length_pos_iff.2 hne
  have hl0 : ¬ l.length = 0 := by omega
  have htk : List.take l.length (l.map (D.v ∘ V.str) ++ rest) = (l.map V.str).map D.v := by
    rw [List.take_append_of_le_length (by simp), List.take_of_length_le (by simp), List.map_map]
  refine acalls_fit Try.func45 (by kernel_rfl) c45m rfl (by simp [a45m]) fun hf => ?_
  clear hf
  simp -implicitDefEqProofs (maxSteps := 2000000) (disch := omega) [-getElem?_pos, a45m, ho, hne, hl0, htk, -List.map_map]
  rw [List.map_map]
  exact ⟨by omega, fun c hc hm => ⟨_, _, WeakR.refl _ _ _, c, hc, rfl, _, rfl⟩⟩
theorem k_OfM {l : List Str} {c o : Nat} {rest : List D} {σ : Sg} (ho : σ.objs[o]? = some (vO l rest)) (hne : l ≠ []) (hl : l.length ≤ 1000000) : ACalls Try.prog 22 [.msl o 0 l.length none (some c)] σ fun r σ' => r = .v (vS (setS l)) ∧ σ' = σ := by
  refine acalls_fit Try.func22 (by kernel_rfl) c22 rfl (by simp [a22]) fun hf => ?_
  clear hf
  simp -implicitDefEqProofs (maxSteps := 2000000) (disch := omega) [-getElem?_pos, a22]
  refine (k_CloneMM ho hne hl).mono fun r σ' h => ?_
  obtain ⟨c, rest, hc, rfl, rfl⟩ := h
  simp -implicitDefEqProofs (maxSteps := 2000000) (disch := omega) [-getElem?_pos]
  have hsne : sortS l ≠ [] := fun e => hne (List.length_eq_zero_iff.1 (by rw [← sortS_len, e]; rfl))
  refine (k_Sort (l := l) (rest := rest) (by simp) hne hl).mono fun r σ' h => ?_
  obtain ⟨rfl, rfl⟩ := h
  simp -implicitDefEqProofs (maxSteps := 2000000) (disch := omega) [-getElem?_pos]
  rw [← sortS_len l]
  refine (k_Compact (l := sortS l) (rest := rest) (by simp) (by rw [sortS_len]; exact hc) (by rw [sortS_len]; exact hl)).mono fun r σ' h => ?_
  obtain ⟨rest', hlen, rfl, rfl⟩ := h
  have hpos : 0 < (sortS l).length := List.length_pos_iff.2 hsne
  simp -implicitDefEqProofs (maxSteps := 2000000) (disch := omega) [-getElem?_pos]

  exact .freeze ((cmp (sortS l)).map .str) _ ⟨rfl, rfl⟩ (by simp; rfl) (by intro e; have := congrArg List.length e; simp only [List.length_append, List.length_map, List.length_nil] at this; omega) (by simp) (by simp) (by intro x hx; obtain ⟨s, _, rfl⟩ := List.mem_map.1 hx; rfl)

theorem k_Join {a b : List Str} {σ : Sg} (ha : a.length ≤ 400000) (hb : b.length ≤ 400000) : ACalls Try.prog 26 [.v (vS a), .v (vS b)] σ fun r σ' => r = .v (vS (setS (a ++ b))) ∧ σ' = σ := by
  have hcat : cat [a, b] = a ++ b := by simp [cat]
  refine acalls_fit Try.func26 (by kernel_rfl) c26 rfl (by simp [a26]) fun hf => ?_
  clear hf
  simp -implicitDefEqProofs (maxSteps := 2000000) (disch := omega) [-getElem?_pos, a26]
  have e : ([vS a, vS b] : List V) = [a, b].map vS := rfl
  rw [e]
  by_cases hne : a ++ b = []
  · refine (k_Concat0 (L := [a, b]) (by rw [hcat]; exact hne) (by simp)).then fun r hr => ?_
    subst hr
    simp -implicitDefEqProofs (maxSteps := 2000000) (disch := omega) [-getElem?_pos]
    have h0 := k_Of0 (f := true) (σ := σ)
    rw [hne]
    refine h0.then fun r hr => ?_
    subst hr
    simp -implicitDefEqProofs (maxSteps := 2000000) (disch := omega) [-getElem?_pos]
    exact .fin _ ⟨by rw [setS_nil], rfl⟩ (.refl _)
  · refine (k_Concat (L := [a, b]) (by rw [hcat]; exact hne) (by rw [hcat]; simp; omega) (by simp)).mono fun r σ' h => ?_
    obtain ⟨c, rest, hc, rfl, rfl⟩ := h
    rw [hcat]
    simp -implicitDefEqProofs (maxSteps := 2000000) (disch := omega) [-getElem?_pos]
    rw [← List.length_append]
    refine (k_OfM (l := a ++ b) (rest := rest) (by simp) hne (by simp; omega)).then fun r hr => ?_
    subst hr
    simp -implicitDefEqProofs (maxSteps := 2000000) (disch := omega) [-getElem?_pos]
    exact .fin _ ⟨rfl, rfl⟩ (.refl _)

theorem k_Less1 {b : List Str} {s : Str} {o : Nat} {σ : Sg} (hs : sorted b) (hl : b.length ≤ 1000000) (ho : σ.objs[o]? = some (.cells [.v (vS b)])) : ACalls Try.prog 52 [.v (.str s), .ptr o 0] σ fun r σ' => r = .v (.bool (decide (b[at0 b s]? = some s))) ∧ σ' = σ := by
  refine acalls_fit Try.func52 (by kernel_rfl) c52 rfl (by simp [a52]) fun hf => ?_
  clear hf
  simp -implicitDefEqProofs (maxSteps := 2000000) (disch := omega) [-getElem?_pos, a52, ho]
  refine (k_Has hs hl).then fun r hr => ?_
  subst hr
  simp -implicitDefEqProofs (maxSteps := 2000000) (disch := omega) [-getElem?_pos]
  exact .fin _ ⟨rfl, rfl⟩ (.refl _)
theorem k_Meet1 {b : List Str} {s : Str} {o : Nat} {σ : Sg} (hs : sorted b) (hl : b.length ≤ 1000000) (ho : σ.objs[o]? = some (.cells [.v (vS b)])) : ACalls Try.prog 53 [.v (.str s), .ptr o 0] σ fun r σ' => r = .v (.bool (!decide (b[at0 b s]? = some s))) ∧ σ' = σ := by
  refine acalls_fit Try.func53 (by kernel_rfl) c53 rfl (by simp [a53]) fun hf => ?_
  clear hf
  simp -implicitDefEqProofs (maxSteps := 2000000) (disch := omega) [-getElem?_pos, a53, ho]
  refine (k_Has hs hl).then fun r hr => ?_
  subst hr
  simp -implicitDefEqProofs (maxSteps := 2000000) (disch := omega) [-getElem?_pos]
  exact .fin _ ⟨rfl, rfl⟩ (.refl _)

def hasS (b : List Str) (s : Str) : Bool := decide (b[at0 b s]? = some s)
theorem k_Less {a b : List Str} {σ : Sg} (hs : sorted b) (ha : a.length ≤ 1000000) (hb : b.length ≤ 1000000) : ACalls Try.prog 28 [.v (vS a), .v (vS b)] σ fun r σ' => r = .v (vS (a.filter fun s => !hasS b s)) ∧ σ' = σ := by
  refine acalls_fit Try.func28 (by kernel_rfl) c28 rfl (by simp [a28]) fun hf => ?_
  clear hf
  simp -implicitDefEqProofs (maxSteps := 2000000) (disch := omega) [-getElem?_pos, a28]
  by_cases hne : a = []
  · subst hne
    refine (k_CloneM0 (f := false)).then fun r hr => ?_
    subst hr
    simp -implicitDefEqProofs (maxSteps := 2000000) (disch := omega) [-getElem?_pos]
    refine k_DeleteFunc0.then fun r hr => ?_
    subst hr
    simp -implicitDefEqProofs (maxSteps := 2000000) (disch := omega) [-getElem?_pos]
    exact .fin _ ⟨rfl, rfl⟩ (.refl _)
  refine (k_CloneM hne ha).mono fun r σ' h => ?_
  obtain ⟨c, rest, hc, rfl, rfl⟩ := h
  simp -implicitDefEqProofs (maxSteps := 2000000) (disch := omega) [-getElem?_pos]
  refine (k_DeleteFunc (l := a) (rest := rest) (p := hasS b) (by simp) hc ha hne fun s _ ob => WCall_caps.symm ▸ k_Less1 (o := σ.objs.length) hs hb (by simp)).mono fun r σ' h => ?_
  obtain ⟨rest', hlen, rfl, rfl⟩ := h
  have hpos : 0 < a.length := List.length_pos_iff.2 hne
  simp -implicitDefEqProofs (maxSteps := 2000000) (disch := omega) [-getElem?_pos]
  exact .freeze ((a.filter fun s => !hasS b s).map .str) _ ⟨rfl, rfl⟩ (by simp; rfl) (by intro e; have := congrArg List.length e; simp only [List.length_append, List.length_map, List.length_nil] at this; omega) (by simp) (by simp) (by intro x hx; obtain ⟨s, _, rfl⟩ := List.mem_map.1 hx; rfl)
theorem k_Meet {a b : List Str} {σ : Sg} (hs : sorted b) (ha : a.length ≤ 1000000) (hb : b.length ≤ 1000000) : ACalls Try.prog 30 [.v (vS a), .v (vS b)] σ fun r σ' => r = .v (vS (a.filter fun s => hasS b s)) ∧ σ' = σ := by
  refine acalls_fit Try.func30 (by kernel_rfl) c30 rfl (by simp [a30]) fun hf => ?_
  clear hf
  simp -implicitDefEqProofs (maxSteps := 2000000) (disch := omega) [-getElem?_pos, a30]
  by_cases hne : a = []
  · subst hne
    refine (k_CloneM0 (f := false)).then fun r hr => ?_
    subst hr
    simp -implicitDefEqProofs (maxSteps := 2000000) (disch := omega) [-getElem?_pos]
    refine k_DeleteFunc0.then fun r hr => ?_
    subst hr
    simp -implicitDefEqProofs (maxSteps := 2000000) (disch := omega) [-getElem?_pos]
    exact .fin _ ⟨rfl, rfl⟩ (.refl _)
  refine (k_CloneM hne ha).mono fun r σ' h => ?_
  obtain ⟨c, rest, hc, rfl, rfl⟩ := h
  simp -implicitDefEqProofs (maxSteps := 2000000) (disch := omega) [-getElem?_pos]
  refine (k_DeleteFunc (l := a) (rest := rest) (p := fun s => !hasS b s) (by simp) hc ha hne fun s _ ob => WCall_caps.symm ▸ k_Meet1 (o := σ.objs.length) hs hb (by simp)).mono fun r σ' h => ?_
  have e : (a.filter fun s => !(!hasS b s)) = a.filter fun s => hasS b s := by simp
  rw [e] at h
  obtain ⟨rest', hlen, rfl, rfl⟩ := h
  have hpos : 0 < a.length := List.length_pos_iff.2 hne
  simp -implicitDefEqProofs (maxSteps := 2000000) (disch := omega) [-getElem?_pos]
  exact .freeze ((a.filter fun s => hasS b s).map .str) _ ⟨rfl, rfl⟩ (by simp; rfl) (by intro e; have := congrArg List.length e; simp only [List.length_append, List.length_map, List.length_nil] at this; omega) (by simp) (by simp) (by intro x hx; obtain ⟨s, _, rfl⟩ := List.mem_map.1 hx; rfl)
end Go.Proofs.Ytppdghfpbliaeaa
