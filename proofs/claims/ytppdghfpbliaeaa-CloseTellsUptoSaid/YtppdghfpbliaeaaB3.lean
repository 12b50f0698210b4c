/-
  Layer 9: slices that may be written to. (Own work.)
-/
import Derived.Test.YtppdghfpbliaeaaB2
set_option linter.unusedVariables false
set_option linter.unusedSimpArgs false
namespace Go.Proofs.Ytppdghfpbliaeaa
open Go Go.Abs

@[reducible] def vO (l : List Str) (rest : List D) : Ob := .cells (l.map (D.v ∘ V.str) ++ rest)

theorem k_CloneM {l : List Str} {f : Bool} {σ : Sg} (hne : l ≠ []) (hl : l.length ≤ 1000000) : ACalls Try.prog 45 [.v (.sl none f (l.map .str))] σ fun r σ' => ∃ c rest, l.length ≤ c ∧ r = .msl σ.objs.length 0 l.length none (some c) ∧ σ' = ⟨σ.objs ++ [vO l rest], σ.toks⟩ := by
  refine acalls_fit Try.func45 (by kernel_rfl) c45m rfl (by simp [a45m]) fun hf => ?_
  clear hf
  simp -implicitDefEqProofs (maxSteps := 2000000) (disch := omega) [-getElem?_pos, a45m, hne]
  repeat refine ⟨by omega, ?_⟩
  intro c hc hm
  exact ⟨_, _, WeakR.refl _ _ _, c, hc, rfl, _, rfl⟩

structure DSt where
  j : Nat
  out : List Str

theorem k_IndexFuncM {l : List Str} {c o : Nat} {rest : List D} {fd : D} {p : Str → Bool} {σ : Sg} (ho : σ.objs[o]? = some (vO l rest)) (hl : l.length ≤ 1000000) (hp : ∀ s ∈ l, WCall Try.prog fd [.v (.str s)] σ fun r σ' => r = .v (.bool (p s)) ∧ σ' = σ) :
    ACalls Try.prog 67 [.msl o 0 l.length none (some c), fd] σ fun r σ' => r = .v (.int .i64 ((l.findIdx? p).elim (-1) fun i => (i : Int))) ∧ σ' = σ := by
  refine acalls_fit Try.func67 (by kernel_rfl) c67 rfl (by simp [a67]) fun hf => ?_
  clear hf
  simp -implicitDefEqProofs (maxSteps := 2000000) (disch := omega) [-getElem?_pos, a67]
  refine W_loop (α := Nat) 0 (fun i => l.length - i) (fun i => ⟨[(0, .msl o 0 l.length none (some c)), (1, fd), (7, .v (.int .i64 l.length)), (8, .v (.int .i64 i))], σ⟩) (fun i => i ≤ l.length ∧ l.findIdx? p = ((l.drop i).findIdx? p).map fun k => k + i)
    (.eq (by simp)) ⟨by omega, by simp⟩ fun i ⟨hi, he⟩ => ?_
  simp -implicitDefEqProofs (maxSteps := 2000000) (disch := omega) [-getElem?_pos]
  refine .mk (fun h => ?_) fun h => ?_
  · simp -implicitDefEqProofs (maxSteps := 2000000) (disch := omega) [-getElem?_pos, ho, WSome_vget]
    repeat refine ⟨by omega, ?_⟩
    intro x hx
    refine (hp x (List.mem_of_getElem? hx)).then fun r hr => ?_
    subst hr
    have hdc := drop_cons hx
    rw [hdc, List.findIdx?_cons] at he
    simp -implicitDefEqProofs (maxSteps := 2000000) (disch := omega) [-getElem?_pos]
    refine .mk (fun hq => ?_) fun hq => ?_
    · rw [if_pos hq] at he
      simp -implicitDefEqProofs (maxSteps := 2000000) (disch := omega) [-getElem?_pos]
      refine .fin _ ⟨?_, rfl⟩ (.refl _)
      rw [he]
      simp
    · rw [if_neg hq] at he
      simp -implicitDefEqProofs (maxSteps := 2000000) (disch := omega) [-getElem?_pos]
      refine ⟨i + 1, ⟨by omega, ?_⟩, by dsimp only; omega, .eq (by simp)⟩
      rw [he]
      simp only [Option.map_map]
      congr 1
      funext k
      simp only [Function.comp]
      omega
  · simp -implicitDefEqProofs (maxSteps := 2000000) (disch := omega) [-getElem?_pos]
    refine .fin _ ⟨?_, rfl⟩ (.refl _)
    rw [he, List.drop_eq_nil_of_le (by omega)]
    rfl

theorem set_next {l out : List Str} {j : Nat} {x : Str} (h : out.length ≤ j) (hj : l[j]? = some x) : (out ++ l.drop out.length).set out.length x = (out ++ [x]) ++ l.drop (out ++ [x]).length := by
  have hlt : out.length < l.length := Nat.lt_of_le_of_lt h (List.getElem?_eq_some_iff.1 hj).1
  rw [List.set_append_right _ _ (Nat.le_refl _), Nat.sub_self]
  simp
  rw [List.drop_eq_getElem_cons hlt]
  rfl
theorem cur_get {l out : List Str} {j : Nat} (h : out.length ≤ j) : (out ++ l.drop out.length)[j]? = l[j]? := by
  rw [List.getElem?_append_right h, List.getElem?_drop]
  congr 1
  omega
theorem cur_len {l out : List Str} (h : out.length ≤ l.length) : (out ++ l.drop out.length).length = l.length := by simp; omega

theorem k_DeleteFunc {l : List Str} {c o : Nat} {rest : List D} {fd : D} {p : Str → Bool} {σ : Sg} (ho : σ.objs[o]? = some (vO l rest)) (hc : l.length ≤ c) (hl : l.length ≤ 1000000) (hne : l ≠ [])
    (hp : ∀ s ∈ l, ∀ ob, WCall Try.prog fd [.v (.str s)] ⟨σ.objs.set o ob, σ.toks⟩ fun r σ' => r = .v (.bool (p s)) ∧ σ' = ⟨σ.objs.set o ob, σ.toks⟩) :
    ACalls Try.prog 51 [.msl o 0 l.length none (some c), fd] σ fun r σ' => ∃ rest', (l.filter fun s => !p s).length + rest'.length = l.length + rest.length ∧
      r = .msl o 0 (l.filter fun s => !p s).length none (some c) ∧ σ' = ⟨σ.objs.set o (vO (l.filter fun s => !p s) rest'), σ.toks⟩ := by
  have hol := (List.getElem?_eq_some_iff.1 ho).1
  have hset : (⟨σ.objs.set o (vO l rest), σ.toks⟩ : Sg) = σ := by
    obtain ⟨os, ts⟩ := σ
    dsimp only at ho ⊢
    congr 1
    obtain ⟨h1, h2⟩ := List.getElem?_eq_some_iff.1 ho
    rw [← h2, List.set_getElem_self]
  have hpos : 0 < l.length := List.length_pos_iff.2 hne
  refine acalls_fit Try.func51 (by kernel_rfl) c51 rfl (by simp [a51]) fun hf => ?_
  clear hf
  simp -implicitDefEqProofs (maxSteps := 2000000) (disch := omega) [-getElem?_pos, a51]
  refine (k_IndexFuncM (p := p) ho hl fun s hs => by have := hp s hs (vO l rest); rwa [hset] at this).then fun r hr => ?_
  subst hr
  cases hfi : l.findIdx? p with
  | none =>
    have hall : l.filter (fun s => !p s) = l := by
      rw [List.filter_eq_self]
      intro s hs
      simpa using List.findIdx?_eq_none_iff.1 hfi s hs
    simp -implicitDefEqProofs (maxSteps := 2000000) (disch := omega) [-getElem?_pos]
    exact ⟨_, _, WeakR.refl _ _ _, rest, by rw [hall], by rw [hall], by rw [hall, hset]⟩
  | some i0 =>
    obtain ⟨hi0, hpi, hpre⟩ := List.findIdx?_eq_some_iff_getElem.1 hfi
    have h0 : l.filter (fun s => !p s) = (l.take (i0 + 1)).filter (fun s => !p s) ++ (l.drop (i0 + 1)).filter (fun s => !p s) := by rw [← List.filter_append, List.take_append_drop]
    have h1 : (l.take (i0 + 1)).filter (fun s => !p s) = l.take i0 := by
      rw [List.take_add_one, List.getElem?_eq_getElem hi0, List.filter_append]
      have : (l.take i0).filter (fun s => !p s) = l.take i0 := by
        rw [List.filter_eq_self]
        intro s hs
        obtain ⟨k, hk⟩ := List.mem_iff_getElem?.1 hs
        have hkl := (List.getElem?_eq_some_iff.1 hk).1
        simp only [List.length_take] at hkl
        rw [List.getElem?_take_of_lt (by omega)] at hk
        have := hpre k (by omega)
        rw [(List.getElem?_eq_some_iff.1 hk).2] at this
        simpa using this
      rw [this]
      simp [hpi]
    have hcell : vO l rest = vO (l.take i0 ++ l.drop (l.take i0).length) rest := by
      have : (l.take i0).length = i0 := by simp; omega
      rw [this, List.take_append_drop]
    rw [← hset, hcell]
    simp -implicitDefEqProofs (maxSteps := 2000000) (disch := omega) [-getElem?_pos]
    refine W_loop (α := DSt) ⟨i0 + 1, l.take i0⟩ (fun x => l.length - x.j) (fun x => ⟨[(0, .msl o 0 l.length none (some c)), (1, fd), (5, .v (.int .i64 x.out.length)), (6, .v (.int .i64 x.j))], ⟨σ.objs.set o (vO (x.out ++ l.drop x.out.length) rest), σ.toks⟩⟩)
      (fun x => x.j ≤ l.length ∧ x.out.length < x.j ∧ (l.take x.j).filter (fun s => !p s) = x.out) (.eq2 (by dsimp only; rw [← hcell]) (by simp; omega)) ⟨by dsimp only; omega, by simp; omega, h1⟩ fun ⟨j, out⟩ ⟨hj, hoj, he⟩ => ?_
    dsimp only at hj hoj he ⊢
    have hcl := cur_len (l := l) (out := out) (by omega)
    generalize hcur : out ++ l.drop out.length = cur at hcl
    simp -implicitDefEqProofs (maxSteps := 2000000) (disch := omega) [-getElem?_pos]
    refine .mk (fun h => ?_) fun h => ?_
    · simp -implicitDefEqProofs (maxSteps := 2000000) (disch := omega) [-getElem?_pos, WSome_vget]
      repeat refine ⟨by omega, ?_⟩
      intro x hx
      have hxl : l[j]? = some x := by rw [← hcur, cur_get (by omega)] at hx; exact hx
      refine (hp x (List.mem_of_getElem? hxl) _).then fun r hr => ?_
      subst hr
      have ht : (l.take (j + 1)).filter (fun s => !p s) = out ++ if p x = true then [] else [x] := by
        rw [List.take_add_one, hxl, List.filter_append, he]
        cases hpx : p x <;> simp [hpx]
      simp -implicitDefEqProofs (maxSteps := 2000000) (disch := omega) [-getElem?_pos]
      refine .mk (fun hq => ?_) fun hq => ?_
      · rw [if_pos hq, List.append_nil] at ht
        simp -implicitDefEqProofs (maxSteps := 2000000) (disch := omega) [-getElem?_pos]
        exact ⟨⟨j + 1, out⟩, ⟨by dsimp only; omega, by dsimp only; omega, ht⟩, by dsimp only; omega, .eq2 (by simp [hcur]) (by simp)⟩
      · rw [if_neg hq] at ht
        simp -implicitDefEqProofs (maxSteps := 2000000) (disch := omega) [-getElem?_pos]
        refine ⟨by omega, by omega, ⟨j + 1, out ++ [x]⟩, ⟨by dsimp only; omega, by simp; omega, ht⟩, by dsimp only; omega, .eq2 ?_ (by simp)⟩
        have hpv := put_vec (f := D.v ∘ V.str) (l := cur) (rest := rest) (i := out.length) (x := x) (by omega)
        rw [← hcur, set_next (by omega) hxl, hcur] at hpv
        exact congrArg (fun z => Sg.mk (σ.objs.set o (.cells z)) σ.toks) hpv
    · have hfin : l.filter (fun s => !p s) = out := by rw [← he, List.take_of_length_le (by omega)]
      rw [hfin]
      simp -implicitDefEqProofs (maxSteps := 2000000) (disch := omega) [-getElem?_pos]
      have hcn : cur ≠ [] := by rintro rfl; simp at hcl; omega
      refine ⟨by omega, by omega, fun h => absurd h hcn, by omega, by omega, ?_⟩
      have htk : List.take out.length (cur.map (D.v ∘ V.str) ++ rest) = out.map (D.v ∘ V.str) := by
        rw [List.take_append_of_le_length (by simp; omega), ← List.map_take, ← hcur, List.take_left]
      rw [htk]
      refine ⟨_, _, WeakR.refl _ _ _, (List.map D.v (zerosV [V.str []] (l.length - out.length)) ++ List.drop (out.length + (zerosV [V.str []] (l.length - out.length)).length) (List.map (D.v ∘ V.str) cur ++ rest)), ?_, rfl, rfl⟩
      simp [zerosV]
      omega

/-- The first n, without those that are like the one ahead. -/
def cmpN (l : List Str) : Nat → List Str
  | 0 => []
  | n + 1 => cmpN l n ++ (match l[n]? with
    | none => []
    | some x => if n ≠ 0 ∧ l[n - 1]? = some x then [] else [x])
theorem cmpN_len (l : List Str) : ∀ n, (cmpN l n).length ≤ n
  | 0 => Nat.le_refl _
  | n + 1 => by
    have := cmpN_len l n
    simp only [cmpN, List.length_append]
    split
    · simp; omega
    · split <;> simp <;> omega
theorem cmpN_step {l : List Str} {n : Nat} {x y : Str} (hx : l[n]? = some x) (hy : l[n + 1]? = some y) : cmpN l (n + 2) = cmpN l (n + 1) ++ if y = x then [] else [y] := by
  show cmpN l (n + 1 + 1) = _
  rw [cmpN, hy]
  simp only [Nat.add_sub_cancel, hx]
  by_cases h : y = x
  · subst h; simp
  · simp [h, Ne.symm h]
theorem cmpN_pre {l : List Str} {k : Nat} (h : ∀ (i : Nat) x y, i + 1 < k → l[i]? = some x → l[i + 1]? = some y → y ≠ x) (hk : k ≤ l.length) : cmpN l k = l.take k := by
  induction k with
  | zero => simp [cmpN]
  | succ n ih =>
    have h1 := ih (fun i x y hi => h i x y (by omega)) (by omega)
    have hn : l[n]? = some l[n] := List.getElem?_eq_getElem (by omega)
    rw [cmpN, h1, hn, List.take_add_one, hn]
    dsimp only
    rw [if_neg]
    · rfl
    · rintro ⟨h0, h2⟩
      obtain ⟨m, rfl⟩ : ∃ m, n = m + 1 := ⟨n - 1, by omega⟩
      exact h m _ _ (by omega) h2 hn rfl
def cmp (l : List Str) : List Str := cmpN l l.length

theorem take_drop_len {α : Type} {l : List α} {n : Nat} (h : (l.take n).length = n) : l.take n ++ l.drop (l.take n).length = l := by rw [h, List.take_append_drop]
theorem k_Compact {l : List Str} {c o : Nat} {rest : List D} {σ : Sg} (ho : σ.objs[o]? = some (vO l rest)) (hc : l.length ≤ c) (hl : l.length ≤ 1000000) :
    ACalls Try.prog 47 [.msl o 0 l.length none (some c)] σ fun r σ' => ∃ rest', (cmp l).length + rest'.length = l.length + rest.length ∧
      r = .msl o 0 (cmp l).length none (some c) ∧ σ' = ⟨σ.objs.set o (vO (cmp l) rest'), σ.toks⟩ := by
  have hol := (List.getElem?_eq_some_iff.1 ho).1
  have hset : (⟨σ.objs.set o (vO l rest), σ.toks⟩ : Sg) = σ := by
    obtain ⟨os, ts⟩ := σ
    dsimp only at ho ⊢
    congr 1
    obtain ⟨h1, h2⟩ := List.getElem?_eq_some_iff.1 ho
    rw [← h2, List.set_getElem_self]
  have same : cmp l = l → ∃ r' σ', WeakR σ (.msl o 0 l.length none (some c)) σ r' σ' ∧ ∃ rest', (cmp l).length + rest'.length = l.length + rest.length ∧ r' = .msl o 0 (cmp l).length none (some c) ∧ σ' = ⟨σ.objs.set o (vO (cmp l) rest'), σ.toks⟩ := by
    intro h
    exact ⟨_, _, WeakR.refl _ _ _, rest, by rw [h], by rw [h], by rw [h, hset]⟩
  refine acalls_fit Try.func47 (by kernel_rfl) c47 rfl (by simp [a47]) fun hf => ?_
  clear hf
  simp -implicitDefEqProofs (maxSteps := 2000000) (disch := omega) [-getElem?_pos, a47]
  refine .mk (fun h2 => ?_) fun h2 => ?_
  · simp -implicitDefEqProofs (maxSteps := 2000000) (disch := omega) [-getElem?_pos]
    refine same ?_
    unfold cmp
    rw [cmpN_pre (fun i x y hi _ _ => by omega) (Nat.le_refl _), List.take_length]
  simp -implicitDefEqProofs (maxSteps := 2000000) (disch := omega) [-getElem?_pos]
  refine W_loop (α := Nat) 1 (fun k => l.length - k) (fun k => ⟨[(0, .msl o 0 l.length none (some c)), (3, .v (.int .i64 k))], σ⟩) (fun k => 1 ≤ k ∧ k ≤ l.length ∧ ∀ (i : Nat) x y, i + 1 < k → l[i]? = some x → l[i + 1]? = some y → y ≠ x)
    (.eq (by simp)) ⟨by omega, by omega, fun i x y hi => by omega⟩ fun k ⟨hk1, hk, hpre⟩ => ?_
  simp -implicitDefEqProofs (maxSteps := 2000000) (disch := omega) [-getElem?_pos]
  refine .mk (fun h => ?_) fun h => ?_
  rotate_left
  · simp -implicitDefEqProofs (maxSteps := 2000000) (disch := omega) [-getElem?_pos]
    refine same ?_
    unfold cmp
    obtain rfl : k = l.length := by omega
    rw [cmpN_pre hpre (Nat.le_refl _), List.take_length]
  obtain ⟨n, rfl⟩ : ∃ n, k = n + 1 := ⟨k - 1, by omega⟩
  simp -implicitDefEqProofs (maxSteps := 2000000) (disch := omega) [-getElem?_pos, ho, WSome_vget]
  repeat refine ⟨by omega, ?_⟩
  intro y hy
  repeat refine ⟨by omega, ?_⟩
  intro x hx
  refine .mk (fun hq => ?_) fun hq => ?_
  rotate_left
  · simp -implicitDefEqProofs (maxSteps := 2000000) (disch := omega) [-getElem?_pos]
    refine ⟨n + 1 + 1, ⟨by omega, by omega, fun i x' y' hi hx' hy' => ?_⟩, by dsimp only; omega, .eq (by simp)⟩
    rcases Nat.lt_or_ge (i + 1) (n + 1) with h3 | h3
    · exact hpre i x' y' h3 hx' hy'
    · obtain rfl : i = n := by omega
      rw [hx] at hx'
      rw [hy] at hy'
      cases hx'
      cases hy'
      exact hq
  obtain ⟨M, hM⟩ : ∃ M, l.length = n + 1 + M := ⟨l.length - (n + 1), by omega⟩
  obtain ⟨C, hC⟩ : ∃ C, c = n + 1 + C := ⟨c - (n + 1), by omega⟩
  subst hC
  rw [hM]
  simp -implicitDefEqProofs (maxSteps := 2000000) (disch := omega) [-getElem?_pos]
  refine ⟨by omega, by omega, by omega, ?_⟩
  rw [show ((n : Int) + 1 + M - (n + 1)).toNat = M by omega]
  have hc0 : cmpN l (n + 2) = l.take (n + 1) := by rw [cmpN_step hx hy, if_pos hq, List.append_nil]; exact cmpN_pre hpre hk
  have hlt0 : (l.take (n + 1)).length = n + 1 := by simp; omega
  refine W_loop (α := DSt) ⟨0, l.take (n + 1)⟩ (fun x => M - x.j) (fun x => ⟨[(0, .msl o 0 (n + 1 + M) none (some (n + 1 + C))), (3, .v (.int .i64 x.out.length)), (4, .msl o (n + 1) M none (some C)), (5, .v (.int .i64 (x.j + 1 : Nat)))], ⟨σ.objs.set o (vO (x.out ++ l.drop x.out.length) rest), σ.toks⟩⟩)
    (fun x => x.j + 1 ≤ M ∧ x.out.length < n + 2 + x.j ∧ cmpN l (n + 2 + x.j) = x.out) (.eq2 (by dsimp only; rw [take_drop_len hlt0, hset]) (by simp [hlt0])) ⟨by dsimp only; omega, by dsimp only; omega, hc0⟩ fun ⟨q, out⟩ ⟨hj, hoj, he⟩ => ?_
  dsimp only at hj hoj he ⊢
  have hcl := cur_len (l := l) (out := out) (by omega)
  generalize hcur : out ++ l.drop out.length = cur at hcl
  simp -implicitDefEqProofs (maxSteps := 2000000) (disch := omega) [-getElem?_pos]
  refine .mk (fun h5 => ?_) fun h5 => ?_
  · simp -implicitDefEqProofs (maxSteps := 2000000) (disch := omega) [-getElem?_pos, WSome_vget]
    repeat refine ⟨by omega, ?_⟩
    intro u hu
    repeat refine ⟨by omega, ?_⟩
    intro v hv
    have hul : l[n + 1 + q + 1]? = some u := by rw [← hcur, cur_get (by omega)] at hu; exact hu
    have hvl : l[n + 1 + q]? = some v := by rw [← hcur, cur_get (by omega)] at hv; exact hv
    have ht : cmpN l (n + 2 + (q + 1)) = out ++ if u = v then [] else [u] := by
      have := cmpN_step hvl hul
      rw [show n + 1 + q + 2 = n + 2 + (q + 1) by omega, show n + 1 + q + 1 = n + 2 + q by omega, he] at this
      exact this
    refine .mk (fun hq2 => ?_) fun hq2 => ?_
    · rw [if_pos hq2, List.append_nil] at ht
      simp -implicitDefEqProofs (maxSteps := 2000000) (disch := omega) [-getElem?_pos]
      exact ⟨⟨q + 1, out⟩, ⟨by dsimp only; omega, by dsimp only; omega, ht⟩, by dsimp only; omega, .eq2 (by simp [hcur]) (by simp)⟩
    · rw [if_neg hq2] at ht
      simp -implicitDefEqProofs (maxSteps := 2000000) (disch := omega) [-getElem?_pos, WSome_vget]
      repeat refine ⟨by omega, ?_⟩
      intro u' hu'
      obtain rfl : u' = u := by rw [hu] at hu'; exact (Option.some.inj hu').symm
      refine ⟨by omega, by omega, ⟨q + 1, out ++ [u']⟩, ⟨by dsimp only; omega, by simp; omega, ht⟩, by dsimp only; omega, .eq2 ?_ (by simp)⟩
      have hpv := put_vec (f := D.v ∘ V.str) (l := cur) (rest := rest) (i := out.length) (x := u') (by omega)
      rw [← hcur, set_next (by omega) hul, hcur] at hpv
      exact congrArg (fun z => Sg.mk (σ.objs.set o (.cells z)) σ.toks) hpv
  · have hfin : cmp l = out := by unfold cmp; rw [← he]; congr 1; omega
    rw [hfin]
    have hol2 : out.length ≤ l.length := by omega
    simp -implicitDefEqProofs (maxSteps := 2000000) (disch := omega) [-getElem?_pos]
    have hcn : cur ≠ [] := by rintro rfl; simp at hcl; omega
    refine ⟨by omega, by omega, fun h => absurd h hcn, by omega, by omega, ?_⟩
    have htk : List.take out.length (cur.map (D.v ∘ V.str) ++ rest) = out.map (D.v ∘ V.str) := by
      rw [List.take_append_of_le_length (by simp; omega), ← List.map_take, ← hcur, List.take_left]
    rw [htk, show ((n : Int) + 1 + M).toNat - out.length = n + 1 + M - out.length by omega]
    refine ⟨_, _, WeakR.refl _ _ _, (List.map D.v (zerosV [V.str []] (n + 1 + M - out.length)) ++ List.drop (out.length + (zerosV [V.str []] (n + 1 + M - out.length)).length) (List.map (D.v ∘ V.str) cur ++ rest)), ?_, rfl, rfl⟩
    simp [zerosV]
    omega

/-- With room, and nothing in it. -/
theorem k_GrowM {n : Nat} {σ : Sg} (hn : 0 < n) (hl : n ≤ 1000000) : ACalls Try.prog 66 [.v .snil, .v (.int .i64 n)] σ fun r σ' => ∃ c cs, n ≤ c ∧ n ≤ cs.length ∧ r = .msl σ.objs.length 0 0 none (some c) ∧ σ' = ⟨σ.objs ++ [.cells cs], σ.toks⟩ := by
  refine acalls_fit Try.func66 (by kernel_rfl) c66 rfl (by simp [a66]) fun hf => ?_
  clear hf
  simp -implicitDefEqProofs (maxSteps := 2000000) (disch := omega) [-getElem?_pos, a66]
  refine .mk (fun h => by omega) fun h => ?_
  simp -implicitDefEqProofs (maxSteps := 2000000) (disch := omega) [-getElem?_pos]
  refine .mk (fun h => ?_) fun h => by omega
  simp -implicitDefEqProofs (maxSteps := 2000000) (disch := omega) [-getElem?_pos]
  repeat refine ⟨by omega, ?_⟩
  intro hn0
  simp -implicitDefEqProofs (maxSteps := 2000000) (disch := omega) [-getElem?_pos]
  repeat refine ⟨by omega, ?_⟩
  intro c hc hm
  repeat refine ⟨by omega, ?_⟩
  have hfl : (V.flat (List.replicate n (zrow none [V.str []]))).length = n := by
    rw [V.flat_length (sh := none) (by intro x hx; rw [List.eq_of_mem_replicate hx]; rfl)]
    simp
  exact ⟨_, _, WeakR.refl _ _ _, c, hc, _, by simp [hfl], rfl, rfl⟩
theorem k_Grow0 {σ : Sg} : ACalls Try.prog 66 [.v .snil, .v (.int .i64 0)] σ fun r σ' => r = .v .snil ∧ σ' = σ := by
  refine acalls_fit Try.func66 (by kernel_rfl) c66 rfl (by simp [a66]) fun hf => ?_
  clear hf
  simp -implicitDefEqProofs (maxSteps := 2000000) (disch := omega) [-getElem?_pos, a66]
  exact .fin _ ⟨rfl, rfl⟩ (.refl _)

structure LSt where
  i : Nat
  rest : List D

/-- One behind the other. -/
def cat (L : List (List Str)) : List Str := L.flatten
theorem cat_take {L : List (List Str)} {i : Nat} {x : List Str} (h : L[i]? = some x) : cat (L.take (i + 1)) = cat (L.take i) ++ x := by
  unfold cat; rw [List.take_add_one, h]; simp
theorem cat_le {L : List (List Str)} (i : Nat) : (cat (L.take i)).length ≤ (cat L).length := by
  unfold cat
  conv => rhs; rw [← List.take_append_drop i L, List.flatten_append, List.length_append]
  omega

theorem k_Concat {L : List (List Str)} {f : Bool} {σ : Sg} (hne : cat L ≠ []) (hl : (cat L).length ≤ 1000000) (hll : L.length ≤ 1000000) : ACalls Try.prog 50 [.v (.sl none f (L.map vS))] σ fun r σ' => ∃ c rest, (cat L).length ≤ c ∧ r = .msl σ.objs.length 0 (cat L).length none (some c) ∧ σ' = ⟨σ.objs ++ [vO (cat L) rest], σ.toks⟩ := by
  refine acalls_fit Try.func50 (by kernel_rfl) c50m rfl (by simp [a50m]) fun hf => ?_
  clear hf
  simp -implicitDefEqProofs (maxSteps := 2000000) (disch := omega) [-getElem?_pos, a50m]
  refine W_loop (α := Nat) 0 (fun i => L.length - i) (fun i => ⟨[(0, .v (.sl none f (L.map vS))), (3, .v (.int .i64 (cat (L.take i)).length)), (9, .v (.sl none f (L.map vS))), (10, .v (.int .i64 L.length)), (11, .v (.int .i64 i))], σ⟩) (fun i => i ≤ L.length)
    (.eq (by simp [cat])) (by omega) fun i hi => ?_
  have hfl := cat_le (L := L) i
  simp -implicitDefEqProofs (maxSteps := 2000000) (disch := omega) [-getElem?_pos]
  refine .mk (fun h => ?_) fun h => ?_
  · simp -implicitDefEqProofs (maxSteps := 2000000) (disch := omega) [-getElem?_pos]
    repeat refine ⟨by omega, ?_⟩
    intro x hx
    have ht := cat_take hx
    have hfl2 := cat_le (L := L) (i + 1)
    have hlen : (cat (L.take (i + 1))).length = (cat (L.take i)).length + x.length := by rw [ht, List.length_append]
    simp -implicitDefEqProofs (maxSteps := 2000000) (disch := omega) [-getElem?_pos]
    refine .mk (fun h => by omega) fun h => ?_
    simp -implicitDefEqProofs (maxSteps := 2000000) (disch := omega) [-getElem?_pos]
    exact ⟨i + 1, by omega, by dsimp only; omega, .eq (by simp [hlen])⟩
  rw [List.take_of_length_le (l := L) (by omega)]
  have hpos : 0 < (cat L).length := List.length_pos_iff.2 hne
  simp -implicitDefEqProofs (maxSteps := 2000000) (disch := omega) [-getElem?_pos]
  refine (k_GrowM (n := (cat L).length) hpos hl).mono fun r σ' h => ?_
  obtain ⟨c, cs, hc, hcs, rfl, rfl⟩ := h
  simp -implicitDefEqProofs (maxSteps := 2000000) (disch := omega) [-getElem?_pos]
  refine W_loop (α := LSt) ⟨0, cs⟩ (fun x => L.length - x.i) (fun x => ⟨[(6, .msl σ.objs.length 0 (cat (L.take x.i)).length none (some c)), (25, .v (.sl none f (L.map vS))), (26, .v (.int .i64 L.length)), (27, .v (.int .i64 x.i))], ⟨σ.objs ++ [vO (cat (L.take x.i)) x.rest], σ.toks⟩⟩) (fun x => x.i ≤ L.length ∧ (cat L).length ≤ (cat (L.take x.i)).length + x.rest.length)
    (.eq2 (by simp [cat]) (by simp [cat])) ⟨by simp, by simpa [cat] using hcs⟩ fun ⟨i, rest⟩ ⟨hi, hr⟩ => ?_
  dsimp only at hi hr ⊢
  have hfl := cat_le (L := L) i
  simp -implicitDefEqProofs (maxSteps := 2000000) (disch := omega) [-getElem?_pos]
  refine .mk (fun h => ?_) fun h => ?_
  · simp -implicitDefEqProofs (maxSteps := 2000000) (disch := omega) [-getElem?_pos]
    repeat refine ⟨by omega, ?_⟩
    intro x hx
    have ht := cat_take hx
    have hfl2 := cat_le (L := L) (i + 1)
    have hlen : (cat (L.take (i + 1))).length = (cat (L.take i)).length + x.length := by rw [ht, List.length_append]
    refine .mk (fun h => ?_) fun h => by simp at h; omega
    simp -implicitDefEqProofs (maxSteps := 2000000) (disch := omega) [-getElem?_pos]
    refine ⟨by omega, ⟨i + 1, rest.drop x.length⟩, ⟨by dsimp only; omega, by simp; omega⟩, by dsimp only; omega, .eq2 ?_ (by simp [hlen])⟩
    simp [ht]
    rw [← List.drop_drop, List.drop_left' (by simp)]
  · rw [List.take_of_length_le (l := L) (by omega)]
    simp -implicitDefEqProofs (maxSteps := 2000000) (disch := omega) [-getElem?_pos]
    exact ⟨_, _, WeakR.refl _ _ _, c, by omega, rfl, rest, rfl⟩
theorem k_Concat0 {L : List (List Str)} {f : Bool} {σ : Sg} (hne : cat L = []) (hll : L.length ≤ 1000000) : ACalls Try.prog 50 [.v (.sl none f (L.map vS))] σ fun r σ' => r = .v (.sl none true []) ∧ σ' = σ := by
  have hx0 : ∀ (i : Nat) x, L[i]? = some x → x = [] := by
    intro i x hx
    unfold cat at hne
    exact List.flatten_eq_nil_iff.1 hne x (List.mem_of_getElem? hx)
  refine acalls_fit Try.func50 (by kernel_rfl) c50m rfl (by simp [a50m]) fun hf => ?_
  clear hf
  simp -implicitDefEqProofs (maxSteps := 2000000) (disch := omega) [-getElem?_pos, a50m]
  refine W_loop (α := Nat) 0 (fun i => L.length - i) (fun i => ⟨[(0, .v (.sl none f (L.map vS))), (3, .v (.int .i64 0)), (9, .v (.sl none f (L.map vS))), (10, .v (.int .i64 L.length)), (11, .v (.int .i64 i))], σ⟩) (fun i => i ≤ L.length)
    (.eq (by simp)) (by omega) fun i hi => ?_
  simp -implicitDefEqProofs (maxSteps := 2000000) (disch := omega) [-getElem?_pos]
  refine .mk (fun h => ?_) fun h => ?_
  · simp -implicitDefEqProofs (maxSteps := 2000000) (disch := omega) [-getElem?_pos]
    repeat refine ⟨by omega, ?_⟩
    intro x hx
    obtain rfl := hx0 i x hx
    simp -implicitDefEqProofs (maxSteps := 2000000) (disch := omega) [-getElem?_pos]
    exact ⟨i + 1, by omega, by dsimp only; omega, .eq (by simp)⟩
  simp -implicitDefEqProofs (maxSteps := 2000000) (disch := omega) [-getElem?_pos]
  refine k_Grow0.then fun r hr => ?_
  subst hr
  simp -implicitDefEqProofs (maxSteps := 2000000) (disch := omega) [-getElem?_pos]
  refine W_loop (α := Nat) 0 (fun i => L.length - i) (fun i => ⟨[(6, .v (.sl none true [])), (25, .v (.sl none f (L.map vS))), (26, .v (.int .i64 L.length)), (27, .v (.int .i64 i))], σ⟩) (fun i => i ≤ L.length)
    (.le (by simp)) (by omega) fun i hi => ?_
  simp -implicitDefEqProofs (maxSteps := 2000000) (disch := omega) [-getElem?_pos]
  refine .mk (fun h => ?_) fun h => ?_
  · simp -implicitDefEqProofs (maxSteps := 2000000) (disch := omega) [-getElem?_pos]
    repeat refine ⟨by omega, ?_⟩
    intro x hx
    obtain rfl := hx0 i x hx
    simp -implicitDefEqProofs (maxSteps := 2000000) (disch := omega) [-getElem?_pos]
    exact ⟨i + 1, by omega, by dsimp only; omega, .eq (by simp)⟩
  · simp -implicitDefEqProofs (maxSteps := 2000000) (disch := omega) [-getElem?_pos]
    exact .fin _ ⟨rfl, rfl⟩ (.refl _)
theorem k_CloneM0 {f : Bool} {σ : Sg} : ACalls Try.prog 45 [.v (.sl none f [])] σ fun r σ' => r = .v (.sl none true []) ∧ σ' = σ := by
  refine acalls_fit Try.func45 (by kernel_rfl) c45m rfl (by simp [a45m]) fun hf => ?_
  clear hf
  simp -implicitDefEqProofs (maxSteps := 2000000) (disch := omega) [-getElem?_pos, a45m]
  exact ⟨.fin _ ⟨rfl, rfl⟩ (.refl _), .fin _ ⟨rfl, rfl⟩ .snil⟩
theorem k_DeleteFunc0 {f : Bool} {fd : D} {σ : Sg} : ACalls Try.prog 51 [.v (.sl none f []), fd] σ fun r σ' => r = .v (.sl none false []) ∧ σ' = σ := by
  have hi : ACalls Try.prog 67 [.v (.sl none f []), fd] σ fun r σ' => r = .v (.int .i64 (-1)) ∧ σ' = σ := by
    refine acalls_fit Try.func67 (by kernel_rfl) c67 rfl (by simp [a67]) fun hf => ?_
    clear hf
    simp -implicitDefEqProofs (maxSteps := 2000000) (disch := omega) [-getElem?_pos, a67]
    refine W_loop (α := Nat) 0 (fun i => i) (fun i => ⟨[(7, .v (.int .i64 0)), (8, .v (.int .i64 0))], σ⟩) (fun i => True) (.eq (by simp)) trivial fun i _ => ?_
    simp -implicitDefEqProofs (maxSteps := 2000000) (disch := omega) [-getElem?_pos]
    exact .fin _ ⟨rfl, rfl⟩ (.refl _)
  refine acalls_fit Try.func51 (by kernel_rfl) c51 rfl (by simp [a51]) fun hf => ?_
  clear hf
  simp -implicitDefEqProofs (maxSteps := 2000000) (disch := omega) [-getElem?_pos, a51]
  refine hi.then fun r hr => ?_
  subst hr
  simp -implicitDefEqProofs (maxSteps := 2000000) (disch := omega) [-getElem?_pos]
  exact .fin _ ⟨rfl, rfl⟩ .lax
theorem k_Compact0 {f : Bool} {σ : Sg} : ACalls Try.prog 47 [.v (.sl none f [])] σ fun r σ' => r = .v (.sl none false []) ∧ σ' = σ := by
  refine acalls_fit Try.func47 (by kernel_rfl) c47 rfl (by simp [a47]) fun hf => ?_
  clear hf
  simp -implicitDefEqProofs (maxSteps := 2000000) (disch := omega) [-getElem?_pos, a47]
  exact .fin _ ⟨rfl, rfl⟩ .lax
end Go.Proofs.Ytppdghfpbliaeaa
