/-
  Types: what calls a function for each variable. (Own work.)
-/
import Derived.Test.YtkpnhcccocaakaaDoorT6
set_option linter.unusedVariables false
set_option linter.unusedSimpArgs false
namespace Go.Proofs.YtkpnhcccocaakaaDoor
open Go Go.Abs

structure ESt where
  i : Nat
  hs : List Ob
/-- Two functions that keep what they met in a state. -/
structure Keeps (S : Vs → Sg) (L T : Nat) (f1 f2 : D) : Prop where
  hL : ∀ w, (S w).objs.length = L
  hT : ∀ w, (S w).toks.length = T
  low : ∀ w w', ∀ ob ∈ (S w').objs, ob ∈ (S w).objs ∨ ob.low L T
  h1 : ∀ (w : Vs) (gs : List Ob) (n : Int), w.ts.length ≤ 2000000 → WCall Tryd.prog f1 [.v (.int .i64 n)] ⟨(S w).objs ++ gs, (S w).toks⟩ fun r σ' => r = .tup [] ∧ σ' = ⟨(S ⟨addI w.ts n, w.rs⟩).objs ++ gs, (S ⟨addI w.ts n, w.rs⟩).toks⟩
  h2 : ∀ (w : Vs) (gs : List Ob) (n : Int), w.rs.length ≤ 2000000 → WCall Tryd.prog f2 [.v (.int .i64 n)] ⟨(S w).objs ++ gs, (S w).toks⟩ fun r σ' => r = .tup [] ∧ σ' = ⟨(S ⟨w.ts, addI w.rs n⟩).objs ++ gs, (S ⟨w.ts, addI w.rs n⟩).toks⟩
def EachOk (t : Tp) : Prop := ∀ {S : Vs → Sg} {L T : Nat} {f1 f2 : D} {gs : List Ob} {w : Vs}, Keeps S L T f1 f2 → tbk t ≤ 1048576 → w.ts.length + tbk t ≤ 2000000 → w.rs.length + tbk t ≤ 2000000 →
  ACalls Tryd.prog 25 [.v (encT t), f1, f2] ⟨(S w).objs ++ gs, (S w).toks⟩ fun r σ' => r = .tup [] ∧ σ' = ⟨(S (vis t w)).objs ++ gs, (S (vis t w)).toks⟩
theorem k_Each (t : Tp) : EachOk t := by
  refine Tp.ind (P := EachOk) (fun k n l ls tl ih => ?_) t
  intro S L T f1 f2 gs w H he hw1 hw2
  simp only [tbk] at he hw1 hw2
  have hll := tbkL_len l
  have hro := fun σ => k_IsRow (k := k) (n := n) (l := l) (ls := ls) (tl := tl) (σ := σ)
  rw [encT_mk] at hro ⊢
  refine acalls_fit Tryd.func25 (by kernel_rfl) c25 rfl (by simp [a25]) fun hf => ?_
  clear hf
  have qL := H.hL
  have qT := H.hT
  have qbox : ∀ w B r, ((S w).objs ++ (gs ++ (B :: r)))[L + gs.length]? = some B := fun w B r => by
    rw [List.getElem?_append_right (by rw [qL]; omega), List.getElem?_append_right (by rw [qL]; omega)]
    simp [qL]
  have qlast : ∀ w B B' hs, ((S w).objs ++ (gs ++ (B :: (hs ++ [B']))))[L + (gs.length + (hs.length + 1))]? = some B' := fun w B B' hs => by
    rw [show L + (gs.length + (hs.length + 1)) = ((S w).objs ++ (gs ++ (B :: hs))).length by simp [qL], show (S w).objs ++ (gs ++ (B :: (hs ++ [B']))) = ((S w).objs ++ (gs ++ (B :: hs))) ++ [B'] by simp]
    simp
  have hset : ∀ w B B' B2 hs, ((S w).objs ++ (gs ++ (B :: (hs ++ [B'])))).set (L + (gs.length + (hs.length + 1))) B2 = (S w).objs ++ (gs ++ (B :: (hs ++ [B2]))) := fun w B B' B2 hs => by
    rw [show L + (gs.length + (hs.length + 1)) = ((S w).objs ++ (gs ++ (B :: hs))).length by simp [qL], show (S w).objs ++ (gs ++ (B :: (hs ++ [B']))) = ((S w).objs ++ (gs ++ (B :: hs))) ++ [B'] by simp]
    rw [List.set_append_right _ _ (Nat.le_refl _)]
    simp
  have hfin : ∀ (w' : Vs) (hs : List Ob), PostV ⟨(S w).objs ++ gs, (S w).toks⟩ (.tup []) ⟨(S w').objs ++ (gs ++ hs), (S w').toks⟩ fun r σ' => r = .tup [] ∧ σ' = ⟨(S w').objs ++ gs, (S w').toks⟩ := fun w' hs =>
    .finS (R := fun r σ' => r = .tup [] ∧ σ' = ⟨(S w').objs ++ gs, (S w').toks⟩) (.tup []) ⟨(S w').objs ++ gs, (S w').toks⟩ ⟨rfl, rfl⟩ (.refl _) (by
      intro ob hob
      rcases List.mem_append.1 hob with h | h
      · rcases H.low w w' ob h with h | h
        · exact .inl (List.mem_append_left _ h)
        · exact .inr (Ob.low_mono (by simp [qL]) (by simp [qT]) h)
      · exact .inl (List.mem_append_right _ h)) (by simp) (by simp) (by simp) (by simp [qL]) (by simp [qT])
  by_cases h7 : k = 7
  · subst h7
    simp -implicitDefEqProofs (maxSteps := 2000000) (disch := omega) [-getElem?_pos, a25, qL, qbox]
    refine (H.h1 w _ n (by omega)).mono fun r σ' hr => ?_
    obtain ⟨rfl, rfl⟩ := hr
    obtain ⟨w1, hw1e⟩ : ∃ w1 : Vs, w1 = ⟨addI w.ts n, w.rs⟩ := ⟨_, rfl⟩
    have hw1l : w1.ts.length ≤ w.ts.length + 1 ∧ w1.rs.length ≤ w.rs.length := by rw [hw1e]; exact ⟨addI_len _ _, Nat.le_refl _⟩
    have hvv : vis (.mk 7 n l ls tl) w = if isRowN 7 = true ∧ 0 ≤ tl then ⟨(visL l w1).ts, addI (visL l w1).rs tl⟩ else visL l w1 := by rw [vis, if_pos rfl, hw1e]
    rw [← hw1e]
    simp -implicitDefEqProofs (maxSteps := 2000000) (disch := omega) [-getElem?_pos, qL, qbox]
    refine W_loop (α := ESt) ⟨0, []⟩ (fun x => l.length - x.i) (fun x => ⟨[(1, f1), (2, f2), (3, .ptr (L + gs.length) 0), (16, .v (.sl (some 5) false (l.map encT))), (17, .v (.int .i64 l.length)), (18, .v (.int .i64 x.i))], ⟨(S (visL (l.take x.i) w1)).objs ++ (gs ++ (.cells [.v (.int .i64 7), .v (.int .i64 n), .v (.sl (some 5) false (l.map encT)), .v (.sl none false (ls.map .str)), .v (.int .i64 tl)] :: x.hs)), (S (visL (l.take x.i) w1)).toks⟩⟩)
      (fun x => x.i ≤ l.length) (.eq2 (by simp [visL]) (by simp [visL])) (by simp) fun ⟨i, hs⟩ hi => ?_
    dsimp only at hi ⊢
    have hvl := visL_len (l.take i) w1
    have htk := tbkL_take l i
    simp -implicitDefEqProofs (maxSteps := 2000000) (disch := omega) [-getElem?_pos, qL, qbox]
    refine .mk (fun h => ?_) fun h => ?_
    · simp -implicitDefEqProofs (maxSteps := 2000000) (disch := omega) [-getElem?_pos, qL, qbox]
      refine ⟨by omega, ?_⟩
      intro x hx
      have hmx := List.mem_of_getElem? hx
      have hx1 := tbkL_mem hmx
      have hx2 := tbkL_get hx
      have hx3 := tbkL_take l (i + 1)
      have hvg := visL_get (w := w1) hx
      have hcall := fun gs => ih x hmx (gs := gs) (w := visL (l.take i) w1) H (by omega) (by omega) (by omega)
      generalize hw2e : visL (l.take i) w1 = w2 at *
      obtain ⟨k', n', l', ls', tl'⟩ := x
      rw [encT_mk] at hcall ⊢
      simp -implicitDefEqProofs (maxSteps := 2000000) (disch := omega) [-getElem?_pos, qL, qbox, qlast, hset]
      refine (hcall _).mono fun r σ' hr => ?_
      obtain ⟨rfl, rfl⟩ := hr
      simp -implicitDefEqProofs (maxSteps := 2000000) (disch := omega) [-getElem?_pos, qL, qbox, qlast, hset]
      exact ⟨⟨i + 1, hs ++ [.cells [.v (.int .i64 k'), .v (.int .i64 n'), .v (.sl (some 5) false (l'.map encT)), .v (.sl none false (ls'.map .str)), .v (.int .i64 tl')]]⟩, by dsimp only; omega, by show l.length - (i + 1) < l.length - i; omega, .eq2 (by rw [hvg]) (by simp [hvg])⟩
    have hil : i = l.length := by omega
    subst hil
    rw [List.take_length] at *
    generalize visL l w1 = w2 at *
    simp -implicitDefEqProofs (maxSteps := 2000000) (disch := omega) [-getElem?_pos, qL, qbox]
    refine (hro _).then fun r hr => ?_
    subst hr
    cases hrow : isRowN 7 with
    | false =>
      simp -implicitDefEqProofs (maxSteps := 2000000) (disch := omega) [-getElem?_pos, qL, qbox]
      rw [hrow, if_neg (by simp)] at hvv
      rw [hvv]
      exact hfin _ _
    | true =>
      by_cases htl : 0 ≤ tl
      rotate_left
      · rw [hrow, if_neg (by simp [htl])] at hvv
        simp -implicitDefEqProofs (maxSteps := 2000000) (disch := omega) [-getElem?_pos, qL, qbox, htl]
        rw [hvv]
        exact hfin _ _
      rw [hrow, if_pos ⟨rfl, htl⟩] at hvv
      simp -implicitDefEqProofs (maxSteps := 2000000) (disch := omega) [-getElem?_pos, qL, qbox, htl]
      refine (H.h2 w2 _ tl (by omega)).mono fun r σ' hr => ?_
      obtain ⟨rfl, rfl⟩ := hr
      simp -implicitDefEqProofs (maxSteps := 2000000) (disch := omega) [-getElem?_pos, qL, qbox]
      rw [hvv]
      exact hfin _ _

  obtain ⟨w1, hw1e⟩ : ∃ w1 : Vs, w1 = w := ⟨_, rfl⟩
  have hw1l : w1.ts.length ≤ w.ts.length + 1 ∧ w1.rs.length ≤ w.rs.length := by rw [hw1e]; simp
  have hvv : vis (.mk k n l ls tl) w = if isRowN k = true ∧ 0 ≤ tl then ⟨(visL l w1).ts, addI (visL l w1).rs tl⟩ else visL l w1 := by rw [vis, if_neg h7, hw1e]
  simp -implicitDefEqProofs (maxSteps := 2000000) (disch := omega) [-getElem?_pos, a25, qL, qbox, h7]
  refine W_loop (α := ESt) ⟨0, []⟩ (fun x => l.length - x.i) (fun x => ⟨[(1, f1), (2, f2), (3, .ptr (L + gs.length) 0), (16, .v (.sl (some 5) false (l.map encT))), (17, .v (.int .i64 l.length)), (18, .v (.int .i64 x.i))], ⟨(S (visL (l.take x.i) w1)).objs ++ (gs ++ (.cells [.v (.int .i64 k), .v (.int .i64 n), .v (.sl (some 5) false (l.map encT)), .v (.sl none false (ls.map .str)), .v (.int .i64 tl)] :: x.hs)), (S (visL (l.take x.i) w1)).toks⟩⟩)
    (fun x => x.i ≤ l.length) (.eq2 (by simp [visL, hw1e]) (by simp [visL, hw1e])) (by simp) fun ⟨i, hs⟩ hi => ?_
  dsimp only at hi ⊢
  have hvl := visL_len (l.take i) w1
  have htk := tbkL_take l i
  simp -implicitDefEqProofs (maxSteps := 2000000) (disch := omega) [-getElem?_pos, qL, qbox]
  refine .mk (fun h => ?_) fun h => ?_
  · simp -implicitDefEqProofs (maxSteps := 2000000) (disch := omega) [-getElem?_pos, qL, qbox]
    refine ⟨by omega, ?_⟩
    intro x hx
    have hmx := List.mem_of_getElem? hx
    have hx1 := tbkL_mem hmx
    have hx2 := tbkL_get hx
    have hx3 := tbkL_take l (i + 1)
    have hvg := visL_get (w := w1) hx
    have hcall := fun gs => ih x hmx (gs := gs) (w := visL (l.take i) w1) H (by omega) (by omega) (by omega)
    generalize hw2e : visL (l.take i) w1 = w2 at *
    obtain ⟨k', n', l', ls', tl'⟩ := x
    rw [encT_mk] at hcall ⊢
    simp -implicitDefEqProofs (maxSteps := 2000000) (disch := omega) [-getElem?_pos, qL, qbox, qlast, hset]
    refine (hcall _).mono fun r σ' hr => ?_
    obtain ⟨rfl, rfl⟩ := hr
    simp -implicitDefEqProofs (maxSteps := 2000000) (disch := omega) [-getElem?_pos, qL, qbox, qlast, hset]
    exact ⟨⟨i + 1, hs ++ [.cells [.v (.int .i64 k'), .v (.int .i64 n'), .v (.sl (some 5) false (l'.map encT)), .v (.sl none false (ls'.map .str)), .v (.int .i64 tl')]]⟩, by dsimp only; omega, by show l.length - (i + 1) < l.length - i; omega, .eq2 (by rw [hvg]) (by simp [hvg])⟩
  have hil : i = l.length := by omega
  subst hil
  rw [List.take_length] at *
  generalize visL l w1 = w2 at *
  simp -implicitDefEqProofs (maxSteps := 2000000) (disch := omega) [-getElem?_pos, qL, qbox]
  refine (hro _).then fun r hr => ?_
  subst hr
  cases hrow : isRowN k with
  | false =>
    simp -implicitDefEqProofs (maxSteps := 2000000) (disch := omega) [-getElem?_pos, qL, qbox]
    rw [hrow, if_neg (by simp)] at hvv
    rw [hvv]
    exact hfin _ _
  | true =>
    by_cases htl : 0 ≤ tl
    rotate_left
    · rw [hrow, if_neg (by simp [htl])] at hvv
      simp -implicitDefEqProofs (maxSteps := 2000000) (disch := omega) [-getElem?_pos, qL, qbox, htl]
      rw [hvv]
      exact hfin _ _
    rw [hrow, if_pos ⟨rfl, htl⟩] at hvv
    simp -implicitDefEqProofs (maxSteps := 2000000) (disch := omega) [-getElem?_pos, qL, qbox, htl]
    refine (H.h2 w2 _ tl (by omega)).mono fun r σ' hr => ?_
    obtain ⟨rfl, rfl⟩ := hr
    simp -implicitDefEqProofs (maxSteps := 2000000) (disch := omega) [-getElem?_pos, qL, qbox]
    rw [hvv]
    exact hfin _ _

def SV (σ : Sg) (B : Ob) (w : Vs) : Sg := ⟨σ.objs ++ [B, .cells [.tsl σ.toks.length none (w.ts.map fun n => V.int .i64 n)], .cells [.tsl (σ.toks.length + 1) none (w.rs.map fun n => V.int .i64 n)], .cells [.ptr (σ.objs.length + 1) 0], .cells [.ptr (σ.objs.length + 2) 0]], σ.toks ++ [w.ts.length, w.rs.length]⟩
theorem k_Vars1 {p : Nat} {σ : Sg} : ACalls Tryd.prog 22 [.ptr p 0] σ fun r σ' => r = .fn 23 [.ptr σ.objs.length 0] ∧ σ' = ⟨σ.objs ++ [.cells [.ptr p 0]], σ.toks⟩ := by
  refine acalls_fit Tryd.func22 (by kernel_rfl) c22 rfl (by simp [a22]) fun hf => ?_
  clear hf
  simp -implicitDefEqProofs (maxSteps := 2000000) (disch := omega) [-getElem?_pos, a22]
  exact ⟨_, _, weakR_le (.refl _), rfl, rfl⟩
theorem k_Vars11a {B : Ob} {σ : Sg} {w : Vs} {gs : List Ob} {n : Int} (hw : w.ts.length ≤ 2000000) : ACalls Tryd.prog 23 [.v (.int .i64 n), .ptr (σ.objs.length + 3) 0] ⟨(SV σ B w).objs ++ gs, (SV σ B w).toks⟩ fun r σ' => r = .tup [] ∧ σ' = ⟨(SV σ B ⟨addI w.ts n, w.rs⟩).objs ++ gs, (SV σ B ⟨addI w.ts n, w.rs⟩).toks⟩ := by
  have q3 : ((SV σ B w).objs ++ gs)[σ.objs.length + 3]? = some (.cells [.ptr (σ.objs.length + 1) 0]) := by simp [SV]
  have q1 : ((SV σ B w).objs ++ gs)[σ.objs.length + 1]? = some (.cells [.tsl (σ.toks.length) none (w.ts.map fun n => V.int .i64 n)]) := by simp [SV]
  have qt : (SV σ B w).toks[σ.toks.length]? = some w.ts.length := by simp [SV]
  have hset : ((SV σ B w).objs ++ gs).set (σ.objs.length + 1) (.cells [.tsl (σ.toks.length) none (w.ts.map (fun n => V.int .i64 n) ++ [V.int .i64 n])]) = (SV σ B ⟨w.ts ++ [n], w.rs⟩).objs ++ gs := by simp [SV]
  have hset2 : (SV σ B w).toks.set (σ.toks.length) (w.ts.length + 1) = (SV σ B ⟨w.ts ++ [n], w.rs⟩).toks := by simp [SV]
  refine acalls_fit Tryd.func23 (by kernel_rfl) c23 rfl (by simp [a23]) fun hf => ?_
  clear hf
  simp -implicitDefEqProofs (maxSteps := 2000000) (disch := omega) [-getElem?_pos, a23, q3, q1]
  refine (ACalls.argA k_ContainsI .tsl).then fun r hr => ?_
  subst hr
  by_cases hmem : n ∈ w.ts
  · simp -implicitDefEqProofs (maxSteps := 2000000) (disch := omega) [-getElem?_pos, hmem]
    exact ⟨_, _, weakR_le (.refl _), rfl, by simp [addI, hmem]⟩
  · simp -implicitDefEqProofs (maxSteps := 2000000) (disch := omega) [-getElem?_pos, hmem, q3, q1, qt]
    refine ⟨by omega, ?_⟩
    rw [hset, hset2]
    exact ⟨_, _, weakR_le (.refl _), rfl, by simp [addI, hmem]⟩
theorem k_Vars11b {B : Ob} {σ : Sg} {w : Vs} {gs : List Ob} {n : Int} (hw : w.rs.length ≤ 2000000) : ACalls Tryd.prog 23 [.v (.int .i64 n), .ptr (σ.objs.length + 4) 0] ⟨(SV σ B w).objs ++ gs, (SV σ B w).toks⟩ fun r σ' => r = .tup [] ∧ σ' = ⟨(SV σ B ⟨w.ts, addI w.rs n⟩).objs ++ gs, (SV σ B ⟨w.ts, addI w.rs n⟩).toks⟩ := by
  have q3 : ((SV σ B w).objs ++ gs)[σ.objs.length + 4]? = some (.cells [.ptr (σ.objs.length + 2) 0]) := by simp [SV]
  have q1 : ((SV σ B w).objs ++ gs)[σ.objs.length + 2]? = some (.cells [.tsl (σ.toks.length + 1) none (w.rs.map fun n => V.int .i64 n)]) := by simp [SV]
  have qt : (SV σ B w).toks[σ.toks.length + 1]? = some w.rs.length := by simp [SV]
  have hset : ((SV σ B w).objs ++ gs).set (σ.objs.length + 2) (.cells [.tsl (σ.toks.length + 1) none (w.rs.map (fun n => V.int .i64 n) ++ [V.int .i64 n])]) = (SV σ B ⟨w.ts, w.rs ++ [n]⟩).objs ++ gs := by simp [SV]
  have hset2 : (SV σ B w).toks.set (σ.toks.length + 1) (w.rs.length + 1) = (SV σ B ⟨w.ts, w.rs ++ [n]⟩).toks := by simp [SV]
  refine acalls_fit Tryd.func23 (by kernel_rfl) c23 rfl (by simp [a23]) fun hf => ?_
  clear hf
  simp -implicitDefEqProofs (maxSteps := 2000000) (disch := omega) [-getElem?_pos, a23, q3, q1]
  refine (ACalls.argA k_ContainsI .tsl).then fun r hr => ?_
  subst hr
  by_cases hmem : n ∈ w.rs
  · simp -implicitDefEqProofs (maxSteps := 2000000) (disch := omega) [-getElem?_pos, hmem]
    exact ⟨_, _, weakR_le (.refl _), rfl, by simp [addI, hmem]⟩
  · simp -implicitDefEqProofs (maxSteps := 2000000) (disch := omega) [-getElem?_pos, hmem, q3, q1, qt]
    refine ⟨by omega, ?_⟩
    rw [hset, hset2]
    exact ⟨_, _, weakR_le (.refl _), rfl, by simp [addI, hmem]⟩
theorem keeps_SV (σ : Sg) (B : Ob) (hB : B.low (σ.objs.length + 5) (σ.toks.length + 2)) : Keeps (SV σ B) (σ.objs.length + 5) (σ.toks.length + 2) (.fn 23 [.ptr (σ.objs.length + 3) 0]) (.fn 23 [.ptr (σ.objs.length + 4) 0]) where
  hL w := by simp [SV]
  hT w := by simp [SV]
  low w w' ob h := by
    simp only [SV, List.mem_append, List.mem_cons, List.not_mem_nil, or_false] at h ⊢
    rcases h with h | h | h | h | h | h
    · exact .inl (.inl h)
    · exact .inl (.inr (.inl h))
    · exact .inr (by subst h; simp [Ob.low, D.lows, D.low])
    · exact .inr (by subst h; simp [Ob.low, D.lows, D.low])
    · exact .inl (.inr (.inr (.inr (.inr (.inl h)))))
    · exact .inl (.inr (.inr (.inr (.inr (.inr h)))))
  h1 w gs n hw := by
    rw [WCall_caps]
    exact k_Vars11a hw
  h2 w gs n hw := by
    rw [WCall_caps]
    exact k_Vars11b hw
theorem k_Vars {t : Tp} {σ : Sg} (he : tbk t ≤ 1048576) : ACalls Tryd.prog 8 [.v (encT t)] σ fun r σ' => r = .tup [.v (vI (vis t ⟨[], []⟩).ts), .v (vI (vis t ⟨[], []⟩).rs)] ∧ σ' = σ := by
  obtain ⟨k, n, l, ls, tl⟩ := t
  have hE := encT_mk (k := k) (n := n) (l := l) (ls := ls) (tl := tl)
  have hv := vis_len (.mk k n l ls tl) ⟨[], []⟩
  have hE2 := fun gs => k_Each (.mk k n l ls tl) (gs := gs) (w := ⟨[], []⟩) (keeps_SV σ (.cells [.v (.int .i64 k), .v (.int .i64 n), .v (.sl (some 5) false (l.map encT)), .v (.sl none false (ls.map .str)), .v (.int .i64 tl)]) (by simp [Ob.low, D.lows, D.low])) he (by simp; omega) (by simp; omega)
  rw [hE] at hE2 ⊢
  refine acalls_fit Tryd.func8 (by kernel_rfl) c8 rfl (by simp [a8]) fun hf => ?_
  clear hf
  simp -implicitDefEqProofs (maxSteps := 2000000) (disch := omega) [-getElem?_pos, a8]
  refine k_Vars1.mono fun r σ' hr => ?_
  obtain ⟨rfl, rfl⟩ := hr
  simp -implicitDefEqProofs (maxSteps := 2000000) (disch := omega) [-getElem?_pos]
  refine k_Vars1.mono fun r σ' hr => ?_
  obtain ⟨rfl, rfl⟩ := hr
  simp -implicitDefEqProofs (maxSteps := 2000000) (disch := omega) [-getElem?_pos]
  refine ACalls.tokObj (o := σ.objs.length + 1) (k := 0) none (by simp; rfl) (by simp) ?_
  refine ACalls.tokObj (o := σ.objs.length + 2) (k := 0) none (by simp; rfl) (by simp) ?_
  simp
  have h := hE2 []
  simp [SV] at h
  refine h.mono fun r σ' hr => ?_
  obtain ⟨rfl, rfl⟩ := hr
  simp -implicitDefEqProofs (maxSteps := 2000000) (disch := omega) [-getElem?_pos]
  exact .finS _ σ ⟨rfl, rfl⟩ (.tup2 .tsl .tsl) (fun ob h => .inl h) (by simp) (by simp) (by simp) (by simp) (by simp)
end Go.Proofs.YtkpnhcccocaakaaDoor
