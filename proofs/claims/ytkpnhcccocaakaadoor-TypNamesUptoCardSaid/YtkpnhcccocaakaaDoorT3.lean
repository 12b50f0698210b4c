/-
  Types: whether they may be, walked. (Own work.)
-/
import Derived.Test.YtkpnhcccocaakaaDoorT2
set_option linter.unusedVariables false
set_option linter.unusedSimpArgs false
namespace Go.Proofs.YtkpnhcccocaakaaDoor
open Go Go.Abs

theorem fine_le (t : Tp) : ∀ c, c ≤ 4000 → (fineS t c).2 ≤ 4001 ∧ ((fineS t c).1 = true → (fineS t c).2 ≤ 4000) := by
  refine Tp.ind (P := fun t => ∀ c, c ≤ 4000 → (fineS t c).2 ≤ 4001 ∧ ((fineS t c).1 = true → (fineS t c).2 ≤ 4000)) (fun k n l ls tl ih c hc => ?_) t
  have hL : ∀ (l : List Tp) (c : Nat), (∀ x ∈ l, ∀ c, c ≤ 4000 → (fineS x c).2 ≤ 4001 ∧ ((fineS x c).1 = true → (fineS x c).2 ≤ 4000)) → c ≤ 4000 → (fineL l c).2 ≤ 4001 ∧ ((fineL l c).1 = true → (fineL l c).2 ≤ 4000) := by
    intro l
    induction l with
    | nil => intro c _ hc; simp [fineL]; omega
    | cons x l ih2 =>
      intro c h hc
      have h1 := h x (by simp) c hc
      simp only [fineL]
      cases hx : fineS x c with
      | mk b c1 =>
        rw [hx] at h1
        cases b with
        | true => exact ih2 c1 (fun y hy => h y (by simp [hy])) (h1.2 rfl)
        | false => exact ⟨h1.1, by simp⟩
  simp only [fineS]
  by_cases h1 : 4000 < c + 1 ∨ partsN k ls ≠ l.length ∨ n < 0 ∨ (0 < n ∧ k ≠ 7)
  · rw [if_pos h1]
    exact ⟨by omega, by simp⟩
  · rw [if_neg h1]
    have hc1 : c + 1 ≤ 4000 := by
      have : ¬ 4000 < c + 1 := fun h => h1 (.inl h)
      omega
    have h2 := hL l (c + 1) ih hc1
    split
    · split
      · exact ⟨by omega, by simp⟩
      · exact h2
    · split
      · exact ⟨by omega, by simp⟩
      · exact h2

theorem weakR_le {B : Sg} {r r' : D} {σ : Sg} (h : D.Le r r') : WeakR B r σ r' σ := fun m0 m w0 w u _ hX hI hR => ⟨m, hI, h m w u hR, hX⟩
theorem low_set2 {L : List Ob} {o n k : Nat} {x y : Ob} (h : y.low n k) : ∀ ob' ∈ L.set o y, ob' ∈ L.set o x ∨ ob'.low n k := by
  have := low_set (B := L.set o x) (o := o) h
  rwa [List.set_set] at this
/-- The state, but for one number. -/
def atN (σ : Sg) (p c : Nat) : Sg := ⟨σ.objs.set p (.cells [.v (.int .i64 c)]), σ.toks⟩
structure FSt where
  i : Nat
  c : Nat
theorem k_IndexFuncT {xs : List Tp} {fd : D} {p c0 : Nat} {σ : Sg} (hc0 : c0 ≤ 4000) (hp : ∀ x ∈ xs, ∀ c, c ≤ 4000 → WCall Tryd.prog fd [.v (encT x)] (atN σ p c) fun r σ' => r = .v (.bool (!(fineS x c).1)) ∧ σ' = atN σ p (fineS x c).2) :
    ACalls Tryd.prog 55 [.v (.sl (some 5) false (xs.map encT)), fd] (atN σ p c0) fun r σ' => (∃ i : Int, r = .v (.int .i64 i) ∧ (0 ≤ i ↔ (fineL xs c0).1 = false)) ∧ σ' = atN σ p (fineL xs c0).2 := by
  refine acalls_fit Tryd.func55 (by kernel_rfl) c55 rfl (by simp [a55]) fun hf => ?_
  simp at hf
  simp -implicitDefEqProofs (maxSteps := 2000000) (disch := omega) [-getElem?_pos, a55]
  refine W_loop (α := FSt) ⟨0, c0⟩ (fun x => xs.length - x.i) (fun x => ⟨[(0, .v (.sl (some 5) false (xs.map encT))), (1, fd), (7, .v (.int .i64 xs.length)), (8, .v (.int .i64 x.i))], atN σ p x.c⟩) (fun x => x.i ≤ xs.length ∧ x.c ≤ 4000 ∧ fineL xs c0 = fineL (xs.drop x.i) x.c) (.eq (by simp)) ⟨by simp, by simpa using hc0, by simp⟩ fun ⟨i, c⟩ ⟨hi, hc, he⟩ => ?_
  dsimp only at hi hc he ⊢
  simp -implicitDefEqProofs (maxSteps := 2000000) (disch := omega) [-getElem?_pos]
  refine .mk (fun h => ?_) fun h => ?_
  · simp -implicitDefEqProofs (maxSteps := 2000000) (disch := omega) [-getElem?_pos]
    refine ⟨by omega, fun x hx => ?_⟩
    have hmx := List.mem_of_getElem? hx
    have hpx := hp x hmx c hc
    have hle := fine_le x c hc
    rw [drop_cons hx] at he
    simp only [fineL] at he
    refine hpx.mono fun r σ' hr => ?_
    obtain ⟨rfl, rfl⟩ := hr
    cases hfx : fineS x c with
    | mk b c1 =>
    rw [hfx] at he hle
    cases b with
    | true =>
      simp -implicitDefEqProofs (maxSteps := 2000000) (disch := omega) [-getElem?_pos]
      exact ⟨⟨i + 1, c1⟩, ⟨by dsimp only; omega, hle.2 rfl, he⟩, by show xs.length - (i + 1) < xs.length - i; omega, .eq (by simp)⟩
    | false =>
      simp -implicitDefEqProofs (maxSteps := 2000000) (disch := omega) [-getElem?_pos]
      exact ⟨_, _, weakR_le (.refl _), ⟨i, rfl, by rw [he]; simp⟩, by rw [he]⟩
  · simp -implicitDefEqProofs (maxSteps := 2000000) (disch := omega) [-getElem?_pos]
    rw [List.drop_eq_nil_of_le (by omega)] at he
    exact ⟨_, _, weakR_le (.refl _), ⟨-1, rfl, by rw [he]; simp [fineL]⟩, by rw [he]; rfl⟩
theorem k_ContainsFuncT {xs : List Tp} {fd : D} {p c0 : Nat} {σ : Sg} (hc0 : c0 ≤ 4000) (hp : ∀ x ∈ xs, ∀ c, c ≤ 4000 → WCall Tryd.prog fd [.v (encT x)] (atN σ p c) fun r σ' => r = .v (.bool (!(fineS x c).1)) ∧ σ' = atN σ p (fineS x c).2) :
    ACalls Tryd.prog 43 [.v (.sl (some 5) false (xs.map encT)), fd] (atN σ p c0) fun r σ' => r = .v (.bool (!(fineL xs c0).1)) ∧ σ' = atN σ p (fineL xs c0).2 := by
  refine acalls_fit Tryd.func43 (by kernel_rfl) c43 rfl (by simp [a43]) fun hf => ?_
  clear hf
  simp -implicitDefEqProofs (maxSteps := 2000000) (disch := omega) [-getElem?_pos, a43]
  refine (k_IndexFuncT hc0 hp).mono fun r σ' hr => ?_
  obtain ⟨⟨i, rfl, hi⟩, rfl⟩ := hr
  simp -implicitDefEqProofs (maxSteps := 2000000) (disch := omega) [-getElem?_pos]
  exact ⟨_, _, weakR_le (.refl _), by cases h : (fineL xs c0).1 with | true => simp [hi, h] | false => simp [hi, h], rfl⟩
theorem k_Fine1 {t : Tp} {c p q : Nat} {σ : Sg} (hq : σ.objs[q]? = some (.cells [.ptr p 0])) (hpq : p ≠ q) (hpl : p < σ.objs.length)
    (hF : ∀ σ, σ.objs[p]? = some (.cells [.v (.int .i64 c)]) → ACalls Tryd.prog 26 [.v (encT t), .ptr p 0] σ fun r σ' => r = .v (.bool (fineS t c).1) ∧ σ' = atN σ p (fineS t c).2) :
    ACalls Tryd.prog 44 [.v (encT t), .ptr q 0] (atN σ p c) fun r σ' => r = .v (.bool (!(fineS t c).1)) ∧ σ' = atN σ p (fineS t c).2 := by
  have hFx := fun σ h => hF σ h
  obtain ⟨b, hb⟩ : ∃ b, b = (fineS t c).1 := ⟨_, rfl⟩
  obtain ⟨c1, hc1⟩ : ∃ c1, c1 = (fineS t c).2 := ⟨_, rfl⟩
  rw [← hb, ← hc1] at hFx ⊢
  cases t with
  | mk k n l ls tl =>
  rw [encT_mk] at hFx ⊢
  refine acalls_fit Tryd.func44 (by kernel_rfl) c44 rfl (by simp [a44]) fun hf => ?_
  clear hf
  have hq' : ∀ r, ((atN σ p c).objs ++ r)[q]? = some (.cells [.ptr p 0]) := fun r => by
    have := (List.getElem?_eq_some_iff.1 hq).1
    rw [List.getElem?_append_left (by simpa [atN] using this)]
    simp only [atN]
    rw [List.getElem?_set_ne hpq]
    exact hq
  simp -implicitDefEqProofs (maxSteps := 2000000) (disch := omega) [-getElem?_pos, a44, hq']
  have hpl' : p < (atN σ p c).objs.length := by simpa [atN] using hpl
  refine (hFx _ (by dsimp only; rw [List.getElem?_append_left hpl']; simp [atN, hpl])).mono fun r σ' hr => ?_
  obtain ⟨rfl, rfl⟩ := hr
  simp -implicitDefEqProofs (maxSteps := 2000000) (disch := omega) [-getElem?_pos, atN]
  exact .finS _ ⟨σ.objs.set p (.cells [.v (.int .i64 c1)]), σ.toks⟩ ⟨rfl, rfl⟩ (.refl _) (low_set2 (by simp))
def FineOk (t : Tp) : Prop := ∀ {c p : Nat} {σ : Sg}, c ≤ 4000 → tsz t ≤ 1048576 → σ.objs[p]? = some (.cells [.v (.int .i64 c)]) → ACalls Tryd.prog 26 [.v (encT t), .ptr p 0] σ fun r σ' => r = .v (.bool (fineS t c).1) ∧ σ' = atN σ p (fineS t c).2
theorem k_Fine (t : Tp) : FineOk t := by
  refine Tp.ind (P := FineOk) (fun k n l ls tl ih => ?_) t
  intro c p σ hc hsz hp
  have hpl := (List.getElem?_eq_some_iff.1 hp).1
  simp only [tsz] at hsz
  have hll := tszL_len l
  have hpa := fun σ => k_Parts (k := k) (n := n) (l := l) (ls := ls) (tl := tl) (σ := σ)
  have hro := fun σ => k_IsRow (k := k) (n := n) (l := l) (ls := ls) (tl := tl) (σ := σ)
  rw [encT_mk] at hpa hro ⊢
  refine acalls_fit Tryd.func26 (by kernel_rfl) c26 rfl (by simp [a26]) fun hf => ?_
  clear hf
  simp -implicitDefEqProofs (maxSteps := 2000000) (disch := omega) [-getElem?_pos, a26, List.getElem?_append_left, List.set_append_left, hp]
  have hset : ∀ X r, ((σ.objs.set p X) ++ r)[p]? = some X := fun X r => by rw [List.getElem?_append_left (by simpa using hpl), List.getElem?_set_self hpl]
  have hF : fineS (.mk k n l ls tl) c = (if 4000 < c + 1 ∨ partsN k ls ≠ l.length ∨ n < 0 ∨ (0 < n ∧ k ≠ 7) then (false, c + 1)
    else if isRowN k = true then (if tl < -1 ∨ isS ls = false ∨ [] ∈ ls then (false, c + 1) else fineL l (c + 1))
    else if tl ≠ -1 ∨ 0 < ls.length then (false, c + 1) else fineL l (c + 1)) := by rw [fineS]
  generalize fineS (.mk k n l ls tl) c = FV at hF ⊢
  by_cases h4 : (c : Int) + 1 ≤ 4000
  rotate_left
  · rw [if_pos (.inl (by omega))] at hF
    refine .mk (fun h => absurd h h4) fun h => ?_
    simp -implicitDefEqProofs (maxSteps := 2000000) (disch := omega) [-getElem?_pos, hset]
    exact .finS _ ⟨σ.objs.set p (.cells [.v (.int .i64 ((c : Int) + 1))]), σ.toks⟩ ⟨by rw [hF], by rw [hF]; simp [atN]⟩ (.refl _) (low_set (by simp))

  refine .mk (fun h => ?_) fun h => absurd h4 h
  simp -implicitDefEqProofs (maxSteps := 2000000) (disch := omega) [-getElem?_pos, hset]
  refine (hpa _).then fun r hr => ?_
  subst hr
  by_cases hpn : partsN k ls = l.length
  rotate_left
  · rw [if_pos (.inr (.inl hpn))] at hF
    simp -implicitDefEqProofs (maxSteps := 2000000) (disch := omega) [-getElem?_pos, hset, hpn]
    exact .finS _ ⟨σ.objs.set p (.cells [.v (.int .i64 ((c : Int) + 1))]), σ.toks⟩ ⟨by rw [hF], by rw [hF]; simp [atN]⟩ (.refl _) (low_set (by simp))

  by_cases hn0 : n < 0
  · rw [if_pos (.inr (.inr (.inl hn0)))] at hF
    simp -implicitDefEqProofs (maxSteps := 2000000) (disch := omega) [-getElem?_pos, hset, hpn, hn0]
    exact .finS _ ⟨σ.objs.set p (.cells [.v (.int .i64 ((c : Int) + 1))]), σ.toks⟩ ⟨by rw [hF], by rw [hF]; simp [atN]⟩ (.refl _) (low_set (by simp))

  by_cases hn1 : 0 < n
  · by_cases h7 : k = 7
    · subst h7
      rw [if_neg (by simp only [hpn, ne_eq, not_true_eq_false, false_or, and_false, or_false]; omega)] at hF
      simp -implicitDefEqProofs (maxSteps := 2000000) (disch := omega) [-getElem?_pos, hset, hpn, hn0, hn1]
      refine (hro _).then fun r hr => ?_
      subst hr
      cases hrow : isRowN 7 with
      | true =>
        rw [hrow, if_pos rfl] at hF
        by_cases htl : tl < -1
        · rw [if_pos (.inl htl)] at hF
          simp -implicitDefEqProofs (maxSteps := 2000000) (disch := omega) [-getElem?_pos, hset, htl]
          exact .finS _ ⟨σ.objs.set p (.cells [.v (.int .i64 ((c : Int) + 1))]), σ.toks⟩ ⟨by rw [hF], by rw [hF]; simp [atN]⟩ (.refl _) (low_set (by simp))

        simp -implicitDefEqProofs (maxSteps := 2000000) (disch := omega) [-getElem?_pos, hset, htl]
        refine k_Is.then fun r hr => ?_
        subst hr
        cases his : isS ls with
        | false =>
          rw [if_pos (.inr (.inl his))] at hF
          simp -implicitDefEqProofs (maxSteps := 2000000) (disch := omega) [-getElem?_pos, hset, htl]
          exact .finS _ ⟨σ.objs.set p (.cells [.v (.int .i64 ((c : Int) + 1))]), σ.toks⟩ ⟨by rw [hF], by rw [hF]; simp [atN]⟩ (.refl _) (low_set (by simp))

        | true =>
        simp -implicitDefEqProofs (maxSteps := 2000000) (disch := omega) [-getElem?_pos, hset, htl]
        refine k_ContainsStr.then fun r hr => ?_
        subst hr
        by_cases hem : [] ∈ ls
        · rw [if_pos (.inr (.inr hem))] at hF
          simp -implicitDefEqProofs (maxSteps := 2000000) (disch := omega) [-getElem?_pos, hset, hem]
          exact .finS _ ⟨σ.objs.set p (.cells [.v (.int .i64 ((c : Int) + 1))]), σ.toks⟩ ⟨by rw [hF], by rw [hF]; simp [atN]⟩ (.refl _) (low_set (by simp))

        rw [if_neg (by rw [his]; simp [htl, hem])] at hF
        simp -implicitDefEqProofs (maxSteps := 2000000) (disch := omega) [-getElem?_pos, hset, hem]
        have hst : (⟨σ.objs.set p (.cells [.v (.int .i64 ((c : Int) + 1))]) ++ [.cells [.v (.int .i64 7), .v (.int .i64 n), .v (.sl (some 5) false (l.map encT)), .v (.sl none false (ls.map .str)), .v (.int .i64 tl)], .cells [.ptr p 0]], σ.toks⟩ : Sg) = atN ⟨σ.objs ++ [.cells [.v (.int .i64 7), .v (.int .i64 n), .v (.sl (some 5) false (l.map encT)), .v (.sl none false (ls.map .str)), .v (.int .i64 tl)], .cells [.ptr p 0]], σ.toks⟩ p (c + 1) := by
          simp [atN, List.set_append_left, hpl]
        rw [hst]
        refine (k_ContainsFuncT (by omega) fun x hx c' hc' => ?_).mono fun r σ' hr => ?_
        · rw [WCall_caps]
          have hx1 := tszL_mem hx
          exact k_Fine1 (q := σ.objs.length + 1) (by simp) (by omega) (by simp; omega) fun σ h => ih x hx hc' (by omega) h
        obtain ⟨rfl, rfl⟩ := hr
        simp -implicitDefEqProofs (maxSteps := 2000000) (disch := omega) [-getElem?_pos]
        exact .finS _ ⟨σ.objs.set p (.cells [.v (.int .i64 (fineL l (c + 1)).2)]), σ.toks⟩ ⟨by rw [hF], by rw [hF]; simp [atN]⟩ (by simp) (low_set (by simp)) (by simp) (by simp [atN, List.set_append_left, hpl]) (by simp [atN])

      | false =>
        rw [hrow, if_neg (by simp)] at hF
        by_cases htl : tl = -1
        rotate_left
        · rw [if_pos (.inl htl)] at hF
          simp -implicitDefEqProofs (maxSteps := 2000000) (disch := omega) [-getElem?_pos, hset, htl]
          exact .finS _ ⟨σ.objs.set p (.cells [.v (.int .i64 ((c : Int) + 1))]), σ.toks⟩ ⟨by rw [hF], by rw [hF]; simp [atN]⟩ (.refl _) (low_set (by simp))

        subst htl
        by_cases hle : 0 < ls.length
        · rw [if_pos (.inr hle)] at hF
          simp -implicitDefEqProofs (maxSteps := 2000000) (disch := omega) [-getElem?_pos, hset, hle]
          exact .finS _ ⟨σ.objs.set p (.cells [.v (.int .i64 ((c : Int) + 1))]), σ.toks⟩ ⟨by rw [hF], by rw [hF]; simp [atN]⟩ (.refl _) (low_set (by simp))

        rw [if_neg (fun h => by rcases h with h | h; exact h rfl; exact hle h)] at hF
        simp -implicitDefEqProofs (maxSteps := 2000000) (disch := omega) [-getElem?_pos, hset, hle]
        have hst : (⟨σ.objs.set p (.cells [.v (.int .i64 ((c : Int) + 1))]) ++ [.cells [.v (.int .i64 7), .v (.int .i64 n), .v (.sl (some 5) false (l.map encT)), .v (.sl none false (ls.map .str)), .v (.int .i64 (-1))], .cells [.ptr p 0]], σ.toks⟩ : Sg) = atN ⟨σ.objs ++ [.cells [.v (.int .i64 7), .v (.int .i64 n), .v (.sl (some 5) false (l.map encT)), .v (.sl none false (ls.map .str)), .v (.int .i64 (-1))], .cells [.ptr p 0]], σ.toks⟩ p (c + 1) := by
          simp [atN, List.set_append_left, hpl]
        rw [hst]
        refine (k_ContainsFuncT (by omega) fun x hx c' hc' => ?_).mono fun r σ' hr => ?_
        · rw [WCall_caps]
          have hx1 := tszL_mem hx
          exact k_Fine1 (q := σ.objs.length + 1) (by simp) (by omega) (by simp; omega) fun σ h => ih x hx hc' (by omega) h
        obtain ⟨rfl, rfl⟩ := hr
        simp -implicitDefEqProofs (maxSteps := 2000000) (disch := omega) [-getElem?_pos]
        exact .finS _ ⟨σ.objs.set p (.cells [.v (.int .i64 (fineL l (c + 1)).2)]), σ.toks⟩ ⟨by rw [hF], by rw [hF]; simp [atN]⟩ (by simp) (low_set (by simp)) (by simp) (by simp [atN, List.set_append_left, hpl]) (by simp [atN])


    · rw [if_pos (.inr (.inr (.inr ⟨hn1, h7⟩)))] at hF
      simp -implicitDefEqProofs (maxSteps := 2000000) (disch := omega) [-getElem?_pos, hset, hpn, hn0, hn1, h7]
      exact .finS _ ⟨σ.objs.set p (.cells [.v (.int .i64 ((c : Int) + 1))]), σ.toks⟩ ⟨by rw [hF], by rw [hF]; simp [atN]⟩ (.refl _) (low_set (by simp))

  · rw [if_neg (by simp only [hpn, ne_eq, not_true_eq_false, false_or]; omega)] at hF
    simp -implicitDefEqProofs (maxSteps := 2000000) (disch := omega) [-getElem?_pos, hset, hpn, hn0, hn1]
    refine (hro _).then fun r hr => ?_
    subst hr
    cases hrow : isRowN k with
    | true =>
      rw [hrow, if_pos rfl] at hF
      by_cases htl : tl < -1
      · rw [if_pos (.inl htl)] at hF
        simp -implicitDefEqProofs (maxSteps := 2000000) (disch := omega) [-getElem?_pos, hset, htl]
        exact .finS _ ⟨σ.objs.set p (.cells [.v (.int .i64 ((c : Int) + 1))]), σ.toks⟩ ⟨by rw [hF], by rw [hF]; simp [atN]⟩ (.refl _) (low_set (by simp))

      simp -implicitDefEqProofs (maxSteps := 2000000) (disch := omega) [-getElem?_pos, hset, htl]
      refine k_Is.then fun r hr => ?_
      subst hr
      cases his : isS ls with
      | false =>
        rw [if_pos (.inr (.inl his))] at hF
        simp -implicitDefEqProofs (maxSteps := 2000000) (disch := omega) [-getElem?_pos, hset, htl]
        exact .finS _ ⟨σ.objs.set p (.cells [.v (.int .i64 ((c : Int) + 1))]), σ.toks⟩ ⟨by rw [hF], by rw [hF]; simp [atN]⟩ (.refl _) (low_set (by simp))

      | true =>
      simp -implicitDefEqProofs (maxSteps := 2000000) (disch := omega) [-getElem?_pos, hset, htl]
      refine k_ContainsStr.then fun r hr => ?_
      subst hr
      by_cases hem : [] ∈ ls
      · rw [if_pos (.inr (.inr hem))] at hF
        simp -implicitDefEqProofs (maxSteps := 2000000) (disch := omega) [-getElem?_pos, hset, hem]
        exact .finS _ ⟨σ.objs.set p (.cells [.v (.int .i64 ((c : Int) + 1))]), σ.toks⟩ ⟨by rw [hF], by rw [hF]; simp [atN]⟩ (.refl _) (low_set (by simp))

      rw [if_neg (by rw [his]; simp [htl, hem])] at hF
      simp -implicitDefEqProofs (maxSteps := 2000000) (disch := omega) [-getElem?_pos, hset, hem]
      have hst : (⟨σ.objs.set p (.cells [.v (.int .i64 ((c : Int) + 1))]) ++ [.cells [.v (.int .i64 k), .v (.int .i64 n), .v (.sl (some 5) false (l.map encT)), .v (.sl none false (ls.map .str)), .v (.int .i64 tl)], .cells [.ptr p 0]], σ.toks⟩ : Sg) = atN ⟨σ.objs ++ [.cells [.v (.int .i64 k), .v (.int .i64 n), .v (.sl (some 5) false (l.map encT)), .v (.sl none false (ls.map .str)), .v (.int .i64 tl)], .cells [.ptr p 0]], σ.toks⟩ p (c + 1) := by
        simp [atN, List.set_append_left, hpl]
      rw [hst]
      refine (k_ContainsFuncT (by omega) fun x hx c' hc' => ?_).mono fun r σ' hr => ?_
      · rw [WCall_caps]
        have hx1 := tszL_mem hx
        exact k_Fine1 (q := σ.objs.length + 1) (by simp) (by omega) (by simp; omega) fun σ h => ih x hx hc' (by omega) h
      obtain ⟨rfl, rfl⟩ := hr
      simp -implicitDefEqProofs (maxSteps := 2000000) (disch := omega) [-getElem?_pos]
      exact .finS _ ⟨σ.objs.set p (.cells [.v (.int .i64 (fineL l (c + 1)).2)]), σ.toks⟩ ⟨by rw [hF], by rw [hF]; simp [atN]⟩ (by simp) (low_set (by simp)) (by simp) (by simp [atN, List.set_append_left, hpl]) (by simp [atN])

    | false =>
      rw [hrow, if_neg (by simp)] at hF
      by_cases htl : tl = -1
      rotate_left
      · rw [if_pos (.inl htl)] at hF
        simp -implicitDefEqProofs (maxSteps := 2000000) (disch := omega) [-getElem?_pos, hset, htl]
        exact .finS _ ⟨σ.objs.set p (.cells [.v (.int .i64 ((c : Int) + 1))]), σ.toks⟩ ⟨by rw [hF], by rw [hF]; simp [atN]⟩ (.refl _) (low_set (by simp))

      subst htl
      by_cases hle : 0 < ls.length
      · rw [if_pos (.inr hle)] at hF
        simp -implicitDefEqProofs (maxSteps := 2000000) (disch := omega) [-getElem?_pos, hset, hle]
        exact .finS _ ⟨σ.objs.set p (.cells [.v (.int .i64 ((c : Int) + 1))]), σ.toks⟩ ⟨by rw [hF], by rw [hF]; simp [atN]⟩ (.refl _) (low_set (by simp))

      rw [if_neg (fun h => by rcases h with h | h; exact h rfl; exact hle h)] at hF
      simp -implicitDefEqProofs (maxSteps := 2000000) (disch := omega) [-getElem?_pos, hset, hle]
      have hst : (⟨σ.objs.set p (.cells [.v (.int .i64 ((c : Int) + 1))]) ++ [.cells [.v (.int .i64 k), .v (.int .i64 n), .v (.sl (some 5) false (l.map encT)), .v (.sl none false (ls.map .str)), .v (.int .i64 (-1))], .cells [.ptr p 0]], σ.toks⟩ : Sg) = atN ⟨σ.objs ++ [.cells [.v (.int .i64 k), .v (.int .i64 n), .v (.sl (some 5) false (l.map encT)), .v (.sl none false (ls.map .str)), .v (.int .i64 (-1))], .cells [.ptr p 0]], σ.toks⟩ p (c + 1) := by
        simp [atN, List.set_append_left, hpl]
      rw [hst]
      refine (k_ContainsFuncT (by omega) fun x hx c' hc' => ?_).mono fun r σ' hr => ?_
      · rw [WCall_caps]
        have hx1 := tszL_mem hx
        exact k_Fine1 (q := σ.objs.length + 1) (by simp) (by omega) (by simp; omega) fun σ h => ih x hx hc' (by omega) h
      obtain ⟨rfl, rfl⟩ := hr
      simp -implicitDefEqProofs (maxSteps := 2000000) (disch := omega) [-getElem?_pos]
      exact .finS _ ⟨σ.objs.set p (.cells [.v (.int .i64 (fineL l (c + 1)).2)]), σ.toks⟩ ⟨by rw [hF], by rw [hF]; simp [atN]⟩ (by simp) (low_set (by simp)) (by simp) (by simp [atN, List.set_append_left, hpl]) (by simp [atN])


end Go.Proofs.YtkpnhcccocaakaaDoor
