/-
  Expressions: the names that are free in them. (Own work.)
-/
import Derived.Test.YtpdeaekmgljeaaaGreatDoorM12
set_option linter.unusedVariables false
set_option linter.unusedSimpArgs false
namespace Go.Proofs.YtpdeaekmgljeaaaGreatDoor
open Go Go.Abs

/-- The names that an expression binds in its part. -/
def bnd (k : Int) (s t : Str) (ls ns : List Str) (i : Nat) : List Str :=
  if k = 4 then (if i = 0 then [s] else [])
  else if k = 6 then (if i = 1 then [s] else [])
  else if k = 7 then (if i = 1 then [s] else if i = 0 then [s, t] else [])
  else if k = 14 then (if i = 0 then [] else if i ≤ ns.length ∧ i ≤ ls.length then (ns[i - 1]?).toList else [t])
  else []
theorem one_slice {α : Type} {l : List α} {j : Nat} (h : j < l.length) : (l.take (j + 1)).drop j = (l[j]?).toList := by
  rw [List.take_add_one, List.drop_left' (by simp; omega)]
theorem k_binds {k p n : Int} {s t : Str} {ls ns : List Str} {l : List Ex} {i : Nat} {σ : Sg} (hi : i ≤ 1048576) (hn : ns.length ≤ 1048576) :
    ACalls Tryz.prog 78 [.v (encE (.mk k p n s t ls ns l)), .v (.int .i64 i)] σ fun r σ' => r = .v (vS (bnd k s t ls ns i)) ∧ σ' = σ := by
  rw [encE_mk]
  refine acalls_fit Tryz.func78 (by kernel_rfl) c78 rfl (by simp [a78]) fun hf => ?_
  clear hf
  by_cases h4 : k = 4
  · subst h4
    by_cases h0 : i = 0
    · subst h0
      simp -implicitDefEqProofs (maxSteps := 2000000) (disch := omega) [-getElem?_pos, a78]
      exact .fin _ ⟨by simp [bnd], rfl⟩ .lax
    · simp -implicitDefEqProofs (maxSteps := 2000000) (disch := omega) [-getElem?_pos, a78, h0]
      exact .fin (.v (vS [])) ⟨by simp [bnd, h0], rfl⟩ .snil
  by_cases h6 : k = 6
  · subst h6
    by_cases h0 : i = 1
    · subst h0
      simp -implicitDefEqProofs (maxSteps := 2000000) (disch := omega) [-getElem?_pos, a78]
      exact .fin _ ⟨by simp [bnd], rfl⟩ .lax
    · have h0i : ¬ (i : Int) = 1 := by omega
      simp -implicitDefEqProofs (maxSteps := 2000000) (disch := omega) [-getElem?_pos, a78, h0i]
      exact .fin (.v (vS [])) ⟨by simp [bnd, h0], rfl⟩ .snil
  by_cases h7 : k = 7
  · subst h7
    by_cases h0 : i = 0
    · subst h0
      simp -implicitDefEqProofs (maxSteps := 2000000) (disch := omega) [-getElem?_pos, a78]
      exact .fin _ ⟨by simp [bnd], rfl⟩ .lax
    by_cases h1 : i = 1
    · subst h1
      simp -implicitDefEqProofs (maxSteps := 2000000) (disch := omega) [-getElem?_pos, a78]
      exact .fin _ ⟨by simp [bnd], rfl⟩ .lax
    · have h1i : ¬ (i : Int) = 1 := by omega
      simp -implicitDefEqProofs (maxSteps := 2000000) (disch := omega) [-getElem?_pos, a78, h0, h1i]
      exact .fin (.v (vS [])) ⟨by simp [bnd, h0, h1], rfl⟩ .snil
  by_cases h14 : k = 14
  · subst h14
    by_cases h0 : i = 0
    · subst h0
      simp -implicitDefEqProofs (maxSteps := 2000000) (disch := omega) [-getElem?_pos, a78]
      exact .fin (.v (vS [])) ⟨by simp [bnd], rfl⟩ .snil
    · have h0i : ¬ (i : Int) = 0 := by omega
      have hm1 : ((i : Int) - 1).toNat = i - 1 := by omega
      by_cases hc : i ≤ ns.length
      · by_cases hd : i ≤ ls.length
        · simp -implicitDefEqProofs (maxSteps := 2000000) (disch := omega) [-getElem?_pos, a78, h0, h0i, hc, hd]
          have e : List.drop (i - 1) (List.take i (ns.map V.str)) = (bnd 14 s t ls ns i).map V.str := by
            have h1 : bnd 14 s t ls ns i = (ns[i - 1]?).toList := by simp [bnd, h0, hc, hd]
            obtain ⟨j, rfl⟩ : ∃ j, i = j + 1 := ⟨i - 1, by omega⟩
            rw [h1, ← List.map_take, ← List.map_drop, Nat.add_sub_cancel, one_slice (by omega)]
          rw [e]
          exact ⟨by omega, by omega, .fin _ ⟨rfl, rfl⟩ (.refl _)⟩
        · simp -implicitDefEqProofs (maxSteps := 2000000) (disch := omega) [-getElem?_pos, a78, h0, h0i, hc, hd]
          exact .fin _ ⟨by simp [bnd, h0, hc, hd], rfl⟩ .lax
      · simp -implicitDefEqProofs (maxSteps := 2000000) (disch := omega) [-getElem?_pos, a78, h0, h0i, hc]
        exact .fin _ ⟨by simp [bnd, h0, hc], rfl⟩ .lax
  simp -implicitDefEqProofs (maxSteps := 2000000) (disch := omega) [-getElem?_pos, a78, h4, h6, h7, h14]
  exact .fin (.v (vS [])) ⟨by simp [bnd, h4, h6, h7, h14], rfl⟩ .snil
mutual
def fvs : Ex → List Str
  | .mk k _ _ s t ls ns l => (if k = 3 then [s] else []) ++ fvL k s t ls ns 0 l
def fvL (k : Int) (s t : Str) (ls ns : List Str) : Nat → List Ex → List Str
  | _, [] => []
  | i, x :: l => (fvs x).filter (fun y => !decide (y ∈ bnd k s t ls ns i)) ++ fvL k s t ls ns (i + 1) l
end
theorem fvL_get {k : Int} {s t : Str} {ls ns : List Str} {x : Ex} : ∀ {l : List Ex} {i j : Nat}, l[i]? = some x → fvL k s t ls ns j (l.take (i + 1)) = fvL k s t ls ns j (l.take i) ++ (fvs x).filter fun y => !decide (y ∈ bnd k s t ls ns (j + i))
  | [], i, j, h => by simp at h
  | y :: l, 0, j, h => by simp at h; subst h; simp [fvL]
  | y :: l, i + 1, j, h => by
    have := fvL_get (k := k) (s := s) (t := t) (ls := ls) (ns := ns) (l := l) (i := i) (j := j + 1) (by simpa using h)
    simp only [List.take_succ_cons, fvL]
    rw [this, List.append_assoc, show j + 1 + i = j + (i + 1) by omega]
theorem fvs_len (e : Ex) : 6 * (fvs e).length ≤ csz e := by
  refine Ex.ind (P := fun e => 6 * (fvs e).length ≤ csz e) (fun k p n s t ls ns l ih => ?_) e
  have hl : ∀ (l : List Ex) (i : Nat), (∀ x ∈ l, 6 * (fvs x).length ≤ csz x) → 6 * (fvL k s t ls ns i l).length ≤ cszL l := by
    intro l
    induction l with
    | nil => intro i _; simp [fvL]
    | cons x l ih2 =>
      intro i h
      have h1 := h x (by simp)
      have h2 := ih2 (i + 1) fun y hy => h y (by simp [hy])
      have h3 := List.length_filter_le (fun y => !decide (y ∈ bnd k s t ls ns i)) (fvs x)
      simp only [fvL, List.length_append, cszL]
      omega
  have := hl l 0 ih
  simp only [fvs, csz, List.length_append]
  split <;> simp <;> omega
theorem fvs_mem {k p n : Int} {s t : Str} {ls ns : List Str} {l : List Ex} {i : Nat} {x : Ex} (h : l[i]? = some x) : csz x ≤ cszL l := cszL_mem (List.mem_of_getElem? h)

theorem fvL_take {k : Int} {s t : Str} {ls ns : List Str} : ∀ (l : List Ex) (i j : Nat), (fvL k s t ls ns j (l.take i)).length ≤ (fvL k s t ls ns j l).length
  | [], i, j => by simp
  | y :: l, 0, j => by simp [fvL]
  | y :: l, i + 1, j => by
    have := fvL_take (k := k) (s := s) (t := t) (ls := ls) (ns := ns) l i (j + 1)
    simp only [List.take_succ_cons, fvL, List.length_append]
    omega
theorem accs (k : Int) (s t : Str) (ls ns : List Str) (l : List Ex) (B : List Str) (hB : 6 * (B ++ fvL k s t ls ns 0 l).length ≤ 1048576) : ∃ A : Nat → List Str, A 0 = B ∧ (∀ i x, l[i]? = some x → A (i + 1) = A i ++ (fvs x).filter fun y => !decide (y ∈ bnd k s t ls ns i)) ∧
    (∀ i, l.length ≤ i → A i = B ++ fvL k s t ls ns 0 l) ∧ ∀ i, (A i).length ≤ 174763 := by
  refine ⟨fun i => B ++ fvL k s t ls ns 0 (l.take i), by simp [fvL], fun i x h => ?_, fun i h => by dsimp only; rw [List.take_of_length_le h], fun i => ?_⟩
  · dsimp only
    rw [fvL_get h, Nat.zero_add, List.append_assoc]
  · have := fvL_take (k := k) (s := s) (t := t) (ls := ls) (ns := ns) l i 0
    simp only [List.length_append] at *
    omega
theorem filts (A : List Str) (p : Str → Bool) (l : List Str) : ∃ C : Nat → List Str, C 0 = A ∧ (∀ j y, l[j]? = some y → C (j + 1) = C j ++ if p y = true then [y] else []) ∧ (∀ j, l.length ≤ j → C j = A ++ l.filter p) ∧ ∀ j, (C j).length ≤ A.length + l.length := by
  refine ⟨fun j => A ++ (l.take j).filter p, by simp, fun j y h => ?_, fun j h => by dsimp only; rw [List.take_of_length_le h], fun j => ?_⟩
  · dsimp only
    rw [List.take_add_one, h, List.filter_append, List.append_assoc]
    simp [List.filter_cons]
  · have h1 := List.length_filter_le p (l.take j)
    have h2 := List.length_take_le j l
    simp only [List.length_append]
    have h3 : (l.take j).length ≤ l.length := List.length_take_le' j l
    omega
theorem WMap_mS {l : List Str} {K : List (V × D) → Prop} : WMap (some (mS l)) K = K (l.map fun s => (V.str s, D.v (.bool true))) := rfl
theorem mS_def {l : List Str} : Ob.map (l.map fun s => (V.str s, D.v (.bool true))) = mS l := rfl
/-- Just the free names, each once. -/
def FV (es : List Str) (e : Ex) : Prop := es.Nodup ∧ ∀ y, y ∈ es ↔ y ∈ fvs e
theorem nodup_len : ∀ {a b : List Str}, a.Nodup → (∀ x, x ∈ a → x ∈ b) → a.length ≤ b.length
  | [], b, _, _ => by simp
  | x :: a, b, h, k => by
    obtain ⟨h1, h2⟩ := List.nodup_cons.1 h
    have hx := k x (by simp)
    have := nodup_len (a := a) (b := b.erase x) h2 fun y hy => (List.mem_erase_of_ne (by rintro rfl; exact h1 hy)).2 (k y (by simp [hy]))
    rw [List.length_erase_of_mem hx] at this
    have := List.length_pos_of_mem hx
    simp only [List.length_cons]
    omega
theorem merase_str (y : Str) : ∀ l : List Str, merase (.str y) (l.map fun s => (V.str s, D.v (.bool true))) = (l.erase y).map fun s => (V.str s, D.v (.bool true))
  | [] => rfl
  | x :: l => by
    rw [List.map_cons, merase, merase_str y l, List.erase_cons]
    by_cases h : x = y
    · subst h; simp [keq]
    · have h' : ¬ y = x := fun e => h e.symm
      simp [keq, h, h']
theorem keysOk_str : ∀ l : List Str, keysOk .str (l.map fun s => (V.str s, D.v (.bool true))) = true
  | [] => rfl
  | x :: l => by simp [keyOk, keysOk_str l]
theorem low2 {e : Ex} {l : List Str} {a b : Nat} : ∀ ob ∈ [obE e, mS l], ob.low a b := by
  intro ob hob
  cases e
  simp only [List.mem_cons, List.not_mem_nil, or_false] at hob
  rcases hob with rfl | rfl
  · simp [obE_mk]
  · intro p hp
    obtain ⟨s, _, rfl⟩ := List.mem_map.1 hp
    trivial
structure FSt where
  i : Nat
  es : List Str

theorem k_Ffree (e : Ex) : ∀ {σ : Sg}, csz e ≤ 1048576 → ACalls Tryz.prog 50 [.v (encE e)] σ fun r σ' => ∃ es, FV es e ∧ r = .map (σ.objs.length + 1) ∧ σ' = ⟨σ.objs ++ [obE e, mS es], σ.toks⟩ := by
  refine Ex.ind (P := fun e => ∀ {σ : Sg}, csz e ≤ 1048576 → ACalls Tryz.prog 50 [.v (encE e)] σ fun r σ' => ∃ es, FV es e ∧ r = .map (σ.objs.length + 1) ∧ σ' = ⟨σ.objs ++ [obE e, mS es], σ.toks⟩) (fun k p n s t ls ns l ih => ?_) e
  intro σ he
  have hb := fun (i : Nat) (σ : Sg) hi hn => k_binds (k := k) (p := p) (n := n) (s := s) (t := t) (ls := ls) (ns := ns) (l := l) (i := i) (σ := σ) hi hn
  have hfl := fvs_len (.mk k p n s t ls ns l)
  simp only [csz, fvs, FV] at he hfl ⊢
  have hnl := nsz_len ns
  have hnl2 := nsz_len ls
  have hll := cszL_len l
  rw [encE_mk] at hb ⊢
  refine acalls_fit Tryz.func50 (by kernel_rfl) c50 rfl (by simp [a50]) fun hf => ?_
  clear hf
  by_cases h3 : k = 3
  · subst h3
    simp only [if_true] at hfl ⊢
    obtain ⟨A, a0, a1, a2, a3⟩ := accs 3 s t ls ns l [s] (by omega)
    rw [← a2 l.length (Nat.le_refl _)]
    simp -implicitDefEqProofs (maxSteps := 2000000) (disch := omega) [-getElem?_pos, a50]
    refine W_loop (α := FSt) ⟨0, [s]⟩ (fun x => l.length - x.i) (fun x => ⟨[(1, .ptr σ.objs.length 0), (3, .map (σ.objs.length + 1)), (17, .v (.sl (some 8) false (l.map encE))), (18, .v (.int .i64 l.length)), (19, .v (.int .i64 x.i))], ⟨σ.objs ++ [obE (.mk 3 p n s t ls ns l), mS x.es], σ.toks⟩⟩)
      (fun x => x.i ≤ l.length ∧ x.es.Nodup ∧ ∀ y, y ∈ x.es ↔ y ∈ A x.i) (.eq2 (by simp [obE, mS]) (by simp)) ⟨by simp, by simp, by simp [a0]⟩ fun ⟨i, es⟩ ⟨hi, hnd, hmem⟩ => ?_
    dsimp only at hi hnd hmem ⊢
    have hli := a3 i
    have hesl := nodup_len hnd fun y hy => (hmem y).1 hy
    simp -implicitDefEqProofs (maxSteps := 2000000) (disch := omega) [-getElem?_pos]
    refine .mk (fun h => ?_) fun h => ?_
    · simp -implicitDefEqProofs (maxSteps := 2000000) (disch := omega) [-getElem?_pos]
      refine ⟨by omega, ?_⟩
      intro x hx
      have hx1 := cszL_mem (List.mem_of_getElem? hx)
      have hxl := fvs_len x
      have hs := a1 i x hx
      have hli2 := a3 (i + 1)
      have hcall := fun σ => ih x (List.mem_of_getElem? hx) (σ := σ) (by omega)
      cases x with
      | mk k2 p2 n2 s2 t2 ls2 ns2 l2 =>
      rw [encE_mk] at hcall ⊢
      simp -implicitDefEqProofs (maxSteps := 2000000) (disch := omega) [-getElem?_pos]
      refine (hcall _).mono fun r σ' hr => ?_
      obtain ⟨lx, ⟨hx2, hx3⟩, rfl, rfl⟩ := hr
      generalize Ex.mk k2 p2 n2 s2 t2 ls2 ns2 l2 = x at *
      have hlxl := nodup_len hx2 fun y hy => (hx3 y).1 hy
      simp -implicitDefEqProofs (maxSteps := 2000000) (disch := omega) [-getElem?_pos, obE_mk]
      refine (hb i _ (by omega) (by omega)).then fun r hr => ?_
      subst hr
      obtain ⟨bs, hbs⟩ : ∃ bs, bs = bnd 3 s t ls ns i := ⟨_, rfl⟩
      rw [← hbs] at hs ⊢
      have hbl : bs.length ≤ 2 := by rw [hbs]; unfold bnd; repeat' split
                                     all_goals first | simp | (cases ns[i - 1]? <;> simp)
      simp -implicitDefEqProofs (maxSteps := 2000000) (disch := omega) [-getElem?_pos]
      generalize Ob.cells [.v (.int .i64 k2), .v (.int .i64 p2), .v (.int .i64 n2), .v (.str s2), .v (.str t2), .v (.sl none false (ls2.map .str)), .v (.sl none false (ns2.map .str)), .v (.sl (some 8) false (l2.map encE))] = X
      refine W_loop (α := FSt) ⟨0, lx⟩ (fun z => bs.length - z.i) (fun z => ⟨[(1, .ptr σ.objs.length 0), (3, .map (σ.objs.length + 1)), (17, .v (.sl (some 8) false (l.map encE))), (18, .v (.int .i64 l.length)), (19, .v (.int .i64 i)), (6, .map (σ.objs.length + 4)), (28, .v (vS bs)), (29, .v (.int .i64 bs.length)), (30, .v (.int .i64 z.i))],
          ⟨σ.objs ++ [obE (.mk 3 p n s t ls ns l), mS es, X, obE x, mS z.es], σ.toks⟩⟩)
        (fun z => z.i ≤ bs.length ∧ z.es.Nodup ∧ ∀ y, y ∈ z.es ↔ y ∈ fvs x ∧ ¬ y ∈ bs.take z.i) (.eq2 (by simp [obE_mk]) (by simp [Nat.add_assoc])) ⟨by simp, hx2, fun y => by simp [hx3]⟩ fun ⟨j, ej⟩ ⟨hj, hjn, hjm⟩ => ?_
      dsimp only at hj hjn hjm ⊢
      simp -implicitDefEqProofs (maxSteps := 2000000) (disch := omega) [-getElem?_pos]
      refine .mk (fun hq => ?_) fun hq => ?_
      · simp -implicitDefEqProofs (maxSteps := 2000000) (disch := omega) [-getElem?_pos]
        refine ⟨by omega, ?_⟩
        intro y hy
        simp -implicitDefEqProofs (maxSteps := 2000000) (disch := omega) [-getElem?_pos, WMap_mS, keysOk_str, merase_str]
        refine ⟨⟨j + 1, ej.erase y⟩, ⟨by dsimp only; omega, hjn.erase _, fun z => ?_⟩, by dsimp only; omega, .eq2 (by simp [mS]) (by simp)⟩
        rw [hjn.mem_erase_iff, hjm, List.take_add_one, hy, List.mem_append]
        simp
        constructor
        · rintro ⟨h1, h2, h3⟩
          exact ⟨h2, h3, h1⟩
        · rintro ⟨h1, h2, h3⟩
          exact ⟨h3, h1, h2⟩
      · simp -implicitDefEqProofs (maxSteps := 2000000) (disch := omega) [-getElem?_pos]
        have hel := nodup_len hjn fun y hy => ((hjm y).1 hy).1
        refine (k_Copy (ld := es) (ls := ej) (by omega) (by simp) (by simp) (by omega) (by omega)).mono fun r σ' hr => ?_
        obtain ⟨rfl, l', hl1, hl2, hl3, rfl⟩ := hr
        simp -implicitDefEqProofs (maxSteps := 2000000) (disch := omega) [-getElem?_pos]
        refine ⟨⟨i + 1, l'⟩, ⟨by dsimp only; omega, hl1, fun y => ?_⟩, by dsimp only; omega, .dropX (ys := [obE (.mk 3 p n s t ls ns l), mS l']) (xs := [X, obE x, mS ej]) (by simp) rfl (by simp) low2 (by simp) (by simp)⟩
        rw [hs, hl2, hmem, hjm, List.mem_append, List.mem_filter, List.take_of_length_le (by omega)]
        simp
    · simp -implicitDefEqProofs (maxSteps := 2000000) (disch := omega) [-getElem?_pos]
      have hie : A i = A l.length := by rw [a2 i (by omega), a2 _ (Nat.le_refl _)]
      rw [hie] at hmem
      exact ⟨_, _, WeakR.refl _ _ _, es, ⟨hnd, hmem⟩, rfl, rfl⟩

  · simp only [h3, if_false] at hfl ⊢
    obtain ⟨A, a0, a1, a2, a3⟩ := accs k s t ls ns l [] (by omega)
    rw [← a2 l.length (Nat.le_refl _)]
    simp -implicitDefEqProofs (maxSteps := 2000000) (disch := omega) [-getElem?_pos, a50, h3]
    refine W_loop (α := FSt) ⟨0, []⟩ (fun x => l.length - x.i) (fun x => ⟨[(1, .ptr σ.objs.length 0), (3, .map (σ.objs.length + 1)), (17, .v (.sl (some 8) false (l.map encE))), (18, .v (.int .i64 l.length)), (19, .v (.int .i64 x.i))], ⟨σ.objs ++ [obE (.mk k p n s t ls ns l), mS x.es], σ.toks⟩⟩)
      (fun x => x.i ≤ l.length ∧ x.es.Nodup ∧ ∀ y, y ∈ x.es ↔ y ∈ A x.i) (.eq2 (by simp [obE, mS]) (by simp)) ⟨by simp, by simp, by simp [a0]⟩ fun ⟨i, es⟩ ⟨hi, hnd, hmem⟩ => ?_
    dsimp only at hi hnd hmem ⊢
    have hli := a3 i
    have hesl := nodup_len hnd fun y hy => (hmem y).1 hy
    simp -implicitDefEqProofs (maxSteps := 2000000) (disch := omega) [-getElem?_pos]
    refine .mk (fun h => ?_) fun h => ?_
    · simp -implicitDefEqProofs (maxSteps := 2000000) (disch := omega) [-getElem?_pos]
      refine ⟨by omega, ?_⟩
      intro x hx
      have hx1 := cszL_mem (List.mem_of_getElem? hx)
      have hxl := fvs_len x
      have hs := a1 i x hx
      have hli2 := a3 (i + 1)
      have hcall := fun σ => ih x (List.mem_of_getElem? hx) (σ := σ) (by omega)
      cases x with
      | mk k2 p2 n2 s2 t2 ls2 ns2 l2 =>
      rw [encE_mk] at hcall ⊢
      simp -implicitDefEqProofs (maxSteps := 2000000) (disch := omega) [-getElem?_pos]
      refine (hcall _).mono fun r σ' hr => ?_
      obtain ⟨lx, ⟨hx2, hx3⟩, rfl, rfl⟩ := hr
      generalize Ex.mk k2 p2 n2 s2 t2 ls2 ns2 l2 = x at *
      have hlxl := nodup_len hx2 fun y hy => (hx3 y).1 hy
      simp -implicitDefEqProofs (maxSteps := 2000000) (disch := omega) [-getElem?_pos, obE_mk]
      refine (hb i _ (by omega) (by omega)).then fun r hr => ?_
      subst hr
      obtain ⟨bs, hbs⟩ : ∃ bs, bs = bnd k s t ls ns i := ⟨_, rfl⟩
      rw [← hbs] at hs ⊢
      have hbl : bs.length ≤ 2 := by rw [hbs]; unfold bnd; repeat' split
                                     all_goals first | simp | (cases ns[i - 1]? <;> simp)
      simp -implicitDefEqProofs (maxSteps := 2000000) (disch := omega) [-getElem?_pos]
      generalize Ob.cells [.v (.int .i64 k2), .v (.int .i64 p2), .v (.int .i64 n2), .v (.str s2), .v (.str t2), .v (.sl none false (ls2.map .str)), .v (.sl none false (ns2.map .str)), .v (.sl (some 8) false (l2.map encE))] = X
      refine W_loop (α := FSt) ⟨0, lx⟩ (fun z => bs.length - z.i) (fun z => ⟨[(1, .ptr σ.objs.length 0), (3, .map (σ.objs.length + 1)), (17, .v (.sl (some 8) false (l.map encE))), (18, .v (.int .i64 l.length)), (19, .v (.int .i64 i)), (6, .map (σ.objs.length + 4)), (28, .v (vS bs)), (29, .v (.int .i64 bs.length)), (30, .v (.int .i64 z.i))],
          ⟨σ.objs ++ [obE (.mk k p n s t ls ns l), mS es, X, obE x, mS z.es], σ.toks⟩⟩)
        (fun z => z.i ≤ bs.length ∧ z.es.Nodup ∧ ∀ y, y ∈ z.es ↔ y ∈ fvs x ∧ ¬ y ∈ bs.take z.i) (.eq2 (by simp [obE_mk]) (by simp [Nat.add_assoc])) ⟨by simp, hx2, fun y => by simp [hx3]⟩ fun ⟨j, ej⟩ ⟨hj, hjn, hjm⟩ => ?_
      dsimp only at hj hjn hjm ⊢
      simp -implicitDefEqProofs (maxSteps := 2000000) (disch := omega) [-getElem?_pos]
      refine .mk (fun hq => ?_) fun hq => ?_
      · simp -implicitDefEqProofs (maxSteps := 2000000) (disch := omega) [-getElem?_pos]
        refine ⟨by omega, ?_⟩
        intro y hy
        simp -implicitDefEqProofs (maxSteps := 2000000) (disch := omega) [-getElem?_pos, WMap_mS, keysOk_str, merase_str]
        refine ⟨⟨j + 1, ej.erase y⟩, ⟨by dsimp only; omega, hjn.erase _, fun z => ?_⟩, by dsimp only; omega, .eq2 (by simp [mS]) (by simp)⟩
        rw [hjn.mem_erase_iff, hjm, List.take_add_one, hy, List.mem_append]
        simp
        constructor
        · rintro ⟨h1, h2, h3⟩
          exact ⟨h2, h3, h1⟩
        · rintro ⟨h1, h2, h3⟩
          exact ⟨h3, h1, h2⟩
      · simp -implicitDefEqProofs (maxSteps := 2000000) (disch := omega) [-getElem?_pos]
        have hel := nodup_len hjn fun y hy => ((hjm y).1 hy).1
        refine (k_Copy (ld := es) (ls := ej) (by omega) (by simp) (by simp) (by omega) (by omega)).mono fun r σ' hr => ?_
        obtain ⟨rfl, l', hl1, hl2, hl3, rfl⟩ := hr
        simp -implicitDefEqProofs (maxSteps := 2000000) (disch := omega) [-getElem?_pos]
        refine ⟨⟨i + 1, l'⟩, ⟨by dsimp only; omega, hl1, fun y => ?_⟩, by dsimp only; omega, .dropX (ys := [obE (.mk k p n s t ls ns l), mS l']) (xs := [X, obE x, mS ej]) (by simp) rfl (by simp) low2 (by simp) (by simp)⟩
        rw [hs, hl2, hmem, hjm, List.mem_append, List.mem_filter, List.take_of_length_le (by omega)]
        simp
    · simp -implicitDefEqProofs (maxSteps := 2000000) (disch := omega) [-getElem?_pos]
      have hie : A i = A l.length := by rw [a2 i (by omega), a2 _ (Nat.le_refl _)]
      rw [hie] at hmem
      exact ⟨_, _, WeakR.refl _ _ _, es, ⟨hnd, hmem⟩, rfl, rfl⟩


theorem k_Free (e : Ex) {σ : Sg} (he : csz e ≤ 1048576) : ACalls Tryz.prog 24 [.v (encE e)] σ fun r σ' => (∃ l, r = .v (vS l) ∧ l.Nodup ∧ ∀ y, y ∈ l ↔ y ∈ fvs e) ∧ σ' = σ := by
  have hl := fvs_len e
  have hc := fun σ => k_Ffree e (σ := σ) he
  cases e with
  | mk k p n s t ls ns l =>
  rw [encE_mk] at hc ⊢
  refine acalls_fit Tryz.func24 (by kernel_rfl) c24 rfl (by simp [a24]) fun hf => ?_
  clear hf
  simp -implicitDefEqProofs (maxSteps := 2000000) (disch := omega) [-getElem?_pos, a24]
  refine (hc _).mono fun r σ' hr => ?_
  obtain ⟨es, hfv, rfl, rfl⟩ := hr
  have hel := nodup_len hfv.1 fun y hy => (hfv.2 y).1 hy
  generalize Ex.mk k p n s t ls ns l = e at *
  simp -implicitDefEqProofs (maxSteps := 2000000) (disch := omega) [-getElem?_pos]
  refine k_Keys.mono fun r σ' hr => ?_
  obtain ⟨rfl, rfl⟩ := hr
  simp -implicitDefEqProofs (maxSteps := 2000000) (disch := omega) [-getElem?_pos]
  refine (k_Sorted (l := es) (by simp; rfl) (by simp [Nat.add_assoc]) (by omega)).then fun r hr => ?_
  subst hr
  simp -implicitDefEqProofs (maxSteps := 2000000) (disch := omega) [-getElem?_pos]
  exact .fin (.v (vS (sortS es))) ⟨⟨_, rfl, (List.mergeSort_perm es _).nodup_iff.2 hfv.1, fun y => (List.mergeSort_perm es _).mem_iff.trans (hfv.2 y)⟩, rfl⟩ (.refl _)
end Go.Proofs.YtpdeaekmgljeaaaGreatDoor

/-
  Expressions as literals; the example of layer 5. (Own work.)
-/
set_option linter.unusedVariables false
set_option linter.unusedSimpArgs false
namespace Go.Proofs.YtpdeaekmgljeaaaGreatDoor
open Go Go.Abs

def celE : Ex → List V
  | .mk k p n s t ls ns l => [.int .i64 k, .int .i64 p, .int .i64 n, .str s, .str t, .sl none false (ls.map .str), .sl none false (ns.map .str), .sl (some 8) false (l.map encE)]
theorem celE_enc (e : Ex) : encE e = .agg (celE e) := by cases e; exact encE_mk
theorem celE_one (e : Ex) : ∀ c ∈ celE e, c.one = true := by cases e; simp [celE, V.one]
theorem VLes.append : ∀ {a b c d : List V}, VLes a b → VLes c d → VLes (a ++ c) (b ++ d)
  | [], [], _, _, _, h => h
  | x :: a, y :: b, _, _, h, k => ⟨h.1, VLes.append h.2 k⟩
  | [], _ :: _, _, _, h, _ => h.elim
  | _ :: _, [], _, _, h, _ => h.elim
/-- Literals that stand for expressions. -/
def ELes : List V → List Ex → Prop
  | [], [] => True
  | .agg cs :: xs, e :: l => VLes cs (celE e) ∧ ELes xs l
  | _, _ => False
theorem ELes.flat : ∀ {xs : List V} {l : List Ex}, ELes xs l → VLes (V.flat xs) (V.flat (l.map encE)) ∧ xs.length = l.length
  | [], [], _ => ⟨trivial, rfl⟩
  | .agg cs :: xs, e :: l, h => by
    obtain ⟨h1, h2⟩ := ELes.flat h.2
    refine ⟨?_, by simp [h2]⟩
    simp only [V.flat, List.map_cons, List.flatMap_cons, celE_enc, V.cells] at h1 ⊢
    exact VLes.append h.1 h1
theorem flat_one : ∀ l : List Ex, ∀ c ∈ V.flat (l.map encE), c.one = true
  | [], c, h => by cases h
  | e :: l, c, h => by
    simp only [V.flat, List.map_cons, List.flatMap_cons, celE_enc, V.cells, List.mem_append] at h
    rcases h with h | h
    · exact celE_one e c h
    · exact flat_one l c (by simpa only [V.flat, celE_enc] using h)
theorem exs_le {f : Bool} {xs : List V} {l : List Ex} (h : ELes xs l) : VLe (.sl (some 8) f xs) (.sl (some 8) false (l.map encE)) := by
  obtain ⟨h1, h2⟩ := h.flat
  exact .sl (by simpa using h2) (fun y hy => by obtain ⟨e, _, rfl⟩ := List.mem_map.1 hy; exact encE_shape e) (flat_one l) h1
theorem ex_le {cs : List V} {e : Ex} (h : VLes cs (celE e)) : VLe (.agg cs) (encE e) := by
  rw [celE_enc]
  exact .agg h (celE_one e)
def exA : Ex := .mk 3 0 0 [97] [] [] [] []
def exB : Ex := .mk 3 0 0 [98] [] [] [] []
def exP : Ex := .mk 5 0 0 [] [] [] [] [exA, exB]
def exF : Ex := .mk 4 0 0 [97] [] [] [] [exP]
def ex0 : Ex := .mk 0 0 0 [] [] [] [] []
theorem leaf_le {k p n : Int} {s t : Str} : VLes [.int .i64 k, .int .i64 p, .int .i64 n, .str s, .str t, .snil, .snil, .snil] (celE (.mk k p n s t [] [] [])) := ⟨.refl _, .refl _, .refl _, .refl _, .refl _, .snil, .snil, .snil, trivial⟩
theorem exP_le : VLes [.int .i64 5, .int .i64 0, .int .i64 0, .str [], .str [], .snil, .snil, .sl (some 8) true [.agg [.int .i64 3, .int .i64 0, .int .i64 0, .str [97], .str [], .snil, .snil, .snil], .agg [.int .i64 3, .int .i64 0, .int .i64 0, .str [98], .str [], .snil, .snil, .snil]]] (celE exP) :=
  ⟨.refl _, .refl _, .refl _, .refl _, .refl _, .snil, .snil, exs_le ⟨leaf_le, leaf_le, trivial⟩, trivial⟩
theorem exF_le : VLes [.int .i64 4, .int .i64 0, .int .i64 0, .str [97], .str [], .snil, .snil, .sl (some 8) true [.agg [.int .i64 5, .int .i64 0, .int .i64 0, .str [], .str [], .snil, .snil, .sl (some 8) true [.agg [.int .i64 3, .int .i64 0, .int .i64 0, .str [97], .str [], .snil, .snil, .snil], .agg [.int .i64 3, .int .i64 0, .int .i64 0, .str [98], .str [], .snil, .snil, .snil]]]]] (celE exF) :=
  ⟨.refl _, .refl _, .refl _, .refl _, .refl _, .snil, .snil, exs_le ⟨exP_le, trivial⟩, trivial⟩
theorem exF_fv : fvs exF = [[98]] := by rfl
theorem exF_may : mayB exF = true := by kernel_rfl
theorem ex0_may : mayB ex0 = false := by kernel_rfl
theorem exF_dep : dep exF = 3 := by rfl
theorem one_of {l : List Str} {x : Str} (hn : l.Nodup) (h : ∀ y, y ∈ l ↔ y ∈ [x]) : l = [x] := by
  match l with
  | [] => exact absurd ((h x).2 (by simp)) (by simp)
  | [a] => rw [List.mem_singleton.1 ((h a).1 (by simp))]
  | a :: b :: l =>
    have h1 := List.mem_singleton.1 ((h a).1 (by simp))
    have h2 := List.mem_singleton.1 ((h b).1 (by simp))
    rw [List.nodup_cons] at hn
    exact absurd (by rw [h1, h2]; simp) hn.1
theorem k_Up5 {σ : Sg} : ACalls Tryz.prog 22 [] σ fun r σ' => r = .v (.bool true) ∧ σ' = σ := by
  have hF := (ex_le exF_le).d
  have h0 := (ex_le (leaf_le (k := 0) (p := 0) (n := 0) (s := []) (t := []))).d
  refine acalls_fit Tryz.func22 (by kernel_rfl) c22 rfl (by simp [a22]) fun hf => ?_
  clear hf
  simp -implicitDefEqProofs (maxSteps := 2000000) (disch := omega) [-getElem?_pos, a22]
  refine ((k_Free exF (by decide)).arg1 hF).then fun r hr => ?_
  obtain ⟨l, rfl, hn, hl⟩ := hr
  rw [exF_fv] at hl
  obtain rfl := one_of hn hl
  simp -implicitDefEqProofs (maxSteps := 2000000) (disch := omega) [-getElem?_pos]
  refine ((k_May (e := exF) (by decide)).arg1 hF).then fun r hr => ?_
  rw [exF_may] at hr
  subst hr
  simp -implicitDefEqProofs (maxSteps := 2000000) (disch := omega) [-getElem?_pos]
  refine ((k_May (e := ex0) (by decide)).arg1 h0).then fun r hr => ?_
  rw [ex0_may] at hr
  subst hr
  simp -implicitDefEqProofs (maxSteps := 2000000) (disch := omega) [-getElem?_pos]
  refine ((k_Depth exF (by decide)).arg1 hF).then fun r hr => ?_
  rw [exF_dep] at hr
  subst hr
  simp -implicitDefEqProofs (maxSteps := 2000000) (disch := omega) [-getElem?_pos]
  exact .fin _ ⟨rfl, rfl⟩ (.refl _)
end Go.Proofs.YtpdeaekmgljeaaaGreatDoor

/-
  ShowTells: the example. (Own work.)
-/
set_option linter.unusedVariables false
set_option linter.unusedSimpArgs false
namespace Go.Proofs.YtpdeaekmgljeaaaGreatDoor
open Go Go.Abs

def exf : Ex := .mk 3 0 0 [102] [] [] [] []
def exg : Ex := .mk 3 0 0 [103] [] [] [] []
def exx : Ex := .mk 3 0 0 [120] [] [] [] []
def exGX : Ex := .mk 5 0 0 [] [] [] [] [exg, exx]
def exFGX : Ex := .mk 5 0 0 [] [] [] [] [exf, exGX]
theorem ints_0 : intsE ex0 := by simp [ex0, intsE, intsL]
theorem ints_F : intsE exFGX := by simp [exFGX, exGX, exf, exg, exx, intsE, intsL]
theorem text_F : textR exFGX = .tup [.v (.str [102, 32, 40, 103, 32, 120, 41]), .v .inil] := by
  unfold textR
  rw [if_pos (by kernel_rfl), show showL exFGX = [102, 32, 40, 103, 32, 120, 41] by kernel_rfl]
theorem text_0 : textR ex0 = .tup [.v (.str []), .v (.iface 32 (.int .i64 1))] := by
  unfold textR
  rw [ex0_may]
  rfl
theorem exGX_le : VLes [.int .i64 5, .int .i64 0, .int .i64 0, .str [], .str [], .snil, .snil, .sl (some 8) true [.agg [.int .i64 3, .int .i64 0, .int .i64 0, .str [103], .str [], .snil, .snil, .snil], .agg [.int .i64 3, .int .i64 0, .int .i64 0, .str [120], .str [], .snil, .snil, .snil]]] (celE exGX) :=
  ⟨.refl _, .refl _, .refl _, .refl _, .refl _, .snil, .snil, exs_le ⟨leaf_le, leaf_le, trivial⟩, trivial⟩
theorem exFGX_le : VLes [.int .i64 5, .int .i64 0, .int .i64 0, .str [], .str [], .snil, .snil, .sl (some 8) true [.agg [.int .i64 3, .int .i64 0, .int .i64 0, .str [102], .str [], .snil, .snil, .snil], .agg [.int .i64 5, .int .i64 0, .int .i64 0, .str [], .str [], .snil, .snil, .sl (some 8) true [.agg [.int .i64 3, .int .i64 0, .int .i64 0, .str [103], .str [], .snil, .snil, .snil], .agg [.int .i64 3, .int .i64 0, .int .i64 0, .str [120], .str [], .snil, .snil, .snil]]]]] (celE exFGX) :=
  ⟨.refl _, .refl _, .refl _, .refl _, .refl _, .snil, .snil, exs_le ⟨leaf_le, exGX_le, trivial⟩, trivial⟩
theorem k_Up6 {σ : Sg} : ACalls Tryz.prog 8 [] σ fun r σ' => r = .v (.bool true) ∧ σ' = σ := by
  have hF := (ex_le exFGX_le).d
  have h0 := (ex_le (leaf_le (k := 0) (p := 0) (n := 0) (s := []) (t := []))).d
  refine acalls_fit Tryz.func8 (by kernel_rfl) c8 rfl (by simp [a8]) fun hf => ?_
  clear hf
  simp -implicitDefEqProofs (maxSteps := 2000000) (disch := omega) [-getElem?_pos, a8]
  refine ((k_ShText (e := exFGX) (by decide) ints_F).arg1 hF).then fun r hr => ?_
  rw [text_F] at hr
  subst hr
  simp -implicitDefEqProofs (maxSteps := 2000000) (disch := omega) [-getElem?_pos]
  refine ((k_ShText (e := ex0) (by decide) ints_0).arg1 h0).then fun r hr => ?_
  rw [text_0] at hr
  subst hr
  simp -implicitDefEqProofs (maxSteps := 2000000) (disch := omega) [-getElem?_pos]
  exact ⟨by kernel_rfl, .fin _ ⟨rfl, rfl⟩ (.refl _)⟩
end Go.Proofs.YtpdeaekmgljeaaaGreatDoor

/-
  ShowTells: arguments, with their integers' range. (Own work.)
-/
set_option linter.unusedVariables false
set_option linter.unusedSimpArgs false
namespace Go.Proofs.YtpdeaekmgljeaaaGreatDoor
open Go Go.Abs
namespace synS
theorem intsL_sub : ∀ l : List {e : Ex // intsE e}, intsL (l.map (·.1))
  | [] => by simp [intsL]
  | z :: l => by rw [List.map_cons, intsL]; exact ⟨z.2, intsL_sub l⟩
theorem expr_of2 : ∀ (n : Nat) {x : V}, x.bulk ≤ n → Arg Tryz.prog 25 x → ∃ t : Ex, x = encE t ∧ intsE t
  | 0, x, hn, h => by
    obtain ⟨parts, rfl, hp⟩ := h.struct (t := 25) (fs := Tryz.prog.fieldsOf 25) (n := 8) (ts := [3, 3, 2, 9, 9, 22, 22, 23]) (by kernel_rfl) (by kernel_rfl) (by kernel_rfl)
    match parts, hp with
    | [p, q, r, s, t, u, v, w], ⟨h1, h2, h3, h4, h5, h6, h7, h8, _⟩ =>
      obtain ⟨a, rfl, _⟩ := h1.int_inv (k := .i64) (by kernel_rfl)
      simp [V.bulk, V.bulkL] at hn
  | n + 1, x, hn, h => by
    obtain ⟨parts, rfl, hp⟩ := h.struct (t := 25) (fs := Tryz.prog.fieldsOf 25) (n := 8) (ts := [3, 3, 2, 9, 9, 22, 22, 23]) (by kernel_rfl) (by kernel_rfl) (by kernel_rfl)
    match parts, hp with
    | [p, q, r, s, t, u, v, w], ⟨h1, h2, h3, h4, h5, h6, h7, h8, _⟩ =>
      obtain ⟨a, rfl, _⟩ := h1.int_inv (k := .i64) (by kernel_rfl)
      obtain ⟨a2, rfl, _⟩ := h2.int_inv (k := .i64) (by kernel_rfl)
      obtain ⟨b, rfl, hb⟩ := h3.int_inv (k := .i64) (by kernel_rfl)
      obtain ⟨c, rfl, _⟩ := h4.str_inv (by kernel_rfl)
      obtain ⟨d, rfl, _⟩ := h5.str_inv (by kernel_rfl)
      obtain ⟨y0, rfl, hy0⟩ := sl_arg (e := 9) (sh := none) (by kernel_rfl) (by kernel_rfl) (by kernel_rfl) h6
      obtain ⟨ls, rfl⟩ := strs_of hy0
      obtain ⟨y1, rfl, hy1⟩ := sl_arg (e := 9) (sh := none) (by kernel_rfl) (by kernel_rfl) (by kernel_rfl) h7
      obtain ⟨ns, rfl⟩ := strs_of hy1
      obtain ⟨y2, rfl, hy2⟩ := sl_arg (e := 25) (sh := some 8) (by kernel_rfl) (by kernel_rfl) (by kernel_rfl) h8
      obtain ⟨xs, rfl, _, hx⟩ := hy2.sl (e := 25) (sh := some 8) (by kernel_rfl) (by kernel_rfl) (by kernel_rfl)
      simp [V.bulk, V.bulkL] at hn
      obtain ⟨l, rfl⟩ := list_of_all (enc := fun e : {e : Ex // intsE e} => encE e.1) fun y hy => by
        obtain ⟨t, ht, hi⟩ := expr_of2 n (by have := bulk_mem hy; omega) (hx y hy)
        exact ⟨⟨t, hi⟩, ht⟩
      refine ⟨.mk a a2 b c d ls ns (l.map (·.1)), by rw [encE_mk, List.map_map]; rfl, ?_⟩
      rw [intsE]
      refine ⟨hb, ?_⟩
      exact intsL_sub l
end synS
end Go.Proofs.YtpdeaekmgljeaaaGreatDoor

/-
  bushellaw06.ShowTells: for every input the law returns true, and each argument reads behind the call as it read before. Condition: the arguments are of the bulk that the second form grants; the package variables that the row lists are laid as its card tells.
-/
set_option linter.unusedVariables false
set_option linter.unusedSimpArgs false
namespace Go.Proofs.YtpdeaekmgljeaaaGreatDoor
open Go Go.Abs

namespace showTells
open synS
def args0 : Array Value := #[.agg #[.int .i64 0, .int .i64 0, .int .i64 0, .string ⟨#[]⟩, .string ⟨#[]⟩, .slice none 0 0, .slice none 0 0, .slice none 0 0]]
theorem laid_met (os : Os) : laidMet Tryz.prog Rows.showTellsUptoRow.laid ((laidWorld os).forCall (fun _ _ => 0) ⟨#[], args0, []⟩).memory :=
  laidMet_of_run' 8 (by kernel_rfl) (by kernel_rfl)
theorem reads (os : Os) {H : Type} (enc : TypeId × Value → H) : ∃ places, DataW.whole enc Tryz.prog ((laidWorld os).forCall (fun _ _ => 0) ⟨#[], args0, []⟩).memory Tryz.f3.params.toList Rows.showTellsSpec.vars false args0.toList 8 =
    some ([.agg [.lit (.int .i64 0), .lit (.int .i64 0), .lit (.int .i64 0), .lit (.string []), .lit (.string []), .nil, .nil, .nil]], [], places) :=
  ⟨[], by kernel_rfl⟩

set_option maxRecDepth 100000 in
theorem lifted (os : Os) (started : os.Started) (H : Type) (enc : TypeId × Value → H) (F : Stop.Interp) :
    ReturnsInHanded {} Tryz.checked os 3 .any ((Rows.OpenSpec.upto Rows.showTellsSpec).preRow enc Tryz.prog Tryz.f3 Rows.showTellsUptoRow.domain false Rows.showTellsUptoRow.laid) (((Rows.OpenSpec.upto Rows.showTellsSpec).at F).post enc Tryz.prog Tryz.f3 false true false false) := by
  obtain ⟨places, hx⟩ := reads os enc
  refine returnsInHanded_of_row (C := Tryz.checked) (s := Rows.OpenSpec.upto Rows.showTellsSpec) own started (by kernel_rfl) Tryz.func3
    (witness_row_at (enc := enc) (C := Tryz.checked) false (laidWorld os) args0 rfl (by kernel_rfl) (by kernel_rfl) (by kernel_rfl)
      (OpenSpec.preRow_of_cond 8 hx (by kernel_rfl) (fun k hk => by cases hk; kernel_rfl) (by kernel_rfl) (laid_met os))) ?_
  intro W base args ds gs before hval hW _ hcond _ hL _ _
  refine law_calls (T := [3, 2, 4, 9, 22, 25, 23]) (by kernel_rfl) laidOut (by kernel_rfl) (rt := 4) rfl (by kernel_rfl) hval _ rfl hW (fun ds hl => ?_) (fun xs hxs hbk => ?_) (glob_of hL)
  · match ds, hl with
    | [_], _ => rfl
  · replace hbk := Nat.le_trans hbk (of_decide_eq_true (hcond _ rfl))
    match xs, hxs with
    | [_], ⟨a1, _⟩ =>
      obtain ⟨e, rfl, hi⟩ := expr_of2 _ (Nat.le_refl _) a1
      simp only [V.bulkL, bulk_ex] at hbk
      exact k_Law6 (e := e) (by omega) hi fun σ => k_Up6

theorem said : Rows.ShowTellsUptoSaid :=
  OpenClaim.holds_of_cond 3 Tryz.f3 rfl rfl rfl rfl rfl rfl rfl ⟨rfl, rfl, rfl, rfl, rfl⟩ rfl rfl rfl rfl rfl (by kernel_rfl) Tryz.func3 (by kernel_rfl)
    (of_decide_eq_true (by kernel_rfl)) (by unfold Func.isWrapper; first | (rw [if_pos (by decide +kernel)]; kernel_rfl) | (rw [if_neg (by decide +kernel)]; exact ⟨rfl, rfl⟩))
    (fun os started H enc _ F => by rw [OpenClaim.pre_eq_preRow]; exact lifted os started H enc F)

theorem plain (f : FuncId) (fn : Func) (hf : Tryz.pinned.checked.prog.funcNamed "bushel/bushellaw06.ShowTells" = some f) (hfn : Tryz.pinned.checked.prog.funcs[f]? = some fn) :
    true = Tryz.pinned.checked.prog.looks [] ∧ ∀ (j : Nat) t, fn.params[j]? = some t → Tryz.pinned.checked.prog.wantsStandIn t = false := by
  obtain rfl : f = 3 := Option.some.inj ((show Tryz.prog.funcNamed "bushel/bushellaw06.ShowTells" = some 3 by kernel_rfl).symm.trans hf) |>.symm
  obtain rfl : fn = Tryz.f3 := (Option.some.inj (Tryz.func3.symm.trans hfn)).symm
  refine ⟨by kernel_rfl, fun j t ht => ?_⟩
  rw [Tryz.params3] at ht
  have hm := Array.mem_of_getElem? ht
  simp only [List.mem_toArray, List.mem_cons, List.not_mem_nil, or_false] at hm
  subst hm
  exact (show Tryz.prog.wantsStandIn 25 = false by kernel_rfl)

theorem proved : Rows.ShowTellsUptoCardSaid :=
  Claim7.holds_tied_plain_at .later [] _ _ _ _ said (fun _ h => by cases h) (by kernel_rfl) (fun _ h => by cases h) showTellsUpto_row_tie rfl ⟨rfl, rfl⟩ (by kernel_rfl) rfl plain (by kernel_rfl)
end showTells
end Go.Proofs.YtpdeaekmgljeaaaGreatDoor
