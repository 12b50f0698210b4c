/-
  Core expressions: the names that are free in them. (Own work.)
-/
import Derived.Test.YtppdghfpbliaeaaB11
set_option linter.unusedVariables false
set_option linter.unusedSimpArgs false
namespace Go.Proofs.Ytppdghfpbliaeaa
open Go Go.Abs

theorem weak_tok2 {B : Sg} {env env' : List (Nat × D)} {σ σ' : Sg} {i : Nat} {sh : Sh} (hσ : σ.tadd 0 = σ') (h : EnvEq ((i, .tsl σ.toks.length sh []) :: env) env') (hi : Go.Abs.look env i = .v .snil) : Weak B ⟨env, σ⟩ ⟨env', σ'⟩ := hσ ▸ .tok h hi
mutual
def fvs : Co → List Str
  | .mk k _ s t ns l => (if k = 3 then [s] else []) ++ fvL k s t ns 0 l
def fvL (k : Int) (s t : Str) (ns : List Str) : Nat → List Co → List Str
  | _, [] => []
  | i, x :: l => (fvs x).filter (fun y => !decide (y ∈ bnd k s t ns i)) ++ fvL k s t ns (i + 1) l
end
theorem fvL_get {k : Int} {s t : Str} {ns : List Str} {x : Co} : ∀ {l : List Co} {i j : Nat}, l[i]? = some x → fvL k s t ns j (l.take (i + 1)) = fvL k s t ns j (l.take i) ++ (fvs x).filter fun y => !decide (y ∈ bnd k s t ns (j + i))
  | [], i, j, h => by simp at h
  | y :: l, 0, j, h => by simp at h; subst h; simp [fvL]
  | y :: l, i + 1, j, h => by
    have := fvL_get (k := k) (s := s) (t := t) (ns := ns) (l := l) (i := i) (j := j + 1) (by simpa using h)
    simp only [List.take_succ_cons, fvL]
    rw [this, List.append_assoc, show j + 1 + i = j + (i + 1) by omega]
theorem fvs_len (e : Co) : 6 * (fvs e).length ≤ csz e := by
  refine Co.ind (P := fun e => 6 * (fvs e).length ≤ csz e) (fun k n s t ns l ih => ?_) e
  have hl : ∀ (l : List Co) (i : Nat), (∀ x ∈ l, 6 * (fvs x).length ≤ csz x) → 6 * (fvL k s t ns i l).length ≤ cszL l := by
    intro l
    induction l with
    | nil => intro i _; simp [fvL]
    | cons x l ih2 =>
      intro i h
      have h1 := h x (by simp)
      have h2 := ih2 (i + 1) fun y hy => h y (by simp [hy])
      have h3 := List.length_filter_le (fun y => !decide (y ∈ bnd k s t ns i)) (fvs x)
      simp only [fvL, List.length_append, cszL]
      omega
  have := hl l 0 ih
  simp only [fvs, csz, List.length_append]
  split <;> simp <;> omega
theorem fvs_mem {k n : Int} {s t : Str} {ns : List Str} {l : List Co} {i : Nat} {x : Co} (h : l[i]? = some x) : csz x ≤ cszL l := cszL_mem (List.mem_of_getElem? h)

theorem fvL_take {k : Int} {s t : Str} {ns : List Str} : ∀ (l : List Co) (i j : Nat), (fvL k s t ns j (l.take i)).length ≤ (fvL k s t ns j l).length
  | [], i, j => by simp
  | y :: l, 0, j => by simp [fvL]
  | y :: l, i + 1, j => by
    have := fvL_take (k := k) (s := s) (t := t) (ns := ns) l i (j + 1)
    simp only [List.take_succ_cons, fvL, List.length_append]
    omega
theorem accs (k : Int) (s t : Str) (ns : List Str) (l : List Co) (B : List Str) (hB : 6 * (B ++ fvL k s t ns 0 l).length ≤ 1048576) : ∃ A : Nat → List Str, A 0 = B ∧ (∀ i x, l[i]? = some x → A (i + 1) = A i ++ (fvs x).filter fun y => !decide (y ∈ bnd k s t ns i)) ∧
    (∀ i, l.length ≤ i → A i = B ++ fvL k s t ns 0 l) ∧ ∀ i, (A i).length ≤ 174763 := by
  refine ⟨fun i => B ++ fvL k s t ns 0 (l.take i), by simp [fvL], fun i x h => ?_, fun i h => by dsimp only; rw [List.take_of_length_le h], fun i => ?_⟩
  · dsimp only
    rw [fvL_get h, Nat.zero_add, List.append_assoc]
  · have := fvL_take (k := k) (s := s) (t := t) (ns := ns) l i 0
    simp only [List.length_append] at *
    omega
theorem filts (A : List Str) (p : Str → Bool) (l : List Str) : ∃ C : Nat → List Str, C 0 = A ∧ (∀ j y, l[j]? = some y → C (j + 1) = C j ++ if p y = true then [y] else []) ∧ (∀ j, l.length ≤ j → C j = A ++ l.filter p) ∧ ∀ j, (C j).length ≤ A.length + l.length := by
  refine ⟨fun j => A ++ (l.take j).filter p, by simp, fun j y h => ?_, fun j h => by dsimp only; rw [List.take_of_length_le h], fun j => ?_⟩
  · dsimp only
    rw [List.take_add_one, h, List.filter_append, List.append_assoc]
    simp [List.filter_cons]
  · have h1 := List.length_filter_le p (l.take j)
    have h2 := List.length_take_le j l
    simp only [List.length_append]
    have h3 : (l.take j).length ≤ l.length := List.length_take_le' j l
    omega
theorem k_Rfree (e : Co) : ∀ {σ : Sg}, csz e ≤ 1048576 → ACalls Try.prog 55 [.v (encC e)] σ fun r σ' => r = .v (vS (fvs e)) ∧ σ' = σ := by
  refine Co.ind (P := fun e => ∀ {σ : Sg}, csz e ≤ 1048576 → ACalls Try.prog 55 [.v (encC e)] σ fun r σ' => r = .v (vS (fvs e)) ∧ σ' = σ) (fun k n s t ns l ih => ?_) e
  intro σ he
  have hb := fun (i : Nat) (x : Str) (σ : Sg) hi hn => k_Binds (k := k) (n := n) (s := s) (t := t) (ns := ns) (l := l) (i := i) (x := x) (σ := σ) hi hn
  have hfl := fvs_len (.mk k n s t ns l)
  simp only [csz, fvs] at he hfl ⊢
  have hnl := nsz_len ns
  have hll := cszL_len l
  rw [encC_mk] at hb ⊢
  refine acalls_fit Try.func55 (by kernel_rfl) c55 rfl (by simp [a55]) fun hf => ?_
  clear hf
  by_cases h3 : k = 3
  · subst h3
    simp only [if_true] at hfl ⊢
    obtain ⟨A, a0, a1, a2, a3⟩ := accs 3 s t ns l [s] (by omega)
    rw [← a2 l.length (Nat.le_refl _)]
    simp -implicitDefEqProofs (maxSteps := 2000000) (disch := omega) [-getElem?_pos, a55]
    refine W_loop (α := Nat) 0 (fun i => l.length - i) (fun i => ⟨[(1, .ptr σ.objs.length 0), (3, .tsl σ.toks.length none ((A i).map .str)), (4, .v (.int .i64 i))], ⟨σ.objs ++ [Ob.cells [.v (.int .i64 3), .v (.int .i64 n), .v (.str s), .v (.str t), .v (.sl none false (ns.map .str)), .v (.sl (some 6) false (l.map encC))]], σ.toks ++ [(A i).length]⟩⟩)
      (fun i => i ≤ l.length) (.eq2 (by simp [a0]) (by simp [a0])) (by omega) fun i hi => ?_
    have hli := a3 i
    simp -implicitDefEqProofs (maxSteps := 2000000) (disch := omega) [-getElem?_pos]
    refine .mk (fun h => ?_) fun h => ?_
    · simp -implicitDefEqProofs (maxSteps := 2000000) (disch := omega) [-getElem?_pos]
      refine ⟨by omega, ?_⟩
      intro x hx
      have hx1 := cszL_mem (List.mem_of_getElem? hx)
      have hxl := fvs_len x
      have hs := a1 i x hx
      have hli2 := a3 (i + 1)
      refine (ih x (List.mem_of_getElem? hx) (by omega)).then fun r hr => ?_
      subst hr
      simp -implicitDefEqProofs (maxSteps := 2000000) (disch := omega) [-getElem?_pos]
      obtain ⟨C, c0, c1, c2, c3⟩ := filts (A i) (fun y => !decide (y ∈ bnd 3 s t ns i)) (fvs x)
      rw [← c2 (fvs x).length (Nat.le_refl _)] at hs
      refine W_loop (α := Nat) 0 (fun j => (fvs x).length - j) (fun j => ⟨[(1, .ptr σ.objs.length 0), (3, .tsl σ.toks.length none ((C j).map .str)), (4, .v (.int .i64 i)), (5, .v (vS (fvs x))), (6, .v (.int .i64 j))], ⟨σ.objs ++ [Ob.cells [.v (.int .i64 3), .v (.int .i64 n), .v (.str s), .v (.str t), .v (.sl none false (ns.map .str)), .v (.sl (some 6) false (l.map encC))]], σ.toks ++ [(C j).length]⟩⟩)
        (fun j => j ≤ (fvs x).length) (.eq2 (by simp [c0]) (by simp [c0])) (by omega) fun j hj => ?_
      have hjl := c3 j
      simp -implicitDefEqProofs (maxSteps := 2000000) (disch := omega) [-getElem?_pos]
      refine .mk (fun hq => ?_) fun hq => ?_
      · simp -implicitDefEqProofs (maxSteps := 2000000) (disch := omega) [-getElem?_pos]
        refine ⟨by omega, ?_⟩
        intro y hy
        have c1' := c1 j y hy
        refine (hb i y _ (by omega) (by omega)).then fun r hr => ?_
        subst hr
        cases hQ : decide (y ∈ bnd 3 s t ns i) with
        | true =>
          simp only [hQ, Bool.not_true, Bool.false_eq_true, if_false, List.append_nil] at c1'
          simp -implicitDefEqProofs (maxSteps := 2000000) (disch := omega) [-getElem?_pos]
          exact ⟨j + 1, by omega, by dsimp only; omega, .eq2 (by simp [c1']) (by simp [c1'])⟩
        | false =>
          simp only [hQ, Bool.not_false, if_true] at c1'
          simp -implicitDefEqProofs (maxSteps := 2000000) (disch := omega) [-getElem?_pos]
          refine ⟨by omega, ?_⟩
          intro z hz
          rw [hy] at hz
          cases hz
          refine ⟨by omega, ?_⟩
          exact ⟨j + 1, by omega, by dsimp only; omega, .eq2 (by simp [c1']) (by simp [c1'])⟩
      · simp -implicitDefEqProofs (maxSteps := 2000000) (disch := omega) [-getElem?_pos]
        have hje : C j = C (fvs x).length := by rw [c2 j (by omega), c2 _ (Nat.le_refl _)]
        exact ⟨i + 1, by omega, by dsimp only; omega, .eq2 (by simp [hs, hje]) (by simp [hs, hje])⟩
    · simp -implicitDefEqProofs (maxSteps := 2000000) (disch := omega) [-getElem?_pos]
      have hie : A i = A l.length := by rw [a2 i (by omega), a2 _ (Nat.le_refl _)]
      rw [hie]
      exact .fin _ ⟨rfl, rfl⟩ .tsl

  · simp only [h3, if_false] at hfl ⊢
    obtain ⟨A, a0, a1, a2, a3⟩ := accs k s t ns l [] (by omega)
    rw [← a2 l.length (Nat.le_refl _)]
    simp -implicitDefEqProofs (maxSteps := 2000000) (disch := omega) [-getElem?_pos, a55, h3]
    refine W_loop (α := Nat) 0 (fun i => l.length - i) (fun i => ⟨[(1, .ptr σ.objs.length 0), (3, .tsl σ.toks.length none ((A i).map .str)), (4, .v (.int .i64 i))], ⟨σ.objs ++ [Ob.cells [.v (.int .i64 k), .v (.int .i64 n), .v (.str s), .v (.str t), .v (.sl none false (ns.map .str)), .v (.sl (some 6) false (l.map encC))]], σ.toks ++ [(A i).length]⟩⟩)
      (fun i => i ≤ l.length) (weak_tok2 (i := 3) (sh := none) (by simp [Sg.tadd, a0]) (by simp [a0]) (by simp)) (by omega) fun i hi => ?_
    have hli := a3 i
    simp -implicitDefEqProofs (maxSteps := 2000000) (disch := omega) [-getElem?_pos]
    refine .mk (fun h => ?_) fun h => ?_
    · simp -implicitDefEqProofs (maxSteps := 2000000) (disch := omega) [-getElem?_pos]
      refine ⟨by omega, ?_⟩
      intro x hx
      have hx1 := cszL_mem (List.mem_of_getElem? hx)
      have hxl := fvs_len x
      have hs := a1 i x hx
      have hli2 := a3 (i + 1)
      refine (ih x (List.mem_of_getElem? hx) (by omega)).then fun r hr => ?_
      subst hr
      simp -implicitDefEqProofs (maxSteps := 2000000) (disch := omega) [-getElem?_pos]
      obtain ⟨C, c0, c1, c2, c3⟩ := filts (A i) (fun y => !decide (y ∈ bnd k s t ns i)) (fvs x)
      rw [← c2 (fvs x).length (Nat.le_refl _)] at hs
      refine W_loop (α := Nat) 0 (fun j => (fvs x).length - j) (fun j => ⟨[(1, .ptr σ.objs.length 0), (3, .tsl σ.toks.length none ((C j).map .str)), (4, .v (.int .i64 i)), (5, .v (vS (fvs x))), (6, .v (.int .i64 j))], ⟨σ.objs ++ [Ob.cells [.v (.int .i64 k), .v (.int .i64 n), .v (.str s), .v (.str t), .v (.sl none false (ns.map .str)), .v (.sl (some 6) false (l.map encC))]], σ.toks ++ [(C j).length]⟩⟩)
        (fun j => j ≤ (fvs x).length) (.eq2 (by simp [c0]) (by simp [c0])) (by omega) fun j hj => ?_
      have hjl := c3 j
      simp -implicitDefEqProofs (maxSteps := 2000000) (disch := omega) [-getElem?_pos]
      refine .mk (fun hq => ?_) fun hq => ?_
      · simp -implicitDefEqProofs (maxSteps := 2000000) (disch := omega) [-getElem?_pos]
        refine ⟨by omega, ?_⟩
        intro y hy
        have c1' := c1 j y hy
        refine (hb i y _ (by omega) (by omega)).then fun r hr => ?_
        subst hr
        cases hQ : decide (y ∈ bnd k s t ns i) with
        | true =>
          simp only [hQ, Bool.not_true, Bool.false_eq_true, if_false, List.append_nil] at c1'
          simp -implicitDefEqProofs (maxSteps := 2000000) (disch := omega) [-getElem?_pos]
          exact ⟨j + 1, by omega, by dsimp only; omega, .eq2 (by simp [c1']) (by simp [c1'])⟩
        | false =>
          simp only [hQ, Bool.not_false, if_true] at c1'
          simp -implicitDefEqProofs (maxSteps := 2000000) (disch := omega) [-getElem?_pos]
          refine ⟨by omega, ?_⟩
          intro z hz
          rw [hy] at hz
          cases hz
          refine ⟨by omega, ?_⟩
          exact ⟨j + 1, by omega, by dsimp only; omega, .eq2 (by simp [c1']) (by simp [c1'])⟩
      · simp -implicitDefEqProofs (maxSteps := 2000000) (disch := omega) [-getElem?_pos]
        have hje : C j = C (fvs x).length := by rw [c2 j (by omega), c2 _ (Nat.le_refl _)]
        exact ⟨i + 1, by omega, by dsimp only; omega, .eq2 (by simp [hs, hje]) (by simp [hs, hje])⟩
    · simp -implicitDefEqProofs (maxSteps := 2000000) (disch := omega) [-getElem?_pos]
      have hie : A i = A l.length := by rw [a2 i (by omega), a2 _ (Nat.le_refl _)]
      rw [hie]
      exact .fin _ ⟨rfl, rfl⟩ .tsl


theorem k_RFree (e : Co) {σ : Sg} (he : csz e ≤ 1048576) : ACalls Try.prog 35 [.v (encC e)] σ fun r σ' => r = .v (vS (ofS (fvs e))) ∧ σ' = σ := by
  have hl := fvs_len e
  have hc := fun σ => k_Rfree e (σ := σ) he
  cases e with
  | mk k n s t ns l =>
  rw [encC_mk] at hc ⊢
  refine acalls_fit Try.func35 (by kernel_rfl) c35 rfl (by simp [a35]) fun hf => ?_
  clear hf
  simp -implicitDefEqProofs (maxSteps := 2000000) (disch := omega) [-getElem?_pos, a35]
  refine (hc _).then fun r hr => ?_
  subst hr
  simp -implicitDefEqProofs (maxSteps := 2000000) (disch := omega) [-getElem?_pos]
  refine (k_ROf (by omega)).then fun r hr => ?_
  subst hr
  simp -implicitDefEqProofs (maxSteps := 2000000) (disch := omega) [-getElem?_pos]
  exact .fin _ ⟨rfl, rfl⟩ (.refl _)

def obC : Co → Ob
  | .mk k n s t ns l => .cells [.v (.int .i64 k), .v (.int .i64 n), .v (.str s), .v (.str t), .v (.sl none false (ns.map .str)), .v (.sl (some 6) false (l.map encC))]
theorem obC_mk {k n : Int} {s t : Str} {ns : List Str} {l : List Co} : obC (.mk k n s t ns l) = .cells [.v (.int .i64 k), .v (.int .i64 n), .v (.str s), .v (.str t), .v (.sl none false (ns.map .str)), .v (.sl (some 6) false (l.map encC))] := rfl
theorem WMap_mS {l : List Str} {K : List (V × D) → Prop} : WMap (some (mS l)) K = K (l.map fun s => (V.str s, D.v (.bool true))) := rfl
theorem mS_def {l : List Str} : Ob.map (l.map fun s => (V.str s, D.v (.bool true))) = mS l := rfl
/-- Just the free names, each once. -/
def FV (es : List Str) (e : Co) : Prop := es.Nodup ∧ ∀ y, y ∈ es ↔ y ∈ fvs e
theorem nodup_len : ∀ {a b : List Str}, a.Nodup → (∀ x, x ∈ a → x ∈ b) → a.length ≤ b.length
  | [], b, _, _ => by simp
  | x :: a, b, h, k => by
    obtain ⟨h1, h2⟩ := List.nodup_cons.1 h
    have hx := k x (by simp)
    have := nodup_len (a := a) (b := b.erase x) h2 fun y hy => (List.mem_erase_of_ne (by rintro rfl; exact h1 hy)).2 (k y (by simp [hy]))
    rw [List.length_erase_of_mem hx] at this
    have := List.length_pos_of_mem hx
    simp only [List.length_cons]
    omega
theorem merase_str (y : Str) : ∀ l : List Str, merase (.str y) (l.map fun s => (V.str s, D.v (.bool true))) = (l.erase y).map fun s => (V.str s, D.v (.bool true))
  | [] => rfl
  | x :: l => by
    rw [List.map_cons, merase, merase_str y l, List.erase_cons]
    by_cases h : x = y
    · subst h; simp [keq]
    · have h' : ¬ y = x := fun e => h e.symm
      simp [keq, h, h']
theorem keysOk_str : ∀ l : List Str, keysOk .str (l.map fun s => (V.str s, D.v (.bool true))) = true
  | [] => rfl
  | x :: l => by simp [keyOk, keysOk_str l]
theorem low2 {e : Co} {l : List Str} {a b : Nat} : ∀ ob ∈ [obC e, mS l], ob.low a b := by
  intro ob hob
  cases e
  simp only [List.mem_cons, List.not_mem_nil, or_false] at hob
  rcases hob with rfl | rfl
  · simp [obC_mk]
  · intro p hp
    obtain ⟨s, _, rfl⟩ := List.mem_map.1 hp
    trivial
structure FSt where
  i : Nat
  es : List Str

theorem k_Ffree (e : Co) : ∀ {σ : Sg}, csz e ≤ 1048576 → ACalls Try.prog 43 [.v (encC e)] σ fun r σ' => ∃ es, FV es e ∧ r = .map (σ.objs.length + 1) ∧ σ' = ⟨σ.objs ++ [obC e, mS es], σ.toks⟩ := by
  refine Co.ind (P := fun e => ∀ {σ : Sg}, csz e ≤ 1048576 → ACalls Try.prog 43 [.v (encC e)] σ fun r σ' => ∃ es, FV es e ∧ r = .map (σ.objs.length + 1) ∧ σ' = ⟨σ.objs ++ [obC e, mS es], σ.toks⟩) (fun k n s t ns l ih => ?_) e
  intro σ he
  have hb := fun (i : Nat) (σ : Sg) hi hn => k_binds (k := k) (n := n) (s := s) (t := t) (ns := ns) (l := l) (i := i) (σ := σ) hi hn
  have hfl := fvs_len (.mk k n s t ns l)
  simp only [csz, fvs, FV] at he hfl ⊢
  have hnl := nsz_len ns
  have hll := cszL_len l
  rw [encC_mk] at hb ⊢
  refine acalls_fit Try.func43 (by kernel_rfl) c43 rfl (by simp [a43]) fun hf => ?_
  clear hf
  by_cases h3 : k = 3
  · subst h3
    simp only [if_true] at hfl ⊢
    obtain ⟨A, a0, a1, a2, a3⟩ := accs 3 s t ns l [s] (by omega)
    rw [← a2 l.length (Nat.le_refl _)]
    simp -implicitDefEqProofs (maxSteps := 2000000) (disch := omega) [-getElem?_pos, a43]
    refine W_loop (α := FSt) ⟨0, [s]⟩ (fun x => l.length - x.i) (fun x => ⟨[(1, .ptr σ.objs.length 0), (3, .map (σ.objs.length + 1)), (17, .v (.sl (some 6) false (l.map encC))), (18, .v (.int .i64 l.length)), (19, .v (.int .i64 x.i))], ⟨σ.objs ++ [obC (.mk 3 n s t ns l), mS x.es], σ.toks⟩⟩)
      (fun x => x.i ≤ l.length ∧ x.es.Nodup ∧ ∀ y, y ∈ x.es ↔ y ∈ A x.i) (.eq2 (by simp [obC, mS]) (by simp)) ⟨by simp, by simp, by simp [a0]⟩ fun ⟨i, es⟩ ⟨hi, hnd, hmem⟩ => ?_
    dsimp only at hi hnd hmem ⊢
    have hli := a3 i
    have hesl := nodup_len hnd fun y hy => (hmem y).1 hy
    simp -implicitDefEqProofs (maxSteps := 2000000) (disch := omega) [-getElem?_pos]
    refine .mk (fun h => ?_) fun h => ?_
    · simp -implicitDefEqProofs (maxSteps := 2000000) (disch := omega) [-getElem?_pos]
      refine ⟨by omega, ?_⟩
      intro x hx
      have hx1 := cszL_mem (List.mem_of_getElem? hx)
      have hxl := fvs_len x
      have hs := a1 i x hx
      have hli2 := a3 (i + 1)
      have hcall := fun σ => ih x (List.mem_of_getElem? hx) (σ := σ) (by omega)
      cases x with
      | mk k2 n2 s2 t2 ns2 l2 =>
      rw [encC_mk] at hcall ⊢
      simp -implicitDefEqProofs (maxSteps := 2000000) (disch := omega) [-getElem?_pos]
      refine (hcall _).mono fun r σ' hr => ?_
      obtain ⟨lx, ⟨hx2, hx3⟩, rfl, rfl⟩ := hr
      generalize Co.mk k2 n2 s2 t2 ns2 l2 = x at *
      have hlxl := nodup_len hx2 fun y hy => (hx3 y).1 hy
      simp -implicitDefEqProofs (maxSteps := 2000000) (disch := omega) [-getElem?_pos, obC_mk]
      refine (hb i _ (by omega) (by omega)).then fun r hr => ?_
      subst hr
      obtain ⟨bs, hbs⟩ : ∃ bs, bs = bnd 3 s t ns i := ⟨_, rfl⟩
      rw [← hbs] at hs ⊢
      have hbl : bs.length ≤ 2 := by rw [hbs]; unfold bnd; repeat' split
                                     all_goals first | simp | (cases ns[(i - 1) / 2]? <;> simp)
      simp -implicitDefEqProofs (maxSteps := 2000000) (disch := omega) [-getElem?_pos]
      generalize Ob.cells [.v (.int .i64 k2), .v (.int .i64 n2), .v (.str s2), .v (.str t2), .v (.sl none false (ns2.map .str)), .v (.sl (some 6) false (l2.map encC))] = X
      refine W_loop (α := FSt) ⟨0, lx⟩ (fun z => bs.length - z.i) (fun z => ⟨[(1, .ptr σ.objs.length 0), (3, .map (σ.objs.length + 1)), (17, .v (.sl (some 6) false (l.map encC))), (18, .v (.int .i64 l.length)), (19, .v (.int .i64 i)), (6, .map (σ.objs.length + 4)), (28, .v (vS bs)), (29, .v (.int .i64 bs.length)), (30, .v (.int .i64 z.i))],
          ⟨σ.objs ++ [obC (.mk 3 n s t ns l), mS es, X, obC x, mS z.es], σ.toks⟩⟩)
        (fun z => z.i ≤ bs.length ∧ z.es.Nodup ∧ ∀ y, y ∈ z.es ↔ y ∈ fvs x ∧ ¬ y ∈ bs.take z.i) (.eq2 (by simp [obC_mk]) (by simp [Nat.add_assoc])) ⟨by simp, hx2, fun y => by simp [hx3]⟩ fun ⟨j, ej⟩ ⟨hj, hjn, hjm⟩ => ?_
      dsimp only at hj hjn hjm ⊢
      simp -implicitDefEqProofs (maxSteps := 2000000) (disch := omega) [-getElem?_pos]
      refine .mk (fun hq => ?_) fun hq => ?_
      · simp -implicitDefEqProofs (maxSteps := 2000000) (disch := omega) [-getElem?_pos]
        refine ⟨by omega, ?_⟩
        intro y hy
        simp -implicitDefEqProofs (maxSteps := 2000000) (disch := omega) [-getElem?_pos, WMap_mS, keysOk_str, merase_str]
        refine ⟨⟨j + 1, ej.erase y⟩, ⟨by dsimp only; omega, hjn.erase _, fun z => ?_⟩, by dsimp only; omega, .eq2 (by simp [mS]) (by simp)⟩
        rw [hjn.mem_erase_iff, hjm, List.take_add_one, hy, List.mem_append]
        simp
        constructor
        · rintro ⟨h1, h2, h3⟩
          exact ⟨h2, h3, h1⟩
        · rintro ⟨h1, h2, h3⟩
          exact ⟨h3, h1, h2⟩
      · simp -implicitDefEqProofs (maxSteps := 2000000) (disch := omega) [-getElem?_pos]
        have hel := nodup_len hjn fun y hy => ((hjm y).1 hy).1
        refine (k_Copy (ld := es) (ls := ej) (by omega) (by simp) (by simp) (by omega) (by omega)).mono fun r σ' hr => ?_
        obtain ⟨rfl, l', hl1, hl2, hl3, rfl⟩ := hr
        simp -implicitDefEqProofs (maxSteps := 2000000) (disch := omega) [-getElem?_pos]
        refine ⟨⟨i + 1, l'⟩, ⟨by dsimp only; omega, hl1, fun y => ?_⟩, by dsimp only; omega, .dropX (ys := [obC (.mk 3 n s t ns l), mS l']) (xs := [X, obC x, mS ej]) (by simp) rfl (by simp) low2 (by simp) (by simp)⟩
        rw [hs, hl2, hmem, hjm, List.mem_append, List.mem_filter, List.take_of_length_le (by omega)]
        simp
    · simp -implicitDefEqProofs (maxSteps := 2000000) (disch := omega) [-getElem?_pos]
      have hie : A i = A l.length := by rw [a2 i (by omega), a2 _ (Nat.le_refl _)]
      rw [hie] at hmem
      exact ⟨_, _, WeakR.refl _ _ _, es, ⟨hnd, hmem⟩, rfl, rfl⟩

  · simp only [h3, if_false] at hfl ⊢
    obtain ⟨A, a0, a1, a2, a3⟩ := accs k s t ns l [] (by omega)
    rw [← a2 l.length (Nat.le_refl _)]
    simp -implicitDefEqProofs (maxSteps := 2000000) (disch := omega) [-getElem?_pos, a43, h3]
    refine W_loop (α := FSt) ⟨0, []⟩ (fun x => l.length - x.i) (fun x => ⟨[(1, .ptr σ.objs.length 0), (3, .map (σ.objs.length + 1)), (17, .v (.sl (some 6) false (l.map encC))), (18, .v (.int .i64 l.length)), (19, .v (.int .i64 x.i))], ⟨σ.objs ++ [obC (.mk k n s t ns l), mS x.es], σ.toks⟩⟩)
      (fun x => x.i ≤ l.length ∧ x.es.Nodup ∧ ∀ y, y ∈ x.es ↔ y ∈ A x.i) (.eq2 (by simp [obC, mS]) (by simp)) ⟨by simp, by simp, by simp [a0]⟩ fun ⟨i, es⟩ ⟨hi, hnd, hmem⟩ => ?_
    dsimp only at hi hnd hmem ⊢
    have hli := a3 i
    have hesl := nodup_len hnd fun y hy => (hmem y).1 hy
    simp -implicitDefEqProofs (maxSteps := 2000000) (disch := omega) [-getElem?_pos]
    refine .mk (fun h => ?_) fun h => ?_
    · simp -implicitDefEqProofs (maxSteps := 2000000) (disch := omega) [-getElem?_pos]
      refine ⟨by omega, ?_⟩
      intro x hx
      have hx1 := cszL_mem (List.mem_of_getElem? hx)
      have hxl := fvs_len x
      have hs := a1 i x hx
      have hli2 := a3 (i + 1)
      have hcall := fun σ => ih x (List.mem_of_getElem? hx) (σ := σ) (by omega)
      cases x with
      | mk k2 n2 s2 t2 ns2 l2 =>
      rw [encC_mk] at hcall ⊢
      simp -implicitDefEqProofs (maxSteps := 2000000) (disch := omega) [-getElem?_pos]
      refine (hcall _).mono fun r σ' hr => ?_
      obtain ⟨lx, ⟨hx2, hx3⟩, rfl, rfl⟩ := hr
      generalize Co.mk k2 n2 s2 t2 ns2 l2 = x at *
      have hlxl := nodup_len hx2 fun y hy => (hx3 y).1 hy
      simp -implicitDefEqProofs (maxSteps := 2000000) (disch := omega) [-getElem?_pos, obC_mk]
      refine (hb i _ (by omega) (by omega)).then fun r hr => ?_
      subst hr
      obtain ⟨bs, hbs⟩ : ∃ bs, bs = bnd k s t ns i := ⟨_, rfl⟩
      rw [← hbs] at hs ⊢
      have hbl : bs.length ≤ 2 := by rw [hbs]; unfold bnd; repeat' split
                                     all_goals first | simp | (cases ns[(i - 1) / 2]? <;> simp)
      simp -implicitDefEqProofs (maxSteps := 2000000) (disch := omega) [-getElem?_pos]
      generalize Ob.cells [.v (.int .i64 k2), .v (.int .i64 n2), .v (.str s2), .v (.str t2), .v (.sl none false (ns2.map .str)), .v (.sl (some 6) false (l2.map encC))] = X
      refine W_loop (α := FSt) ⟨0, lx⟩ (fun z => bs.length - z.i) (fun z => ⟨[(1, .ptr σ.objs.length 0), (3, .map (σ.objs.length + 1)), (17, .v (.sl (some 6) false (l.map encC))), (18, .v (.int .i64 l.length)), (19, .v (.int .i64 i)), (6, .map (σ.objs.length + 4)), (28, .v (vS bs)), (29, .v (.int .i64 bs.length)), (30, .v (.int .i64 z.i))],
          ⟨σ.objs ++ [obC (.mk k n s t ns l), mS es, X, obC x, mS z.es], σ.toks⟩⟩)
        (fun z => z.i ≤ bs.length ∧ z.es.Nodup ∧ ∀ y, y ∈ z.es ↔ y ∈ fvs x ∧ ¬ y ∈ bs.take z.i) (.eq2 (by simp [obC_mk]) (by simp [Nat.add_assoc])) ⟨by simp, hx2, fun y => by simp [hx3]⟩ fun ⟨j, ej⟩ ⟨hj, hjn, hjm⟩ => ?_
      dsimp only at hj hjn hjm ⊢
      simp -implicitDefEqProofs (maxSteps := 2000000) (disch := omega) [-getElem?_pos]
      refine .mk (fun hq => ?_) fun hq => ?_
      · simp -implicitDefEqProofs (maxSteps := 2000000) (disch := omega) [-getElem?_pos]
        refine ⟨by omega, ?_⟩
        intro y hy
        simp -implicitDefEqProofs (maxSteps := 2000000) (disch := omega) [-getElem?_pos, WMap_mS, keysOk_str, merase_str]
        refine ⟨⟨j + 1, ej.erase y⟩, ⟨by dsimp only; omega, hjn.erase _, fun z => ?_⟩, by dsimp only; omega, .eq2 (by simp [mS]) (by simp)⟩
        rw [hjn.mem_erase_iff, hjm, List.take_add_one, hy, List.mem_append]
        simp
        constructor
        · rintro ⟨h1, h2, h3⟩
          exact ⟨h2, h3, h1⟩
        · rintro ⟨h1, h2, h3⟩
          exact ⟨h3, h1, h2⟩
      · simp -implicitDefEqProofs (maxSteps := 2000000) (disch := omega) [-getElem?_pos]
        have hel := nodup_len hjn fun y hy => ((hjm y).1 hy).1
        refine (k_Copy (ld := es) (ls := ej) (by omega) (by simp) (by simp) (by omega) (by omega)).mono fun r σ' hr => ?_
        obtain ⟨rfl, l', hl1, hl2, hl3, rfl⟩ := hr
        simp -implicitDefEqProofs (maxSteps := 2000000) (disch := omega) [-getElem?_pos]
        refine ⟨⟨i + 1, l'⟩, ⟨by dsimp only; omega, hl1, fun y => ?_⟩, by dsimp only; omega, .dropX (ys := [obC (.mk k n s t ns l), mS l']) (xs := [X, obC x, mS ej]) (by simp) rfl (by simp) low2 (by simp) (by simp)⟩
        rw [hs, hl2, hmem, hjm, List.mem_append, List.mem_filter, List.take_of_length_le (by omega)]
        simp
    · simp -implicitDefEqProofs (maxSteps := 2000000) (disch := omega) [-getElem?_pos]
      have hie : A i = A l.length := by rw [a2 i (by omega), a2 _ (Nat.le_refl _)]
      rw [hie] at hmem
      exact ⟨_, _, WeakR.refl _ _ _, es, ⟨hnd, hmem⟩, rfl, rfl⟩


theorem sort_of {es : List Str} {e : Co} (h : FV es e) : sortS es = ofS (fvs e) := by
  have hp : (sortS es).Perm es := List.mergeSort_perm es _
  have hs : Asc (sortS es) := by
    have h1 := List.pairwise_mergeSort (le := fun x y : Str => decide (x ≤ y)) (fun a b c h1 h2 => by simp at *; exact List.le_trans h1 h2) (fun a b => by simp; exact List.le_total a b) es
    have h2 : (sortS es).Nodup := hp.nodup_iff.2 h.1
    refine List.Pairwise.imp (fun {a b} (h : decide (a ≤ b) = true ∧ a ≠ b) => ?_) (h1.and h2)
    rcases List.le_iff_lt_or_eq.1 (of_decide_eq_true h.1) with h3 | h3
    · exact h3
    · exact absurd h3 h.2
  exact hs.ext (ofS_asc _).1 fun x => by rw [hp.mem_iff, h.2, (ofS_asc _).2]
theorem k_Free (e : Co) {σ : Sg} (he : csz e ≤ 1048576) : ACalls Try.prog 15 [.v (encC e)] σ fun r σ' => r = .v (vS (ofS (fvs e))) ∧ σ' = σ := by
  have hl := fvs_len e
  have hc := fun σ => k_Ffree e (σ := σ) he
  cases e with
  | mk k n s t ns l =>
  rw [encC_mk] at hc ⊢
  refine acalls_fit Try.func15 (by kernel_rfl) c15 rfl (by simp [a15]) fun hf => ?_
  clear hf
  simp -implicitDefEqProofs (maxSteps := 2000000) (disch := omega) [-getElem?_pos, a15]
  refine (hc _).mono fun r σ' hr => ?_
  obtain ⟨es, hfv, rfl, rfl⟩ := hr
  have hel := nodup_len hfv.1 fun y hy => (hfv.2 y).1 hy
  generalize Co.mk k n s t ns l = e at *
  simp -implicitDefEqProofs (maxSteps := 2000000) (disch := omega) [-getElem?_pos]
  refine k_Keys.mono fun r σ' hr => ?_
  obtain ⟨rfl, rfl⟩ := hr
  simp -implicitDefEqProofs (maxSteps := 2000000) (disch := omega) [-getElem?_pos]
  refine (k_Sorted (l := es) (by simp; rfl) (by simp [Nat.add_assoc]) (by omega)).then fun r hr => ?_
  subst hr
  simp -implicitDefEqProofs (maxSteps := 2000000) (disch := omega) [-getElem?_pos]
  exact .fin _ ⟨by rw [sort_of hfv], rfl⟩ (.refl _)
end Go.Proofs.Ytppdghfpbliaeaa
