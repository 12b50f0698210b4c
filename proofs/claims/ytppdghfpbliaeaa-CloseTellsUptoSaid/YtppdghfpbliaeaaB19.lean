/-
  Closed functions: what is free in a function's part; plainly. (Own work.)
-/
import Derived.Test.YtppdghfpbliaeaaB18
set_option linter.unusedVariables false
set_option linter.unusedSimpArgs false
namespace Go.Proofs.Ytppdghfpbliaeaa
open Go Go.Abs

/-- A function takes one part, one with a name two. -/
inductive Wh : Co → Prop where
  | mk (k n : Int) (s t : Str) (ns : List Str) (l : List Co) (h4 : k = 4 → l.length = 1) (h7 : k = 7 → l.length = 2) (hl : ∀ x ∈ l, Wh x) : Wh (.mk k n s t ns l)
theorem fvL_map {k : Int} {s t : Str} {ns : List Str} : ∀ {l l' : List Co} (j : Nat), l.map fvs = l'.map fvs → fvL k s t ns j l = fvL k s t ns j l'
  | [], [], _, _ => rfl
  | [], _ :: _, _, h => by cases h
  | _ :: _, [], _, h => by cases h
  | x :: l, y :: l', j, h => by
    simp only [List.map_cons, List.cons.injEq] at h
    simp only [fvL]
    rw [h.1, fvL_map (j + 1) h.2]
theorem wkL_map {α : Type} {g : Co → α} : ∀ (l : List Co) (w : Ws), (∀ x ∈ l, ∀ w, g (wk x w).1 = g x) → (wkL l w).1.map g = l.map g
  | [], w, _ => rfl
  | x :: l, w, h => by
    simp only [wkL, List.map_cons]
    rw [h x (by simp), wkL_map l _ fun y hy => h y (by simp [hy])]
/-- The numbers make no difference. -/
theorem wk_fvs (e : Co) : ∀ w, fvs (wk e w).1 = fvs e := by
  refine Co.ind (P := fun e => ∀ w, fvs (wk e w).1 = fvs e) (fun k n s t ns l ih w => ?_) e
  simp only [wk, fvs]
  congr 1
  exact fvL_map 0 (wkL_map l _ ih)
theorem cszL_map : ∀ {l l' : List Co}, l.map csz = l'.map csz → cszL l = cszL l'
  | [], [], _ => rfl
  | [], _ :: _, h => by cases h
  | _ :: _, [], h => by cases h
  | x :: l, y :: l', h => by
    simp only [List.map_cons, List.cons.injEq] at h
    simp only [cszL]
    rw [h.1, cszL_map h.2]
theorem wk_csz (e : Co) : ∀ w, csz (wk e w).1 = csz e := by
  refine Co.ind (P := fun e => ∀ w, csz (wk e w).1 = csz e) (fun k n s t ns l ih w => ?_) e
  simp only [wk, csz]
  rw [cszL_map (wkL_map l _ ih)]

/-- What a function's part has free. -/
def Own (N : Nat) (f : Fu) : Prop := ∃ p c, f.part = some p ∧ f.caps = some c ∧ csz p ≤ N ∧ c.length ≤ N ∧ (∀ y, y ∈ c ↔ y ∈ fvs p ∧ y ≠ f.s ∧ y ≠ f.t ∨ y ∈ c ∧ y ∈ fvs p) ∧ ∀ y ∈ fvs p, y ∈ c ∨ y = f.s ∨ y = f.t
theorem Own.mono {N M : Nat} {f : Fu} (h : Own N f) (k : N ≤ M) : Own M f := by
  obtain ⟨p, c, h1, h2, h3, h4, h5⟩ := h
  exact ⟨p, c, h1, h2, by omega, by omega, h5⟩
theorem setPart_app (x : Co) (f : Fu) : ∀ (a b : List Fu), setPart (a ++ f :: b) a.length x = a ++ { f with part := some x } :: b
  | [], b => rfl
  | g :: a, b => by simp [setPart, setPart_app x f a b]
theorem mem_ofS {l : List Str} {y : Str} : y ∈ ofS l ↔ y ∈ l := (ofS_asc l).2 y
theorem own4 {n : Int} {s t : Str} {ns : List Str} {x x' : Co} (hx : fvs x' = fvs x) (hc : csz x' = csz x) : Own (csz (.mk 4 n s t ns [x])) { fuOf (.mk 4 n s t ns [x]) with part := some x' } := by
  have hm : ∀ y, y ∈ ofS (fvs (.mk 4 n s t ns [x])) ↔ y ∈ fvs x ∧ y ≠ s := by
    intro y
    rw [mem_ofS]
    simp [fvs, fvL, bnd]
  refine ⟨x', ofS (fvs (.mk 4 n s t ns [x])), rfl, by simp [fuOf, capsOf], ?_, ?_, fun y => ?_, fun y hy => ?_⟩
  · simp only [csz, cszL]; omega
  · have h1 := ofS_len (fvs (.mk 4 n s t ns [x]))
    have h2 := fvs_len (.mk 4 n s t ns [x])
    omega
  · rw [hm, hx]
    constructor
    · intro h
      exact .inr ⟨h, h.1⟩
    · rintro (⟨h1, h2, h3⟩ | ⟨h1, h2⟩)
      · exact ⟨h1, by simpa [fuOf] using h3⟩
      · exact h1
  · rw [hm]
    rw [hx] at hy
    simp only [fuOf]
    by_cases h : y = s
    · exact .inr (.inr (by simpa using h))
    · exact .inl ⟨hy, h⟩
theorem own7 {n : Int} {s t : Str} {ns : List Str} {x z x' : Co} (hx : fvs x' = fvs x) (hc : csz x' = csz x) : Own (csz (.mk 7 n s t ns [x, z])) { fuOf (.mk 7 n s t ns [x, z]) with part := some x' } := by
  have hm : ∀ y, y ∈ capsOf (.mk 7 n s t ns [x, z]) ↔ y ∈ fvs x ∧ y ≠ t ∧ y ≠ s := by
    intro y
    simp only [capsOf, if_true, List.mem_filter, mem_ofS]
    simp [fvs, fvL, bnd, and_assoc]
  refine ⟨x', capsOf (.mk 7 n s t ns [x, z]), rfl, by simp [fuOf], ?_, ?_, fun y => ?_, fun y hy => ?_⟩
  · simp only [csz, cszL]; omega
  · have h0 : (capsOf (.mk 7 n s t ns [x, z])).length ≤ (ofS (fvs (.mk 4 0 t [] [] [x]))).length := by
      simp only [capsOf, if_true]
      exact List.length_filter_le _ _
    have h1 := ofS_len (fvs (.mk 4 0 t [] [] [x]))
    have h2 := fvs_len (.mk 4 0 t [] [] [x])
    simp only [csz, cszL, nsz, List.length_nil] at h2 ⊢
    omega
  · rw [hm, hx]
    constructor
    · intro h
      exact .inr ⟨h, h.1⟩
    · rintro (⟨h1, h2, h3⟩ | ⟨h1, h2⟩)
      · exact ⟨h1, by simpa [fuOf] using h3, by simpa [fuOf] using h2⟩
      · exact h1
  · rw [hm]
    rw [hx] at hy
    simp only [fuOf]
    by_cases h : y = s
    · exact .inr (.inl (by simpa using h))
    by_cases h' : y = t
    · exact .inr (.inr (by simpa using h'))
    · exact .inl ⟨hy, h', h⟩

/-- What the walk adds are functions with all that they take along. -/
theorem wk_own (e : Co) : Wh e → ∀ w, ∃ N, (wk e w).2.fs = w.fs ++ N ∧ ∀ f ∈ N, Own (csz e) f := by
  refine Co.ind (P := fun e => Wh e → ∀ w, ∃ N, (wk e w).2.fs = w.fs ++ N ∧ ∀ f ∈ N, Own (csz e) f) (fun k n s t ns l ih hw w => ?_) e
  cases hw with
  | mk _ _ _ _ _ _ h4 h7 hl =>
  have hL : ∀ (l : List Co) (w : Ws), (∀ x ∈ l, ∀ w, ∃ N, (wk x w).2.fs = w.fs ++ N ∧ ∀ f ∈ N, Own (csz x) f) → ∃ N, (wkL l w).2.fs = w.fs ++ N ∧ ∀ f ∈ N, Own (cszL l) f := by
    intro l
    induction l with
    | nil => intro w _; exact ⟨[], by simp [wkL], by simp⟩
    | cons x l ih2 =>
      intro w h
      obtain ⟨N1, e1, p1⟩ := h x (by simp) w
      obtain ⟨N2, e2, p2⟩ := ih2 (wk x w).2 fun y hy => h y (by simp [hy])
      refine ⟨N1 ++ N2, by simp only [wkL]; rw [e2, e1, List.append_assoc], fun f hf => ?_⟩
      simp only [cszL]
      rcases List.mem_append.1 hf with hf | hf
      · exact (p1 f hf).mono (by omega)
      · exact (p2 f hf).mono (by omega)
  obtain ⟨N, e1, p1⟩ := hL l (if isFun k then ⟨w.fs ++ [fuOf (.mk k n s t ns l)], w.bad || badOf (.mk k n s t ns l)⟩ else w) fun x hx => ih x hx (hl x hx)
  have hle : cszL l ≤ csz (.mk k n s t ns l) := by simp only [csz]; omega
  cases hk : isFun k with
  | false =>
    simp only [hk, Bool.false_eq_true, if_false] at e1
    refine ⟨N, ?_, fun f hf => (p1 f hf).mono hle⟩
    simp only [wk, hk, Bool.false_eq_true, if_false]
    exact e1
  | true =>
    simp only [hk, if_true, List.append_assoc, List.cons_append, List.nil_append] at e1
    rcases (show k = 4 ∨ k = 7 by simpa [isFun] using hk) with rfl | rfl
    · obtain ⟨x, rfl⟩ : ∃ x, l = [x] := by
        have := h4 rfl
        match l, this with
        | [x], _ => exact ⟨x, rfl⟩
      refine ⟨{ fuOf (.mk 4 n s t ns [x]) with part := some (wk x ⟨w.fs ++ [fuOf (.mk 4 n s t ns [x])], w.bad || badOf (.mk 4 n s t ns [x])⟩).1 } :: N, ?_, fun f hf => ?_⟩
      · simp only [wk, hk, if_true, wkL]
        simp only [wkL] at e1
        rw [e1]
        exact setPart_app _ _ _ _
      · rcases List.mem_cons.1 hf with rfl | hf
        · exact own4 (wk_fvs _ _) (wk_csz _ _)
        · exact (p1 f hf).mono hle
    · obtain ⟨x, z, rfl⟩ : ∃ x z, l = [x, z] := by
        have := h7 rfl
        match l, this with
        | [x, z], _ => exact ⟨x, z, rfl⟩
      refine ⟨{ fuOf (.mk 7 n s t ns [x, z]) with part := some (wk x ⟨w.fs ++ [fuOf (.mk 7 n s t ns [x, z])], w.bad || badOf (.mk 7 n s t ns [x, z])⟩).1 } :: N, ?_, fun f hf => ?_⟩
      · simp only [wk, hk, if_true, wkL]
        simp only [wkL] at e1
        rw [e1]
        exact setPart_app _ _ _ _
      · rcases List.mem_cons.1 hf with rfl | hf
        · exact own7 (wk_fvs _ _) (wk_csz _ _)
        · exact (p1 f hf).mono hle

/-- What is true of each function that is given out. -/
def OwnAt (N i : Nat) (f : Fu) : Prop := ∃ p, f.part = some p ∧ csz p ≤ N ∧ (f.caps.getD []).length ≤ N ∧ (∀ y ∈ f.caps.getD [], y ∈ fvs p) ∧ (∀ y ∈ fvs p, y ∈ f.caps.getD [] ∨ i ≠ 0 ∧ (y = f.s ∨ y = f.t)) ∧ (i = 0 → f.caps = none)
theorem close_own {e : Co} (hw : Wh e) (h0 : closeE e = 0) : closeL e ≠ [] ∧ ∀ (i : Nat) f, (closeL e)[i]? = some f → OwnAt (csz e) i f := by
  obtain ⟨N, h1, h2⟩ := wk_own e hw ⟨[fu0], false⟩
  have hf : ofS (fvs e) = [] := by
    unfold closeE at h0
    split at h0
    · cases h0
    · rename_i h; simpa using h
  have hc : closeL e = { fu0 with part := some (cw e).1 } :: N := by
    unfold closeL
    rw [if_pos h0]
    have h3 : (cw e).2.fs = fu0 :: N := h1
    rw [h3]
    rfl
  rw [hc]
  refine ⟨by simp, fun i f hi => ?_⟩
  cases i with
  | zero =>
    simp only [List.getElem?_cons_zero, Option.some.injEq] at hi
    subst hi
    have h4 : fvs (cw e).1 = fvs e := wk_fvs e _
    refine ⟨(cw e).1, rfl, Nat.le_of_eq (wk_csz e _), by simp [fu0], by simp [fu0], fun y hy => ?_, fun _ => rfl⟩
    rw [h4, ← mem_ofS, hf] at hy
    cases hy
  | succ i =>
    simp only [List.getElem?_cons_succ] at hi
    obtain ⟨p, c, g1, g2, g3, g4, g5, g6⟩ := h2 f (List.mem_of_getElem? hi)
    refine ⟨p, g1, g3, by rw [g2]; exact g4, fun y hy => ?_, fun y hy => ?_, fun h => by cases h⟩
    · rw [g2] at hy
      rcases (g5 y).1 hy with ⟨h, _⟩ | ⟨_, h⟩ <;> exact h
    · rw [g2]
      rcases g6 y hy with h | h
      · exact .inl h
      · exact .inr ⟨by omega, h⟩
end Go.Proofs.Ytppdghfpbliaeaa
