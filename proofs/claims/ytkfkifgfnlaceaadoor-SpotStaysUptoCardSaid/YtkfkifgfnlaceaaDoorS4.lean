/-
  Lines and columns; an error as a text with its place; the example. (Own work.)
-/
import Derived.Test.YtkfkifgfnlaceaaDoorS3
set_option linter.unusedVariables false
set_option linter.unusedSimpArgs false
namespace Go.Proofs.YtkfkifgfnlaceaaDoor
open Go Go.Abs

/-- The column behind a text: one more than what stands behind its last line's end. -/
def colN (b : Str) : Nat := (b.reverse.takeWhile fun c => decide (c ≠ 10)).length + 1
theorem colN_nil : colN [] = 1 := rfl
theorem colN_snoc (b : Str) (c : UInt8) : colN (b ++ [c]) = if c = 10 then 1 else colN b + 1 := by
  unfold colN
  rw [List.reverse_append]
  show ((c :: b.reverse).takeWhile _).length + 1 = _
  by_cases h : c = 10
  · rw [List.takeWhile_cons_of_neg (by simp [h]), if_pos h]; rfl
  · rw [List.takeWhile_cons_of_pos (by simp [h]), if_neg h]; rfl
theorem colN_all : ∀ (k : Nat) (b : Str), b.length = k → (∀ c ∈ b, c ≠ 10) → colN b = b.length + 1 := fun k b _ h => by
  unfold colN
  have e : ∀ l : Str, (∀ c ∈ l, c ≠ 10) → l.takeWhile (fun c => decide (c ≠ 10)) = l := fun l => by
    induction l with
    | nil => intro _; rfl
    | cons c l ih => intro h; rw [List.takeWhile_cons_of_pos (by simpa using h c (by simp)), ih fun c hc => h c (by simp [hc])]
  rw [e _ fun c hc => h c (List.mem_reverse.1 hc), List.length_reverse]
theorem colN_behind : ∀ (q p : Str), (∀ c ∈ q, c ≠ 10) → colN (p ++ 10 :: q) = q.length + 1 := fun q p h => by
  unfold colN
  rw [List.reverse_append, List.reverse_cons, List.append_assoc]
  show ((q.reverse ++ (10 :: p.reverse)).takeWhile _).length + 1 = _
  rw [List.takeWhile_append_of_pos fun c hc => by simpa using h c (List.mem_reverse.1 hc), List.takeWhile_cons_of_neg (by simp)]
  simp
theorem colN_le (b : Str) : 1 ≤ colN b ∧ colN b ≤ b.length + 1 := by
  unfold colN
  have := List.takeWhile_prefix (fun c : UInt8 => decide (c ≠ 10)) (l := b.reverse) |>.length_le
  rw [List.length_reverse] at this
  omega
theorem k_LastIdx {f : Bool} {b : Str} {σ : Sg} (hb : b.length ≤ 1048576) : ACalls Tryd.prog 30 [.v (.sl none f (bytesV b)), .v (.int .u8 10)] σ fun r σ' => r = .v (.int .i64 ((b.length : Int) - colN b)) ∧ σ' = σ := by
  have key : ACalls Tryd.prog 47 [.v (.sl none f (bytesV b)), .v (.int .u8 10)] σ fun r σ' => r = .v (.int .i64 ((b.length : Int) - colN b)) ∧ σ' = σ := by
    refine acalls_fit Tryd.func47 (by kernel_rfl) c47 rfl (by simp [a47]) fun hf => ?_
    clear hf
    simp -implicitDefEqProofs (maxSteps := 2000000) (disch := omega) [-getElem?_pos, a47]
    refine W_loop (α := Nat) b.length (fun k => k) (fun k => ⟨[(0, .v (.sl none f (bytesV b))), (1, .v (.int .u8 10)), (5, .v (.int .i64 ((k : Int) - 1)))], σ⟩) (fun k => k ≤ b.length ∧ ∀ c ∈ b.drop k, c ≠ 10) (.eq (by simp)) ⟨Nat.le_refl _, by simp⟩ fun k ⟨hk, hn⟩ => ?_
    simp -implicitDefEqProofs (maxSteps := 2000000) (disch := omega) [-getElem?_pos]
    refine .mk (fun h => ?_) fun h => ?_
    · obtain ⟨k, rfl⟩ : ∃ k', k = k' + 1 := ⟨k - 1, by omega⟩
      have hlt : k < b.length := by omega
      have hkk : ((k + 1 : Nat) : Int) - 1 = k := by omega
      obtain ⟨c, hc⟩ : ∃ c, b[k]? = some c := ⟨b[k], List.getElem?_eq_getElem hlt⟩
      rw [hkk]
      simp -implicitDefEqProofs (maxSteps := 2000000) (disch := omega) [-getElem?_pos, hc]
      refine ⟨hlt, .mk (fun h10 => ?_) fun h10 => ?_⟩
      · simp -implicitDefEqProofs (maxSteps := 2000000) (disch := omega) [-getElem?_pos]
        have e10 : c = 10 := UInt8.toNat_inj.1 (by show c.toNat = 10; omega)
        have hd : b = b.take k ++ 10 :: b.drop (k + 1) := by
          conv => lhs; rw [← List.take_append_drop k b]
          rw [List.drop_eq_getElem_cons hlt, (List.getElem?_eq_some_iff.1 hc).2, e10]
        have hcol : colN b = (b.drop (k + 1)).length + 1 := by
          conv => lhs; rw [hd]
          exact colN_behind _ _ hn
        rw [List.length_drop] at hcol
        exact .fin _ ⟨by rw [hcol]; congr 2; omega, rfl⟩ (.refl _)
      · simp -implicitDefEqProofs (maxSteps := 2000000) (disch := omega) [-getElem?_pos]
        refine ⟨k, ⟨by omega, fun x hx => ?_⟩, by dsimp only; omega, .eq (by simp)⟩
        rw [List.drop_eq_getElem_cons hlt, (List.getElem?_eq_some_iff.1 hc).2] at hx
        rcases List.mem_cons.1 hx with rfl | hx
        · intro e
          subst e
          exact h10 rfl
        · exact hn x hx
    · have hk0 : k = 0 := by omega
      subst hk0
      simp -implicitDefEqProofs (maxSteps := 2000000) (disch := omega) [-getElem?_pos]
      have hcol := colN_all _ b rfl fun c hc => hn c (by simpa using hc)
      exact .fin _ ⟨by rw [hcol]; congr 2; omega, rfl⟩ (.refl _)
  refine acalls_fit Tryd.func30 (by kernel_rfl) c30 rfl (by simp [a30]) fun hf => ?_
  clear hf
  simp -implicitDefEqProofs (maxSteps := 2000000) (disch := omega) [-getElem?_pos, a30]
  refine key.then fun r hr => ?_
  subst hr
  simp -implicitDefEqProofs (maxSteps := 2000000) (disch := omega) [-getElem?_pos]
  exact .fin _ ⟨rfl, rfl⟩ (.refl _)
/-- How much of a text stands ahead of a place. -/
def upTo (b : Str) (at_ : Int) : Nat := (min at_ b.length).toNat
def lineN (b : Str) (at_ : Int) : Nat := 1 + (b.take (upTo b at_)).count 10
theorem upTo_le {b : Str} {at_ : Int} : upTo b at_ ≤ b.length := by unfold upTo; omega
theorem k_Where {b : Str} {at_ : Int} {f : Bool} {σ : Sg} (hb : b.length ≤ 1048576) : ACalls Tryd.prog 10 [.v (.sl none f (bytesV b)), .v (.int .i64 at_)] σ fun r σ' => r = .tup [.v (.int .i64 (lineN b at_)), .v (.int .i64 (colN (b.take (upTo b at_))))] ∧ σ' = σ := by
  refine acalls_fit Tryd.func10 (by kernel_rfl) c10 rfl (by simp [a10]) fun hf => ?_
  clear hf
  have hn : ∀ k : Int, k = (if 0 < (if (b.length : Int) < at_ then (b.length : Int) else at_) then (if (b.length : Int) < at_ then (b.length : Int) else at_) else 0) → k.toNat = upTo b at_ ∧ 0 ≤ k ∧ k ≤ b.length := fun k hk => by
    unfold upTo
    subst hk
    split <;> split <;> omega
  obtain ⟨k, hk⟩ : ∃ k, k = (if 0 < (if (b.length : Int) < at_ then (b.length : Int) else at_) then (if (b.length : Int) < at_ then (b.length : Int) else at_) else 0) := ⟨_, rfl⟩
  obtain ⟨h1, h2, h3⟩ := hn k hk
  have hct : (b.take (upTo b at_)).count 10 ≤ b.length := Nat.le_trans List.count_le_length (by rw [List.length_take]; omega)
  have hlt : (b.take (upTo b at_)).length = upTo b at_ := by rw [List.length_take]; have := upTo_le (b := b) (at_ := at_); omega
  have hcl := colN_le (b.take (upTo b at_))
  have hup := upTo_le (b := b) (at_ := at_)
  have kc : ∀ σ, ACalls Tryd.prog 29 [.v (.sl none false (bytesV (b.take (upTo b at_)))), .v (.sl none true [.int .u8 10])] σ fun r σ' => r = .v (.int .i64 ((b.take (upTo b at_)).count 10)) ∧ σ' = σ := fun σ => k_Count
  have kl : ∀ σ, ACalls Tryd.prog 30 [.v (.sl none false (bytesV (b.take (upTo b at_)))), .v (.int .u8 10)] σ fun r σ' => r = .v (.int .i64 ((upTo b at_ : Int) - colN (b.take (upTo b at_)))) ∧ σ' = σ := fun σ => by
    have h := k_LastIdx (f := false) (b := b.take (upTo b at_)) (σ := σ) (by omega)
    rw [hlt] at h
    exact h
  simp -implicitDefEqProofs (maxSteps := 2000000) (disch := omega) [-getElem?_pos, a10, ← hk, h1]
  refine ⟨h2, h3, ?_⟩
  refine (kc _).then fun r hr => ?_
  subst hr
  simp -implicitDefEqProofs (maxSteps := 2000000) (disch := omega) [-getElem?_pos, hlt]
  refine (kl _).then fun r hr => ?_
  subst hr
  simp -implicitDefEqProofs (maxSteps := 2000000) (disch := omega) [-getElem?_pos, hlt]
  have e1 : ((upTo b at_ : Int) - ((upTo b at_ : Int) - (colN (b.take (upTo b at_)) : Int))) = colN (b.take (upTo b at_)) := by omega
  rw [e1]
  exact .fin _ ⟨by simp [lineN], rfl⟩ (.refl _)
theorem k_RWhere {b : Str} {at_ : Int} {f : Bool} {σ : Sg} (hb : b.length ≤ 1048576) : ACalls Tryd.prog 11 [.v (.sl none f (bytesV b)), .v (.int .i64 at_)] σ fun r σ' => r = .tup [.v (.int .i64 (lineN b at_)), .v (.int .i64 (colN (b.take (upTo b at_))))] ∧ σ' = σ := by
  refine acalls_fit Tryd.func11 (by kernel_rfl) c11 rfl (by simp [a11]) fun hf => ?_
  clear hf
  simp -implicitDefEqProofs (maxSteps := 2000000) (disch := omega) [-getElem?_pos, a11]
  refine W_loop (α := Nat) 0 (fun k => b.length - k) (fun k => ⟨[(0, .v (.sl none f (bytesV b))), (1, .v (.int .i64 at_)), (6, .v (.int .i64 ((1 + (b.take k).count 10 : Nat) : Int))), (7, .v (.int .i64 (colN (b.take k)))), (8, .v (.int .i64 k))], σ⟩) (fun k => k ≤ upTo b at_) (.eq (by simp [colN_nil])) (Nat.zero_le _) fun k hk => ?_
  have hup := upTo_le (b := b) (at_ := at_)
  have hcl := colN_le (b.take k)
  have hct : (b.take k).count 10 ≤ b.length := Nat.le_trans List.count_le_length (by rw [List.length_take]; omega)
  rw [List.length_take] at hcl
  simp -implicitDefEqProofs (maxSteps := 2000000) (disch := omega) [-getElem?_pos]
  refine .mk (fun h => ?_) fun h => ?_
  · obtain ⟨c, hc⟩ : ∃ c, b[k]? = some c := ⟨b[k], List.getElem?_eq_getElem h⟩
    have ht : b.take (k + 1) = b.take k ++ [c] := by rw [List.take_add_one, hc]; rfl
    simp -implicitDefEqProofs (maxSteps := 2000000) (disch := omega) [-getElem?_pos]
    refine .mk (fun h2 => ?_) fun h2 => ?_
    · have hk2 : k + 1 ≤ upTo b at_ := by unfold upTo; omega
      simp -implicitDefEqProofs (maxSteps := 2000000) (disch := omega) [-getElem?_pos, hc]
      refine ⟨by omega, .mk (fun h10 => ?_) fun h10 => ?_⟩
      · simp -implicitDefEqProofs (maxSteps := 2000000) (disch := omega) [-getElem?_pos]
        have e10 : c = 10 := UInt8.toNat_inj.1 (by show c.toNat = 10; omega)
        refine ⟨k + 1, hk2, by dsimp only; omega, .eq2 rfl ?_⟩
        rw [ht, colN_snoc, if_pos e10, List.count_append, e10]
        simp
        omega
      · simp -implicitDefEqProofs (maxSteps := 2000000) (disch := omega) [-getElem?_pos]
        have e10 : c ≠ 10 := fun e => h10 (by rw [e]; rfl)
        refine ⟨k + 1, hk2, by dsimp only; omega, .eq2 rfl ?_⟩
        rw [ht, colN_snoc, if_neg e10, List.count_append]
        simp [e10]
    · have hk2 : k = upTo b at_ := by have : upTo b at_ ≤ k := (by unfold upTo; omega); omega
      subst hk2
      simp -implicitDefEqProofs (maxSteps := 2000000) (disch := omega) [-getElem?_pos]
      exact .fin _ ⟨rfl, rfl⟩ (.refl _)
  · have hk2 : k = upTo b at_ := by omega
    subst hk2
    simp -implicitDefEqProofs (maxSteps := 2000000) (disch := omega) [-getElem?_pos]
    exact .fin _ ⟨rfl, rfl⟩ (.refl _)
theorem Chn.place {os : List Ob} {d : D} {p : Option (Nat × Int)} {n : Int} {ss : List Str} (h : Chn os d p n ss) : ∀ o a, p = some (o, a) → os[o]? = some (spotO a n) := by
  induction h with
  | code n => intro o a h; cases h
  | spot o a n h => intro o' a' e; cases e; exact h
  | wrap o s d p n ss h hd ih => exact ih
def renderT (b : Str) (p : Option (Nat × Int)) (t : Str) : Str := match p with
  | none => t
  | some (_, a) => Lib.itoa (lineN b a) ++ [58] ++ Lib.itoa (colN (b.take (upTo b a))) ++ [58, 32] ++ t
theorem k_Render0 {d : D} {σ : Sg} : ACalls Tryd.prog 16 [d, .v .inil] σ fun r σ' => r = .v (.str []) ∧ σ' = σ := by
  refine acalls_fit Tryd.func16 (by kernel_rfl) c16 rfl (by simp [a16]) fun hf => ?_
  clear hf
  simp -implicitDefEqProofs (maxSteps := 2000000) (disch := omega) [-getElem?_pos, a16]
  exact .fin _ ⟨rfl, rfl⟩ (.refl _)
theorem k_Render {b : Str} {d : D} {p : Option (Nat × Int)} {n : Int} {ss : List Str} {σ : Sg} (hb : b.length ≤ 1048576) (h : Chn σ.objs d p n ss) (hl : (chT p n ss).length ≤ 1000000) :
    ACalls Tryd.prog 16 [.v (vBs b), d] σ fun r σ' => r = .v (.str (renderT b p (chT p n ss))) ∧ σ' = σ := by
  have kp := k_Place (σ := σ) h h.place
  have ke := k_Err h hl
  generalize chT p n ss = t at *
  refine acalls_fit Tryd.func16 (by kernel_rfl) c16 rfl (by simp [a16]) fun hf => ?_
  clear hf
  have hnn : ∃ x, d = .iface 39 x ∨ d = .iface 67 x ∨ ∃ n, d = .v (.iface 28 (.int .i64 n)) := by
    cases h with
    | code n => exact ⟨.junk, .inr (.inr ⟨n, rfl⟩)⟩
    | spot o a n h => exact ⟨_, .inl rfl⟩
    | wrap o s d p n ss h hd => exact ⟨_, .inr (.inl rfl)⟩
  obtain ⟨x, rfl | rfl | ⟨n', rfl⟩⟩ := hnn
  all_goals
    simp -implicitDefEqProofs (maxSteps := 2000000) (disch := omega) [-getElem?_pos, a16]
    refine kp.then fun r hr => ?_
    subst hr
    cases p with
    | none =>
      unfold plT
      simp -implicitDefEqProofs (maxSteps := 2000000) (disch := omega) [-getElem?_pos]
      refine WInv.then ke fun r hr => ?_
      subst hr
      simp -implicitDefEqProofs (maxSteps := 2000000) (disch := omega) [-getElem?_pos]
      exact .fin _ ⟨rfl, rfl⟩ (.refl _)
    | some q =>
      obtain ⟨o, a⟩ := q
      unfold plT
      simp -implicitDefEqProofs (maxSteps := 2000000) (disch := omega) [-getElem?_pos]
      refine (k_Where hb).then fun r hr => ?_
      subst hr
      simp -implicitDefEqProofs (maxSteps := 2000000) (disch := omega) [-getElem?_pos]
      refine k_Itoa.then fun r hr => ?_
      obtain ⟨rfl, hl1⟩ := hr
      simp -implicitDefEqProofs (maxSteps := 2000000) (disch := omega) [-getElem?_pos]
      refine ⟨by omega, ?_⟩
      refine k_Itoa.then fun r hr => ?_
      obtain ⟨rfl, hl2⟩ := hr
      simp -implicitDefEqProofs (maxSteps := 2000000) (disch := omega) [-getElem?_pos]
      refine ⟨by omega, by omega, ?_⟩
      refine WInv.then ke fun r hr => ?_
      subst hr
      simp -implicitDefEqProofs (maxSteps := 2000000) (disch := omega) [-getElem?_pos]
      exact ⟨by omega, .fin _ ⟨by simp [renderT], rfl⟩ (.refl _)⟩
theorem k_Up {σ : Sg} : ACalls Tryd.prog 9 [] σ fun r σ' => r = .v (.bool true) ∧ σ' = σ := by
  have kw : ACalls Tryd.prog 10 [.v (.sl none true [.int .u8 97, .int .u8 10, .int .u8 98]), .v (.int .i64 2)] σ fun r σ' => r = .tup [.v (.int .i64 2), .v (.int .i64 1)] ∧ σ' = σ := k_Where (b := [97, 10, 98]) (f := true) (by decide)
  refine acalls_fit Tryd.func9 (by kernel_rfl) c9 rfl (by simp [a9]) fun hf => ?_
  clear hf
  simp -implicitDefEqProofs (maxSteps := 2000000) (disch := omega) [-getElem?_pos, a9]
  refine kw.then fun r hr => ?_
  subst hr
  simp -implicitDefEqProofs (maxSteps := 2000000) (disch := omega) [-getElem?_pos]
  refine k_Wrap0.then fun r hr => ?_
  subst hr
  simp -implicitDefEqProofs (maxSteps := 2000000) (disch := omega) [-getElem?_pos]
  refine k_Render0.then fun r hr => ?_
  subst hr
  simp -implicitDefEqProofs (maxSteps := 2000000) (disch := omega) [-getElem?_pos]
  refine k_At.mono fun r σ' hr => ?_
  obtain ⟨rfl, rfl⟩ := hr
  simp -implicitDefEqProofs (maxSteps := 2000000) (disch := omega) [-getElem?_pos]
  refine (k_Number (.spot _ 3 2 (by simp))).mono fun r σ' hr => ?_
  obtain ⟨rfl, rfl⟩ := hr
  simp -implicitDefEqProofs (maxSteps := 2000000) (disch := omega) [-getElem?_pos]
  exact .fin _ ⟨rfl, rfl⟩ (.refl _)
end Go.Proofs.YtkfkifgfnlaceaaDoor
