/-
  Types: a number's place in a list; the text of a type, plainly. (Own work.)
-/
import Derived.Test.YtkpnhcccocaakaaDoorT8
import Derived.Lib.Join
import Derived.Lib.ItoaLen
set_option linter.unusedVariables false
set_option linter.unusedSimpArgs false
namespace Go.Proofs.YtkpnhcccocaakaaDoor
open Go Go.Abs

def ixI : List Int → Int → Int
  | [], _ => -1
  | x :: l, n => if x = n then 0 else if ixI l n < 0 then -1 else ixI l n + 1
theorem ixI_ge : ∀ (l : List Int) (n : Int), -1 ≤ ixI l n
  | [], _ => by simp [ixI]
  | x :: l, n => by
    have := ixI_ge l n
    simp only [ixI]
    split
    · omega
    · split <;> omega
theorem ixI_lt : ∀ (l : List Int) (n : Int), ixI l n < l.length ∨ ixI l n = -1
  | [], _ => by simp [ixI]
  | x :: l, n => by
    have := ixI_lt l n
    simp only [ixI, List.length_cons]
    split
    · omega
    · split <;> omega
def ixO (r : Int) (i : Nat) : Int := if r < 0 then -1 else r + i
theorem ixO_zero (l : List Int) (n : Int) : ixI l n = ixO (ixI l n) 0 := by
  have := ixI_ge l n
  unfold ixO
  split <;> omega
theorem ixO_hit {l : List Int} {n x : Int} {i : Nat} (hx : l[i]? = some x) (h : x = n) : ixO (ixI (l.drop i) n) i = i := by
  rw [drop_cons hx]
  simp [ixI, h, ixO]
theorem ixO_miss {l : List Int} {n x : Int} {i : Nat} (hx : l[i]? = some x) (h : ¬ x = n) : ixO (ixI (l.drop i) n) i = ixO (ixI (l.drop (i + 1)) n) (i + 1) := by
  rw [drop_cons hx]
  have := ixI_ge (l.drop (i + 1)) n
  simp only [ixI, if_neg h, ixO]
  by_cases h1 : ixI (l.drop (i + 1)) n < 0
  · simp [h1]
  · rw [if_neg h1, if_neg h1, if_neg (by omega)]
    push_cast
    omega
theorem ixO_none {l : List Int} {n : Int} {i : Nat} (h : l.length ≤ i) : ixO (ixI (l.drop i) n) i = -1 := by
  rw [List.drop_eq_nil_of_le h]
  simp [ixI, ixO]
theorem k_AtX {l : List Int} {n : Int} {σ : Sg} : ACalls Tryd.prog 21 [.v (vI l), .v (.int .i64 n)] σ fun r σ' => r = .v (.int .i64 (ixI l n)) ∧ σ' = σ := by
  refine acalls_fit Tryd.func21 (by kernel_rfl) c21 rfl (by simp [a21]) fun hf => ?_
  simp at hf
  simp -implicitDefEqProofs (maxSteps := 2000000) (disch := omega) [-getElem?_pos, a21]
  refine W_loop (α := Nat) 0 (fun i => l.length - i) (fun i => ⟨[(0, .v (vI l)), (1, .v (.int .i64 n)), (5, .v (.int .i64 i))], σ⟩) (fun i => i ≤ l.length ∧ ixI l n = ixO (ixI (l.drop i) n) i) (.eq (by simp)) ⟨by simp, by simpa using ixO_zero l n⟩ fun i ⟨hi, he⟩ => ?_
  simp -implicitDefEqProofs (maxSteps := 2000000) (disch := omega) [-getElem?_pos]
  refine .mk (fun h => ?_) fun h => ?_
  · simp -implicitDefEqProofs (maxSteps := 2000000) (disch := omega) [-getElem?_pos]
    refine ⟨by omega, fun x hx => ?_⟩
    refine .mk (fun hq => ?_) fun hq => ?_
    · simp -implicitDefEqProofs (maxSteps := 2000000) (disch := omega) [-getElem?_pos]
      rw [ixO_hit hx hq] at he
      exact .fin _ ⟨by rw [he], rfl⟩ (.refl _)
    · simp -implicitDefEqProofs (maxSteps := 2000000) (disch := omega) [-getElem?_pos]
      rw [ixO_miss hx hq] at he
      exact ⟨i + 1, ⟨by omega, he⟩, by show l.length - (i + 1) < l.length - i; omega, .eq (by simp)⟩
  · simp -implicitDefEqProofs (maxSteps := 2000000) (disch := omega) [-getElem?_pos]
    rw [ixO_none (by omega)] at he
    exact .fin _ ⟨by rw [he], rfl⟩ (.refl _)
theorem k_IndexIX {l : List Int} {n : Int} {σ : Sg} : ACalls Tryd.prog 38 [.v (vI l), .v (.int .i64 n)] σ fun r σ' => r = .v (.int .i64 (ixI l n)) ∧ σ' = σ := by
  refine acalls_fit Tryd.func38 (by kernel_rfl) c38 rfl (by simp [a38]) fun hf => ?_
  simp at hf
  simp -implicitDefEqProofs (maxSteps := 2000000) (disch := omega) [-getElem?_pos, a38]
  refine W_loop (α := Nat) 0 (fun i => l.length - i) (fun i => ⟨[(0, .v (vI l)), (1, .v (.int .i64 n)), (7, .v (.int .i64 l.length)), (8, .v (.int .i64 i))], σ⟩) (fun i => i ≤ l.length ∧ ixI l n = ixO (ixI (l.drop i) n) i) (.eq (by simp)) ⟨by simp, by simpa using ixO_zero l n⟩ fun i ⟨hi, he⟩ => ?_
  simp -implicitDefEqProofs (maxSteps := 2000000) (disch := omega) [-getElem?_pos]
  refine .mk (fun h => ?_) fun h => ?_
  · simp -implicitDefEqProofs (maxSteps := 2000000) (disch := omega) [-getElem?_pos]
    refine ⟨by omega, fun x hx => ?_⟩
    refine .mk (fun hq => ?_) fun hq => ?_
    · simp -implicitDefEqProofs (maxSteps := 2000000) (disch := omega) [-getElem?_pos]
      rw [ixO_hit hx hq.symm] at he
      exact .fin _ ⟨by rw [he], rfl⟩ (.refl _)
    · simp -implicitDefEqProofs (maxSteps := 2000000) (disch := omega) [-getElem?_pos]
      rw [ixO_miss hx (Ne.symm hq)] at he
      exact ⟨i + 1, ⟨by omega, he⟩, by show l.length - (i + 1) < l.length - i; omega, .eq (by simp)⟩
  · simp -implicitDefEqProofs (maxSteps := 2000000) (disch := omega) [-getElem?_pos]
    rw [ixO_none (by omega)] at he
    exact .fin _ ⟨by rw [he], rfl⟩ (.refl _)

/-! The text -/
def kdT : Tp → Int
  | .mk k _ _ _ _ => k
def par (b : Bool) (s : Str) : Str := if b = true then [40] ++ s ++ [41] else s
def items : List Str → List Str → List Str
  | s :: ls, x :: xs => (s ++ [32, 58, 32] ++ x) :: items ls xs
  | _, _ => []
def tailT (rs : List Int) (tl : Int) (n : Nat) : Str := if 0 ≤ tl then (if 0 < n then [32, 124, 32] else []) ++ ([46, 46] ++ Lib.itoa (ixI rs tl)) else []
def rowT (rs : List Int) (tl : Int) (ls xs : List Str) : Str := Lib.join (items ls xs) [44, 32] ++ tailT rs tl xs.length
def txtK (ts rs : List Int) (k n tl : Int) (ls : List Str) (ks : List Int) (xs : List Str) : Str :=
  if k = 1 then [105, 110, 116] else if k = 2 then [116, 101, 120, 116]
  else if k = 3 then par (decide (ks.getD 0 0 = 3)) (xs.getD 0 []) ++ [32, 45, 62, 32] ++ xs.getD 1 []
  else if k = 6 then [114, 101, 102, 32] ++ par (decide (ks.getD 0 0 = 3 ∨ ks.getD 0 0 = 6)) (xs.getD 0 [])
  else if k = 7 then [39] ++ Lib.itoa (ixI ts n)
  else if k = 4 then [123] ++ rowT rs tl ls xs ++ [125] else [60] ++ rowT rs tl ls xs ++ [62]
mutual
def txt (ts rs : List Int) : Tp → Str
  | .mk k n l ls tl => txtK ts rs k n tl ls (l.map kdT) (txtL ts rs l)
def txtL (ts rs : List Int) : List Tp → List Str
  | [] => []
  | x :: l => txt ts rs x :: txtL ts rs l
end
theorem txtL_eq (ts rs : List Int) : ∀ l, txtL ts rs l = l.map (txt ts rs)
  | [] => rfl
  | x :: l => by simp [txtL, txtL_eq ts rs l]
theorem join_snoc (sep x : Str) : ∀ L : List Str, Lib.join (L ++ [x]) sep = if L = [] then x else Lib.join L sep ++ sep ++ x
  | [] => by simp [Lib.join_one]
  | y :: L => by
    rw [List.cons_append, Lib.join_cons, Lib.join_cons]
    simp [Lib.joinTail]
theorem items_len : ∀ (ls xs : List Str), ls.length = xs.length → (items ls xs).length = xs.length
  | [], [], _ => rfl
  | [], _ :: _, h => by simp at h
  | _ :: _, [], h => by simp at h
  | s :: ls, x :: xs, h => by simp [items, items_len ls xs (by simpa using h)]
theorem items_get : ∀ (ls xs : List Str) (i : Nat) (s x : Str), ls[i]? = some s → xs[i]? = some x → (items ls xs)[i]? = some (s ++ [32, 58, 32] ++ x)
  | [], _, i, s, x, h, _ => by simp at h
  | _ :: _, [], i, s, x, _, h => by simp at h
  | a :: ls, b :: xs, 0, s, x, h1, h2 => by simp at h1 h2; subst h1 h2; simp [items]
  | a :: ls, b :: xs, i + 1, s, x, h1, h2 => by
    have := items_get ls xs i s x (by simpa using h1) (by simpa using h2)
    simpa [items] using this
/-- Its length. -/
theorem itoa_ix {l : List Int} {n : Int} (h : l.length ≤ 3000000) : (Lib.itoa (ixI l n)).length ≤ 21 := by
  have h1 := ixI_ge l n
  have h2 := ixI_lt l n
  exact Lib.itoa_length_le _ (by omega) (by omega)
theorem par_len (b : Bool) (s : Str) : (par b s).length ≤ s.length + 2 := by
  unfold par
  split <;> simp
def lenL : List Str → Nat
  | [] => 0
  | x :: l => x.length + lenL l
theorem getD_lenL : ∀ (l : List Str) (i : Nat), (l.getD i []).length ≤ lenL l
  | [], i => by simp
  | x :: l, 0 => by simp [lenL]
  | x :: l, i + 1 => by
    have := getD_lenL l i
    simp only [lenL, List.getD_cons_succ]
    omega
theorem join_len (sep : Str) : ∀ L : List Str, (Lib.join L sep).length ≤ lenL L + L.length * sep.length
  | [] => by simp [Lib.join_nil]
  | x :: L => by
    have : ∀ L : List Str, (Lib.joinTail sep L).length = lenL L + L.length * sep.length := by
      intro L
      induction L with
      | nil => simp [Lib.joinTail, lenL]
      | cons y L ih =>
        simp only [Lib.joinTail, List.map_cons, List.flatten_cons, List.length_append, lenL, List.length_cons, Nat.succ_mul] at ih ⊢
        omega
    rw [Lib.join_cons, List.length_append, this]
    simp only [lenL, List.length_cons, Nat.succ_mul]
    omega
theorem items_lenL : ∀ (ls xs : List Str), lenL (items ls xs) + 2 * (items ls xs).length ≤ lenL xs + 5 * nsz ls
  | [], [] => by simp [items, lenL]
  | [], _ :: _ => by simp [items, lenL]
  | _ :: _, [] => by simp [items, lenL]
  | s :: ls, x :: xs => by
    have := items_lenL ls xs
    simp only [items, lenL, List.length_cons, List.length_append, List.length_nil, nsz]
    omega
theorem rowT_len {rs : List Int} {tl : Int} {ls xs : List Str} (h : rs.length ≤ 3000000) : (rowT rs tl ls xs).length ≤ lenL xs + 5 * nsz ls + 26 := by
  have h1 := join_len [44, 32] (items ls xs)
  have h2 := items_lenL ls xs
  have h3 := itoa_ix (n := tl) h
  have h4 : (tailT rs tl xs.length).length ≤ 26 := by
    unfold tailT
    split
    · split <;> simp <;> omega
    · simp
  simp only [rowT, List.length_append, List.length_cons, List.length_nil] at h1 ⊢
  omega
theorem txt_len (ts rs : List Int) (h1 : ts.length ≤ 3000000) (h2 : rs.length ≤ 3000000) (t : Tp) : (txt ts rs t).length ≤ 8 * tbk t := by
  refine Tp.ind (P := fun t => (txt ts rs t).length ≤ 8 * tbk t) (fun k n l ls tl ih => ?_) t
  have hl : lenL (txtL ts rs l) ≤ 8 * tbkL l := by
    induction l with
    | nil => simp [txtL, lenL]
    | cons x l ih2 =>
      have e1 := ih x (by simp)
      have e2 := ih2 fun y hy => ih y (by simp [hy])
      simp only [txtL, lenL, tbkL]
      omega
  simp only [txt, tbk]
  unfold txtK
  have g0 := getD_lenL (txtL ts rs l) 0
  split
  · simp; omega
  split
  · simp; omega
  split
  · have g1 : (txtL ts rs l).length = 2 ∨ True := .inr trivial
    have p1 := par_len (decide ((l.map kdT).getD 0 0 = 3)) ((txtL ts rs l).getD 0 [])
    have g2 : ((txtL ts rs l).getD 0 []).length + ((txtL ts rs l).getD 1 []).length ≤ lenL (txtL ts rs l) := by
      cases txtL ts rs l with
      | nil => simp [lenL]
      | cons a L => have := getD_lenL L 0; simp only [lenL, List.getD_cons_zero, List.getD_cons_succ]; omega
    simp only [List.length_append, List.length_cons, List.length_nil]
    omega
  split
  · have p1 := par_len (decide ((l.map kdT).getD 0 0 = 3 ∨ (l.map kdT).getD 0 0 = 6)) ((txtL ts rs l).getD 0 [])
    simp only [List.length_append, List.length_cons, List.length_nil]
    omega
  split
  · have := itoa_ix (n := n) h1
    simp only [List.length_append, List.length_cons, List.length_nil]
    omega
  have hr := rowT_len (tl := tl) (ls := ls) (xs := txtL ts rs l) h2
  split <;> simp only [List.length_append, List.length_cons, List.length_nil] <;> omega
theorem k_Within {s : Str} {b : Bool} {σ : Sg} (hs : s.length ≤ 100000000) : ACalls Tryd.prog 48 [.v (.str s), .v (.bool b)] σ fun r σ' => r = .v (.str (par b s)) ∧ σ' = σ := by
  refine acalls_fit Tryd.func48 (by kernel_rfl) c48 rfl (by simp [a48]) fun hf => ?_
  clear hf
  cases b with
  | true =>
    simp -implicitDefEqProofs (maxSteps := 2000000) (disch := omega) [-getElem?_pos, a48]
    refine ⟨by omega, by omega, ?_⟩
    exact .fin _ ⟨by simp [par], rfl⟩ (.refl _)
  | false =>
    simp -implicitDefEqProofs (maxSteps := 2000000) (disch := omega) [-getElem?_pos, a48]
    exact .fin _ ⟨by simp [par], rfl⟩ (.refl _)
end Go.Proofs.YtkpnhcccocaakaaDoor
