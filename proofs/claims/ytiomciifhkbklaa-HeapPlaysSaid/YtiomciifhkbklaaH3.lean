/-
  Rows of words that may be written to; a heap's words. (Own work.)
-/
import Derived.Test.YtiomciifhkbklaaH2
set_option linter.unusedVariables false
set_option linter.unusedSimpArgs false
namespace Go.Proofs.Ytiomciifhkbklaa
open Go Go.Abs

theorem drop_cons {α : Type} {l : List α} {i : Nat} {x : α} (h : l[i]? = some x) : l.drop i = x :: l.drop (i + 1) := by
  obtain ⟨hi, rfl⟩ := List.getElem?_eq_some_iff.1 h
  exact List.drop_eq_getElem_cons hi
def flv (ws : List Wd) : List V := ws.flatMap fun w => [.bool w.p, .int .i64 w.v]
def fl (ws : List Wd) : List D := (flv ws).map .v
theorem flv_cons (w : Wd) (ws : List Wd) : flv (w :: ws) = .bool w.p :: .int .i64 w.v :: flv ws := by simp [flv]
theorem fl_cons (w : Wd) (ws : List Wd) : fl (w :: ws) = .v (.bool w.p) :: .v (.int .i64 w.v) :: fl ws := by simp [fl, flv_cons]
theorem flv_app (a b : List Wd) : flv (a ++ b) = flv a ++ flv b := by simp [flv]
theorem fl_app (a b : List Wd) : fl (a ++ b) = fl a ++ fl b := by simp [fl, flv_app]
theorem fl_nil : fl [] = [] := rfl
theorem fl_len : ∀ ws : List Wd, (fl ws).length = ws.length * 2
  | [] => rfl
  | w :: ws => by rw [fl_cons, List.length_cons, List.length_cons, fl_len ws, List.length_cons]; omega
theorem flat_wv (ws : List Wd) : V.flat (ws.map wv) = flv ws := by
  induction ws with
  | nil => rfl
  | cons w ws ih => rw [flv_cons, ← ih]; rfl
theorem fl_drop : ∀ (ws : List Wd) (i : Nat) (J : List D), i ≤ ws.length → (fl ws ++ J).drop (i * 2) = fl (ws.drop i) ++ J
  | ws, 0, J, _ => by simp
  | [], i + 1, J, h => by simp at h
  | w :: ws, i + 1, J, h => by
    rw [fl_cons, show (i + 1) * 2 = i * 2 + 1 + 1 by omega]
    simp only [List.cons_append, List.drop_succ_cons]
    exact fl_drop ws i J (by simpa using h)
theorem fl_row {ws : List Wd} {i : Nat} {w : Wd} {J : List D} (h : ws[i]? = some w) : ((fl ws ++ J).drop (i * 2)).take 2 = [.v (.bool w.p), .v (.int .i64 w.v)] := by
  have hi := (List.getElem?_eq_some_iff.1 h).1
  rw [fl_drop ws i J (by omega), drop_cons h, fl_cons]
  rfl
theorem fl_part {ws : List Wd} {a n : Nat} {J : List D} (h : a + n ≤ ws.length) : ((fl ws ++ J).drop (a * 2)).take (n * 2) = fl ((ws.drop a).take n) := by
  rw [fl_drop ws a J (by omega)]
  have h1 := fl_app ((ws.drop a).take n) ((ws.drop a).drop n)
  rw [List.take_append_drop] at h1
  rw [h1, List.append_assoc, List.take_left' (by rw [fl_len, List.length_take, List.length_drop]; omega)]
theorem allV_fl (ws : List Wd) : allV (fl ws) = some (flv ws) := by
  unfold fl
  generalize flv ws = l
  induction l with
  | nil => rfl
  | cons x l ih => simp [allV, ih]
theorem chunk_fl : ∀ ws : List Wd, chunk 2 ws.length (flv ws) = ws.map wv
  | [] => rfl
  | w :: ws => by rw [flv_cons, List.length_cons, chunk]; simp [chunk_fl ws]
theorem put_row {ws : List Wd} {i : Nat} {w : Wd} {J : List D} (h : i < ws.length) : putAt (fl ws ++ J) (i * 2) [.v (.bool w.p), .v (.int .i64 w.v)] = fl (ws.set i w) ++ J := by
  have h0 := fl_part (ws := ws) (a := 0) (n := i) (J := J) (by omega)
  simp only [Nat.zero_mul, List.drop_zero] at h0
  unfold putAt
  rw [h0, show i * 2 + [D.v (.bool w.p), .v (.int .i64 w.v)].length = (i + 1) * 2 by simp; omega, fl_drop ws (i + 1) J (by omega)]
  have h1 : ws.set i w = ws.take i ++ w :: ws.drop (i + 1) := by rw [List.set_eq_take_append_cons_drop, if_pos h]
  rw [h1, fl_app, fl_cons]
  simp
theorem put_app {ws ys : List Wd} {J : List D} : putAt (fl ws ++ J) (ws.length * 2) (fl ys) = fl (ws ++ ys) ++ J.drop (ys.length * 2) := by
  have h0 := fl_part (ws := ws) (a := 0) (n := ws.length) (J := J) (by omega)
  simp only [Nat.zero_mul, List.drop_zero, List.take_length] at h0
  unfold putAt
  rw [h0, fl_len, ← List.drop_drop, fl_drop ws ws.length J (Nat.le_refl _), fl_app]
  simp [fl_nil]

/-- Words in a row that may be written to. -/
inductive VW (σ : Sg) (o : Nat) : D → List Wd → Prop
  | nil : VW σ o (.v .snil) []
  | msl {ws : List Wd} {J : List D} {c : Nat} : ws ≠ [] → σ.objs[o]? = some (.cells (fl ws ++ J)) → (fl ws ++ J).length = c * 2 → c ≤ maxLen → VW σ o (.msl o 0 ws.length (some 2) (some c)) ws
/-- Truths in a row. -/
inductive VB (σ : Sg) (o : Nat) : D → List Bool → Prop
  | nil : VB σ o (.v .snil) []
  | msl {hs : List Bool} {J : List D} {c : Nat} : hs ≠ [] → σ.objs[o]? = some (.cells (hs.map (fun b => D.v (.bool b)) ++ J)) → hs.length + J.length = c → c ≤ maxLen → VB σ o (.msl o 0 hs.length none (some c)) hs
theorem VW.on {σ σ' : Sg} {o : Nat} {d : D} {ws : List Wd} (h : VW σ o d ws) (k : ws ≠ [] → σ'.objs[o]? = σ.objs[o]?) : VW σ' o d ws := by
  cases h with
  | nil => exact .nil
  | msl h1 h2 h3 h4 => exact .msl h1 (by rw [k h1]; exact h2) h3 h4
theorem VB.on {σ σ' : Sg} {o : Nat} {d : D} {ws : List Bool} (h : VB σ o d ws) (k : ws ≠ [] → σ'.objs[o]? = σ.objs[o]?) : VB σ' o d ws := by
  cases h with
  | nil => exact .nil
  | msl h1 h2 h3 h4 => exact .msl h1 (by rw [k h1]; exact h2) h3 h4

/-! ### A heap's words -/
/-- The words of objects, by their heads. -/
def wdsH (f : Nat → Wd) : Nat → List Ho → List Wd
  | _, [] => []
  | i, o :: os => f i :: (o.l ++ wdsH f (i + 1) os)
def headW (o : Ho) : Wd := ⟨false, o.l.length * 16 + o.k⟩
def hdOf (os : List Ho) (i : Nat) : Wd := ((os[i]?).map headW).getD ⟨false, 0⟩
def wds (os : List Ho) : List Wd := os.flatMap fun o => headW o :: o.l
def hds (os : List Ho) : List Bool := os.flatMap fun o => true :: List.replicate o.l.length false
theorem wds_cons (o : Ho) (os : List Ho) : wds (o :: os) = headW o :: (o.l ++ wds os) := by simp [wds]
theorem wds_app (a b : List Ho) : wds (a ++ b) = wds a ++ wds b := by simp [wds]
theorem hds_cons (o : Ho) (os : List Ho) : hds (o :: os) = true :: (List.replicate o.l.length false ++ hds os) := by simp [hds]
theorem hds_app (a b : List Ho) : hds (a ++ b) = hds a ++ hds b := by simp [hds]
theorem wds_len : ∀ os : List Ho, (wds os).length = tot os
  | [] => rfl
  | o :: os => by rw [wds_cons]; simp [tot, osz, wds_len os]; omega
theorem hds_len : ∀ os : List Ho, (hds os).length = tot os
  | [] => rfl
  | o :: os => by rw [hds_cons]; simp [tot, osz, hds_len os]; omega
theorem wdsH_len (f : Nat → Wd) : ∀ (os : List Ho) (j : Nat), (wdsH f j os).length = tot os
  | [], j => rfl
  | o :: os, j => by simp [wdsH, tot, osz, wdsH_len f os (j + 1)]; omega
theorem wdsH_congr {f g : Nat → Wd} : ∀ (os : List Ho) (j : Nat), (∀ i, j ≤ i → i < j + os.length → f i = g i) → wdsH f j os = wdsH g j os
  | [], j, _ => rfl
  | o :: os, j, h => by
    rw [wdsH, wdsH, h j (Nat.le_refl _) (by simp), wdsH_congr os (j + 1) fun i h1 h2 => h i (by omega) (by simp; omega)]
theorem wds_H : ∀ (os : List Ho) (j : Nat) (all : List Ho), (∀ i o, os[i]? = some o → all[j + i]? = some o) → wds os = wdsH (hdOf all) j os
  | [], j, all, _ => rfl
  | o :: os, j, all, h => by
    have h0 := h 0 o rfl
    rw [wds_cons, wdsH, ← wds_H os (j + 1) all fun i o' hi => by rw [show j + 1 + i = j + (i + 1) by omega]; exact h (i + 1) o' (by simpa using hi)]
    simp only [Nat.add_zero] at h0
    simp [hdOf, h0]
theorem wdsH_at (f : Nat → Wd) : ∀ {os : List Ho} {i j : Nat} {o : Ho}, os[i]? = some o → (wdsH f j os).drop (offs os i) = f (j + i) :: (o.l ++ wdsH f (j + i + 1) (os.drop (i + 1)))
  | [], i, j, o, h => by simp at h
  | a :: os, 0, j, o, h => by
    simp at h
    subst h
    simp [offs, tot, wdsH]
  | a :: os, i + 1, j, o, h => by
    have ih := wdsH_at f (os := os) (i := i) (j := j + 1) (by simpa using h)
    have h1 : offs (a :: os) (i + 1) = 1 + a.l.length + offs os i := by simp [offs, tot, osz]
    rw [h1, wdsH, show 1 + a.l.length + offs os i = (a.l.length + offs os i) + 1 by omega, List.drop_succ_cons, ← List.drop_drop, List.drop_left, ih]
    simp only [List.drop_succ_cons]
    rw [show j + 1 + i = j + (i + 1) by omega]
theorem wdsH_set (f : Nat → Wd) (w : Wd) : ∀ {os : List Ho} {i j : Nat}, i < os.length → (wdsH f j os).set (offs os i) w = wdsH (fun k => if k = j + i then w else f k) j os
  | [], i, j, h => by simp at h
  | a :: os, 0, j, h => by
    simp only [offs, List.take_zero, tot, wdsH, List.set_cons_zero, Nat.add_zero, if_true]
    rw [wdsH_congr (f := f) (g := fun k => if k = j then w else f k) os (j + 1) fun i h1 h2 => (if_neg (by omega)).symm]
  | a :: os, i + 1, j, h => by
    have ih := wdsH_set f w (os := os) (i := i) (j := j + 1) (by simpa using h)
    have h1 : offs (a :: os) (i + 1) = (a.l.length + offs os i) + 1 := by simp [offs, tot, osz]; omega
    rw [h1, wdsH, wdsH, List.set_cons_succ, if_neg (by omega), List.set_append_right (h := Nat.le_add_right _ _), Nat.add_sub_cancel_left, ih]
    rw [show j + 1 + i = j + (i + 1) by omega]
theorem wds_at {os : List Ho} {i : Nat} {o : Ho} (h : os[i]? = some o) : (wds os).drop (offs os i) = headW o :: (o.l ++ wds (os.drop (i + 1))) := by
  have ht : os = os.take i ++ o :: os.drop (i + 1) := by
    rw [← drop_cons h, List.take_append_drop]
  conv => lhs; rw [ht]
  rw [wds_app, List.drop_left' (by rw [wds_len]; rw [← ht]; rfl), wds_cons]
theorem hds_at {os : List Ho} {i : Nat} {o : Ho} (h : os[i]? = some o) : (hds os).drop (offs os i) = true :: (List.replicate o.l.length false ++ hds (os.drop (i + 1))) := by
  have ht : os = os.take i ++ o :: os.drop (i + 1) := by
    rw [← drop_cons h, List.take_append_drop]
  conv => lhs; rw [ht]
  rw [hds_app, List.drop_left' (by rw [hds_len]; rw [← ht]; rfl), hds_cons]
theorem get_drop {α : Type} {l : List α} {i : Nat} {x : α} {r : List α} (h : l.drop i = x :: r) : l[i]? = some x := by
  have := congrArg (fun l => l[0]?) h
  simpa using this
/-- Where a head lies. -/
theorem hds_idx : ∀ {os : List Ho} {p : Nat}, (hds os)[p]? = some true ↔ ∃ i, idxAt os p = some i
  | [], p => by simp [hds, idxAt]
  | o :: os, p => by
    rw [hds_cons, idxAt]
    cases p with
    | zero => simp
    | succ p =>
      rw [List.getElem?_cons_succ, if_neg (by omega)]
      by_cases h : p < o.l.length
      · rw [List.getElem?_append_left (by simpa using h), idxAt_neg (by simp only [osz]; omega)]
        simp [h]
      · rw [List.getElem?_append_right (by simpa using h), List.length_replicate, hds_idx (os := os)]
        rw [show ((p + 1 : Nat) : Int) - osz o = ((p - o.l.length : Nat) : Int) by simp only [osz]; omega]
        constructor
        · rintro ⟨i, hi⟩; exact ⟨i + 1, by rw [hi]; rfl⟩
        · rintro ⟨i, hi⟩
          obtain ⟨k, hk, _⟩ := Option.map_eq_some_iff.1 hi
          exact ⟨k, hk⟩
/-- Objects as they may be. -/
structure OkO (os : List Ho) : Prop where
  k : ∀ o ∈ os, 0 ≤ o.k ∧ o.k < 16 ∧ o.l.length ≤ 4000
  fine : ∀ o ∈ os, ∀ w ∈ o.l, fineW os w
  small : tot os ≤ 100000
theorem headW_parts {o : Ho} (h : 0 ≤ o.k ∧ o.k < 16 ∧ o.l.length ≤ 4000) : parts (headW o).p (headW o).v = [.int .i64 o.k, .int .i64 o.l.length, .bool true] := by
  obtain ⟨h1, h2, h3⟩ := h
  unfold parts headW
  dsimp only
  rw [if_neg (by simp; omega)]
  congr 2
  · congr 1; omega
  · congr 2; omega
/-- A heap's object. -/
structure Hp (σ : Sg) (hp oL oH : Nat) (half : Int) (os : List Ho) (runs : Int) (dl dh : D) : Prop where
  cell : σ.objs[hp]? = some (.cells [.v (.int .i64 half), dl, dh, .v (.int .i64 runs)])
  vw : VW σ oL dl (wds os)
  vb : VB σ oH dh (hds os)
  n1 : oL ≠ hp
  n2 : oH ≠ hp
  n3 : oL ≠ oH
def sizeO (os : List Ho) (p : Int) : D := match idxAt os p with
  | some i => .tup [.v (.int .i64 (wOf os i).length), .v (.bool true)]
  | none => .tup [.v (.int .i64 0), .v (.bool false)]
end Go.Proofs.Ytiomciifhkbklaa
