/-
  A heap, plainly: its objects; what is reached; what it is when it was collected: a walk meets what it met, no more words are used, and as many when it is collected again. (Own work.)
-/
import Derived.Test.YtiomciifhkbklaaAbsZ
set_option linter.unusedVariables false
set_option linter.unusedSimpArgs false
namespace Go.Proofs.Ytiomciifhkbklaa
open Go Go.Abs

structure Wd where
  p : Bool
  v : Int
deriving DecidableEq
/-- An object: its kind, its words. -/
structure Ho where
  k : Int
  l : List Wd
def osz (o : Ho) : Nat := 1 + o.l.length
def tot : List Ho → Nat
  | [] => 0
  | o :: os => osz o + tot os
/-- An object's place. -/
def offs (os : List Ho) (i : Nat) : Nat := tot (os.take i)
theorem tot_app (a b : List Ho) : tot (a ++ b) = tot a + tot b := by
  induction a with
  | nil => simp [tot]
  | cons o a ih => simp only [List.cons_append, tot, ih]; omega
theorem offs_le (os : List Ho) (i : Nat) : offs os i ≤ tot os := by
  have := tot_app (os.take i) (os.drop i)
  rw [List.take_append_drop] at this
  unfold offs
  omega
theorem offs_succ {os : List Ho} {i : Nat} {o : Ho} (h : os[i]? = some o) : offs os (i + 1) = offs os i + osz o := by
  unfold offs
  rw [List.take_add_one, h, tot_app]
  simp [tot]
theorem offs_end {os : List Ho} {i : Nat} {o : Ho} (h : os[i]? = some o) : offs os i + osz o ≤ tot os := by
  rw [← offs_succ h]; exact offs_le _ _
/-- Which object is at a place. -/
def idxAt : List Ho → Int → Option Nat
  | [], _ => none
  | o :: os, p => if p = 0 then some 0 else (idxAt os (p - osz o)).map (· + 1)
theorem idxAt_neg : ∀ {os : List Ho} {p : Int}, p < 0 → idxAt os p = none
  | [], p, h => rfl
  | o :: os, p, h => by
    rw [idxAt, if_neg (by omega), idxAt_neg (os := os) (by omega)]
    rfl
theorem idxAt_iff : ∀ {os : List Ho} {p : Int} {i : Nat}, idxAt os p = some i ↔ i < os.length ∧ p = offs os i
  | [], p, i => by simp [idxAt]
  | o :: os, p, i => by
    rw [idxAt]
    cases i with
    | zero =>
      simp only [offs, List.take_zero, tot, List.length_cons]
      by_cases h : p = 0
      · simp [h]
      · rw [if_neg h]
        simp
        omega
    | succ i =>
      have ih := idxAt_iff (os := os) (p := p - osz o) (i := i)
      have h1 : offs (o :: os) (i + 1) = osz o + offs os i := by simp [offs, tot]
      have h2 : 0 < osz o := by simp [osz]; omega
      rw [h1]
      by_cases h : p = 0
      · rw [if_pos h]
        simp
        omega
      · rw [if_neg h, Option.map_eq_some_iff]
        constructor
        · rintro ⟨j, h3, h4⟩
          have : j = i := by omega
          subst this
          have := ih.1 h3
          simp only [List.length_cons]
          omega
        · rintro ⟨h3, h4⟩
          exact ⟨i, ih.2 ⟨by simpa using h3, by omega⟩, rfl⟩
theorem offs_inj {os : List Ho} {i j : Nat} (hi : i < os.length) (hj : j < os.length) (h : offs os i = offs os j) : i = j := by
  have h1 := idxAt_iff.2 ⟨hi, rfl⟩
  have h2 := idxAt_iff.2 ⟨hj, rfl⟩
  rw [h, h2] at h1
  exact (Option.some.inj h1).symm
def fineW (os : List Ho) (w : Wd) : Prop := w.p = true → ∃ i, idxAt os w.v = some i
/-- One more that is reached. -/
def reach1 (os : List Ho) (ord : List Nat) (w : Wd) : List Nat :=
  if w.p = true then (match idxAt os w.v with
    | some i => if i ∈ ord then ord else ord ++ [i]
    | none => ord) else ord
def wOf (os : List Ho) (i : Nat) : List Wd := ((os[i]?).map (·.l)).getD []
def reachL (os : List Ho) (ord : List Nat) (l : List Wd) : List Nat := l.foldl (reach1 os) ord
/-- All that is reached: by what those point to, one behind the other. -/
def scanO (os : List Ho) : Nat → List Nat → Nat → List Nat
  | 0, ord, _ => ord
  | f + 1, ord, k => match ord[k]? with
    | none => ord
    | some i => scanO os f (reachL os ord (wOf os i)) (k + 1)
def ordF (os : List Ho) (roots : List Wd) : List Nat := scanO os os.length (reachL os [] roots) 0
/-- Where an object lies then. -/
def newp (os : List Ho) : List Nat → Nat → Nat
  | [], _ => 0
  | j :: r, i => if j = i then 0 else 1 + (wOf os j).length + newp os r i
def turnW (os : List Ho) (F : List Nat) (w : Wd) : Wd := if w.p = true then (match idxAt os w.v with
  | some i => ⟨true, newp os F i⟩
  | none => w) else w
def turnO (os : List Ho) (F : List Nat) (o : Ho) : Ho := ⟨o.k, o.l.map (turnW os F)⟩
def pickO (os : List Ho) (F : List Nat) : List Ho := F.filterMap fun i => os[i]?
/-- The heap, collected. -/
def colO (os : List Ho) (roots : List Wd) : List Ho := (pickO os (ordF os roots)).map (turnO os (ordF os roots))
def colR (os : List Ho) (roots : List Wd) : List Wd := roots.map (turnW os (ordF os roots))

theorem pre_get {α : Type} {a b : List α} (h : a <+: b) {i : Nat} (hi : i < a.length) : b[i]? = a[i]? := by
  obtain ⟨t, rfl⟩ := h
  exact List.getElem?_append_left hi
theorem reach1_pre (os : List Ho) (ord : List Nat) (w : Wd) : ord <+: reach1 os ord w := by
  unfold reach1
  split
  · split
    · split
      · exact List.prefix_rfl
      · exact List.prefix_append _ _
    · exact List.prefix_rfl
  · exact List.prefix_rfl
theorem reachL_pre (os : List Ho) (l : List Wd) : ∀ (ord : List Nat), ord <+: reachL os ord l := by
  induction l with
  | nil => exact fun _ => List.prefix_rfl
  | cons w l ih => exact fun ord => (reach1_pre os ord w).trans (ih _)
theorem scanO_pre (os : List Ho) : ∀ (f : Nat) (ord : List Nat) (k : Nat), ord <+: scanO os f ord k
  | 0, ord, k => List.prefix_rfl
  | f + 1, ord, k => by
    rw [scanO]
    split
    · exact List.prefix_rfl
    · exact (reachL_pre os _ ord).trans (scanO_pre os f _ _)
/-- Each once, and there. -/
structure Okd (os : List Ho) (ord : List Nat) : Prop where
  nodup : ord.Nodup
  lt : ∀ i ∈ ord, i < os.length
theorem reach1_ok {os : List Ho} {ord : List Nat} (h : Okd os ord) (w : Wd) : Okd os (reach1 os ord w) := by
  unfold reach1
  split
  · split
    · rename_i i hi
      split
      · exact h
      · rename_i hm
        refine ⟨?_, fun j hj => ?_⟩
        · rw [List.nodup_append]
          refine ⟨h.nodup, by simp, fun a ha b hb e => ?_⟩
          simp at hb
          subst hb
          subst e
          exact hm ha
        · rcases List.mem_append.1 hj with hj | hj
          · exact h.lt j hj
          · simp at hj
            subst hj
            exact (idxAt_iff.1 hi).1
    · exact h
  · exact h
theorem reachL_ok {os : List Ho} (l : List Wd) : ∀ {ord : List Nat}, Okd os ord → Okd os (reachL os ord l) := by
  induction l with
  | nil => exact fun h => h
  | cons w l ih => exact fun h => ih (reach1_ok h w)
theorem scanO_ok {os : List Ho} : ∀ (f : Nat) {ord : List Nat} (k : Nat), Okd os ord → Okd os (scanO os f ord k)
  | 0, ord, k, h => h
  | f + 1, ord, k, h => by
    rw [scanO]
    split
    · exact h
    · exact scanO_ok f _ (reachL_ok _ h)
theorem Okd.len {os : List Ho} {ord : List Nat} (h : Okd os ord) : ord.length ≤ os.length := by
  have : ∀ (n : Nat) (l : List Nat), l.Nodup → (∀ i ∈ l, i < n) → l.length ≤ n := by
    intro n
    induction n with
    | zero => intro l _ h2; cases l with
      | nil => simp
      | cons a l => exact absurd (h2 a (by simp)) (by omega)
    | succ n ih =>
      intro l h1 h2
      have h3 := ih (l.erase n) (h1.erase n) fun i hi => by
        have := h2 i (List.mem_of_mem_erase hi)
        have : i ≠ n := fun e => by subst e; exact (h1.not_mem_erase hi)
        omega
      have : l.length ≤ (l.erase n).length + 1 := by
        by_cases hm : n ∈ l
        · rw [List.length_erase_of_mem hm]; omega
        · rw [List.erase_of_not_mem hm]; omega
      omega
  exact this _ _ h.nodup h.lt
theorem ordF_ok (os : List Ho) (roots : List Wd) : Okd os (ordF os roots) := scanO_ok _ _ (reachL_ok _ ⟨by simp, by simp⟩)
/-- What a word points to is reached. -/
def Has (os : List Ho) (ord : List Nat) (w : Wd) : Prop := ∀ i, w.p = true → idxAt os w.v = some i → i ∈ ord
theorem Has.pre {os : List Ho} {a b : List Nat} {w : Wd} (h : Has os a w) (p : a <+: b) : Has os b w := fun i h1 h2 => p.subset (h i h1 h2)
theorem reach1_has (os : List Ho) (ord : List Nat) (w : Wd) : Has os (reach1 os ord w) w := by
  intro i h1 h2
  unfold reach1
  rw [if_pos h1, h2]
  dsimp only
  split
  · assumption
  · simp
theorem reachL_has (os : List Ho) (l : List Wd) : ∀ (ord : List Nat), ∀ w ∈ l, Has os (reachL os ord l) w := by
  induction l with
  | nil => intro _ w h; cases h
  | cons x l ih =>
    intro ord w hw
    rcases List.mem_cons.1 hw with rfl | hw
    · exact (reach1_has os ord w).pre (reachL_pre os l _)
    · exact ih _ w hw
theorem scanO_closed {os : List Ho} : ∀ (f : Nat) (ord : List Nat) (k : Nat), Okd os ord → os.length ≤ f + k → (∀ q i, q < k → ord[q]? = some i → ∀ w ∈ wOf os i, Has os ord w) →
    ∀ i ∈ scanO os f ord k, ∀ w ∈ wOf os i, Has os (scanO os f ord k) w
  | 0, ord, k, ho, hf, h => by
    intro i hi w hw
    obtain ⟨q, hq⟩ := List.mem_iff_getElem?.1 hi
    have := ho.len
    have hlt := (List.getElem?_eq_some_iff.1 hq).1
    rw [scanO] at hlt
    exact h q i (by omega) hq w hw
  | f + 1, ord, k, ho, hf, h => by
    rw [scanO]
    split
    · rename_i hk
      intro i hi w hw
      obtain ⟨q, hq⟩ := List.mem_iff_getElem?.1 hi
      have := (List.getElem?_eq_some_iff.1 hq).1
      have := List.getElem?_eq_none_iff.1 hk
      exact h q i (by omega) hq w hw
    · rename_i j hj
      refine scanO_closed f _ _ (reachL_ok _ ho) (by omega) fun q i hq hi w hw => ?_
      have hp := reachL_pre os (wOf os j) ord
      have hlt := (List.getElem?_eq_some_iff.1 hj).1
      have hi' : ord[q]? = some i := by rw [← hi]; exact (pre_get hp (by omega)).symm
      by_cases hqk : q < k
      · exact (h q i hqk hi' w hw).pre hp
      · have : q = k := by omega
        subst this
        rw [hj] at hi'
        cases hi'
        exact reachL_has os _ ord w hw
theorem ordF_closed (os : List Ho) (roots : List Wd) : ∀ i ∈ ordF os roots, ∀ w ∈ wOf os i, Has os (ordF os roots) w :=
  scanO_closed _ _ _ (reachL_ok _ ⟨by simp, by simp⟩) (by omega) fun q i h => by omega
theorem ordF_roots (os : List Ho) (roots : List Wd) : ∀ w ∈ roots, Has os (ordF os roots) w := fun w hw => (reachL_has os roots [] w hw).pre (scanO_pre _ _ _ _)
/-! ### A heap that was collected -/
theorem newp_get {os : List Ho} : ∀ {F : List Nat} {q i : Nat}, F.Nodup → F[q]? = some i → (∀ j ∈ F, j < os.length) → newp os F i = offs (pickO os F) q
  | [], q, i, _, h, _ => by simp at h
  | j :: F, 0, i, hn, h, hl => by
    simp at h
    subst h
    simp [newp, offs, tot]
  | j :: F, q + 1, i, hn, h, hl => by
    obtain ⟨h1, h2⟩ := List.nodup_cons.1 hn
    have hq : F[q]? = some i := by simpa using h
    have hji : ¬ j = i := fun e => h1 (by rw [e]; exact List.mem_of_getElem? hq)
    have hjl := hl j (by simp)
    rw [newp, if_neg hji, newp_get h2 hq fun k hk => hl k (by simp [hk])]
    obtain ⟨o, ho⟩ : ∃ o, os[j]? = some o := ⟨_, List.getElem?_eq_getElem hjl⟩
    have hp : pickO os (j :: F) = o :: pickO os F := by simp [pickO, ho]
    rw [hp]
    simp only [offs, List.take_succ_cons, tot, wOf, ho, Option.map_some, Option.getD_some, osz]
theorem pickO_len {os : List Ho} : ∀ {F : List Nat}, (∀ j ∈ F, j < os.length) → (pickO os F).length = F.length
  | [], _ => rfl
  | j :: F, hl => by
    obtain ⟨o, ho⟩ : ∃ o, os[j]? = some o := ⟨_, List.getElem?_eq_getElem (hl j (by simp))⟩
    have hp : pickO os (j :: F) = o :: pickO os F := by simp [pickO, ho]
    rw [hp, List.length_cons, pickO_len fun k hk => hl k (by simp [hk]), List.length_cons]
theorem pickO_get {os : List Ho} : ∀ {F : List Nat} {q i : Nat}, (∀ j ∈ F, j < os.length) → F[q]? = some i → (pickO os F)[q]? = os[i]?
  | [], q, i, _, h => by simp at h
  | j :: F, q, i, hl, h => by
    obtain ⟨o, ho⟩ : ∃ o, os[j]? = some o := ⟨_, List.getElem?_eq_getElem (hl j (by simp))⟩
    have hp : pickO os (j :: F) = o :: pickO os F := by simp [pickO, ho]
    rw [hp]
    cases q with
    | zero => simp at h; subst h; simp [ho]
    | succ q => simpa using pickO_get (fun k hk => hl k (by simp [hk])) (by simpa using h)
theorem tot_turn (os : List Ho) (F : List Nat) : ∀ l : List Ho, tot (l.map (turnO os F)) = tot l
  | [] => rfl
  | o :: l => by simp [tot, tot_turn os F l, turnO, osz]
theorem offs_turn (os : List Ho) (F : List Nat) (l : List Ho) (i : Nat) : offs (l.map (turnO os F)) i = offs l i := by
  unfold offs
  rw [← List.map_take, tot_turn]
/-- What lies where, behind a collection. -/
theorem col_at {os : List Ho} {roots : List Wd} {i q : Nat} (hq : (ordF os roots)[q]? = some i) : idxAt (colO os roots) (newp os (ordF os roots) i) = some q := by
  have hok := ordF_ok os roots
  refine idxAt_iff.2 ⟨?_, ?_⟩
  · rw [colO, List.length_map, pickO_len hok.lt]
    exact (List.getElem?_eq_some_iff.1 hq).1
  · rw [colO, offs_turn, newp_get hok.nodup hq hok.lt]
theorem col_get {os : List Ho} {roots : List Wd} {i q : Nat} {o : Ho} (hq : (ordF os roots)[q]? = some i) (ho : os[i]? = some o) : (colO os roots)[q]? = some (turnO os (ordF os roots) o) := by
  rw [colO, List.getElem?_map, pickO_get (ordF_ok os roots).lt hq, ho]
  rfl
/-- What a walk from a word meets. -/
def walkL (f : Wd → List Int) (l : List Wd) : List Int := l.flatMap f
def walkO (os : List Ho) : Nat → Wd → List Int
  | far, w => if w.p = true then (match idxAt os w.v with
    | none => [-1]
    | some i => match os[i]? with
      | none => [-1]
      | some o => [1, o.k, (o.l.length : Int)] ++ (match far with
        | 0 => []
        | f + 1 => (o.l.take 4).flatMap (walkO os f))) else [0, w.v]
/-- A walk meets behind a collection what it met before. -/
theorem walk_col {os : List Ho} {roots : List Wd} (hf : ∀ i ∈ ordF os roots, ∀ w ∈ wOf os i, fineW os w) : ∀ (far : Nat) (w : Wd), Has os (ordF os roots) w → fineW os w →
    walkO (colO os roots) far (turnW os (ordF os roots) w) = walkO os far w := by
  intro far
  induction far with
  | zero =>
    intro w hh hw
    by_cases hp : w.p = true
    · obtain ⟨i, hi⟩ := hw hp
      obtain ⟨q, hq⟩ := List.mem_iff_getElem?.1 (hh i hp hi)
      obtain ⟨o, ho⟩ : ∃ o, os[i]? = some o := ⟨_, List.getElem?_eq_getElem (idxAt_iff.1 hi).1⟩
      have ht : turnW os (ordF os roots) w = ⟨true, newp os (ordF os roots) i⟩ := by unfold turnW; rw [if_pos hp, hi]
      rw [ht]
      unfold walkO
      rw [if_pos rfl, if_pos hp, hi, col_at hq]
      dsimp only
      rw [col_get hq ho, ho]
      simp [turnO]
    · have ht : turnW os (ordF os roots) w = w := by unfold turnW; rw [if_neg hp]
      rw [ht]
      unfold walkO
      rw [if_neg hp, if_neg hp]
  | succ far ih =>
    intro w hh hw
    by_cases hp : w.p = true
    · obtain ⟨i, hi⟩ := hw hp
      have hm := hh i hp hi
      obtain ⟨q, hq⟩ := List.mem_iff_getElem?.1 hm
      obtain ⟨o, ho⟩ : ∃ o, os[i]? = some o := ⟨_, List.getElem?_eq_getElem (idxAt_iff.1 hi).1⟩
      have ht : turnW os (ordF os roots) w = ⟨true, newp os (ordF os roots) i⟩ := by unfold turnW; rw [if_pos hp, hi]
      have hwo : wOf os i = o.l := by simp [wOf, ho]
      rw [ht]
      unfold walkO
      rw [if_pos rfl, if_pos hp, hi, col_at hq]
      dsimp only
      rw [col_get hq ho, ho]
      dsimp only [turnO]
      rw [List.length_map, ← List.map_take, List.flatMap_map]
      congr 1
      simp only [List.flatMap_def]
      congr 1
      refine List.map_congr_left fun x hx => ?_
      have hxo : x ∈ wOf os i := by rw [hwo]; exact List.mem_of_mem_take hx
      exact ih x (ordF_closed os roots i hm x hxo) (hf i hm x hxo)
    · have ht : turnW os (ordF os roots) w = w := by unfold turnW; rw [if_neg hp]
      rw [ht]
      unfold walkO
      rw [if_neg hp, if_neg hp]
theorem sum_le (f : Nat → Nat) : ∀ (A B : List Nat), A.Nodup → (∀ i ∈ A, i ∈ B) → (A.map f).sum ≤ (B.map f).sum
  | [], B, _, h => Nat.zero_le _
  | a :: A, B, hn, h => by
    obtain ⟨h1, h2⟩ := List.nodup_cons.1 hn
    have hp := (List.perm_cons_erase (h a (by simp))).map f
    have h3 := sum_le f A (B.erase a) h2 fun i hi => (List.mem_erase_of_ne (fun e => h1 (by rw [← e]; exact hi))).2 (h i (by simp [hi]))
    rw [hp.sum_nat]
    simp only [List.map_cons, List.sum_cons]
    omega
theorem tot_pickO {os : List Ho} : ∀ {F : List Nat}, (∀ j ∈ F, j < os.length) → tot (pickO os F) = (F.map fun i => 1 + (wOf os i).length).sum
  | [], _ => rfl
  | j :: F, hl => by
    obtain ⟨o, ho⟩ : ∃ o, os[j]? = some o := ⟨_, List.getElem?_eq_getElem (hl j (by simp))⟩
    have hp : pickO os (j :: F) = o :: pickO os F := by simp [pickO, ho]
    rw [hp, tot, tot_pickO fun k hk => hl k (by simp [hk]), List.map_cons, List.sum_cons]
    simp [osz, wOf, ho]
theorem pickO_range (os : List Ho) : pickO os (List.range os.length) = os := by
  refine List.ext_getElem? fun i => ?_
  by_cases hi : i < os.length
  · rw [pickO_get (i := i) (by simp) (by simp [hi])]
  · rw [List.getElem?_eq_none (by rw [pickO_len (by simp)]; simp; omega), List.getElem?_eq_none (by omega)]
/-- No more words are used. -/
theorem tot_pick {os : List Ho} {F : List Nat} (h : Okd os F) : tot (pickO os F) ≤ tot os := by
  conv => rhs; rw [← pickO_range os]
  rw [tot_pickO h.lt, tot_pickO (by simp)]
  exact sum_le _ _ _ h.nodup fun i hi => by simp [h.lt i hi]
theorem tot_col (os : List Ho) (roots : List Wd) : tot (colO os roots) ≤ tot os := by
  rw [colO, tot_turn]
  exact tot_pick (ordF_ok os roots)
/-! ### Collected again -/
/-- Each was reached from a root, or from one before. -/
def Src (os : List Ho) (roots : List Wd) (ord : List Nat) : Prop := ∀ (q i : Nat), ord[q]? = some i → ∃ w : Wd, w.p = true ∧ idxAt os w.v = some i ∧ (w ∈ roots ∨ ∃ (k j : Nat), k < q ∧ ord[k]? = some j ∧ w ∈ wOf os j)
theorem src_reach1 {os : List Ho} {roots : List Wd} {ord : List Nat} {w : Wd} (h : Src os roots ord) (hw : w ∈ roots ∨ ∃ (k j : Nat), ord[k]? = some j ∧ w ∈ wOf os j) : Src os roots (reach1 os ord w) := by
  unfold reach1
  split
  · rename_i hp
    split
    · rename_i i hi
      split
      · exact h
      · intro q x hq
        have key : ∀ (k j : Nat), ord[k]? = some j → (ord ++ [i])[k]? = some j := fun k j hk => by
          rw [List.getElem?_append_left (List.getElem?_eq_some_iff.1 hk).1]; exact hk
        by_cases hlt : q < ord.length
        · rw [List.getElem?_append_left hlt] at hq
          obtain ⟨u, h1, h2, h3⟩ := h q x hq
          refine ⟨u, h1, h2, h3.imp id fun ⟨k, j, a, b, c⟩ => ⟨k, j, a, key k j b, c⟩⟩
        · have hle := (List.getElem?_eq_some_iff.1 hq).1
          simp at hle
          have hqe : q = ord.length := by omega
          subst hqe
          simp at hq
          subst hq
          refine ⟨w, hp, hi, hw.imp id fun ⟨k, j, b, c⟩ => ⟨k, j, (List.getElem?_eq_some_iff.1 b).1, key k j b, c⟩⟩
    · exact h
  · exact h
theorem src_reachL {os : List Ho} {roots : List Wd} (l : List Wd) : ∀ {ord : List Nat}, Src os roots ord → (∀ w ∈ l, w ∈ roots ∨ ∃ (k j : Nat), ord[k]? = some j ∧ w ∈ wOf os j) → Src os roots (reachL os ord l) := by
  induction l with
  | nil => exact fun h _ => h
  | cons w l ih =>
    intro ord h hw
    refine ih (src_reach1 h (hw w (by simp))) fun u hu => (hw u (by simp [hu])).imp id fun ⟨k, j, a, b⟩ => ⟨k, j, ?_, b⟩
    rw [pre_get (reach1_pre os ord w) (List.getElem?_eq_some_iff.1 a).1]
    exact a
theorem src_scanO {os : List Ho} {roots : List Wd} : ∀ (f : Nat) {ord : List Nat} (k : Nat), Src os roots ord → Src os roots (scanO os f ord k)
  | 0, ord, k, h => h
  | f + 1, ord, k, h => by
    rw [scanO]
    split
    · exact h
    · rename_i i hi
      exact src_scanO f _ (src_reachL _ h fun w hw => .inr ⟨k, i, hi, hw⟩)
theorem ordF_src (os : List Ho) (roots : List Wd) : Src os roots (ordF os roots) := src_scanO _ _ (src_reachL _ (fun q i h => by simp at h) fun w hw => .inl hw)
theorem again_mem {os : List Ho} {roots : List Wd} : ∀ q, q < (ordF os roots).length → q ∈ ordF (colO os roots) (colR os roots) := by
  intro q
  induction q using Nat.strongRecOn with
  | _ q ih =>
  intro hq
  obtain ⟨i, hi⟩ : ∃ i, (ordF os roots)[q]? = some i := ⟨_, List.getElem?_eq_getElem hq⟩
  obtain ⟨w, hp, hw, h⟩ := ordF_src os roots q i hi
  have ht : turnW os (ordF os roots) w = ⟨true, newp os (ordF os roots) i⟩ := by unfold turnW; rw [if_pos hp, hw]
  rcases h with h | ⟨k, j, hk, hj, hm⟩
  · have := ordF_roots (colO os roots) (colR os roots) (turnW os (ordF os roots) w) (List.mem_map.2 ⟨w, h, rfl⟩) q
    rw [ht] at this
    exact this rfl (col_at hi)
  · have hjl := (ordF_ok os roots).lt j (List.mem_of_getElem? hj)
    obtain ⟨o, ho⟩ : ∃ o, os[j]? = some o := ⟨_, List.getElem?_eq_getElem hjl⟩
    have hwo : wOf os j = o.l := by simp [wOf, ho]
    have hw2 : wOf (colO os roots) k = o.l.map (turnW os (ordF os roots)) := by simp [wOf, col_get hj ho, turnO]
    have := ordF_closed (colO os roots) (colR os roots) k (ih k hk (by omega)) (turnW os (ordF os roots) w) (by rw [hw2]; rw [hwo] at hm; exact List.mem_map.2 ⟨w, hm, rfl⟩) q
    rw [ht] at this
    exact this rfl (col_at hi)
/-- Collected again: as many words. -/
theorem tot_again (os : List Ho) (roots : List Wd) : tot (colO (colO os roots) (colR os roots)) = tot (colO os roots) := by
  refine Nat.le_antisymm (tot_col _ _) ?_
  have hl : (colO os roots).length = (ordF os roots).length := by rw [colO, List.length_map, pickO_len (ordF_ok os roots).lt]
  generalize hos : colO os roots = os' at *
  generalize hro : colR os roots = ro' at *
  rw [colO, tot_turn, tot_pickO (ordF_ok os' ro').lt]
  conv => lhs; rw [← pickO_range os']
  rw [tot_pickO (by simp)]
  refine sum_le _ _ _ List.nodup_range fun q hq => ?_
  rw [← hos, ← hro]
  exact again_mem q (by simpa [hl] using hq)
theorem col_none (os : List Ho) : colO os [] = [] := by
  have : ordF os [] = [] := by
    unfold ordF reachL
    cases h : os.length with
    | zero => rfl
    | succ n => simp [scanO]
  rw [colO, this]
  rfl
end Go.Proofs.Ytiomciifhkbklaa
