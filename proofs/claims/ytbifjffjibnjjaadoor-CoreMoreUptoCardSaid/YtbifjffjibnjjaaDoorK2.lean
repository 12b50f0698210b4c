/-
  Core expressions, plainly: with more fuel, if it ended, it ends the same; if it didn't, the trace goes on. (Own work.)
-/
import Derived.Test.YtbifjffjibnjjaaDoorK1
set_option linter.unusedVariables false
set_option linter.unusedSimpArgs false
namespace Go.Proofs.YtbifjffjibnjjaaDoor
open Go Go.Abs

def Ms.up (m : Ms) (d : Nat) : Ms := { m with fuel := m.fuel + d }
/-- One with less fuel, one with more. -/
structure Gd {α : Type} (d : Nat) (r r' : Rs α) (m : Ms) : Prop where
  err : r.v = none ↔ r.m.err ≠ 0
  fuel : r.m.fuel ≤ m.fuel
  c : r.m.err ≠ 8 → r' = ⟨r.v, r.m.up d⟩
  dd : r.m.err = 8 → r.m.tr <+: r'.m.tr
theorem Gd.bind {α β : Type} {d : Nat} {r r' : Rs α} {k k' : α → Ms → Rs β} {m : Ms} (h : Gd d r r' m) (hk : ∀ a m1, m1.err = 0 → m1.fuel ≤ m.fuel → Gd d (k a m1) (k' a (m1.up d)) m1) (ht : ∀ a m1, m1.tr <+: (k' a m1).m.tr) : Gd d (r.bind k) (r'.bind k') m := by
  obtain ⟨v, m1⟩ := r
  cases v with
  | none =>
    refine ⟨⟨fun _ => h.err.1 rfl, fun _ => rfl⟩, h.fuel, fun he => ?_, fun he => ?_⟩
    · rw [h.c he]; rfl
    · refine List.IsPrefix.trans (h.dd he) ?_
      obtain ⟨v', m'⟩ := r'
      cases v' with
      | none => exact List.prefix_rfl
      | some a => exact ht a m'
  | some a =>
    have h0 : m1.err = 0 := by
      by_cases he : m1.err = 0
      · exact he
      · have h2 : (some a : Option α) = none := h.err.2 he
        cases h2
    have hr := h.c (by show m1.err ≠ 8; omega)
    have hg := hk a m1 h0 h.fuel
    rw [hr]
    exact ⟨hg.err, Nat.le_trans hg.fuel h.fuel, hg.c, hg.dd⟩
theorem Gd.done {α : Type} {d : Nat} {a : α} {m : Ms} (h : m.err = 0) : Gd d (done a m) (done a (m.up d)) m :=
  ⟨⟨fun h => (by cases h), fun h2 => absurd h h2⟩, Nat.le_refl _, fun _ => rfl, fun _ => List.prefix_rfl⟩
theorem Gd.fin {α : Type} {d : Nat} {e f : Int} {m : Ms} (h : m.err = 0) (h0 : e ≠ 0) (h8 : e ≠ 8) : Gd d (endM (α := α) e f m) (endM e f (m.up d)) m := by
  unfold endM
  rw [if_pos h, if_pos (show (m.up d).err = 0 from h)]
  exact ⟨⟨fun _ => h0, fun _ => rfl⟩, Nat.le_refl _, fun _ => rfl, fun he => absurd he h8⟩
theorem Gd.stuck {α : Type} {d : Nat} {m : Ms} (h : m.err = 0) : Gd d (stuckM (α := α) m) (stuckM (m.up d)) m := .fin h (by decide) (by decide)
theorem Gd.on {α : Type} {d : Nat} {r r' : Rs α} {m m2 : Ms} (h : Gd d r r' m2) (hf : m2.fuel ≤ m.fuel) : Gd d r r' m := ⟨h.err, Nat.le_trans h.fuel hf, h.c, h.dd⟩

/-! ### The trace goes on -/
theorem tr_bind {α β : Type} {r : Rs α} {k : α → Ms → Rs β} {m : Ms} (h : m.tr <+: r.m.tr) (ht : ∀ a m1, m1.tr <+: (k a m1).m.tr) : m.tr <+: (r.bind k).m.tr := by
  obtain ⟨v, m1⟩ := r
  cases v with
  | none => exact h
  | some a => exact List.IsPrefix.trans h (ht a m1)
theorem tr_end {α : Type} {e f : Int} {m : Ms} : m.tr <+: (endM (α := α) e f m).m.tr := by
  unfold endM
  split <;> exact List.prefix_rfl
theorem tr_done {α : Type} {a : α} {m : Ms} : m.tr <+: (done a m).m.tr := List.prefix_rfl
section
variable {R : Rec} (hT : ∀ e env m, m.tr <+: (R e env m).m.tr)
include hT
theorem tr_all (env : En) : ∀ (l : List Co) (m : Ms), m.tr <+: (allM R env l m).m.tr
  | [], m => tr_done
  | x :: l, m => tr_bind (hT x env m) fun v m1 => tr_bind (tr_all env l m1) fun vs m2 => tr_done
theorem tr_choose (env : En) (a b c : Co) (m : Ms) : m.tr <+: (chooseM R env a b c m).m.tr := tr_bind (hT a env m) fun v m1 => by
  try dsimp only
  split
  · split
    · exact hT _ _ _
    · exact hT _ _ _
  · exact tr_end
theorem tr_arms (env : En) (l : List Co) (t : Str) (n : Int) (w : Vl) : ∀ (ns : List Str) (i : Nat) (below : Int) (m : Ms), m.tr <+: (armsM R env l t n w ns i below m).m.tr
  | [], i, below, m => by
    unfold armsM
    split
    · exact tr_end
    · exact hT _ _ _
  | x :: ns, i, below, m => tr_bind (hT _ _ m) fun v m1 => by
    try dsimp only
    split
    · split
      · exact hT _ _ _
      · exact tr_arms env l t n w ns _ _ _
    · exact tr_end
theorem tr_cases (env : En) (t : Str) (ns : List Str) (l : List Co) (m : Ms) : m.tr <+: (casesM R env t ns l m).m.tr := tr_bind (hT _ _ m) fun v m1 => by
  try dsimp only
  split
  · exact tr_arms hT env l t _ _ ns 0 0 m1
  · exact tr_end
theorem tr_apply (vs : List Vl) (m : Ms) : m.tr <+: (applyM R vs m).m.tr := by
  unfold applyM
  split
  · exact hT _ _ _
  · exact tr_end
omit hT in
theorem tr_tuple (k : Int) (t a x : Vl) (m : Ms) : m.tr <+: (tupleM k t a x m).m.tr := by
  unfold tupleM
  split
  · split
    · exact tr_end
    · split
      · exact tr_done
      · split
        · exact tr_done
        · split <;> exact tr_done
  · exact tr_end
omit hT in
theorem tr_arith (s : Str) (a b : Int) (m : Ms) : m.tr <+: (arithM s a b m).m.tr := by
  unfold arithM
  repeat' split
  all_goals first | exact tr_done | exact tr_end
omit hT in
theorem tr_op (s : Str) (a b : Vl) (m : Ms) : m.tr <+: (opM s a b m).m.tr := by
  unfold opM
  split
  · repeat' split
    all_goals first | exact tr_done | exact tr_end
  · split
    · generalize (if _ < (0 : Int) then none else _) = o
      cases o with
      | none => exact tr_end
      | some c => exact tr_done
    · exact tr_end
  · exact tr_arith _ _ _ _
  · exact tr_end
omit hT in
theorem tr_read (m : Ms) : m.tr <+: (readM m).m.tr := by
  unfold readM
  split
  · exact tr_end
  · rename_i s r hm
    split
    · exact tr_end (α := Vl) (e := 9) (f := 2) (m := { m with inp := r })
    · exact List.prefix_rfl
theorem tr_do (k : Int) (s : Str) (vs : List Vl) (m : Ms) : m.tr <+: (doM R k s vs m).m.tr := by
  unfold doM
  by_cases h : k = 5
  · rw [if_pos h]
    exact tr_apply hT vs m
  rw [if_neg h]
  clear h
  by_cases h : k = 8
  · rw [if_pos h]
    exact tr_done
  rw [if_neg h]
  clear h
  by_cases h : k = 9 ∨ k = 11
  · rw [if_pos h]
    split
    · exact tr_tuple _ _ _ _ _
    · exact tr_end
  rw [if_neg h]
  clear h
  by_cases h : k = 10 ∨ k = 12
  · rw [if_pos h]
    split
    · exact tr_tuple _ _ _ _ _
    · exact tr_end
  rw [if_neg h]
  clear h
  by_cases h : k = 13
  · rw [if_pos h]
    split
    · exact tr_done
    · exact tr_end
  rw [if_neg h]
  clear h
  by_cases h : k = 16
  · rw [if_pos h]
    split
    · exact tr_op _ _ _ _
    · exact tr_end
  rw [if_neg h]
  clear h
  by_cases h : k = 17
  · rw [if_pos h]
    split
    · exact List.prefix_rfl
    · exact tr_end
  rw [if_neg h]
  clear h
  by_cases h : k = 18
  · rw [if_pos h]
    split
    · exact tr_done
    · exact tr_end
  rw [if_neg h]
  clear h
  by_cases h : k = 19
  · rw [if_pos h]
    split
    · exact List.prefix_rfl
    · exact tr_end
  rw [if_neg h]
  clear h
  by_cases h : k = 20
  · rw [if_pos h]
    split
    · exact List.prefix_append _ _
    · exact tr_end
  rw [if_neg h]
  clear h
  by_cases h : k = 21
  · rw [if_pos h]
    split
    · exact tr_done
    · exact tr_end
  rw [if_neg h]
  clear h
  by_cases h : k = 22
  · rw [if_pos h]
    exact tr_read m
  rw [if_neg h]
  clear h
  exact tr_end
omit hT in
theorem stepM_mk (R : Rec) (k n : Int) (s t : Str) (ns : List Str) (l : List Co) (env : En) (m : Ms) : stepM R (.mk k n s t ns l) env m =
    if partsC k l.length ns.length (decide (t ≠ [])) ≠ l.length then stuckM m
    else if k = 1 then done (.int n) m
    else if k = 2 then done (.text s) m
    else if k = 3 then (match lookE env s with
      | some v => done v m
      | none => stuckM m)
    else if k = 4 then done (.fn false [] s (prt l 0) env) m
    else if k = 6 then (R (prt l 0) env m).bind fun v m => R (prt l 1) (.cons s v env) m
    else if k = 7 then R (prt l 1) (.cons s (.fn true s t (prt l 0) env) env) m
    else if k = 15 then chooseM R env (prt l 0) (prt l 1) (prt l 2) m
    else if k = 14 then casesM R env t ns l m
    else (allM R env l m).bind fun vs m => doM R k s vs m := rfl
theorem tr_step (e : Co) (env : En) (m : Ms) : m.tr <+: (stepM R e env m).m.tr := by
  cases e with
  | mk k n s t ns l =>
  rw [stepM_mk]
  by_cases h : partsC k l.length ns.length (decide (t ≠ [])) ≠ l.length
  · rw [if_pos h]
    exact tr_end
  rw [if_neg h]
  clear h
  by_cases h : k = 1
  · rw [if_pos h]
    exact tr_done
  rw [if_neg h]
  clear h
  by_cases h : k = 2
  · rw [if_pos h]
    exact tr_done
  rw [if_neg h]
  clear h
  by_cases h : k = 3
  · rw [if_pos h]
    split
    · exact tr_done
    · exact tr_end
  rw [if_neg h]
  clear h
  by_cases h : k = 4
  · rw [if_pos h]
    exact tr_done
  rw [if_neg h]
  clear h
  by_cases h : k = 6
  · rw [if_pos h]
    exact tr_bind (hT _ _ _) fun v m1 => hT _ _ _
  rw [if_neg h]
  clear h
  by_cases h : k = 7
  · rw [if_pos h]
    exact hT _ _ _
  rw [if_neg h]
  clear h
  by_cases h : k = 15
  · rw [if_pos h]
    exact tr_choose hT _ _ _ _ _
  rw [if_neg h]
  clear h
  by_cases h : k = 14
  · rw [if_pos h]
    exact tr_cases hT _ _ _ _ _
  rw [if_neg h]
  clear h
  exact tr_bind (tr_all hT _ _ _) fun vs m1 => tr_do hT _ _ _ _
end
theorem tr_ev : ∀ (g : Nat) (e : Co) (env : En) (m : Ms), m.tr <+: (evM g e env m).m.tr
  | 0, e, env, m => List.prefix_rfl
  | g + 1, e, env, m => by
    rw [evM]
    split
    · exact tr_end
    · exact tr_step (tr_ev g) e env { m with fuel := m.fuel - 1 }

/-! ### More fuel -/
section
variable {R R' : Rec} {d F : Nat} (hT : ∀ e env m, m.tr <+: (R' e env m).m.tr) (hR : ∀ e env m, m.err = 0 → m.fuel ≤ F → Gd d (R e env m) (R' e env (m.up d)) m)
include hT hR
theorem gd_all (env : En) : ∀ (l : List Co) (m : Ms), m.err = 0 → m.fuel ≤ F → Gd d (allM R env l m) (allM R' env l (m.up d)) m
  | [], m, h, hf => .done h
  | x :: l, m, h, hf => (hR x env m h hf).bind (fun v m1 h1 hf1 => (gd_all env l m1 h1 (by omega)).bind (fun vs m2 h2 hf2 => .done h2) fun vs m2 => tr_done) fun v m1 => tr_bind (tr_all hT env l m1) fun vs m2 => tr_done
theorem gd_choose (env : En) (a b c : Co) (m : Ms) (h : m.err = 0) (hf : m.fuel ≤ F) : Gd d (chooseM R env a b c m) (chooseM R' env a b c (m.up d)) m :=
  (hR a env m h hf).bind (fun v m1 h1 hf1 => by
    cases v with
    | int n =>
      try dsimp only
      by_cases hn : n ≠ 0
      · rw [if_pos hn, if_pos hn]; exact hR _ _ _ h1 (by omega)
      · rw [if_neg hn, if_neg hn]; exact hR _ _ _ h1 (by omega)
    | _ => exact .stuck h1) fun v m1 => by
    try dsimp only
    split
    · split <;> exact hT _ _ _
    · exact tr_end
theorem gd_arms (env : En) (l : List Co) (t : Str) (n : Int) (w : Vl) : ∀ (ns : List Str) (i : Nat) (below : Int) (m : Ms), m.err = 0 → m.fuel ≤ F → Gd d (armsM R env l t n w ns i below m) (armsM R' env l t n w ns i below (m.up d)) m
  | [], i, below, m, h, hf => by
    unfold armsM
    by_cases ht : t = []
    · rw [if_pos ht, if_pos ht]; exact .stuck h
    · rw [if_neg ht, if_neg ht]; exact hR _ _ _ h hf
  | x :: ns, i, below, m, h, hf => (hR _ _ m h hf).bind (fun v m1 h1 hf1 => by
      cases v with
      | int a =>
        try dsimp only
        by_cases ha : a = n
        · rw [if_pos ha, if_pos ha]; exact hR _ _ _ h1 (by omega)
        · rw [if_neg ha, if_neg ha]; exact gd_arms env l t n w ns _ _ m1 h1 (by omega)
      | _ => exact .stuck h1) fun v m1 => by
      try dsimp only
      split
      · split
        · exact hT _ _ _
        · exact tr_arms hT env l t n w ns _ _ _
      · exact tr_end
theorem gd_cases (env : En) (t : Str) (ns : List Str) (l : List Co) (m : Ms) (h : m.err = 0) (hf : m.fuel ≤ F) : Gd d (casesM R env t ns l m) (casesM R' env t ns l (m.up d)) m :=
  (hR _ _ m h hf).bind (fun v m1 h1 hf1 => by
    cases v with
    | tag n w => exact gd_arms hT hR env l t n w ns 0 0 m1 h1 (by omega)
    | _ => exact .stuck h1) fun v m1 => by
    try dsimp only
    split
    · exact tr_arms hT env l t _ _ ns 0 0 m1
    · exact tr_end
omit hT in
theorem gd_apply (vs : List Vl) (m : Ms) (h : m.err = 0) (hf : m.fuel ≤ F) : Gd d (applyM R vs m) (applyM R' vs (m.up d)) m := by
  unfold applyM
  split
  · exact hR _ _ _ h hf
  · exact .stuck h
omit hT hR in
theorem gd_tuple (k : Int) (t a x : Vl) (m : Ms) (h : m.err = 0) : Gd d (tupleM k t a x m) (tupleM k t a x (m.up d)) m := by
  unfold tupleM
  cases t with
  | tup l =>
    cases a with
    | int n =>
      try dsimp only
      repeat' split
      all_goals first | exact .done h | exact .stuck h
    | _ => exact .stuck h
  | _ => exact .stuck h
omit hT hR in
theorem gd_arith (s : Str) (a b : Int) (m : Ms) (h : m.err = 0) : Gd d (arithM s a b m) (arithM s a b (m.up d)) m := by
  unfold arithM
  repeat' split
  all_goals first | exact .done h | exact .stuck h | exact .fin h (by decide) (by decide)
omit hT hR in
theorem gd_op (s : Str) (a b : Vl) (m : Ms) (h : m.err = 0) : Gd d (opM s a b m) (opM s a b (m.up d)) m := by
  cases a with
  | text x =>
    cases b with
    | text y =>
      unfold opM
      try dsimp only
      repeat' split
      all_goals first | exact .done h | exact .stuck h | exact .fin h (by decide) (by decide)
    | int n =>
      unfold opM
      try dsimp only
      by_cases hs : s = [35]
      · rw [if_pos hs, if_pos hs]
        generalize (if n < 0 then none else x[n.toNat]?) = o
        cases o with
        | none => exact .fin h (by decide) (by decide)
        | some c => exact .done h
      · rw [if_neg hs, if_neg hs]; exact .stuck h
    | _ => exact .stuck h
  | int x =>
    cases b with
    | int y => exact gd_arith s x y m h
    | _ => exact .stuck h
  | _ => cases b <;> exact .stuck h
omit hT hR in
theorem gd_read (m : Ms) (h : m.err = 0) : Gd d (readM m) (readM (m.up d)) m := by
  unfold readM
  show Gd d _ (match m.inp with
    | [] => endM 9 3 (m.up d)
    | s :: r => if s.length > 2000 then endM 9 2 { (m.up d) with inp := r } else done (Vl.text s) { (m.up d) with inp := r }) m
  cases m.inp with
  | nil => exact .fin h (by decide) (by decide)
  | cons s r =>
    try dsimp only
    by_cases hl : s.length > 2000
    · rw [if_pos hl, if_pos hl]
      exact Gd.on (m2 := { m with inp := r }) (.fin h (by decide) (by decide)) (Nat.le_refl _)
    · rw [if_neg hl, if_neg hl]
      exact Gd.on (m2 := { m with inp := r }) (.done h) (Nat.le_refl _)
omit hT in
theorem gd_do (k : Int) (s : Str) (vs : List Vl) (m : Ms) (h : m.err = 0) (hf : m.fuel ≤ F) : Gd d (doM R k s vs m) (doM R' k s vs (m.up d)) m := by
  unfold doM
  by_cases h5 : k = 5
  · rw [if_pos h5, if_pos h5]; exact gd_apply hR vs m h hf
  rw [if_neg h5, if_neg h5]
  by_cases h8 : k = 8
  · rw [if_pos h8, if_pos h8]; exact .done h
  rw [if_neg h8, if_neg h8]
  by_cases h9 : k = 9 ∨ k = 11
  · rw [if_pos h9, if_pos h9]
    split
    · exact gd_tuple _ _ _ _ _ h
    · exact .stuck h
  rw [if_neg h9, if_neg h9]
  by_cases h10 : k = 10 ∨ k = 12
  · rw [if_pos h10, if_pos h10]
    split
    · exact gd_tuple _ _ _ _ _ h
    · exact .stuck h
  rw [if_neg h10, if_neg h10]
  by_cases h13 : k = 13
  · rw [if_pos h13, if_pos h13]
    split
    · exact .done h
    · exact .stuck h
  rw [if_neg h13, if_neg h13]
  by_cases h16 : k = 16
  · rw [if_pos h16, if_pos h16]
    split
    · exact gd_op _ _ _ _ h
    · exact .stuck h
  rw [if_neg h16, if_neg h16]
  by_cases h17 : k = 17
  · rw [if_pos h17, if_pos h17]
    split
    · rename_i v
      exact Gd.on (m2 := { m with st := m.st ++ [v] }) (.done h) (Nat.le_refl _)
    · exact .stuck h
  rw [if_neg h17, if_neg h17]
  by_cases h18 : k = 18
  · rw [if_pos h18, if_pos h18]
    split
    · exact .done h
    · exact .stuck h
  rw [if_neg h18, if_neg h18]
  by_cases h19 : k = 19
  · rw [if_pos h19, if_pos h19]
    split
    · rename_i i v
      exact Gd.on (m2 := { m with st := m.st.set i v }) (.done h) (Nat.le_refl _)
    · exact .stuck h
  rw [if_neg h19, if_neg h19]
  by_cases h20 : k = 20
  · rw [if_pos h20, if_pos h20]
    split
    · rename_i x
      exact Gd.on (m2 := { m with tr := m.tr ++ [x] }) (.done h) (Nat.le_refl _)
    · exact .stuck h
  rw [if_neg h20, if_neg h20]
  by_cases h21 : k = 21
  · rw [if_pos h21, if_pos h21]
    split
    · exact .done h
    · exact .stuck h
  rw [if_neg h21, if_neg h21]
  by_cases h22 : k = 22
  · rw [if_pos h22, if_pos h22]; exact gd_read m h
  rw [if_neg h22, if_neg h22]
  exact .stuck h
theorem gd_step (e : Co) (env : En) (m : Ms) (h : m.err = 0) (hf : m.fuel ≤ F) : Gd d (stepM R e env m) (stepM R' e env (m.up d)) m := by
  cases e with
  | mk k n s t ns l =>
  rw [stepM_mk, stepM_mk]
  by_cases hp : partsC k l.length ns.length (decide (t ≠ [])) ≠ l.length
  · rw [if_pos hp, if_pos hp]; exact .stuck h
  rw [if_neg hp, if_neg hp]
  by_cases h1 : k = 1
  · rw [if_pos h1, if_pos h1]; exact .done h
  rw [if_neg h1, if_neg h1]
  by_cases h2 : k = 2
  · rw [if_pos h2, if_pos h2]; exact .done h
  rw [if_neg h2, if_neg h2]
  by_cases h3 : k = 3
  · rw [if_pos h3, if_pos h3]
    split
    · exact .done h
    · exact .stuck h
  rw [if_neg h3, if_neg h3]
  by_cases h4 : k = 4
  · rw [if_pos h4, if_pos h4]; exact .done h
  rw [if_neg h4, if_neg h4]
  by_cases h6 : k = 6
  · rw [if_pos h6, if_pos h6]
    exact (hR _ _ _ h hf).bind (fun v m1 h1 hf1 => hR _ _ _ h1 (by omega)) fun v m1 => hT _ _ _
  rw [if_neg h6, if_neg h6]
  by_cases h7 : k = 7
  · rw [if_pos h7, if_pos h7]; exact hR _ _ _ h hf
  rw [if_neg h7, if_neg h7]
  by_cases h15 : k = 15
  · rw [if_pos h15, if_pos h15]; exact gd_choose hT hR _ _ _ _ _ h hf
  rw [if_neg h15, if_neg h15]
  by_cases h14 : k = 14
  · rw [if_pos h14, if_pos h14]; exact gd_cases hT hR _ _ _ _ _ h hf
  rw [if_neg h14, if_neg h14]
  exact (gd_all hT hR _ _ _ h hf).bind (fun vs m1 h1 hf1 => gd_do hR _ _ _ _ h1 (by omega)) fun vs m1 => tr_do hT _ _ _ _
end
theorem ev_more (d : Nat) : ∀ (g g' : Nat) (e : Co) (env : En) (m : Ms), m.err = 0 → m.fuel < g → m.fuel + d < g' → Gd d (evM g e env m) (evM g' e env (m.up d)) m
  | 0, g', e, env, m, h, hf, hf' => by omega
  | g + 1, 0, e, env, m, h, hf, hf' => by omega
  | g + 1, g' + 1, e, env, m, h, hf, hf' => by
    rw [evM, evM]
    by_cases h0 : m.fuel = 0
    · rw [if_pos h0]
      unfold endM
      rw [if_pos h]
      refine ⟨⟨fun _ => (by decide : (8 : Int) ≠ 0), fun _ => rfl⟩, Nat.le_refl _, fun he => absurd rfl he, fun _ => ?_⟩
      have := tr_ev (g' + 1) e env (m.up d)
      rw [evM] at this
      exact this
    · rw [if_neg h0, if_neg (show ¬ (m.up d).fuel = 0 by show ¬ m.fuel + d = 0; omega)]
      have hs := gd_step (d := d) (F := m.fuel - 1) (R := evM g) (R' := evM g') (tr_ev g') (fun e env m1 h1 hf1 => ev_more d g g' e env m1 h1 (by omega) (by omega)) e env { m with fuel := m.fuel - 1 } h (Nat.le_refl _)
      have hu : ({ (m.up d) with fuel := (m.up d).fuel - 1 } : Ms) = ({ m with fuel := m.fuel - 1 } : Ms).up d := by
        show (⟨m.inp, m.fuel + d - 1, m.err, m.fault, m.tr, m.st⟩ : Ms) = ⟨m.inp, m.fuel - 1 + d, m.err, m.fault, m.tr, m.st⟩
        rw [show m.fuel + d - 1 = m.fuel - 1 + d by omega]
      rw [hu]
      exact hs.on (Nat.sub_le _ _)
end Go.Proofs.YtbifjffjibnjjaaDoor
