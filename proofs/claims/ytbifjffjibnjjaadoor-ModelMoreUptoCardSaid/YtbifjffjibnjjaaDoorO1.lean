/-
  Expressions, plainly: what they come to. (Own work.)
-/
import Derived.Test.YtbifjffjibnjjaaDoorO0
import Derived.Lib.ItoaNum
import Derived.Lib.ItoaLen
set_option linter.unusedVariables false
set_option linter.unusedSimpArgs false
namespace Go.Proofs.YtbifjffjibnjjaaDoor
open Go Go.Abs

mutual
inductive Vl where
  | int (n : Int)
  | text (s : Str)
  | fn (rc : Bool) (self param : Str) (part : Ex) (env : En)
  | rcd (l : En)
  | tag (s : Str) (v : Vl)
  | ref (k : Nat)
inductive En where
  | nil
  | cons (x : Str) (v : Vl) (e : En)
end
/-- A machine: lines to read, fuel, the error, the fault, the trace, what references point to. -/
structure Ms where
  inp : List Str
  fuel : Nat
  err : Int
  fault : Int
  tr : List Str
  st : List Vl
/-- What comes of something: none: the run is over. -/
structure Rs (α : Type) where
  v : Option α
  m : Ms
def Rs.bind {α β : Type} (r : Rs α) (k : α → Ms → Rs β) : Rs β := match r with
  | ⟨none, m⟩ => ⟨none, m⟩
  | ⟨some a, m⟩ => k a m
def done {α : Type} (a : α) (m : Ms) : Rs α := ⟨some a, m⟩
def endM {α : Type} (e f : Int) (m : Ms) : Rs α := ⟨none, if m.err = 0 then { m with err := e, fault := f } else m⟩
def stuckM {α : Type} (m : Ms) : Rs α := endM 11 0 m
def lookE : En → Str → Option Vl
  | .nil, _ => none
  | .cons x v e, s => if x = s then some v else lookE e s
/-- A label set. -/
def setE : En → Str → Vl → En
  | .nil, s, w => .cons s w .nil
  | .cons x v e, s, w => if x = s then .cons s w e else .cons x v (setE e s w)
/-- A label taken out. -/
def delE : En → Str → En
  | .nil, _ => .nil
  | .cons x v e, s => if x = s then e else .cons x v (delE e s)
def buildE : List Str → List Vl → En → En
  | s :: ls, v :: vs, e => buildE ls vs (setE e s v)
  | _, _, e => e
def namesE : En → List Str
  | .nil => []
  | .cons x _ e => x :: namesE e
def zEx : Ex := .mk 0 0 0 [] [] [] [] []
def prt (l : List Ex) (i : Nat) : Ex := (l[i]?).getD zEx
def nmq (l : List Str) (i : Nat) : Str := (l[i]?).getD []
/-- How many parts a kind has. -/
def partsC (k : Int) (ls : Nat) (t : Bool) : Int :=
  if k = 1 ∨ k = 2 ∨ k = 3 ∨ k = 22 then 0
  else if k = 4 ∨ k = 9 ∨ k = 11 ∨ k = 13 ∨ k = 17 ∨ k = 18 ∨ k = 20 ∨ k = 21 then 1
  else if k = 5 ∨ k = 6 ∨ k = 7 ∨ k = 10 ∨ k = 12 ∨ k = 16 ∨ k = 19 then 2
  else if k = 15 then 3
  else if k = 8 then ls
  else if k = 14 then 1 + ls + (if t = true then 1 else 0)
  else -1
/-- Where a label stands first. -/
def idxF (s : Str) : List Str → Nat → Option Nat
  | [], _ => none
  | x :: l, i => if x = s then some i else idxF s l (i + 1)
abbrev Rec := Ex → En → Ms → Rs Vl
def allM (R : Rec) (env : En) : List Ex → Ms → Rs (List Vl)
  | [], m => done [] m
  | x :: l, m => (R x env m).bind fun v m => (allM R env l m).bind fun vs m => done (v :: vs) m
def chooseM (R : Rec) (env : En) (a b c : Ex) (m : Ms) : Rs Vl :=
  (R a env m).bind fun v m => match v with
    | .int n => if n ≠ 0 then R b env m else R c env m
    | _ => stuckM m
def armM (R : Rec) (env : En) (t : Str) (ls ns : List Str) (l : List Ex) (v : Vl) (m : Ms) : Rs Vl := match v with
  | .tag s w => (match idxF s ls 0 with
    | some i => R (prt l (i + 1)) (.cons (nmq ns i) w env) m
    | none => if t = [] then stuckM m else R (prt l (l.length - 1)) (.cons t (.tag s w) env) m)
  | _ => stuckM m
def matchM (R : Rec) (env : En) (t : Str) (ls ns : List Str) (l : List Ex) (m : Ms) : Rs Vl :=
  (R (prt l 0) env m).bind fun v m => armM R env t ls ns l v m
def applyM (R : Rec) : List Vl → Ms → Rs Vl
  | .fn rc self param part env :: v :: _, m => R part (.cons param v (if rc = true then .cons self (.fn rc self param part env) env else env)) m
  | _, m => stuckM m
def fieldM (k : Int) (s : Str) (x r : Vl) (m : Ms) : Rs Vl := match r with
  | .rcd l => if (lookE l s).isSome = decide (k = 10) then stuckM m
    else if k = 9 then done ((lookE l s).getD x) m
    else if k = 11 then done (.rcd (delE l s)) m
    else done (.rcd (setE l s x)) m
  | _ => stuckM m
def flagC (b : Bool) : Int := if b = true then 1 else 0
def arithM (s : Str) (a b : Int) (m : Ms) : Rs Vl :=
  if s = [43] then done (.int (IntKind.i64.wrap (a + b))) m
  else if s = [45] then done (.int (IntKind.i64.wrap (a - b))) m
  else if s = [42] then done (.int (IntKind.i64.wrap (a * b))) m
  else if s = [47] then (if b = 0 then endM 9 1 m else done (.int (IntKind.i64.wrap (a.tdiv b))) m)
  else if s = [60] then done (.int (flagC (decide (a < b)))) m
  else if s = [61, 61] then done (.int (flagC (a == b))) m
  else stuckM m
def opM (s : Str) (a b : Vl) (m : Ms) : Rs Vl := match a, b with
  | .text x, .text y => if s = [94] then (if x.length + y.length > 2000 then endM 9 2 m else done (.text (x ++ y)) m) else stuckM m
  | .text x, .int n => if s = [35] then (match (if n < 0 then none else x[n.toNat]?) with
    | some c => done (.int c.toNat) m
    | none => endM 9 2 m) else stuckM m
  | .int x, .int y => arithM s x y m
  | _, _ => stuckM m
def readM (m : Ms) : Rs Vl := match m.inp with
  | [] => endM 9 3 m
  | s :: r => if s.length > 2000 then endM 9 2 { m with inp := r } else done (.text s) { m with inp := r }
def zVl : Vl := .int 0
/-- What an expression comes to, by what its parts come to. -/
def doM (R : Rec) (k : Int) (s : Str) (ls : List Str) (vs : List Vl) (m : Ms) : Rs Vl :=
  if k = 5 then applyM R vs m
  else if k = 8 then done (.rcd (buildE ls vs .nil)) m
  else if k = 9 ∨ k = 11 then (match vs with
    | [r] => fieldM k s zVl r m
    | _ => stuckM m)
  else if k = 10 ∨ k = 12 then (match vs with
    | [x, r] => fieldM k s x r m
    | _ => stuckM m)
  else if k = 13 then (match vs with
    | [v] => done (.tag s v) m
    | _ => stuckM m)
  else if k = 16 then (match vs with
    | [a, b] => opM s a b m
    | _ => stuckM m)
  else if k = 17 then (match vs with
    | [v] => done (.ref m.st.length) { m with st := m.st ++ [v] }
    | _ => stuckM m)
  else if k = 18 then (match vs with
    | [.ref i] => done ((m.st[i]?).getD zVl) m
    | _ => stuckM m)
  else if k = 19 then (match vs with
    | [.ref i, v] => done (.rcd .nil) { m with st := m.st.set i v }
    | _ => stuckM m)
  else if k = 20 then (match vs with
    | [.text x] => done (.rcd .nil) { m with tr := m.tr ++ [x] }
    | _ => stuckM m)
  else if k = 21 then (match vs with
    | [.int n] => done (.text (Lib.itoa n)) m
    | _ => stuckM m)
  else if k = 22 then readM m
  else stuckM m
def stepM (R : Rec) : Rec
  | .mk k p n s t ls ns l, env, m =>
    if partsC k ls.length (decide (t ≠ [])) ≠ l.length ∨ (k = 14 ∧ ns.length ≠ ls.length) then stuckM m
    else if k = 1 then done (.int n) m
    else if k = 2 then done (.text s) m
    else if k = 3 then (match lookE env s with
      | some v => done v m
      | none => stuckM m)
    else if k = 4 then done (.fn false [] s (prt l 0) env) m
    else if k = 6 then (R (prt l 0) env m).bind fun v m => R (prt l 1) (.cons s v env) m
    else if k = 7 then R (prt l 1) (.cons s (.fn true s t (prt l 0) env) env) m
    else if k = 15 then chooseM R env (prt l 0) (prt l 1) (prt l 2) m
    else if k = 14 then matchM R env t ls ns l m
    else (allM R env l m).bind fun vs m => doM R k s ls vs m
def evM : Nat → Rec
  | 0, _, _, m => ⟨none, m⟩
  | g + 1, e, env, m => if m.fuel = 0 then endM 8 0 m else stepM (evM g) e env { m with fuel := m.fuel - 1 }

/-! ### A value's text -/
def putT (b s : Str) : Str := b ++ s.take (2000 - b.length)
def escT (b : Str) (x : UInt8) : Str := if x = 10 then putT b [92, 110] else if x = 34 ∨ x = 92 then putT b [92, x] else if 32 ≤ x ∧ x ≤ 126 then putT b [x] else b
def quotT (b s : Str) : Str := putT (s.foldl escT (putT b [34])) [34]
def kindV : Vl → Int
  | .int _ => 1
  | .text _ => 2
  | .fn .. => 3
  | .rcd _ => 4
  | .tag .. => 5
  | .ref _ => 6
def innerT (T : Str → Vl → Str) (ks : List Int) (b : Str) (v : Vl) : Str :=
  if kindV v ∈ ks then putT (T (putT b [40]) v) [41] else T b v
def fldsT (T : Str → Vl → Str) (l : En) : List Str → Nat → Str → Str
  | [], _, b => b
  | x :: xs, i, b => fldsT T l xs (i + 1) (T (putT (if i > 0 then putT b [44, 32] else b) (x ++ [32, 61, 32])) ((lookE l x).getD zVl))
def rcdT (T : Str → Vl → Str) (l : En) (b : Str) : Str := putT (fldsT T l (sortS (namesE l)) 0 (putT b [123])) [125]
def textT (st : List Vl) : Nat → Str → Vl → Str
  | 0, b, _ => b
  | g + 1, b, v => if 2000 ≤ b.length then b else match v with
    | .int n => putT b (Lib.itoa n)
    | .text s => quotT b s
    | .fn .. => putT b [102, 110]
    | .rcd l => rcdT (textT st g) l b
    | .tag s w => innerT (textT st g) [5] (putT b (s ++ [32])) w
    | .ref k => innerT (textT st g) [5, 6] (putT b [114, 101, 102, 32]) ((st[k]?).getD zVl)
end Go.Proofs.YtbifjffjibnjjaaDoor

set_option linter.unusedVariables false
set_option linter.unusedSimpArgs false
namespace Go.Proofs.YtbifjffjibnjjaaDoor
open Go Go.Abs

def Ms.up (m : Ms) (d : Nat) : Ms := { m with fuel := m.fuel + d }
/-- One with less fuel, one with more. -/
structure Gd {α : Type} (d : Nat) (r r' : Rs α) (m : Ms) : Prop where
  err : r.v = none ↔ r.m.err ≠ 0
  fuel : r.m.fuel ≤ m.fuel
  c : r.m.err ≠ 8 → r' = ⟨r.v, r.m.up d⟩
  dd : r.m.err = 8 → r.m.tr <+: r'.m.tr
theorem Gd.bind {α β : Type} {d : Nat} {r r' : Rs α} {k k' : α → Ms → Rs β} {m : Ms} (h : Gd d r r' m) (hk : ∀ a m1, m1.err = 0 → m1.fuel ≤ m.fuel → Gd d (k a m1) (k' a (m1.up d)) m1) (ht : ∀ a m1, m1.tr <+: (k' a m1).m.tr) : Gd d (r.bind k) (r'.bind k') m := by
  obtain ⟨v, m1⟩ := r
  cases v with
  | none =>
    refine ⟨⟨fun _ => h.err.1 rfl, fun _ => rfl⟩, h.fuel, fun he => ?_, fun he => ?_⟩
    · rw [h.c he]; rfl
    · refine List.IsPrefix.trans (h.dd he) ?_
      obtain ⟨v', m'⟩ := r'
      cases v' with
      | none => exact List.prefix_rfl
      | some a => exact ht a m'
  | some a =>
    have h0 : m1.err = 0 := by
      by_cases he : m1.err = 0
      · exact he
      · have h2 : (some a : Option α) = none := h.err.2 he
        cases h2
    have hr := h.c (by show m1.err ≠ 8; omega)
    have hg := hk a m1 h0 h.fuel
    rw [hr]
    exact ⟨hg.err, Nat.le_trans hg.fuel h.fuel, hg.c, hg.dd⟩
theorem Gd.done {α : Type} {d : Nat} {a : α} {m : Ms} (h : m.err = 0) : Gd d (done a m) (done a (m.up d)) m :=
  ⟨⟨fun h => (by cases h), fun h2 => absurd h h2⟩, Nat.le_refl _, fun _ => rfl, fun _ => List.prefix_rfl⟩
theorem Gd.fin {α : Type} {d : Nat} {e f : Int} {m : Ms} (h : m.err = 0) (h0 : e ≠ 0) (h8 : e ≠ 8) : Gd d (endM (α := α) e f m) (endM e f (m.up d)) m := by
  unfold endM
  rw [if_pos h, if_pos (show (m.up d).err = 0 from h)]
  exact ⟨⟨fun _ => h0, fun _ => rfl⟩, Nat.le_refl _, fun _ => rfl, fun he => absurd he h8⟩
theorem Gd.stuck {α : Type} {d : Nat} {m : Ms} (h : m.err = 0) : Gd d (stuckM (α := α) m) (stuckM (m.up d)) m := .fin h (by decide) (by decide)
theorem Gd.on {α : Type} {d : Nat} {r r' : Rs α} {m m2 : Ms} (h : Gd d r r' m2) (hf : m2.fuel ≤ m.fuel) : Gd d r r' m := ⟨h.err, Nat.le_trans h.fuel hf, h.c, h.dd⟩

/-! ### The trace goes on -/
theorem tr_bind {α β : Type} {r : Rs α} {k : α → Ms → Rs β} {m : Ms} (h : m.tr <+: r.m.tr) (ht : ∀ a m1, m1.tr <+: (k a m1).m.tr) : m.tr <+: (r.bind k).m.tr := by
  obtain ⟨v, m1⟩ := r
  cases v with
  | none => exact h
  | some a => exact List.IsPrefix.trans h (ht a m1)
theorem tr_end {α : Type} {e f : Int} {m : Ms} : m.tr <+: (endM (α := α) e f m).m.tr := by
  unfold endM
  split <;> exact List.prefix_rfl
theorem tr_done {α : Type} {a : α} {m : Ms} : m.tr <+: (done a m).m.tr := List.prefix_rfl
section
variable {R : Rec} (hT : ∀ e env m, m.tr <+: (R e env m).m.tr)
include hT
theorem tr_all (env : En) : ∀ (l : List Ex) (m : Ms), m.tr <+: (allM R env l m).m.tr
  | [], m => tr_done
  | x :: l, m => tr_bind (hT x env m) fun v m1 => tr_bind (tr_all env l m1) fun vs m2 => tr_done
theorem tr_choose (env : En) (a b c : Ex) (m : Ms) : m.tr <+: (chooseM R env a b c m).m.tr := tr_bind (hT a env m) fun v m1 => by
  try dsimp only
  split
  · split
    · exact hT _ _ _
    · exact hT _ _ _
  · exact tr_end
theorem tr_arm (env : En) (t : Str) (ls ns : List Str) (l : List Ex) (v : Vl) (m : Ms) : m.tr <+: (armM R env t ls ns l v m).m.tr := by
  unfold armM
  split
  · split
    · exact hT _ _ _
    · split
      · exact tr_end
      · exact hT _ _ _
  · exact tr_end
theorem tr_match (env : En) (t : Str) (ls ns : List Str) (l : List Ex) (m : Ms) : m.tr <+: (matchM R env t ls ns l m).m.tr := tr_bind (hT _ _ m) fun v m1 => tr_arm hT _ _ _ _ _ _ _
theorem tr_apply (vs : List Vl) (m : Ms) : m.tr <+: (applyM R vs m).m.tr := by
  unfold applyM
  split
  · exact hT _ _ _
  · exact tr_end
omit hT in
theorem tr_field (k : Int) (s : Str) (x r : Vl) (m : Ms) : m.tr <+: (fieldM k s x r m).m.tr := by
  unfold fieldM
  split
  · split
    · exact tr_end
    · split
      · exact tr_done
      · split <;> exact tr_done
  · exact tr_end
omit hT in
theorem tr_arith (s : Str) (a b : Int) (m : Ms) : m.tr <+: (arithM s a b m).m.tr := by
  unfold arithM
  repeat' split
  all_goals first | exact tr_done | exact tr_end
omit hT in
theorem tr_op (s : Str) (a b : Vl) (m : Ms) : m.tr <+: (opM s a b m).m.tr := by
  unfold opM
  split
  · repeat' split
    all_goals first | exact tr_done | exact tr_end
  · split
    · generalize (if _ < (0 : Int) then none else _) = o
      cases o with
      | none => exact tr_end
      | some c => exact tr_done
    · exact tr_end
  · exact tr_arith _ _ _ _
  · exact tr_end
omit hT in
theorem tr_read (m : Ms) : m.tr <+: (readM m).m.tr := by
  unfold readM
  split
  · exact tr_end
  · rename_i s r hm
    split
    · exact tr_end (α := Vl) (e := 9) (f := 2) (m := { m with inp := r })
    · exact List.prefix_rfl
theorem tr_do (k : Int) (s : Str) (ls : List Str) (vs : List Vl) (m : Ms) : m.tr <+: (doM R k s ls vs m).m.tr := by
  unfold doM
  by_cases h : k = 5
  · rw [if_pos h]
    exact tr_apply hT vs m
  rw [if_neg h]
  clear h
  by_cases h : k = 8
  · rw [if_pos h]
    exact tr_done
  rw [if_neg h]
  clear h
  by_cases h : k = 9 ∨ k = 11
  · rw [if_pos h]
    split
    · exact tr_field _ _ _ _ _
    · exact tr_end
  rw [if_neg h]
  clear h
  by_cases h : k = 10 ∨ k = 12
  · rw [if_pos h]
    split
    · exact tr_field _ _ _ _ _
    · exact tr_end
  rw [if_neg h]
  clear h
  by_cases h : k = 13
  · rw [if_pos h]
    split
    · exact tr_done
    · exact tr_end
  rw [if_neg h]
  clear h
  by_cases h : k = 16
  · rw [if_pos h]
    split
    · exact tr_op _ _ _ _
    · exact tr_end
  rw [if_neg h]
  clear h
  by_cases h : k = 17
  · rw [if_pos h]
    split
    · exact List.prefix_rfl
    · exact tr_end
  rw [if_neg h]
  clear h
  by_cases h : k = 18
  · rw [if_pos h]
    split
    · exact tr_done
    · exact tr_end
  rw [if_neg h]
  clear h
  by_cases h : k = 19
  · rw [if_pos h]
    split
    · exact List.prefix_rfl
    · exact tr_end
  rw [if_neg h]
  clear h
  by_cases h : k = 20
  · rw [if_pos h]
    split
    · exact List.prefix_append _ _
    · exact tr_end
  rw [if_neg h]
  clear h
  by_cases h : k = 21
  · rw [if_pos h]
    split
    · exact tr_done
    · exact tr_end
  rw [if_neg h]
  clear h
  by_cases h : k = 22
  · rw [if_pos h]
    exact tr_read m
  rw [if_neg h]
  clear h
  exact tr_end
omit hT in
theorem stepM_mk (R : Rec) (k p n : Int) (s t : Str) (ls ns : List Str) (l : List Ex) (env : En) (m : Ms) : stepM R (.mk k p n s t ls ns l) env m =
    if partsC k ls.length (decide (t ≠ [])) ≠ l.length ∨ (k = 14 ∧ ns.length ≠ ls.length) then stuckM m
    else if k = 1 then done (.int n) m
    else if k = 2 then done (.text s) m
    else if k = 3 then (match lookE env s with
      | some v => done v m
      | none => stuckM m)
    else if k = 4 then done (.fn false [] s (prt l 0) env) m
    else if k = 6 then (R (prt l 0) env m).bind fun v m => R (prt l 1) (.cons s v env) m
    else if k = 7 then R (prt l 1) (.cons s (.fn true s t (prt l 0) env) env) m
    else if k = 15 then chooseM R env (prt l 0) (prt l 1) (prt l 2) m
    else if k = 14 then matchM R env t ls ns l m
    else (allM R env l m).bind fun vs m => doM R k s ls vs m := rfl
theorem tr_step (e : Ex) (env : En) (m : Ms) : m.tr <+: (stepM R e env m).m.tr := by
  cases e with
  | mk k p n s t ls ns l =>
  rw [stepM_mk]
  by_cases h : partsC k ls.length (decide (t ≠ [])) ≠ l.length ∨ (k = 14 ∧ ns.length ≠ ls.length)
  · rw [if_pos h]
    exact tr_end
  rw [if_neg h]
  clear h
  by_cases h : k = 1
  · rw [if_pos h]
    exact tr_done
  rw [if_neg h]
  clear h
  by_cases h : k = 2
  · rw [if_pos h]
    exact tr_done
  rw [if_neg h]
  clear h
  by_cases h : k = 3
  · rw [if_pos h]
    split
    · exact tr_done
    · exact tr_end
  rw [if_neg h]
  clear h
  by_cases h : k = 4
  · rw [if_pos h]
    exact tr_done
  rw [if_neg h]
  clear h
  by_cases h : k = 6
  · rw [if_pos h]
    exact tr_bind (hT _ _ _) fun v m1 => hT _ _ _
  rw [if_neg h]
  clear h
  by_cases h : k = 7
  · rw [if_pos h]
    exact hT _ _ _
  rw [if_neg h]
  clear h
  by_cases h : k = 15
  · rw [if_pos h]
    exact tr_choose hT _ _ _ _ _
  rw [if_neg h]
  clear h
  by_cases h : k = 14
  · rw [if_pos h]
    exact tr_match hT _ _ _ _ _ _
  rw [if_neg h]
  clear h
  exact tr_bind (tr_all hT _ _ _) fun vs m1 => tr_do hT _ _ _ _ _
end
theorem tr_ev : ∀ (g : Nat) (e : Ex) (env : En) (m : Ms), m.tr <+: (evM g e env m).m.tr
  | 0, e, env, m => List.prefix_rfl
  | g + 1, e, env, m => by
    rw [evM]
    split
    · exact tr_end
    · exact tr_step (tr_ev g) e env { m with fuel := m.fuel - 1 }

/-! ### More fuel -/
section
variable {R R' : Rec} {d F : Nat} (hT : ∀ e env m, m.tr <+: (R' e env m).m.tr) (hR : ∀ e env m, m.err = 0 → m.fuel ≤ F → Gd d (R e env m) (R' e env (m.up d)) m)
include hT hR
theorem gd_all (env : En) : ∀ (l : List Ex) (m : Ms), m.err = 0 → m.fuel ≤ F → Gd d (allM R env l m) (allM R' env l (m.up d)) m
  | [], m, h, hf => .done h
  | x :: l, m, h, hf => (hR x env m h hf).bind (fun v m1 h1 hf1 => (gd_all env l m1 h1 (by omega)).bind (fun vs m2 h2 hf2 => .done h2) fun vs m2 => tr_done) fun v m1 => tr_bind (tr_all hT env l m1) fun vs m2 => tr_done
theorem gd_choose (env : En) (a b c : Ex) (m : Ms) (h : m.err = 0) (hf : m.fuel ≤ F) : Gd d (chooseM R env a b c m) (chooseM R' env a b c (m.up d)) m :=
  (hR a env m h hf).bind (fun v m1 h1 hf1 => by
    cases v with
    | int n =>
      try dsimp only
      by_cases hn : n ≠ 0
      · rw [if_pos hn, if_pos hn]; exact hR _ _ _ h1 (by omega)
      · rw [if_neg hn, if_neg hn]; exact hR _ _ _ h1 (by omega)
    | _ => exact .stuck h1) fun v m1 => by
    try dsimp only
    split
    · split <;> exact hT _ _ _
    · exact tr_end
omit hT in
theorem gd_arm (env : En) (t : Str) (ls ns : List Str) (l : List Ex) (v : Vl) (m : Ms) (h : m.err = 0) (hf : m.fuel ≤ F) : Gd d (armM R env t ls ns l v m) (armM R' env t ls ns l v (m.up d)) m := by
  unfold armM
  cases v with
  | tag s w =>
    try dsimp only
    cases idxF s ls 0 with
    | some i => exact hR _ _ _ h hf
    | none =>
      try dsimp only
      by_cases ht : t = []
      · rw [if_pos ht, if_pos ht]; exact .stuck h
      · rw [if_neg ht, if_neg ht]; exact hR _ _ _ h hf
  | _ => exact .stuck h
theorem gd_match (env : En) (t : Str) (ls ns : List Str) (l : List Ex) (m : Ms) (h : m.err = 0) (hf : m.fuel ≤ F) : Gd d (matchM R env t ls ns l m) (matchM R' env t ls ns l (m.up d)) m :=
  (hR _ _ m h hf).bind (fun v m1 h1 hf1 => gd_arm hR env t ls ns l v m1 h1 (by omega)) fun v m1 => tr_arm hT env t ls ns l v m1
omit hT in
theorem gd_apply (vs : List Vl) (m : Ms) (h : m.err = 0) (hf : m.fuel ≤ F) : Gd d (applyM R vs m) (applyM R' vs (m.up d)) m := by
  unfold applyM
  split
  · exact hR _ _ _ h hf
  · exact .stuck h
omit hT hR in
theorem gd_field (k : Int) (s : Str) (x r : Vl) (m : Ms) (h : m.err = 0) : Gd d (fieldM k s x r m) (fieldM k s x r (m.up d)) m := by
  unfold fieldM
  cases r with
  | rcd l =>
    try dsimp only
    repeat' split
    all_goals first | exact .done h | exact .stuck h
  | _ => exact .stuck h
omit hT hR in
theorem gd_arith (s : Str) (a b : Int) (m : Ms) (h : m.err = 0) : Gd d (arithM s a b m) (arithM s a b (m.up d)) m := by
  unfold arithM
  repeat' split
  all_goals first | exact .done h | exact .stuck h | exact .fin h (by decide) (by decide)
omit hT hR in
theorem gd_op (s : Str) (a b : Vl) (m : Ms) (h : m.err = 0) : Gd d (opM s a b m) (opM s a b (m.up d)) m := by
  cases a with
  | text x =>
    cases b with
    | text y =>
      unfold opM
      try dsimp only
      repeat' split
      all_goals first | exact .done h | exact .stuck h | exact .fin h (by decide) (by decide)
    | int n =>
      unfold opM
      try dsimp only
      by_cases hs : s = [35]
      · rw [if_pos hs, if_pos hs]
        generalize (if n < 0 then none else x[n.toNat]?) = o
        cases o with
        | none => exact .fin h (by decide) (by decide)
        | some c => exact .done h
      · rw [if_neg hs, if_neg hs]; exact .stuck h
    | _ => exact .stuck h
  | int x =>
    cases b with
    | int y => exact gd_arith s x y m h
    | _ => exact .stuck h
  | _ => cases b <;> exact .stuck h
omit hT hR in
theorem gd_read (m : Ms) (h : m.err = 0) : Gd d (readM m) (readM (m.up d)) m := by
  unfold readM
  show Gd d _ (match m.inp with
    | [] => endM 9 3 (m.up d)
    | s :: r => if s.length > 2000 then endM 9 2 { (m.up d) with inp := r } else done (Vl.text s) { (m.up d) with inp := r }) m
  cases m.inp with
  | nil => exact .fin h (by decide) (by decide)
  | cons s r =>
    try dsimp only
    by_cases hl : s.length > 2000
    · rw [if_pos hl, if_pos hl]
      exact Gd.on (m2 := { m with inp := r }) (.fin h (by decide) (by decide)) (Nat.le_refl _)
    · rw [if_neg hl, if_neg hl]
      exact Gd.on (m2 := { m with inp := r }) (.done h) (Nat.le_refl _)
omit hT in
theorem gd_do (k : Int) (s : Str) (ls : List Str) (vs : List Vl) (m : Ms) (h : m.err = 0) (hf : m.fuel ≤ F) : Gd d (doM R k s ls vs m) (doM R' k s ls vs (m.up d)) m := by
  unfold doM
  by_cases h5 : k = 5
  · rw [if_pos h5, if_pos h5]; exact gd_apply hR vs m h hf
  rw [if_neg h5, if_neg h5]
  by_cases h8 : k = 8
  · rw [if_pos h8, if_pos h8]; exact .done h
  rw [if_neg h8, if_neg h8]
  by_cases h9 : k = 9 ∨ k = 11
  · rw [if_pos h9, if_pos h9]
    split
    · exact gd_field _ _ _ _ _ h
    · exact .stuck h
  rw [if_neg h9, if_neg h9]
  by_cases h10 : k = 10 ∨ k = 12
  · rw [if_pos h10, if_pos h10]
    split
    · exact gd_field _ _ _ _ _ h
    · exact .stuck h
  rw [if_neg h10, if_neg h10]
  by_cases h13 : k = 13
  · rw [if_pos h13, if_pos h13]
    split
    · exact .done h
    · exact .stuck h
  rw [if_neg h13, if_neg h13]
  by_cases h16 : k = 16
  · rw [if_pos h16, if_pos h16]
    split
    · exact gd_op _ _ _ _ h
    · exact .stuck h
  rw [if_neg h16, if_neg h16]
  by_cases h17 : k = 17
  · rw [if_pos h17, if_pos h17]
    split
    · rename_i v
      exact Gd.on (m2 := { m with st := m.st ++ [v] }) (.done h) (Nat.le_refl _)
    · exact .stuck h
  rw [if_neg h17, if_neg h17]
  by_cases h18 : k = 18
  · rw [if_pos h18, if_pos h18]
    split
    · exact .done h
    · exact .stuck h
  rw [if_neg h18, if_neg h18]
  by_cases h19 : k = 19
  · rw [if_pos h19, if_pos h19]
    split
    · rename_i i v
      exact Gd.on (m2 := { m with st := m.st.set i v }) (.done h) (Nat.le_refl _)
    · exact .stuck h
  rw [if_neg h19, if_neg h19]
  by_cases h20 : k = 20
  · rw [if_pos h20, if_pos h20]
    split
    · rename_i x
      exact Gd.on (m2 := { m with tr := m.tr ++ [x] }) (.done h) (Nat.le_refl _)
    · exact .stuck h
  rw [if_neg h20, if_neg h20]
  by_cases h21 : k = 21
  · rw [if_pos h21, if_pos h21]
    split
    · exact .done h
    · exact .stuck h
  rw [if_neg h21, if_neg h21]
  by_cases h22 : k = 22
  · rw [if_pos h22, if_pos h22]; exact gd_read m h
  rw [if_neg h22, if_neg h22]
  exact .stuck h
theorem gd_step (e : Ex) (env : En) (m : Ms) (h : m.err = 0) (hf : m.fuel ≤ F) : Gd d (stepM R e env m) (stepM R' e env (m.up d)) m := by
  cases e with
  | mk k p n s t ls ns l =>
  rw [stepM_mk, stepM_mk]
  by_cases hp : partsC k ls.length (decide (t ≠ [])) ≠ l.length ∨ (k = 14 ∧ ns.length ≠ ls.length)
  · rw [if_pos hp, if_pos hp]; exact .stuck h
  rw [if_neg hp, if_neg hp]
  by_cases h1 : k = 1
  · rw [if_pos h1, if_pos h1]; exact .done h
  rw [if_neg h1, if_neg h1]
  by_cases h2 : k = 2
  · rw [if_pos h2, if_pos h2]; exact .done h
  rw [if_neg h2, if_neg h2]
  by_cases h3 : k = 3
  · rw [if_pos h3, if_pos h3]
    split
    · exact .done h
    · exact .stuck h
  rw [if_neg h3, if_neg h3]
  by_cases h4 : k = 4
  · rw [if_pos h4, if_pos h4]; exact .done h
  rw [if_neg h4, if_neg h4]
  by_cases h6 : k = 6
  · rw [if_pos h6, if_pos h6]
    exact (hR _ _ _ h hf).bind (fun v m1 h1 hf1 => hR _ _ _ h1 (by omega)) fun v m1 => hT _ _ _
  rw [if_neg h6, if_neg h6]
  by_cases h7 : k = 7
  · rw [if_pos h7, if_pos h7]; exact hR _ _ _ h hf
  rw [if_neg h7, if_neg h7]
  by_cases h15 : k = 15
  · rw [if_pos h15, if_pos h15]; exact gd_choose hT hR _ _ _ _ _ h hf
  rw [if_neg h15, if_neg h15]
  by_cases h14 : k = 14
  · rw [if_pos h14, if_pos h14]; exact gd_match hT hR _ _ _ _ _ _ h hf
  rw [if_neg h14, if_neg h14]
  exact (gd_all hT hR _ _ _ h hf).bind (fun vs m1 h1 hf1 => gd_do hR _ _ _ _ _ h1 (by omega)) fun vs m1 => tr_do hT _ _ _ _ _
end
theorem ev_more (d : Nat) : ∀ (g g' : Nat) (e : Ex) (env : En) (m : Ms), m.err = 0 → m.fuel < g → m.fuel + d < g' → Gd d (evM g e env m) (evM g' e env (m.up d)) m
  | 0, g', e, env, m, h, hf, hf' => by omega
  | g + 1, 0, e, env, m, h, hf, hf' => by omega
  | g + 1, g' + 1, e, env, m, h, hf, hf' => by
    rw [evM, evM]
    by_cases h0 : m.fuel = 0
    · rw [if_pos h0]
      unfold endM
      rw [if_pos h]
      refine ⟨⟨fun _ => (by decide : (8 : Int) ≠ 0), fun _ => rfl⟩, Nat.le_refl _, fun he => absurd rfl he, fun _ => ?_⟩
      have := tr_ev (g' + 1) e env (m.up d)
      rw [evM] at this
      exact this
    · rw [if_neg h0, if_neg (show ¬ (m.up d).fuel = 0 by show ¬ m.fuel + d = 0; omega)]
      have hs := gd_step (d := d) (F := m.fuel - 1) (R := evM g) (R' := evM g') (tr_ev g') (fun e env m1 h1 hf1 => ev_more d g g' e env m1 h1 (by omega) (by omega)) e env { m with fuel := m.fuel - 1 } h (Nat.le_refl _)
      have hu : ({ (m.up d) with fuel := (m.up d).fuel - 1 } : Ms) = ({ m with fuel := m.fuel - 1 } : Ms).up d := by
        show (⟨m.inp, m.fuel + d - 1, m.err, m.fault, m.tr, m.st⟩ : Ms) = ⟨m.inp, m.fuel - 1 + d, m.err, m.fault, m.tr, m.st⟩
        rw [show m.fuel + d - 1 = m.fuel - 1 + d by omega]
      rw [hu]
      exact hs.on (Nat.sub_le _ _)
end Go.Proofs.YtbifjffjibnjjaaDoor

set_option linter.unusedVariables false
set_option linter.unusedSimpArgs false
namespace Go.Proofs.YtbifjffjibnjjaaDoor
open Go Go.Abs

/-- An expression that is not too great, of numbers that are ones. -/
def okC (L : Nat) (e : Ex) : Prop := csz e ≤ L ∧ (encE e).fits
theorem okC.mono {L L' : Nat} {e : Ex} (h : okC L e) (k : L ≤ L') : okC L' e := ⟨Nat.le_trans h.1 k, h.2⟩
def lenE : En → Nat
  | .nil => 0
  | .cons _ _ e => lenE e + 1
mutual
def okV (n L : Nat) : Vl → Prop
  | .int n => inR .i64 n
  | .text s => s.length ≤ L
  | .fn _ self param part env => okC L part ∧ self.length ≤ L ∧ param.length ≤ L ∧ okE n L env
  | .rcd l => lenE l ≤ L ∧ okE n L l
  | .tag s v => s.length ≤ L ∧ okV n L v
  | .ref k => k < n
def okE (n L : Nat) : En → Prop
  | .nil => True
  | .cons x v e => x.length ≤ L ∧ okV n L v ∧ okE n L e
end
def okVs (n L : Nat) : List Vl → Prop
  | [] => True
  | v :: l => okV n L v ∧ okVs n L l
theorem okVs_iff {n L : Nat} : ∀ {l : List Vl}, okVs n L l ↔ ∀ v ∈ l, okV n L v
  | [] => by simp [okVs]
  | v :: l => by simp [okVs, okVs_iff (l := l)]
mutual
theorem okV.mono {n L n' L' : Nat} (hn : n ≤ n') (hL : L ≤ L') : ∀ {v : Vl}, okV n L v → okV n' L' v
  | .int _, h => h
  | .text s, h => Nat.le_trans h hL
  | .fn _ _ _ part env, h => ⟨h.1.mono hL, Nat.le_trans h.2.1 hL, Nat.le_trans h.2.2.1 hL, okE.mono hn hL h.2.2.2⟩
  | .rcd l, h => ⟨Nat.le_trans h.1 hL, okE.mono hn hL h.2⟩
  | .tag _ v, h => ⟨Nat.le_trans h.1 hL, okV.mono (v := v) hn hL h.2⟩
  | .ref k, h => Nat.lt_of_lt_of_le h hn
theorem okE.mono {n L n' L' : Nat} (hn : n ≤ n') (hL : L ≤ L') : ∀ {e : En}, okE n L e → okE n' L' e
  | .nil, h => trivial
  | .cons _ v e, h => ⟨Nat.le_trans h.1 hL, okV.mono hn hL h.2.1, okE.mono hn hL h.2.2⟩
end
theorem okVs.mono {n L n' L' : Nat} (hn : n ≤ n') (hL : L ≤ L') : ∀ {l : List Vl}, okVs n L l → okVs n' L' l
  | [], h => trivial
  | v :: l, h => ⟨okV.mono hn hL h.1, okVs.mono hn hL h.2⟩
theorem set_ok {n L : Nat} {s : Str} {w : Vl} (hs : s.length ≤ L) (hw : okV n L w) : ∀ {e : En}, okE n L e → okE n L (setE e s w)
  | .nil, h => ⟨hs, hw, trivial⟩
  | .cons x v e, h => by
    simp only [setE]
    split
    · exact ⟨hs, hw, h.2.2⟩
    · exact ⟨h.1, h.2.1, set_ok hs hw h.2.2⟩
theorem set_len {s : Str} {w : Vl} : ∀ {e : En}, lenE (setE e s w) ≤ lenE e + 1
  | .nil => by simp [setE, lenE]
  | .cons x v e => by
    have := set_len (s := s) (w := w) (e := e)
    simp only [setE]
    split
    · simp only [lenE]; omega
    · simp only [lenE]; omega
theorem del_ok {n L : Nat} {s : Str} : ∀ {e : En}, okE n L e → okE n L (delE e s)
  | .nil, h => h
  | .cons x v e, h => by
    simp only [delE]
    split
    · exact h.2.2
    · exact ⟨h.1, h.2.1, del_ok h.2.2⟩
theorem del_len {s : Str} : ∀ {e : En}, lenE (delE e s) ≤ lenE e
  | .nil => Nat.le_refl _
  | .cons x v e => by
    have := del_len (s := s) (e := e)
    simp only [delE]
    split
    · simp only [lenE]; omega
    · simp only [lenE]; omega
theorem build_ok {n L : Nat} : ∀ {ls : List Str} {vs : List Vl} {e : En}, (∀ s ∈ ls, s.length ≤ L) → okVs n L vs → okE n L e → okE n L (buildE ls vs e)
  | [], vs, e, h1, h2, h3 => by simpa [buildE] using h3
  | s :: ls, [], e, h1, h2, h3 => by simpa [buildE] using h3
  | s :: ls, v :: vs, e, h1, h2, h3 => by
    rw [buildE]
    exact build_ok (fun x hx => h1 x (by simp [hx])) h2.2 (set_ok (h1 s (by simp)) h2.1 h3)
theorem build_len : ∀ {ls : List Str} {vs : List Vl} {e : En}, lenE (buildE ls vs e) ≤ lenE e + ls.length
  | [], vs, e => by simp [buildE]
  | s :: ls, [], e => by simp [buildE]
  | s :: ls, v :: vs, e => by
    rw [buildE]
    have h1 := build_len (ls := ls) (vs := vs) (e := setE e s v)
    have h2 := set_len (s := s) (w := v) (e := e)
    simp only [List.length_cons]
    omega
structure okM (L : Nat) (m : Ms) : Prop where
  st : ∀ v ∈ m.st, okV m.st.length L v
  tr : m.tr.length ≤ L
theorem okM.mono {L L' : Nat} {m : Ms} (h : okM L m) (hL : L ≤ L') : okM L' m := ⟨fun v hv => (h.st v hv).mono (Nat.le_refl _) hL, Nat.le_trans h.tr hL⟩
/-- What comes of something, with so much to spare. -/
structure Okr {α : Type} (P : Nat → Nat → α → Prop) (c L : Nat) (m : Ms) (r : Rs α) : Prop where
  fuel : r.m.fuel ≤ m.fuel
  st : m.st.length ≤ r.m.st.length
  ok : okM (L + c + (m.fuel - r.m.fuel)) r.m
  v : ∀ v, r.v = some v → P r.m.st.length (L + c + (m.fuel - r.m.fuel)) v
theorem Okr.more {α : Type} {P : Nat → Nat → α → Prop} {c c' L : Nat} {m : Ms} {r : Rs α} (hP : ∀ n L L' a, L ≤ L' → P n L a → P n L' a) (h : Okr P c L m r) (hc : c ≤ c') : Okr P c' L m r :=
  ⟨h.fuel, h.st, h.ok.mono (by omega), fun v hv => hP _ _ _ _ (by omega) (h.v v hv)⟩
theorem okV_L : ∀ n L L' (a : Vl), L ≤ L' → okV n L a → okV n L' a := fun n L L' a h k => k.mono (Nat.le_refl _) h
theorem okVs_L : ∀ n L L' (a : List Vl), L ≤ L' → okVs n L a → okVs n L' a := fun n L L' a h k => k.mono (Nat.le_refl _) h
theorem Okr.bind {α β : Type} {P : Nat → Nat → α → Prop} {Q : Nat → Nat → β → Prop} {c L : Nat} {m : Ms} {r : Rs α} {k : α → Ms → Rs β} (hQ : ∀ n L L' a, L ≤ L' → Q n L a → Q n L' a) (h : Okr P 0 L m r)
    (hk : ∀ a m1, m1.fuel ≤ m.fuel → m.st.length ≤ m1.st.length → okM (L + (m.fuel - m1.fuel)) m1 → P m1.st.length (L + (m.fuel - m1.fuel)) a → Okr Q c (L + (m.fuel - m1.fuel)) m1 (k a m1)) : Okr Q c L m (r.bind k) := by
  obtain ⟨v, m1⟩ := r
  cases v with
  | none => exact ⟨h.fuel, h.st, h.ok.mono (by dsimp only [Rs.bind]; omega), fun v hv => by cases hv⟩
  | some a =>
    have h1 := h.fuel
    have h2 := hk a m1 h.fuel h.st (h.ok.mono (by dsimp only; omega)) (by simpa using h.v a rfl)
    have h3 := h2.fuel
    dsimp only at h1
    refine ⟨Nat.le_trans h2.fuel h.fuel, Nat.le_trans h.st h2.st, h2.ok.mono (by dsimp only [Rs.bind]; omega), fun v hv => hQ _ _ _ _ ?_ (h2.v v hv)⟩
    dsimp only [Rs.bind]
    omega
section
variable {α : Type} {P : Nat → Nat → α → Prop} {c L : Nat} {m : Ms}
theorem Okr.fin {e f : Int} (h : okM L m) : Okr P c L m (endM e f m) := by
  unfold endM
  split
  · exact ⟨Nat.le_refl _, Nat.le_refl _, ⟨(h.mono (by omega)).st, (h.mono (by omega)).tr⟩, fun v hv => by cases hv⟩
  · exact ⟨Nat.le_refl _, Nat.le_refl _, h.mono (by omega), fun v hv => by cases hv⟩
theorem Okr.stuck (h : okM L m) : Okr P c L m (stuckM m) := .fin h
theorem Okr.done {a : α} (h : okM L m) (hP : P m.st.length (L + c) a) : Okr P c L m (done a m) :=
  ⟨Nat.le_refl _, Nat.le_refl _, h.mono (by omega), fun v hv => by cases hv; simpa [Go.Proofs.YtbifjffjibnjjaaDoor.done] using hP⟩
end
theorem prt_csz : ∀ (l : List Ex) (i : Nat), csz (prt l i) ≤ 8 + cszL l
  | [], i => by simp [prt, zEx, csz, cszL, nsz]
  | x :: l, 0 => by simp [prt, cszL]; omega
  | x :: l, i + 1 => by
    have := prt_csz l i
    simp only [prt, cszL, List.getElem?_cons_succ] at this ⊢
    omega
theorem okC.prt {L : Nat} {k p n : Int} {s t : Str} {ls ns : List Str} {l : List Ex} (h : okC L (.mk k p n s t ls ns l)) (i : Nat) : okC L (prt l i) := by
  obtain ⟨h1, h2⟩ := h
  have := prt_csz l i
  simp only [csz] at h1
  refine ⟨by omega, ?_⟩
  rw [encE_mk] at h2
  simp only [V.fits, V.fitsL] at h2
  have hl := V.fitsL_iff.1 h2.2.2.2.2.2.2.2.1.2
  unfold Go.Proofs.YtbifjffjibnjjaaDoor.prt
  cases hg : l[i]? with
  | none =>
    simp only [Option.getD_none, zEx]
    rw [encE_mk]
    simp only [V.fits, V.fitsL, List.map_nil, List.length_nil]
    exact ⟨by decide, by decide, by decide, by decide, by decide, by decide, by decide, by decide, trivial⟩
  | some x => exact hl _ (List.mem_map.2 ⟨x, List.mem_of_getElem? hg, rfl⟩)
theorem okC.mem {L : Nat} {k p n : Int} {s t : Str} {ls ns : List Str} {l : List Ex} (h : okC L (.mk k p n s t ls ns l)) {x : Ex} (hx : x ∈ l) : okC L x := by
  obtain ⟨i, hi⟩ := List.mem_iff_getElem?.1 hx
  have := h.prt i
  unfold Go.Proofs.YtbifjffjibnjjaaDoor.prt at this
  rw [hi] at this
  exact this
theorem okC.num {L : Nat} {k p n : Int} {s t : Str} {ls ns : List Str} {l : List Ex} (h : okC L (.mk k p n s t ls ns l)) : inR .i64 n ∧ s.length ≤ L ∧ l.length ≤ L ∧ t.length ≤ L ∧ ls.length ≤ L ∧ (∀ x ∈ ls, x.length ≤ L) ∧ ∀ i, (nmq ns i).length ≤ L := by
  obtain ⟨h1, h2⟩ := h
  rw [encE_mk] at h2
  simp only [V.fits, V.fitsL] at h2
  simp only [csz] at h1
  have := cszL_len l
  have hls := nsz_len ls
  have hn : ∀ (ns : List Str) i, (nmq ns i).length ≤ nsz ns := fun ns i => by
    unfold nmq
    cases hg : ns[i]? with
    | none => simp
    | some x =>
      have h5 := nsz_get hg
      have h6 := nsz_take ns (i + 1)
      simp only [Option.getD_some]
      omega
  refine ⟨h2.2.2.1, by omega, by omega, by omega, by omega, fun x hx => ?_, fun i => ?_⟩
  · obtain ⟨i, hi⟩ := List.mem_iff_getElem?.1 hx
    have h7 := hn ls i
    unfold nmq at h7
    rw [hi] at h7
    simp only [Option.getD_some] at h7
    omega
  · have := hn ns i
    omega
theorem zVl_ok {n L : Nat} : okV n L zVl := by
  show inR .i64 0
  decide
theorem look_ok {n L : Nat} {s : Str} {v : Vl} : ∀ {e : En}, okE n L e → lookE e s = some v → okV n L v
  | .nil, h, hv => by cases hv
  | .cons x w e, h, hv => by
    simp only [lookE] at hv
    split at hv
    · cases hv; exact h.2.1
    · exact look_ok h.2.2 hv
/-- What an evaluator must come to. -/
def OkR (R : Rec) (L F : Nat) : Prop := ∀ (e : Ex) (env : En) (m : Ms) (L' : Nat), L ≤ L' → okC L' e → okE m.st.length L' env → okM L' m → m.fuel ≤ F → Okr okV 0 L' m (R e env m)
section
variable {R : Rec} {L0 F : Nat} (hR : OkR R L0 F) (h0 : 2000 ≤ L0)
include hR
theorem ok_all (env : En) : ∀ (l : List Ex) (m : Ms) (L : Nat), L0 ≤ L → (∀ x ∈ l, okC L x) → okE m.st.length L env → okM L m → m.fuel ≤ F → Okr (fun n L vs => okVs n L vs ∧ vs.length = l.length) 0 L m (allM R env l m)
  | [], m, L, hL, hl, he, hm, hf => .done hm ⟨trivial, rfl⟩
  | x :: l, m, L, hL, hl, he, hm, hf => by
    refine (hR x env m L hL (hl x (by simp)) he hm hf).bind (fun n L L' a h k => ⟨okVs_L n L L' a h k.1, k.2⟩) fun v m1 hf1 hs1 hm1 hv => ?_
    have h2 := ok_all env l m1 (L + (m.fuel - m1.fuel)) (by omega) (fun y hy => (hl y (by simp [hy])).mono (by omega)) (he.mono hs1 (by omega)) hm1 (by omega)
    exact h2.bind (fun n L L' a h k => ⟨okVs_L n L L' a h k.1, k.2⟩) fun vs m2 hf2 hs2 hm2 hvs => .done hm2 ⟨⟨hv.mono hs2 (by omega), hvs.1⟩, by simp [hvs.2]⟩
theorem ok_choose (env : En) (a b c : Ex) (m : Ms) (L : Nat) (hL : L0 ≤ L) (ha : okC L a) (hb : okC L b) (hc : okC L c) (he : okE m.st.length L env) (hm : okM L m) (hf : m.fuel ≤ F) : Okr okV 0 L m (chooseM R env a b c m) := by
  refine (hR a env m L hL ha he hm hf).bind okV_L fun v m1 hf1 hs1 hm1 hv => ?_
  split
  · split
    · exact hR b env m1 _ (by omega) (hb.mono (by omega)) (he.mono hs1 (by omega)) hm1 (by omega)
    · exact hR c env m1 _ (by omega) (hc.mono (by omega)) (he.mono hs1 (by omega)) hm1 (by omega)
  · exact .stuck hm1
theorem ok_arm (env : En) (t : Str) (ls ns : List Str) (l : List Ex) (v : Vl) (m : Ms) (L : Nat) (hL : L0 ≤ L) (hl : ∀ i, okC L (prt l i)) (ht : t.length ≤ L) (hn : ∀ i, (nmq ns i).length ≤ L) (he : okE m.st.length L env) (hv : okV m.st.length L v) (hm : okM L m) (hf : m.fuel ≤ F) : Okr okV 0 L m (armM R env t ls ns l v m) := by
  unfold armM
  split
  · split
    · exact hR _ _ m L hL (hl _) ⟨hn _, hv.2, he⟩ hm hf
    · split
      · exact .stuck hm
      · exact hR _ _ m L hL (hl _) ⟨ht, hv, he⟩ hm hf
  · exact .stuck hm
theorem ok_match (env : En) (t : Str) (ls ns : List Str) (l : List Ex) (m : Ms) (L : Nat) (hL : L0 ≤ L) (hl : ∀ i, okC L (prt l i)) (ht : t.length ≤ L) (hn : ∀ i, (nmq ns i).length ≤ L) (he : okE m.st.length L env) (hm : okM L m) (hf : m.fuel ≤ F) : Okr okV 0 L m (matchM R env t ls ns l m) := by
  refine (hR _ env m L hL (hl _) he hm hf).bind okV_L fun v m1 hf1 hs1 hm1 hv => ?_
  exact ok_arm hR env t ls ns l v m1 _ (by omega) (fun i => (hl i).mono (by omega)) (by omega) (fun i => Nat.le_trans (hn i) (by omega)) (he.mono hs1 (by omega)) hv hm1 (by omega)
theorem ok_apply (vs : List Vl) (m : Ms) (L : Nat) (hL : L0 ≤ L) (hv : okVs m.st.length L vs) (hm : okM L m) (hf : m.fuel ≤ F) : Okr okV 0 L m (applyM R vs m) := by
  unfold applyM
  split
  · rename_i rc self param part env v _
    obtain ⟨⟨h1, h2, h2b, h2c⟩, h3, _⟩ := hv
    refine hR _ _ m L hL h1 ⟨h2b, h3, ?_⟩ hm hf
    split
    · exact ⟨h2, ⟨h1, h2, h2b, h2c⟩, h2c⟩
    · exact h2c
  · exact .stuck hm
omit hR in
theorem ok_field (k : Int) (s : Str) (x r : Vl) (m : Ms) (L : Nat) (hs : s.length ≤ L) (hr : okV m.st.length L r) (hx : okV m.st.length L x) (hm : okM L m) : Okr okV 1 L m (fieldM k s x r m) := by
  have hm1 := fun (v : Vl) (h : okV m.st.length L v) => h.mono (n' := m.st.length) (L' := L + 1) (Nat.le_refl _) (by omega)
  unfold fieldM
  split
  · rename_i l
    obtain ⟨h1, h2⟩ := hr
    have h3 : okE m.st.length (L + 1) l := h2.mono (Nat.le_refl _) (by omega)
    split
    · exact .stuck hm
    · split
      · refine .done hm ?_
        cases hg : lookE l s with
        | none => exact hm1 _ hx
        | some v => exact hm1 _ (look_ok h2 hg)
      · split
        · exact .done hm ⟨Nat.le_trans del_len (by omega), del_ok h3⟩
        · exact .done hm ⟨Nat.le_trans set_len (by omega), set_ok (by omega) (hm1 _ hx) h3⟩
  · exact .stuck hm
omit hR in
theorem flagC_ok (b : Bool) : inR .i64 (flagC b) := by cases b <;> decide
omit hR in
theorem ok_arith (s : Str) (a b : Int) (m : Ms) (L : Nat) (hm : okM L m) : Okr okV 1 L m (arithM s a b m) := by
  unfold arithM
  repeat' split
  all_goals first | exact .done hm (inR_wrap _ _) | exact .stuck hm | exact .fin hm | exact .done hm (flagC_ok _)
omit hR in
theorem u8_ok (c : UInt8) : inR .i64 (c.toNat : Int) := by
  have := c.toNat_lt
  have h1 : IntKind.i64.min = -9223372036854775808 := by decide
  have h2 : IntKind.i64.max = 9223372036854775807 := by decide
  unfold inR
  rw [h1, h2]
  omega
omit hR in
include h0 in
theorem ok_op (s : Str) (a b : Vl) (m : Ms) (L : Nat) (hL : L0 ≤ L) (hm : okM L m) : Okr okV 1 L m (opM s a b m) := by
  unfold opM
  split
  · rename_i x y
    split
    · split
      · exact .fin hm
      · refine .done hm ?_
        show (x ++ y).length ≤ _
        rw [List.length_append]
        omega
    · exact .stuck hm
  · split
    · generalize (if _ < (0 : Int) then none else _) = o
      cases o with
      | none => exact .fin hm
      | some c => exact .done hm (u8_ok c)
    · exact .stuck hm
  · exact ok_arith _ _ _ m L hm
  · exact .stuck hm
omit hR in
include h0 in
theorem ok_read (m : Ms) (L : Nat) (hL : L0 ≤ L) (hm : okM L m) : Okr okV 1 L m (readM m) := by
  unfold readM
  split
  · exact .fin hm
  · rename_i s r hi
    have hm2 : okM L { m with inp := r } := ⟨hm.st, hm.tr⟩
    split
    · have := Okr.fin (α := Vl) (P := okV) (c := 1) (e := 9) (f := 2) hm2
      exact ⟨this.fuel, this.st, this.ok, this.v⟩
    · have := Okr.done (P := okV) (c := 1) (a := .text s) hm2 (by show s.length ≤ _; omega)
      exact ⟨this.fuel, this.st, this.ok, this.v⟩
include h0 in
theorem ok_do (k : Int) (s : Str) (ls : List Str) (vs : List Vl) (m : Ms) (L : Nat) (hL : L0 ≤ L) (hs : s.length ≤ L) (hls : ls.length ≤ L) (hls2 : ∀ x ∈ ls, x.length ≤ L) (hv : okVs m.st.length L vs) (hm : okM L m) (hf : m.fuel ≤ F) : Okr okV 1 L m (doM R k s ls vs m) := by
  have hm1 := fun (v : Vl) (h : okV m.st.length L v) => h.mono (n' := m.st.length) (L' := L + 1) (Nat.le_refl _) (by omega)
  unfold doM
  by_cases h : k = 5
  · rw [if_pos h]
    exact (ok_apply hR vs m L hL hv hm hf).more okV_L (by omega)
  rw [if_neg h]
  clear h
  by_cases h : k = 8
  · rw [if_pos h]
    exact .done hm ⟨Nat.le_trans build_len (by simp only [lenE]; omega), build_ok (fun x hx => Nat.le_trans (hls2 x hx) (by omega)) (hv.mono (Nat.le_refl _) (by omega)) trivial⟩
  rw [if_neg h]
  clear h
  by_cases h : k = 9 ∨ k = 11
  · rw [if_pos h]
    split
    · exact ok_field _ _ _ _ m L hs hv.1 zVl_ok hm
    · exact .stuck hm
  rw [if_neg h]
  clear h
  by_cases h : k = 10 ∨ k = 12
  · rw [if_pos h]
    split
    · exact ok_field _ _ _ _ m L hs hv.2.1 hv.1 hm
    · exact .stuck hm
  rw [if_neg h]
  clear h
  by_cases h : k = 13
  · rw [if_pos h]
    split
    · exact .done hm ⟨by omega, hm1 _ hv.1⟩
    · exact .stuck hm
  rw [if_neg h]
  clear h
  by_cases h : k = 16
  · rw [if_pos h]
    split
    · exact ok_op h0 _ _ _ m L hL hm
    · exact .stuck hm
  rw [if_neg h]
  clear h
  by_cases h : k = 17
  · rw [if_pos h]
    split
    · rename_i v
      refine ⟨Nat.le_refl _, by simp [done], ⟨fun w hw => ?_, ?_⟩, fun w hw => ?_⟩
      · simp only [done] at hw ⊢
        rcases List.mem_append.1 hw with hw | hw
        · exact (hm.st w hw).mono (by simp) (by omega)
        · simp only [List.mem_singleton] at hw
          subst hw
          exact hv.1.mono (by simp) (by omega)
      · have := hm.tr
        simp only [done]
        omega
      · simp only [done, Option.some.injEq] at hw
        subst hw
        simp [done, okV]
    · exact .stuck hm
  rw [if_neg h]
  clear h
  by_cases h : k = 18
  · rw [if_pos h]
    split
    · rename_i i
      refine .done hm ?_
      cases hg : m.st[i]? with
      | none => exact zVl_ok
      | some v => exact hm1 _ (hm.st v (List.mem_of_getElem? hg))
    · exact .stuck hm
  rw [if_neg h]
  clear h
  by_cases h : k = 19
  · rw [if_pos h]
    split
    · rename_i i v
      refine ⟨Nat.le_refl _, by simp [done], ⟨fun w hw => ?_, ?_⟩, fun w hw => ?_⟩
      · simp only [done] at hw ⊢
        rw [List.length_set]
        rcases List.mem_or_eq_of_mem_set hw with hw | rfl
        · exact (hm.st w hw).mono (Nat.le_refl _) (by omega)
        · exact hv.2.1.mono (Nat.le_refl _) (by omega)
      · have := hm.tr
        simp only [done]
        omega
      · simp only [done, Option.some.injEq] at hw
        subst hw
        exact ⟨Nat.zero_le _, trivial⟩
    · exact .stuck hm
  rw [if_neg h]
  clear h
  by_cases h : k = 20
  · rw [if_pos h]
    split
    · rename_i x
      refine ⟨Nat.le_refl _, Nat.le_refl _, ⟨fun w hw => (hm.st w hw).mono (Nat.le_refl _) (by omega), ?_⟩, fun w hw => ?_⟩
      · have := hm.tr
        simp only [done, List.length_append, List.length_singleton]
        omega
      · simp only [done, Option.some.injEq] at hw
        subst hw
        exact ⟨Nat.zero_le _, trivial⟩
    · exact .stuck hm
  rw [if_neg h]
  clear h
  by_cases h : k = 21
  · rw [if_pos h]
    split
    · rename_i n
      refine .done hm ?_
      show (Lib.itoa n).length ≤ _
      have := Lib.itoa_length_le n hv.1.1 hv.1.2
      omega
    · exact .stuck hm
  rw [if_neg h]
  clear h
  by_cases h : k = 22
  · rw [if_pos h]
    exact ok_read h0 m L hL hm
  rw [if_neg h]
  clear h
  exact .stuck hm
include h0 in
theorem ok_step (e : Ex) (env : En) (m : Ms) (L : Nat) (hL : L0 ≤ L) (hc : okC L e) (he : okE m.st.length L env) (hm : okM L m) (hf : m.fuel ≤ F) : Okr okV 1 L m (stepM R e env m) := by
  have w0 := fun {r : Rs Vl} (h : Okr okV 0 L m r) => h.more (c' := 1) okV_L (by omega)
  cases e with
  | mk k p n s t ls ns l =>
  obtain ⟨hn, hs, hl, ht, hls, hls2, hns⟩ := hc.num
  rw [stepM_mk]
  by_cases h : partsC k ls.length (decide (t ≠ [])) ≠ l.length ∨ (k = 14 ∧ ns.length ≠ ls.length)
  · rw [if_pos h]
    exact .stuck hm
  rw [if_neg h]
  clear h
  by_cases h : k = 1
  · rw [if_pos h]
    exact .done hm hn
  rw [if_neg h]
  clear h
  by_cases h : k = 2
  · rw [if_pos h]
    exact .done hm (Nat.le_succ_of_le hs)
  rw [if_neg h]
  clear h
  by_cases h : k = 3
  · rw [if_pos h]
    split
    · rename_i v hv
      exact .done hm ((look_ok he hv).mono (Nat.le_refl _) (by omega))
    · exact .stuck hm
  rw [if_neg h]
  clear h
  by_cases h : k = 4
  · rw [if_pos h]
    exact .done hm ⟨(hc.prt 0).mono (by omega), Nat.zero_le _, by omega, he.mono (Nat.le_refl _) (by omega)⟩
  rw [if_neg h]
  clear h
  by_cases h : k = 6
  · rw [if_pos h]
    refine w0 ?_
    refine (hR _ env m L hL (hc.prt 0) he hm hf).bind okV_L fun v m1 hf1 hs1 hm1 hv => ?_
    exact hR _ _ m1 _ (by omega) ((hc.prt 1).mono (by omega)) ⟨by omega, hv, he.mono hs1 (by omega)⟩ hm1 (by omega)
  rw [if_neg h]
  clear h
  by_cases h : k = 7
  · rw [if_pos h]
    exact w0 (hR _ _ m L hL (hc.prt 1) ⟨hs, ⟨hc.prt 0, hs, ht, he⟩, he⟩ hm hf)
  rw [if_neg h]
  clear h
  by_cases h : k = 15
  · rw [if_pos h]
    exact w0 (ok_choose hR env _ _ _ m L hL (hc.prt 0) (hc.prt 1) (hc.prt 2) he hm hf)
  rw [if_neg h]
  clear h
  by_cases h : k = 14
  · rw [if_pos h]
    exact w0 (ok_match hR env t ls ns l m L hL hc.prt ht hns he hm hf)
  rw [if_neg h]
  clear h
  refine (ok_all hR env l m L hL (fun x hx => hc.mem hx) he hm hf).bind okV_L fun vs m1 hf1 hs1 hm1 hv => ?_
  exact ok_do hR h0 k s ls vs m1 _ (by omega) (by omega) (by omega) (fun x hx => Nat.le_trans (hls2 x hx) (by omega)) hv.1 hm1 (by omega)
end
theorem ok_ev (L0 : Nat) (h0 : 2000 ≤ L0) : ∀ (g F : Nat), OkR (evM g) L0 F
  | 0, F => fun e env m L hL hc he hm hf => ⟨Nat.le_refl _, Nat.le_refl _, hm.mono (by omega), fun v hv => by cases hv⟩
  | g + 1, F => fun e env m L hL hc he hm hf => by
    rw [evM]
    by_cases hz : m.fuel = 0
    · rw [if_pos hz]
      exact .fin hm
    · rw [if_neg hz]
      have h := ok_step (ok_ev L0 h0 g F) h0 e env { m with fuel := m.fuel - 1 } L hL hc he ⟨hm.st, hm.tr⟩ (by dsimp only; omega)
      have h1 := h.fuel
      dsimp only at h1
      have e1 : L + 1 + (m.fuel - 1 - (stepM (evM g) e env { m with fuel := m.fuel - 1 }).m.fuel) = L + 0 + (m.fuel - (stepM (evM g) e env { m with fuel := m.fuel - 1 }).m.fuel) := by omega
      exact ⟨by omega, h.st, e1 ▸ h.ok, e1 ▸ h.v⟩
end Go.Proofs.YtbifjffjibnjjaaDoor

