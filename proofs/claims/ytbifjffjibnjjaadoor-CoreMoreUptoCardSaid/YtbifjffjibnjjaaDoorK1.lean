/-
  Core expressions, plainly: what they come to. (Own work.)
-/
import Derived.Test.YtbifjffjibnjjaaDoorK0
import Derived.Lib.ItoaNum
set_option linter.unusedVariables false
set_option linter.unusedSimpArgs false
namespace Go.Proofs.YtbifjffjibnjjaaDoor
open Go Go.Abs

mutual
inductive Vl where
  | int (n : Int)
  | text (s : Str)
  | fn (rc : Bool) (self param : Str) (part : Co) (env : En)
  | tup (l : List Vl)
  | tag (n : Int) (v : Vl)
  | ref (k : Nat)
inductive En where
  | nil
  | cons (x : Str) (v : Vl) (e : En)
end
/-- A machine: lines to read, fuel, the error, the fault, the trace, what references point to. -/
structure Ms where
  inp : List Str
  fuel : Nat
  err : Int
  fault : Int
  tr : List Str
  st : List Vl
/-- What comes of something: none: the run is over. -/
structure Rs (α : Type) where
  v : Option α
  m : Ms
def Rs.bind {α β : Type} (r : Rs α) (k : α → Ms → Rs β) : Rs β := match r with
  | ⟨none, m⟩ => ⟨none, m⟩
  | ⟨some a, m⟩ => k a m
def done {α : Type} (a : α) (m : Ms) : Rs α := ⟨some a, m⟩
def endM {α : Type} (e f : Int) (m : Ms) : Rs α := ⟨none, if m.err = 0 then { m with err := e, fault := f } else m⟩
def stuckM {α : Type} (m : Ms) : Rs α := endM 11 0 m
def lookE : En → Str → Option Vl
  | .nil, _ => none
  | .cons x v e, s => if x = s then some v else lookE e s
def zCo : Co := .mk 0 0 [] [] [] []
def prt (l : List Co) (i : Nat) : Co := (l[i]?).getD zCo
/-- How many parts a kind has. -/
def partsC (k : Int) (l ns : Nat) (t : Bool) : Int :=
  if k = 1 ∨ k = 2 ∨ k = 3 ∨ k = 22 then 0
  else if k = 4 ∨ k = 17 ∨ k = 18 ∨ k = 20 ∨ k = 21 then 1
  else if k = 5 ∨ k = 6 ∨ k = 7 ∨ k = 9 ∨ k = 11 ∨ k = 13 ∨ k = 16 ∨ k = 19 then 2
  else if k = 10 ∨ k = 12 ∨ k = 15 then 3
  else if k = 8 then l
  else if k = 14 then 1 + 2 * ns + (if t = true then 1 else 0)
  else -1
abbrev Rec := Co → En → Ms → Rs Vl
def allM (R : Rec) (env : En) : List Co → Ms → Rs (List Vl)
  | [], m => done [] m
  | x :: l, m => (R x env m).bind fun v m => (allM R env l m).bind fun vs m => done (v :: vs) m
def chooseM (R : Rec) (env : En) (a b c : Co) (m : Ms) : Rs Vl :=
  (R a env m).bind fun v m => match v with
    | .int n => if n ≠ 0 then R b env m else R c env m
    | _ => stuckM m
/-- The arms of a case, from arm i on. -/
def armsM (R : Rec) (env : En) (l : List Co) (t : Str) (n : Int) (w : Vl) : List Str → Nat → Int → Ms → Rs Vl
  | [], i, below, m => if t = [] then stuckM m else R (prt l (l.length - 1)) (.cons t (.tag (IntKind.i64.wrap (n - below)) w) env) m
  | x :: ns, i, below, m => (R (prt l (1 + 2 * i)) env m).bind fun v m => match v with
    | .int a => if a = n then R (prt l (2 + 2 * i)) (.cons x w env) m else armsM R env l t n w ns (i + 1) (if a < n then below + 1 else below) m
    | _ => stuckM m
def casesM (R : Rec) (env : En) (t : Str) (ns : List Str) (l : List Co) (m : Ms) : Rs Vl :=
  (R (prt l 0) env m).bind fun v m => match v with
    | .tag n w => armsM R env l t n w ns 0 0 m
    | _ => stuckM m
def applyM (R : Rec) : List Vl → Ms → Rs Vl
  | .fn rc self param part env :: v :: _, m => R part (.cons param v (if rc = true then .cons self (.fn rc self param part env) env else env)) m
  | _, m => stuckM m
def tupleM (k : Int) (t a x : Vl) (m : Ms) : Rs Vl := match t, a with
  | .tup l, .int n => if n < 0 ∨ n > l.length ∨ (n = l.length ∧ k ≠ 10) then stuckM m
    else if k = 9 then done ((l[n.toNat]?).getD x) m
    else if k = 11 then done (.tup (l.take n.toNat ++ l.drop (n.toNat + 1))) m
    else if k = 10 then done (.tup (l.take n.toNat ++ x :: l.drop n.toNat)) m
    else done (.tup (l.take n.toNat ++ x :: l.drop (n.toNat + 1))) m
  | _, _ => stuckM m
def flagC (b : Bool) : Int := if b = true then 1 else 0
def arithM (s : Str) (a b : Int) (m : Ms) : Rs Vl :=
  if s = [43] then done (.int (IntKind.i64.wrap (a + b))) m
  else if s = [45] then done (.int (IntKind.i64.wrap (a - b))) m
  else if s = [42] then done (.int (IntKind.i64.wrap (a * b))) m
  else if s = [47] then (if b = 0 then endM 9 1 m else done (.int (IntKind.i64.wrap (a.tdiv b))) m)
  else if s = [60] then done (.int (flagC (decide (a < b)))) m
  else if s = [61, 61] then done (.int (flagC (a == b))) m
  else stuckM m
def opM (s : Str) (a b : Vl) (m : Ms) : Rs Vl := match a, b with
  | .text x, .text y => if s = [94] then (if x.length + y.length > 2000 then endM 9 2 m else done (.text (x ++ y)) m) else stuckM m
  | .text x, .int n => if s = [35] then (match (if n < 0 then none else x[n.toNat]?) with
    | some c => done (.int c.toNat) m
    | none => endM 9 2 m) else stuckM m
  | .int x, .int y => arithM s x y m
  | _, _ => stuckM m
def readM (m : Ms) : Rs Vl := match m.inp with
  | [] => endM 9 3 m
  | s :: r => if s.length > 2000 then endM 9 2 { m with inp := r } else done (.text s) { m with inp := r }
def zVl : Vl := .int 0
/-- What an expression comes to, by what its parts come to. -/
def doM (R : Rec) (k : Int) (s : Str) (vs : List Vl) (m : Ms) : Rs Vl :=
  if k = 5 then applyM R vs m
  else if k = 8 then done (.tup vs) m
  else if k = 9 ∨ k = 11 then (match vs with
    | [t, a] => tupleM k t a zVl m
    | _ => stuckM m)
  else if k = 10 ∨ k = 12 then (match vs with
    | [x, a, t] => tupleM k t a x m
    | _ => stuckM m)
  else if k = 13 then (match vs with
    | [v, .int n] => done (.tag n v) m
    | _ => stuckM m)
  else if k = 16 then (match vs with
    | [a, b] => opM s a b m
    | _ => stuckM m)
  else if k = 17 then (match vs with
    | [v] => done (.ref m.st.length) { m with st := m.st ++ [v] }
    | _ => stuckM m)
  else if k = 18 then (match vs with
    | [.ref i] => done ((m.st[i]?).getD zVl) m
    | _ => stuckM m)
  else if k = 19 then (match vs with
    | [.ref i, v] => done (.tup []) { m with st := m.st.set i v }
    | _ => stuckM m)
  else if k = 20 then (match vs with
    | [.text x] => done (.tup []) { m with tr := m.tr ++ [x] }
    | _ => stuckM m)
  else if k = 21 then (match vs with
    | [.int n] => done (.text (Lib.itoa n)) m
    | _ => stuckM m)
  else if k = 22 then readM m
  else stuckM m
def stepM (R : Rec) : Rec
  | .mk k n s t ns l, env, m =>
    if partsC k l.length ns.length (decide (t ≠ [])) ≠ l.length then stuckM m
    else if k = 1 then done (.int n) m
    else if k = 2 then done (.text s) m
    else if k = 3 then (match lookE env s with
      | some v => done v m
      | none => stuckM m)
    else if k = 4 then done (.fn false [] s (prt l 0) env) m
    else if k = 6 then (R (prt l 0) env m).bind fun v m => R (prt l 1) (.cons s v env) m
    else if k = 7 then R (prt l 1) (.cons s (.fn true s t (prt l 0) env) env) m
    else if k = 15 then chooseM R env (prt l 0) (prt l 1) (prt l 2) m
    else if k = 14 then casesM R env t ns l m
    else (allM R env l m).bind fun vs m => doM R k s vs m
def evM : Nat → Rec
  | 0, _, _, m => ⟨none, m⟩
  | g + 1, e, env, m => if m.fuel = 0 then endM 8 0 m else stepM (evM g) e env { m with fuel := m.fuel - 1 }
end Go.Proofs.YtbifjffjibnjjaaDoor
