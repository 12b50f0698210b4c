/-
  The small language that the model's code is turned into (types resolved), what its operations do to abstract values, and its weakest precondition. (Own work; seat-independent.)
-/
import Derived.Test.YtbifjffjibnjjaaDoorAbsB
set_option linter.unusedVariables false
set_option linter.unusedSimpArgs false
namespace Go.Abs
open Go

inductive E where
  | t (n : Nat)
  | c (x : V)
  deriving Inhabited

/-- Kinds of plain cells. -/
inductive SK where
  | int | bool | str
  deriving DecidableEq, Inhabited

/-- What '==' compares. -/
inductive EqK where
  | bool | ptr | ifc | sl | mp | fn | other
  | struct (ks : List SK)
  deriving DecidableEq, Inhabited

inductive ConvK where
  | toInt (k : IntKind) | strs | toBytes | ofBytes | rune
  deriving Inhabited

inductive SlK where
  | str
  | sl (sh : Sh)
  deriving Inhabited

inductive LenK where
  | str | sl | mp
  deriving Inhabited

/-- Kinds of a map's keys. -/
inductive KK where
  | int (k : IntKind) | str | pair (k : IntKind)
  deriving DecidableEq, Inhabited

/-- More operations. -/
inductive XOp where
  | mkmap
  | mput (kk : KK)
  | mget (kk : KK) (ok : Bool) (z : V)
  | stop
  | appm (sh : Sh) (bytes : Nat)
  | mkvec (sh : Sh) (bytes : Nat) (zs : List V)
  | copy (sh : Sh)
  | cap
  | mrange
  | mnext
  | mentry
  | mkslm (sh : Sh)
  | appz (sh : Sh) (bytes : Nat) (zs : List V)
  | clear (zs : List V)
  | give
  | max
  | mdel (kk : KK)
  | bind (f : Nat)
  | sto (n : Nat)
  | ibox
  | xbox
  | iexp (sh : Sh)
  | ldk (sh : Sh)
  | appd (sh : Sh) (bytes : Nat)
  | mksld (sh : Sh)
  deriving Inhabited

inductive AOp where
  | mv (x : E)
  | pick (c a b : E)
  | alloc (zs : List V)
  | box (x : E)
  | build (zs : List V) (ps : List (Nat × Nat × E))
  | mksl (sh : Sh) (xs : List E)
  | load (sh : Sh) (a : E)
  | store (n : Nat) (a x : E)
  | nilck (x : E)
  | bin (op : BinOp) (k : EqK) (cst : Bool) (x y : E)
  | un (op : UnOp) (x : E)
  | conv (c : ConvK) (x : E)
  | mkif (t : Nat) (x : E)
  | mkfn (f : Nat) (caps : List E)
  | slice (k : SlK) (x : E) (lo hi mx : Option E)
  | faddr (off : Nat) (x : E)
  | field (sh : Sh) (off : Nat) (x : E)
  | iaddr (sh : Sh) (x i : E)
  | index (x i : E)
  | extract (x : E) (i : Nat)
  | call (f : E) (args : List E)
  | inv (name : String) (x : E) (args : List E)
  | len (k : LenK) (x : E)
  | append (sh : Sh) (bytes : Nat) (s x : E)
  | min (xs : List E)
  | ext (x : XOp) (xs : List E)
  deriving Inhabited

structure RO where
  dst : Option Nat
  g : Option (Nat × Bool)
  op : AOp
  deriving Inhabited

inductive X where
  | skip
  | reg (outs : List Nat) (ops : List RO)
  | any (outs : List Nat) (ops : List (RO × Bool))
  | alt (outs : List Nat) (q : List (RO × Bool)) (c al : RO × Bool) (l r : List (RO × Bool))
  | seq (a b : X)
  | cond (c : E) (a b : X)
  | block (id : Nat) (a : X)
  | loop (a : X)
  | exit (id : Nat)
  | ret
  deriving Inhabited

/-! ### Values -/

/-- Has it cells that may lie in memory? -/
def D.lies : D → Bool
  | .junk => false
  | .tup _ => false
  | _ => true

def D.cells : D → List D
  | .v x => x.cells.map .v
  | .agg ds => ds
  | d => [d]

mutual
def D.toV : D → Option V
  | .v x => some x
  | .tsl _ sh xs => some (.sl sh false xs)
  | .agg ds => match D.toVs ds with
    | some vs => if vs.all V.one then some (.agg vs) else none
    | none => none
  | .iface t d => match d.toV with
    | some x => some (.iface t x)
    | none => none
  | _ => none
def D.toVs : List D → Option (List V)
  | [] => some []
  | d :: ds => match d.toV, D.toVs ds with
    | some x, some xs => some (x :: xs)
    | _, _ => none
end

/-- All of them plain? -/
def allV : List D → Option (List V)
  | [] => some []
  | .v x :: ds => match allV ds with
    | some xs => some (x :: xs)
    | none => none
  | _ :: _ => none

def mkAgg (ds : List D) : D :=
  match allV ds with
  | some xs => .v (.agg xs)
  | none => .agg ds

def mkIface (t : Nat) : D → D
  | .v x => .v (.iface t x)
  | d => .iface t d

def look : List (Nat × D) → Nat → D
  | [], _ => .junk
  | (k, d) :: r, n => if k = n then d else look r n

def ev (s : List (Nat × D)) : E → D
  | .t n => look s n
  | .c x => .v x

def upd : List (Nat × D) → Nat → D → List (Nat × D)
  | [], n, d => [(n, d)]
  | (k, x) :: r, n, d => if k = n then (n, d) :: r else (k, x) :: upd r n d

def outs : List Nat → List (Nat × D) → List (Nat × D) → List (Nat × D)
  | [], _, env => env
  | n :: ns, s, env => outs ns s (upd env n (look s n))

def push (dst : Option Nat) (d : D) (s : List (Nat × D)) : List (Nat × D) :=
  match dst with
  | some n => (n, d) :: s
  | none => s

def putAt (cs : List D) (off : Nat) (xs : List D) : List D := cs.take off ++ (xs ++ cs.drop (off + xs.length))

def fillD (cells : List D) : List (Nat × Nat × D) → Option (List D)
  | [] => some cells
  | (off, n, x) :: r => if x.lies = true ∧ x.cells.length = n ∧ off + n ≤ cells.length then fillD (putAt cells off x.cells) r else none

def eqCells : List SK → List V → List V → Option Bool
  | [], [], [] => some true
  | .int :: q, .int k a :: r, .int l b :: s => if k = l then (match eqCells q r s with | some z => some ((a == b) && z) | none => none) else none
  | .bool :: q, .bool a :: r, .bool b :: s => (match eqCells q r s with | some z => some ((a == b) && z) | none => none)
  | .str :: q, .str a :: r, .str b :: s => (match eqCells q r s with | some z => some ((a == b) && z) | none => none)
  | _, _, _ => none

/-! ### Weakest preconditions of the operations -/

/-- The types whose values, held in an interface, are compared as integers. -/
def intTy (P : Program) (t : Nat) : Bool :=
  match P.info? t, P.underlying t with
  | some i, some (.int _) => i.comparable
  | _, _ => false

def WInt (op : BinOp) (k : IntKind) (a : Int) (l : IntKind) (b : Int) (K : V → Prop) : Prop :=
  match op with
  | .add => k = l ∧ K (.int k (k.wrap (a + b)))
  | .sub => k = l ∧ K (.int k (k.wrap (a - b)))
  | .mul => k = l ∧ K (.int k (k.wrap (a * b)))
  | .quo => k = l ∧ b ≠ 0 ∧ K (.int k (k.wrap (a.tdiv b)))
  | .rem => k = l ∧ b ≠ 0 ∧ K (.int k (a.tmod b))
  | .and => k = l ∧ K (.int k (k.wrap (BitVec.ofInt k.bits a &&& BitVec.ofInt k.bits b).toNat))
  | .or => k = l ∧ K (.int k (k.wrap (BitVec.ofInt k.bits a ||| BitVec.ofInt k.bits b).toNat))
  | .xor => k = l ∧ K (.int k (k.wrap (BitVec.ofInt k.bits a ^^^ BitVec.ofInt k.bits b).toNat))
  | .shl => 0 ≤ b ∧ K (.int k (k.wrap (a * 2 ^ (min b.toNat k.bits))))
  | .shr => 0 ≤ b ∧ K (.int k (a.fdiv (2 ^ (min b.toNat k.bits))))
  | .eql => k = l ∧ K (.bool (a == b))
  | .neq => k = l ∧ K (.bool (a != b))
  | .lss => k = l ∧ K (.bool (decide (a < b)))
  | .leq => k = l ∧ K (.bool (decide (a ≤ b)))
  | .gtr => k = l ∧ K (.bool (decide (a > b)))
  | .geq => k = l ∧ K (.bool (decide (a ≥ b)))
  | _ => False

def WStr (op : BinOp) (a b : List UInt8) (K : V → Prop) : Prop :=
  match op with
  | .add => a.length + b.length ≤ 9223372036854775807 ∧ K (.str (a ++ b))
  | .eql => K (.bool (a == b))
  | .neq => K (.bool (!(a == b)))
  | .lss => K (.bool (Op.bytesLess a b))
  | .leq => K (.bool (Op.bytesLess a b || a == b))
  | .gtr => K (.bool (!(Op.bytesLess a b || a == b)))
  | .geq => K (.bool (!Op.bytesLess a b))
  | _ => False

def WEq (P : Program) (k : EqK) (cst : Bool) (x y : D) (B : Bool → Prop) : Prop :=
  match x, y with
  | .v (.bool a), .v (.bool b) => k = .bool ∧ B (a == b)
  | .v .pnil, .v .pnil => k = .ptr ∧ B true
  | .v .pnil, .ptr _ _ => k = .ptr ∧ B false
  | .ptr _ _, .v .pnil => k = .ptr ∧ B false
  | .v .pnil, .imm _ _ _ => k = .ptr ∧ B false
  | .imm _ _ _, .v .pnil => k = .ptr ∧ B false
  | .v .pnil, .v (.box _ _ _) => k = .ptr ∧ B false
  | .v (.box _ _ _), .v .pnil => k = .ptr ∧ B false
  | .v .pnil, .v (.adr _ _) => k = .ptr ∧ B false
  | .v (.adr _ _), .v .pnil => k = .ptr ∧ B false
  | .v .inil, .v .inil => k = .ifc ∧ cst = true ∧ B true
  | .v .inil, .v (.iface _ _) => k = .ifc ∧ B false
  | .v (.iface _ _), .v .inil => k = .ifc ∧ B false
  | .v .inil, .iface _ _ => k = .ifc ∧ B false
  | .iface _ _, .v .inil => k = .ifc ∧ B false
  | .v (.iface t (.int p a)), .v (.iface u (.int q b)) => k = .ifc ∧ (t ≠ u → B false) ∧ (t = u → p = q ∧ intTy P t = true ∧ B (a == b))
  | .v .snil, .v .snil => k = .sl ∧ B true
  | .v (.sl _ _ xs), .v .snil => k = .sl ∧ ∀ b : Bool, (xs ≠ [] → b = false) → B b
  | .tsl _ _ xs, .v .snil => k = .sl ∧ ∀ b : Bool, (xs ≠ [] → b = false) → B b
  | .msl _ _ len _ _, .v .snil => k = .sl ∧ ∀ b : Bool, (len ≠ 0 → b = false) → B b
  | .v .mnil, .v .mnil => k = .mp ∧ B true
  | .map _, .v .mnil => k = .mp ∧ B false
  | .v .fnil, .v .fnil => k = .fn ∧ B true
  | .fn _ _, .v .fnil => k = .fn ∧ B false
  | .v (.fn _), .v .fnil => k = .fn ∧ B false
  | .v (.agg as), .v (.agg bs) => (match k with
    | .struct ks => (match eqCells ks as bs with
      | some r => B r
      | none => False)
    | _ => False)
  | _, _ => False

def WBin (P : Program) (op : BinOp) (k : EqK) (cst : Bool) (x y : D) (K : V → Prop) : Prop :=
  match x, y with
  | .v (.int p a), .v (.int q b) => WInt op p a q b K
  | .v (.str a), .v (.str b) => WStr op a b K
  | x, y => match op with
    | .eql => WEq P k cst x y fun b => K (.bool b)
    | .neq => WEq P k cst x y fun b => K (.bool (!b))
    | _ => False

def WUn (op : UnOp) (x : D) (K : V → Prop) : Prop :=
  match op, x with
  | .not, .v (.bool b) => K (.bool (!b))
  | .neg, .v (.int k n) => K (.int k (k.wrap (0 - n)))
  | .xor, .v (.int k n) => K (.int k (k.wrap (BitVec.ofInt k.bits (if k.signed then -1 else k.max) ^^^ BitVec.ofInt k.bits n).toNat))
  | _, _ => False

def bytesV (s : List UInt8) : List V := s.map fun b => .int .u8 b.toNat

def WConv (c : ConvK) (x : D) (K : V → Prop) : Prop :=
  match c, x with
  | .toInt k, .v (.int _ n) => K (.int k (k.wrap n))
  | .strs, .v (.str s) => K (.str s)
  | .toBytes, .v (.str s) => s.length ≤ maxLen ∧ K (.sl none false (bytesV s))
  | .ofBytes, .v .snil => K (.str [])
  | .ofBytes, .v (.sl _ _ xs) => ∃ s, xs = bytesV s ∧ K (.str s)
  | .ofBytes, .tsl _ _ xs => ∃ s, xs = bytesV s ∧ K (.str s)
  | .rune, .v (.int _ n) => (0 ≤ n ∧ n < 128) ∧ K (.str [UInt8.ofNat n.toNat])
  | _, _ => False

def WLoad (sh : Sh) (a : D) (σ : Sg) (K : D → Prop) : Prop :=
  match a with
  | .imm sh' x off =>
    if off = 0 ∧ sh = sh' then K (.v x) else
    match sh with
    | none => (match x.cells[off]? with | some c => K (.v c) | none => False)
    | some n => off + n ≤ shn sh' ∧ K (.v (.agg ((x.cells.drop off).take n)))
  | .v (.box sh' x off) =>
    if off = 0 ∧ sh = sh' then K (.v x) else
    match sh with
    | none => (match x.cells[off]? with | some c => K (.v c) | none => False)
    | some n => off + n ≤ shn sh' ∧ K (.v (.agg ((x.cells.drop off).take n)))
  | .ptr o off =>
    match σ.objs[o]? with
    | some (.cells cs) => (match sh with
      | none => (match cs[off]? with | some d => K d | none => False)
      | some n => 0 < n ∧ off + n ≤ cs.length ∧ K (mkAgg ((cs.drop off).take n)))
    | _ => False
  | _ => False

def WStore (n : Nat) (a x : D) (σ : Sg) (K : D → Sg → Prop) : Prop :=
  match a with
  | .ptr o off =>
    match σ.objs[o]? with
    | some (.cells cs) => x.lies = true ∧ x.cells.length = n ∧ 0 < n ∧ off + n ≤ cs.length ∧ K .undef (σ.put o (.cells (putAt cs off x.cells)))
    | _ => False
  | .v (.adr b off) => ∃ (o : Nat) (cs : List D), σ.objs[o]? = some (.known b cs) ∧ x.lies = true ∧ x.cells.length = n ∧ 0 < n ∧ off + n ≤ cs.length ∧ K .undef (σ.put o (.known b (putAt cs off x.cells)))
  | _ => False

def WNil (x : D) (K : D → Prop) : Prop :=
  match x with
  | .ptr _ _ => K x
  | .imm _ _ _ => K x
  | .fn _ _ => K x
  | .bfn _ _ => K x
  | .v (.fn _) => K x
  | .v (.iface _ _) => K x
  | .v (.box _ _ _) => K x
  | .v (.adr _ _) => K x
  | .iface _ _ => K x
  | _ => False

def asI : D → Option Int
  | .v (.int _ n) => some n
  | _ => none

def loI : Option D → Option Int
  | none => some 0
  | some d => asI d
def hiI (len : Nat) : Option D → Option Int
  | none => some len
  | some d => asI d
def mxI : Option D → Option (Option Int)
  | none => some none
  | some d => match asI d with
    | some m => some (some m)
    | none => none

/-- The bounds of a slice expression: low, high, and the room's end where it is told. -/
def bounds (len : Nat) (lo hi mx : Option D) : Option (Int × Int × Option Int) :=
  match loI lo, hiI len hi, mxI mx with
  | some l, some h, some q => some (l, h, q)
  | _, _, _ => none

def WSlice (k : SlK) (x : D) (lo hi mx : Option D) (K : V → Prop) : Prop :=
  match k, x with
  | .str, .v (.str s) => (match bounds s.length lo hi mx with
    | some (l, h, none) => 0 ≤ l ∧ l ≤ h ∧ h ≤ s.length ∧ K (.str ((s.take h.toNat).drop l.toNat))
    | _ => False)
  | .sl sh, .v (.sl sh' _ xs) => sh = sh' ∧ (match bounds xs.length lo hi mx with
    | some (l, h, none) => 0 ≤ l ∧ l ≤ h ∧ h ≤ xs.length ∧ K (.sl sh false ((xs.take h.toNat).drop l.toNat))
    | some (l, h, some m) => 0 ≤ l ∧ l ≤ h ∧ h = m ∧ m ≤ xs.length ∧ K (.sl sh true ((xs.take h.toNat).drop l.toNat))
    | none => False)
  | .sl sh, .tsl _ sh' xs => sh = sh' ∧ (match bounds xs.length lo hi mx with
    | some (l, h, none) => 0 ≤ l ∧ l ≤ h ∧ h ≤ xs.length ∧ K (.sl sh false ((xs.take h.toNat).drop l.toNat))
    | some (l, h, some m) => 0 ≤ l ∧ l ≤ h ∧ h = m ∧ m ≤ xs.length ∧ K (.sl sh true ((xs.take h.toNat).drop l.toNat))
    | none => False)
  | .sl sh, .v .snil => (match bounds 0 lo hi mx with
    | some (l, h, q) => l = 0 ∧ h = 0 ∧ (q = none ∨ q = some 0) ∧ K (.sl sh true [])
    | none => False)
  | _, _ => False

/-- A piece of a slice that may be written to. -/
def WSlM (sh : Sh) (o off len : Nat) (sh' : Sh) (cp : Option Nat) (lo hi mx : Option D) (K : D → Prop) : Prop :=
  sh = sh' ∧ (match cp with
    | some c => (match bounds len lo hi mx with
      | some (l, h, none) => 0 ≤ l ∧ l ≤ h ∧ h ≤ c ∧ K (.msl o (off + l.toNat * shn sh) (h - l).toNat sh (some (c - l.toNat)))
      | some (l, h, some m) => 0 ≤ l ∧ l ≤ h ∧ h ≤ m ∧ m ≤ c ∧ K (.msl o (off + l.toNat * shn sh) (h - l).toNat sh (some (m - l).toNat))
      | none => False)
    | none => False)
def WSl (k : SlK) (x : D) (lo hi mx : Option D) (K : D → Prop) : Prop :=
  match k, x with
  | .sl sh, .msl o off len sh' cp => WSlM sh o off len sh' cp lo hi mx K
  | k, x => WSlice k x lo hi mx fun v => K (.v v)

def WFaddr (off : Nat) (x : D) (K : D → Prop) : Prop :=
  match x with
  | .ptr o p => K (.ptr o (p + off))
  | .imm sh x p => K (.imm sh x (p + off))
  | .v (.box sh x p) => K (.v (.box sh x (p + off)))
  | .v (.adr b p) => K (.v (.adr b (p + off)))
  | _ => False

def WField (sh : Sh) (off : Nat) (x : D) (K : D → Prop) : Prop :=
  match x with
  | .v (.agg cs) => (match sh with
    | none => (match cs[off]? with | some c => K (.v c) | none => False)
    | some n => off + n ≤ cs.length ∧ K (.v (.agg ((cs.drop off).take n))))
  | .agg ds => (match sh with
    | none => (match ds[off]? with | some c => K c | none => False)
    | some n => off + n ≤ ds.length ∧ K (mkAgg ((ds.drop off).take n)))
  | _ => False

def WIaddr (sh : Sh) (x i : D) (K : D → Prop) : Prop :=
  match x, i with
  | .v (.sl sh' _ xs), .v (.int _ n) => sh = sh' ∧ 0 ≤ n ∧ n < xs.length ∧ ∀ y, xs[n.toNat]? = some y → K (.imm sh y 0)
  | .tsl _ sh' xs, .v (.int _ n) => sh = sh' ∧ 0 ≤ n ∧ n < xs.length ∧ ∀ y, xs[n.toNat]? = some y → K (.imm sh y 0)
  | .msl o off len sh' _, .v (.int _ n) => sh = sh' ∧ 0 ≤ n ∧ n < len ∧ K (.ptr o (off + n.toNat * shn sh))
  | _, _ => False

def WIndex (x i : D) (K : V → Prop) : Prop :=
  match x, i with
  | .v (.str s), .v (.int _ n) => 0 ≤ n ∧ n < s.length ∧ ∀ b, s[n.toNat]? = some b → K (.int .u8 b.toNat)
  | _, _ => False

def WExtract (x : D) (i : Nat) (K : D → Prop) : Prop :=
  match x with
  | .tup ds => (match ds[i]? with | some d => K d | none => False)
  | _ => False

def WLen (k : LenK) (x : D) (σ : Sg) (K : V → Prop) : Prop :=
  match k, x with
  | .str, .v (.str s) => K (.int .i64 s.length)
  | .sl, .v .snil => K (.int .i64 0)
  | .sl, .v (.sl _ _ xs) => K (.int .i64 xs.length)
  | .sl, .tsl _ _ xs => K (.int .i64 xs.length)
  | .sl, .msl _ _ len _ _ => K (.int .i64 len)
  | .mp, .v .mnil => K (.int .i64 0)
  | .mp, .map o => (match σ.objs[o]? with | some (.map es) => es.length ≤ maxLen ∧ K (.int .i64 es.length) | _ => False)
  | _, _ => False

/-- What is appended. -/
def srcV (sh : Sh) : D → Option (List V)
  | .v .snil => some []
  | .v (.sl sh' _ xs) => if sh = sh' then some xs else none
  | .tsl _ sh' xs => if sh = sh' then some xs else none
  | .v (.str s) => if sh = none then some (bytesV s) else none
  | _ => none

/-- Rows out of cells. -/
def chunk (n : Nat) : Nat → List V → List V
  | 0, _ => []
  | k + 1, l => .agg (l.take n) :: chunk n k (l.drop n)
def rowsV : Sh → Nat → List V → List V
  | none, k, l => l.take k
  | some n, k, l => chunk n k l
/-- What is appended; it may lie where it can be written to. -/
def srcM (σ : Sg) (sh : Sh) (x : D) : Option (List V) :=
  match x with
  | .msl o off len sh' _ => if len = 0 then (if sh = sh' then some [] else none) else (match σ.objs[o]? with
    | some (.cells cs) => if sh = sh' ∧ len ≠ 0 ∧ cs.length ≠ 0 ∧ off + len * shn sh ≤ cs.length then (match allV ((cs.drop off).take (len * shn sh)) with
      | some vs => some (rowsV sh len vs)
      | none => none) else none
    | _ => none)
  | x => srcV sh x

def WAppend (sh : Sh) (bytes : Nat) (s x : D) (σ : Sg) (K : D → Sg → Prop) : Prop :=
  match srcM σ sh x with
  | none => False
  | some ys => match s with
    | .v .snil => ys.length * bytes ≤ 140737488355328 ∧ K (.tsl σ.toks.length sh ys) (σ.tadd ys.length)
    | .v (.sl sh' true xs) => sh = sh' ∧ (xs.length + ys.length) * bytes ≤ 140737488355328 ∧ K (.tsl σ.toks.length sh (xs ++ ys)) (σ.tadd (xs.length + ys.length))
    | .tsl t sh' xs => sh = sh' ∧ σ.toks[t]? = some xs.length ∧ (xs.length + ys.length) * bytes ≤ 140737488355328 ∧ K (.tsl t sh (xs ++ ys)) (σ.tput t (xs.length + ys.length))
    | _ => False

def WMin : List D → (V → Prop) → Prop
  | [.v (.int k a), .v (.int l b)], K => k = l ∧ K (.int k (if b < a then b else a))
  | _, _ => False

/-! Maps -/
def keyOk : KK → V → Bool
  | .int k, .int l _ => k == l
  | .str, .str _ => true
  | .pair k, .agg [.int l _, .str _] => k == l
  | _, _ => false
def keq : V → V → Bool
  | .int _ a, .int _ b => a == b
  | .str a, .str b => a == b
  | .agg [.int _ a, .str s], .agg [.int _ b, .str t] => a == b && s == t
  | _, _ => false
def mfind (x : V) : List (V × D) → Option D
  | [] => none
  | (k, d) :: r => if keq x k = true then some d else mfind x r
def mset (x : V) (d : D) : List (V × D) → List (V × D)
  | [] => [(x, d)]
  | (k, e) :: r => if keq x k = true then (x, d) :: r else (k, e) :: mset x d r
def keysOk (kk : KK) (es : List (V × D)) : Bool := es.all fun e => keyOk kk e.1
def mgot (ok : Bool) (z : V) (r : Option D) : D := if ok = true then .tup [r.getD (.v z), .v (.bool r.isSome)] else r.getD (.v z)

/-- The entries of a map that never changes any more. -/
def fmD (es : List (V × V)) : List (V × D) := es.map fun e => (e.1, .v e.2)
def merase (x : V) : List (V × D) → List (V × D)
  | [] => []
  | (k, d) :: r => if keq x k = true then r else (k, d) :: merase x r

def zerosV (zs : List V) (n : Nat) : List V := (List.replicate n zs).flatten
/-- A new slice that may be written to. -/
def WApm0 (sh : Sh) (bytes : Nat) (ys : List V) (σ : Sg) (K : D → Sg → Prop) : Prop :=
  (ys = [] → K (.v (.sl sh true [])) σ) ∧ (¬ ys = [] → ys.length * bytes ≤ 140737488355328 ∧ ∀ c : Nat, ys.length ≤ c → c ≤ maxLen →
    K (.msl σ.objs.length 0 ys.length sh (some c)) (σ.add (.cells ((V.flat ys).map .v ++ List.replicate ((c - ys.length) * shn sh) .junk))))
def WApm1 (sh : Sh) (bytes : Nat) (o off len c : Nat) (ys : List V) (σ : Sg) (K : D → Sg → Prop) : Prop :=
  match σ.objs[o]? with
  | some (.cells cs) =>
      (len + ys.length ≤ c → off + (len + ys.length) * shn sh ≤ cs.length ∧ K (.msl o off (len + ys.length) sh (some c)) (σ.put o (.cells (putAt cs (off + len * shn sh) ((V.flat ys).map .v))))) ∧
      (¬ len + ys.length ≤ c → off + len * shn sh ≤ cs.length ∧ (len + ys.length) * bytes ≤ 140737488355328 ∧ ∀ c' : Nat, len + ys.length ≤ c' → c' ≤ maxLen →
        K (.msl σ.objs.length 0 (len + ys.length) sh (some c')) (σ.add (.cells ((cs.drop off).take (len * shn sh) ++ ((V.flat ys).map .v ++ List.replicate ((c' - (len + ys.length)) * shn sh) .junk)))))
  | _ => False
def WApmV (sh : Sh) (bytes : Nat) (s : D) (ys : List V) (σ : Sg) (K : D → Sg → Prop) : Prop :=
  match s with
  | .v .snil => WApm0 sh bytes ys σ K
  | .v (.sl sh' true []) => sh = sh' ∧ WApm0 sh bytes ys σ K
  | .msl o off len sh' (some c) => sh = sh' ∧ WApm1 sh bytes o off len c ys σ K
  | _ => False
def WApm (sh : Sh) (bytes : Nat) (s x : D) (σ : Sg) (K : D → Sg → Prop) : Prop :=
  match srcM σ sh x with
  | none => False
  | some ys => WApmV sh bytes s ys σ K
def zrow : Sh → List V → V
  | none, zs => zs.headD .inil
  | some _, zs => .agg zs
def WClear (zs : List V) (x : D) (σ : Sg) (K : D → Sg → Prop) : Prop :=
  match x with
  | .v .snil => K .undef σ
  | .v (.sl _ _ []) => K .undef σ
  | .msl o off len sh _ => (match σ.objs[o]? with
    | some (.cells cs) => zs.length = shn sh ∧ cs.length ≠ 0 ∧ off + len * shn sh ≤ cs.length ∧ K .undef (σ.put o (.cells (putAt cs off ((zerosV zs len).map .v))))
    | _ => False)
  | _ => False
def WMkvec (sh : Sh) (bytes : Nat) (zs : List V) (n c : Int) (σ : Sg) (K : D → Sg → Prop) : Prop :=
  0 ≤ n ∧ n ≤ c ∧ c * bytes ≤ 140737488355328 ∧ (c = 0 → K (.v (.sl sh true [])) σ) ∧ (¬ c = 0 → K (.msl σ.objs.length 0 n.toNat sh (some c.toNat)) (σ.add (.cells ((zerosV zs c.toNat).map .v))))
def WCopy (sh : Sh) (d x : D) (σ : Sg) (K : D → Sg → Prop) : Prop :=
  match srcM σ sh x with
  | none => False
  | some ys => match d with
    | .msl o off len sh' _ => (match σ.objs[o]? with
      | some (.cells cs) => sh = sh' ∧ cs.length ≠ 0 ∧ ys.length ≤ len ∧ off + ys.length * shn sh ≤ cs.length ∧ K (.v (.int .i64 ys.length)) (σ.put o (.cells (putAt cs off ((V.flat ys).map .v))))
      | _ => False)
    | _ => False
def WCap (x : D) (K : D → Prop) : Prop :=
  match x with
  | .v .snil => K (.v (.int .i64 0))
  | .v (.sl _ true xs) => K (.v (.int .i64 xs.length))
  | .v (.sl _ false xs) => ∀ c : Nat, xs.length ≤ c → c ≤ maxLen → K (.v (.int .i64 c))
  | .tsl _ _ xs => ∀ c : Nat, xs.length ≤ c → c ≤ maxLen → K (.v (.int .i64 c))
  | .msl _ _ _ _ (some c) => K (.v (.int .i64 c))
  | .msl _ _ len _ none => ∀ c : Nat, len ≤ c → c ≤ maxLen → K (.v (.int .i64 c))
  | _ => False

def WMksl (sh : Sh) (ds : List D) (K : V → Prop) : Prop :=
  match D.toVs ds with
  | some xs => (∀ x ∈ xs, x.shape = sh ∧ (x.cells.all V.one) = true) ∧ K (.sl sh true xs)
  | none => False

def WMkslm (sh : Sh) (ds : List D) (σ : Sg) (K : D → Sg → Prop) : Prop := WMksl sh ds fun v => match v with
  | .sl _ _ xs => xs ≠ [] ∧ K (.msl σ.objs.length 0 xs.length sh (some xs.length)) (σ.add (.cells ((V.flat xs).map .v)))
  | _ => False

/-- What is appended, whatever its cells are. -/
def srcD (σ : Sg) (sh : Sh) (x : D) : Option (Nat × List D) :=
  match x with
  | .v .snil => some (0, [])
  | .v (.sl sh' _ []) => if sh = sh' then some (0, []) else none
  | .msl o off len sh' _ => if sh = sh' then (if len = 0 then some (0, []) else (match σ.objs[o]? with
    | some (.cells cs) => if cs.length ≠ 0 ∧ off + len * shn sh ≤ cs.length then some (len, (cs.drop off).take (len * shn sh)) else none
    | _ => none)) else none
  | _ => none
def WApd0 (sh : Sh) (bytes n : Nat) (yd : List D) (σ : Sg) (K : D → Sg → Prop) : Prop :=
  (n = 0 → K (.v (.sl sh true [])) σ) ∧ (¬ n = 0 → n * bytes ≤ 140737488355328 ∧ ∀ c : Nat, n ≤ c → c ≤ maxLen →
    K (.msl σ.objs.length 0 n sh (some c)) (σ.add (.cells (yd ++ List.replicate ((c - n) * shn sh) .junk))))
def WApd1 (sh : Sh) (bytes o off len c n : Nat) (yd : List D) (σ : Sg) (K : D → Sg → Prop) : Prop :=
  match σ.objs[o]? with
  | some (.cells cs) =>
      (len + n ≤ c → off + (len + n) * shn sh ≤ cs.length ∧ K (.msl o off (len + n) sh (some c)) (σ.put o (.cells (putAt cs (off + len * shn sh) yd)))) ∧
      (¬ len + n ≤ c → off + len * shn sh ≤ cs.length ∧ (len + n) * bytes ≤ 140737488355328 ∧ ∀ c' : Nat, len + n ≤ c' → c' ≤ maxLen →
        K (.msl σ.objs.length 0 (len + n) sh (some c')) (σ.add (.cells ((cs.drop off).take (len * shn sh) ++ (yd ++ List.replicate ((c' - (len + n)) * shn sh) .junk)))))
  | _ => False
def WApdV (sh : Sh) (bytes : Nat) (s : D) (n : Nat) (yd : List D) (σ : Sg) (K : D → Sg → Prop) : Prop :=
  match s with
  | .v .snil => WApd0 sh bytes n yd σ K
  | .v (.sl sh' true []) => sh = sh' ∧ WApd0 sh bytes n yd σ K
  | .msl o off len sh' (some c) => sh = sh' ∧ WApd1 sh bytes o off len c n yd σ K
  | _ => False
def WApd (sh : Sh) (bytes : Nat) (s x : D) (σ : Sg) (K : D → Sg → Prop) : Prop :=
  match srcD σ sh x with
  | none => False
  | some (n, yd) => WApdV sh bytes s n yd σ K
def WMksld (sh : Sh) (ds : List D) (σ : Sg) (K : D → Sg → Prop) : Prop :=
  ds ≠ [] ∧ (∀ d ∈ ds, d.lies = true ∧ d.cells.length = shn sh) ∧ K (.msl σ.objs.length 0 ds.length sh (some ds.length)) (σ.add (.cells (ds.flatMap D.cells)))

/-- A step of a range over a map: any entry that has not come yet; or none is left. -/
def WNext (i o since : Nat) (seen : List Nat) (ob : Option Ob) (σ : Sg) (K : D → Sg → Prop) : Prop := match ob with
  | some (.map es) => dense = true ∧ es.length = since ∧ ((∀ j, j < es.length → j ∈ seen) → K (.tup [.v (.bool false)]) σ) ∧
      ∀ (j : Nat) x, es[j]? = some x → j ∉ seen → K (.tup [.v (.bool true), .v x.1, x.2]) (σ.put i (.iter (some o) since (seen ++ [j])))
  | _ => False
/-- The entry that the last step came to. -/
def WEntry (o since : Nat) (seen : List Nat) (ob : Option Ob) (σ : Sg) (K : D → Sg → Prop) : Prop := match ob with
  | some (.map es) => dense = true ∧ es.length = since ∧ ∃ pre j x, seen = pre ++ [j] ∧ es[j]? = some x ∧ K (.tup [.v x.1, x.2]) σ
  | _ => False

/-- Bytes that were written one by one, given out for good. -/
def WGive (o len : Nat) (σ : Sg) (K : D → Sg → Prop) : Prop :=
  ∃ (cs : List D) (xs : List V), σ.objs[o]? = some (.cells cs) ∧ cs.take len = xs.map .v ∧ xs.length = len ∧ len ≠ 0 ∧ (∀ x ∈ xs, x.shape = none) ∧ K (.v (.sl none false xs)) (σ.put o (.cells []))

/-- A load out of an object whose block is known, too. -/
def WLdk (sh : Sh) (a : D) (σ : Sg) (K : D → Prop) : Prop :=
  match a with
  | .v (.adr b off) => ∃ (o : Nat) (cs : List D), σ.objs[o]? = some (.known b cs) ∧ (match sh with
      | none => (match cs[off]? with | some d => K d | none => False)
      | some n => 0 < n ∧ off + n ≤ cs.length ∧ K (mkAgg ((cs.drop off).take n)))
  | a => WLoad sh a σ K
def WX (x : XOp) (ds : List D) (σ : Sg) (K : D → Sg → Prop) : Prop :=
  match x with
  | .mkmap => K (.map σ.objs.length) (σ.add (.map []))
  | .mput kk => (match ds with
    | [.map o, .v k, d] => (match σ.objs[o]? with
      | some (.map es) => keyOk kk k = true ∧ keysOk kk es = true ∧ K .undef (σ.put o (.map (mset k d es)))
      | _ => False)
    | _ => False)
  | .mget kk ok z => (match ds with
    | [.v .mnil, .v k] => keyOk kk k = true ∧ K (mgot ok z none) σ
    | [.v (.fmap es), .v k] => keyOk kk k = true ∧ keysOk kk (fmD es) = true ∧ K (mgot ok z (mfind k (fmD es))) σ
    | [.map o, .v k] => (match σ.objs[o]? with
      | some (.map es) => keyOk kk k = true ∧ keysOk kk es = true ∧ K (mgot ok z (mfind k es)) σ
      | _ => False)
    | _ => False)
  | .stop => False
  | .appm sh bytes => (match ds with
    | [s, x] => WApm sh bytes s x σ K
    | _ => False)
  | .mkvec sh bytes zs => (match ds with
    | [.v (.int _ n), .v (.int _ c)] => WMkvec sh bytes zs n c σ K
    | _ => False)
  | .copy sh => (match ds with
    | [d, x] => WCopy sh d x σ K
    | _ => False)
  | .appz sh bytes zs => (match ds with
    | [s, .v (.int _ n)] => 0 ≤ n ∧ n * bytes ≤ 140737488355328 ∧ WApmV sh bytes s (List.replicate n.toNat (zrow sh zs)) σ K
    | _ => False)
  | .clear zs => (match ds with
    | [x] => WClear zs x σ K
    | _ => False)
  | .cap => (match ds with
    | [x] => WCap x fun d => K d σ
    | _ => False)
  | .mkslm sh => WMkslm sh ds σ K
  | .mksld sh => WMksld sh ds σ K
  | .appd sh bytes => (match ds with
    | [s, x] => WApd sh bytes s x σ K
    | _ => False)
  | .mdel kk => (match ds with
    | [.v .mnil, .v k] => keyOk kk k = true ∧ K .undef σ
    | [.map o, .v k] => (match σ.objs[o]? with
      | some (.map es) => dense = false ∧ keyOk kk k = true ∧ keysOk kk es = true ∧ K .undef (σ.put o (.map (merase k es)))
      | _ => False)
    | _ => False)
  | .max => (match ds with
    | [.v (.int k a), .v (.int l b)] => k = l ∧ K (.v (.int k (if b > a then b else a))) σ
    | _ => False)
  | .sto n => (match ds with
    | x :: a :: _ => WStore n a x σ K
    | _ => False)
  | .bind f => (match ds with
    | [x] => K (.bfn f x) σ
    | _ => False)
  | .ibox => (match ds with
    | [x] => (match x.toV with
      | some v => v.cells.all V.one = true ∧ K (.v (.box v.shape v 0)) σ
      | none => False)
    | _ => False)
  | .xbox => (match ds with
    | [x] => x.lies = true ∧ ∀ b, K (.v (.adr b 0)) (σ.add (.known b x.cells))
    | _ => False)
  | .iexp sh => (match ds with
    | [.msl o off len sh' _, .v (.int _ n)] => sh = sh' ∧ 0 ≤ n ∧ n < len ∧ (match σ.objs[o]? with
      | some (.cells cs) => cs ≠ [] ∧ ∀ b, K (.v (.adr b (off + n.toNat * shn sh))) (σ.put o (.known b cs))
      | _ => False)
    | _ => False)
  | .ldk sh => (match ds with
    | [a] => WLdk sh a σ fun d => K d σ
    | _ => False)
  | .give => (match ds with
    | [.msl o 0 len none _] => WGive o len σ K
    | _ => False)
  | .mrange => (match ds with
    | [.v .mnil] => K (.ptr σ.objs.length 0) (σ.add (.iter none 0 []))
    | [.map o] => (match σ.objs[o]? with
      | some (.map es) => dense = true ∧ K (.ptr σ.objs.length 0) (σ.add (.iter (some o) es.length []))
      | _ => False)
    | _ => False)
  | .mnext => (match ds with
    | [.ptr i 0] => (match σ.objs[i]? with
      | some (.iter none _ _) => K (.tup [.v (.bool false)]) σ
      | some (.iter (some o) since seen) => WNext i o since seen σ.objs[o]? σ K
      | _ => False)
    | _ => False)
  | .mentry => (match ds with
    | [.ptr i 0] => (match σ.objs[i]? with
      | some (.iter (some o) since seen) => WEntry o since seen σ.objs[o]? σ K
      | _ => False)
    | _ => False)

/-- THE CONTRACT of a Go function, on abstract values. -/
def ACalls (P : Program) (f : Nat) (ds : List D) (σ : Sg) (R : D → Sg → Prop) : Prop :=
  (∃ fn, P.funcs[f]? = some fn ∧ fn.body.isSome = true ∧ (fn.name == "runtime.NumGoroutine") = false) ∧
  ∀ (m : Gh) (w : World) (us : List Value), Inv σ m w → ds.length = us.length → (∀ (i : Nat) d u, ds[i]? = some d → us[i]? = some u → RepD m w d u) →
    Calls P f us.toArray w fun e w' => ∃ v r σ' m', e = .returned v ∧ R r σ' ∧ Inv σ' m' w' ∧ Ext m w m' w' ∧ RepD m' w' r v

/-- The method of that name of a value of type t, held in an interface. -/
def MethP (P : Program) (t : Nat) (name : String) (g : Nat) : Prop := ∀ (a : Addr) (w : World), (method (P.types.size + Made.depth) t (.pointer (some a)) name).run P w = .ok (g, .pointer (some a)) w
def MethI (P : Program) (t : Nat) (name : String) (g : Nat) : Prop := ∀ (k : IntKind) (n : Int) (w : World), (method (P.types.size + Made.depth) t (.int k n) name).run P w = .ok (g, .int k n) w
/-- A method is called by its name. -/
def WInv (P : Program) (name : String) (d : D) (ds : List D) (σ : Sg) (R : D → Sg → Prop) : Prop := match d with
  | .iface t (.ptr o off) => ∃ g, MethP P t name g ∧ ACalls P g (.ptr o off :: ds) σ R
  | .v (.iface t (.int k n)) => ∃ g, MethI P t name g ∧ ACalls P g (.v (.int k n) :: ds) σ R
  | _ => False

theorem ACalls.mono {P : Program} {f : Nat} {ds : List D} {σ : Sg} {R R' : D → Sg → Prop} (h : ACalls P f ds σ R) (k : ∀ r σ', R r σ' → R' r σ') : ACalls P f ds σ R' :=
  ⟨h.1, fun m w us hI hl hr => (h.2 m w us hI hl hr).mono fun _ _ ⟨v, r, σ', m', h1, h2, h3⟩ => ⟨v, r, σ', m', h1, k _ _ h2, h3⟩⟩

def WOp (P : Program) (op : AOp) (s : List (Nat × D)) (σ : Sg) (K : D → Sg → Prop) : Prop :=
  match op with
  | .mv x => K (ev s x) σ
  | .pick c a b => (match ev s c with
    | .v (.bool p) => (p = true → K (ev s a) σ) ∧ (p = false → K (ev s b) σ)
    | _ => False)
  | .alloc zs => K (.ptr σ.objs.length 0) (σ.add (.cells (zs.map .v)))
  | .box x => (ev s x).lies = true ∧ K (.ptr σ.objs.length 0) (σ.add (.cells (ev s x).cells))
  | .build zs ps => (match fillD (zs.map .v) (ps.map fun p => (p.1, p.2.1, ev s p.2.2)) with
    | some cs => K (mkAgg cs) σ
    | none => False)
  | .mksl sh xs => WMksl sh (xs.map (ev s)) fun v => K (.v v) σ
  | .load sh a => WLoad sh (ev s a) σ fun d => K d σ
  | .store n a x => WStore n (ev s a) (ev s x) σ K
  | .nilck x => WNil (ev s x) fun d => K d σ
  | .bin op k cst x y => WBin P op k cst (ev s x) (ev s y) fun v => K (.v v) σ
  | .un op x => WUn op (ev s x) fun v => K (.v v) σ
  | .conv c x => WConv c (ev s x) fun v => K (.v v) σ
  | .mkif t x => K (mkIface t (ev s x)) σ
  | .mkfn f caps => K (match caps with | [] => .v (.fn f) | caps => .fn f (caps.map (ev s))) σ
  | .slice k x lo hi mx => WSl k (ev s x) (lo.map (ev s)) (hi.map (ev s)) (mx.map (ev s)) fun d => K d σ
  | .faddr off x => WFaddr off (ev s x) fun d => K d σ
  | .field sh off x => WField sh off (ev s x) fun d => K d σ
  | .iaddr sh x i => WIaddr sh (ev s x) (ev s i) fun d => K d σ
  | .index x i => WIndex (ev s x) (ev s i) fun v => K (.v v) σ
  | .extract x i => WExtract (ev s x) i fun d => K d σ
  | .call f args => (match ev s f with
    | .v (.fn g) => ACalls P g (args.map (ev s)) σ K
    | .fn g caps => ACalls P g (args.map (ev s) ++ caps) σ K
    | .bfn g d => ACalls P g (d :: args.map (ev s)) σ K
    | _ => False)
  | .inv name x args => WInv P name (ev s x) (args.map (ev s)) σ K
  | .len k x => WLen k (ev s x) σ fun v => K (.v v) σ
  | .append sh bytes s' x => WAppend sh bytes (ev s s') (ev s x) σ K
  | .min xs => WMin (xs.map (ev s)) fun v => K (.v v) σ
  | .ext x xs => WX x (xs.map (ev s)) σ K

def WO (P : Program) : List RO → List (Nat × D) → Sg → (List (Nat × D) → Sg → Prop) → Prop
  | [], s, σ, K => K s σ
  | ⟨dst, g, op⟩ :: r, s, σ, K =>
    match g with
    | none => WOp P op s σ fun d σ' => WO P r (push dst d s) σ' K
    | some (n, want) => match look s n with
      | .v (.bool p) => (p = want → WOp P op ((n, .v (.bool want)) :: s) σ fun d σ' => WO P r (push dst d ((n, .v (.bool want)) :: s)) σ' K) ∧
          (p = !want → WO P r (push dst .undef ((n, .v (.bool (!want))) :: s)) σ K)
      | .tup [] => WO P r (push dst .undef s) σ K
      | _ => False

/-- What was there is there still, and is the same. -/
def Keep (σ σ' : Sg) : Prop := ∀ (o : Nat) ob, σ.objs[o]? = some ob → σ'.objs[o]? = some ob
theorem Keep.refl (σ : Sg) : Keep σ σ := fun _ _ h => h
theorem Keep.trans {a b c : Sg} (h : Keep a b) (k : Keep b c) : Keep a c := fun o ob e => k o ob (h o ob e)

/-- What an operation looks into: an object, or some of its cells. -/
structure Rd where
  o : Nat
  p : Option (Sh × Nat)
def rdD : D → List Rd
  | .ptr o _ => [⟨o, none⟩]
  | .map o => [⟨o, none⟩]
  | _ => []
def rdL (sh : Sh) : D → List Rd
  | .ptr o off => [⟨o, some (sh, off)⟩]
  | _ => []
def rdH : List D → List Rd
  | d :: _ => rdD d
  | [] => []
def AOp.reads (s : List (Nat × D)) : AOp → List Rd
  | .load sh a => rdL sh (ev s a)
  | .len _ x => rdD (ev s x)
  | .ext _ xs => rdH (xs.map (ev s))
  | _ => []
/-- An operation that looks into no object. -/
def AOp.blind : AOp → Bool
  | .load _ _ => false
  | .len _ _ => false
  | .ext _ _ => false
  | _ => true
theorem AOp.blind_reads {op : AOp} (h : op.blind = true) (s : List (Nat × D)) : op.reads s = [] := by
  cases op <;> first | rfl | cases h
def KeepRd (sh : Sh) (off : Nat) (cs cs' : List D) : Prop := match sh with
  | none => cs'[off]? = cs[off]?
  | some n => (cs'.drop off).take n = (cs.drop off).take n ∧ cs'.length = cs.length
/-- What is looked into there is still what it was. -/
def Rd.ok (r : Rd) (σ σ' : Sg) : Prop := ∀ ob, σ.objs[r.o]? = some ob → σ'.objs[r.o]? = some ob ∨ (match r.p with
  | none => False
  | some (sh, off) => ∃ cs cs', ob = .cells cs ∧ σ'.objs[r.o]? = some (.cells cs') ∧ KeepRd sh off cs cs')
def KeepOn (rds : List Rd) (σ σ' : Sg) : Prop := ∀ r ∈ rds, r.ok σ σ'

def E.tmps : E → List Nat
  | .t n => [n]
  | .c _ => []
def E.otmps : Option E → List Nat
  | some e => e.tmps
  | none => []

def AOp.tmps : AOp → List Nat
  | .mv x => x.tmps
  | .pick c a b => c.tmps ++ (a.tmps ++ b.tmps)
  | .alloc _ => []
  | .box x => x.tmps
  | .build _ ps => ps.flatMap fun p => p.2.2.tmps
  | .mksl _ xs => xs.flatMap E.tmps
  | .load _ a => a.tmps
  | .store _ a x => a.tmps ++ x.tmps
  | .nilck x => x.tmps
  | .bin _ _ _ x y => x.tmps ++ y.tmps
  | .un _ x => x.tmps
  | .conv _ x => x.tmps
  | .mkif _ x => x.tmps
  | .mkfn _ caps => caps.flatMap E.tmps
  | .slice _ x lo hi mx => x.tmps ++ (E.otmps lo ++ (E.otmps hi ++ E.otmps mx))
  | .faddr _ x => x.tmps
  | .field _ _ x => x.tmps
  | .iaddr _ x i => x.tmps ++ i.tmps
  | .index x i => x.tmps ++ i.tmps
  | .extract x _ => x.tmps
  | .call f args => f.tmps ++ args.flatMap E.tmps
  | .inv _ x args => x.tmps ++ args.flatMap E.tmps
  | .len _ x => x.tmps
  | .append _ _ s x => s.tmps ++ x.tmps
  | .min xs => xs.flatMap E.tmps
  | .ext _ xs => xs.flatMap E.tmps

def RO.tmps (r : RO) : List Nat := (match r.g with | some (n, _) => [n] | none => []) ++ r.op.tmps

/-- What has been done so far in a region, the last first, with what was looked into. -/
abbrev Hist := List (RO × List Rd)
def RO.feeds (q : RO) (L : List Nat) : Bool := match q.dst with
  | some d => L.contains d
  | none => false
/-- What was looked into by operations on which these temporaries do not hang. -/
def loose : List Nat → Hist → List Rd
  | _, [] => []
  | L, (q, rd) :: h => if q.feeds L = true then loose (q.tmps ++ L) h else rd ++ loose L h
/-- A region whose order is drawn, in one order of all; where the mark is false, what may come later must not see it (hist: what has been looked into). -/
def WOx (P : Program) : Hist → List (RO × Bool) → List (Nat × D) → Sg → (List (Nat × D) → Sg → Prop) → Prop
  | _, [], s, σ, K => K s σ
  | h, (r, b) :: rs, s, σ, K => WO P [r] s σ fun s' σ' => (b = true ∨ Keep σ σ' ∨ KeepOn (loose r.tmps h) σ σ') ∧ WOx P ((r, r.op.reads s) :: h) rs s' σ' K

/-- As WOx; what comes after is told what has been done. -/
def WOxH (P : Program) : Hist → List (RO × Bool) → List (Nat × D) → Sg → (Hist → List (Nat × D) → Sg → Prop) → Prop
  | h, [], s, σ, K => K h s σ
  | h, (r, b) :: rs, s, σ, K => WO P [r] s σ fun s' σ' => (b = true ∨ Keep σ σ' ∨ KeepOn (loose r.tmps h) σ σ') ∧ WOxH P ((r, r.op.reads s) :: h) rs s' σ' K

structure St where
  env : List (Nat × D)
  σ : Sg

/-- Less is known of the second, of what the first is known to be. (B: what was there when the function began.) -/
def Weak (B : Sg) (st st' : St) : Prop :=
  (∀ n, look st.env n = .junk → look st'.env n = .junk) ∧
  ∀ (m0 m : Gh) (w0 w : World) (tmps : Array Value), Inv B m0 w0 → Ext m0 w0 m w → Inv st.σ m w → (∀ n, RepD m w (look st.env n) (tmps.getD n undef)) →
    ∃ m', Inv st'.σ m' w ∧ (∀ n, RepD m' w (look st'.env n) (tmps.getD n undef)) ∧ Ext m0 w0 m' w

inductive XE where
  | normal
  | exit (id : Nat)
  | ret
  deriving DecidableEq

def W (P : Program) (B : Sg) : X → (XE → St → Prop) → St → Prop
  | .skip, Q, st => Q .normal st
  | .reg os ops, Q, st => WO P ops st.env st.σ fun s σ' => Q .normal ⟨outs os s st.env, σ'⟩
  | .any os ops, Q, st => WOx P [] ops st.env st.σ fun s σ' => Q .normal ⟨outs os s st.env, σ'⟩
  | .alt os q c al l r, Q, st => WOxH P [] q st.env st.σ fun h s σ' => WOx P h (c :: (l ++ al :: r)) s σ' (fun s σ' => Q .normal ⟨outs os s st.env, σ'⟩) ∧ WOx P h (al :: c :: (l ++ r)) s σ' (fun s σ' => Q .normal ⟨outs os s st.env, σ'⟩)
  | .seq a b, Q, st => W P B a (fun e st' => match e with | .normal => W P B b Q st' | e => Q e st') st
  | .cond c a b, Q, st => (match ev st.env c with
    | .v (.bool p) => (p = true → W P B a Q st) ∧ (p = false → W P B b Q st)
    | _ => False)
  | .block id a, Q, st => W P B a (fun e st' => match e with | .exit j => if j = id then Q .normal st' else Q (.exit j) st' | e => Q e st') st
  | .loop a, Q, st => ∃ (I : Nat → St → Prop), (∃ n st0, Weak B st st0 ∧ I n st0) ∧
      ∀ n st', I n st' → W P B a (fun e st2 => match e with | .normal => ∃ n' st3, n' < n ∧ Weak B st2 st3 ∧ I n' st3 | e => Q e st2) st'
  | .exit id, Q, st => Q (.exit id) st
  | .ret, Q, st => Q .ret st

end Go.Abs
