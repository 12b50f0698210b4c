/-
  The model's code, turned into the small language; what its weakest precondition says holds of a call. (Own work; seat-independent.)
-/
import Derived.Test.YtbifjffjibnjjaaDoorAbsXb
set_option linter.unusedVariables false
set_option linter.unusedSimpArgs false
namespace Go.Abs
open Go

/-! ### Turning the code -/

def tsh (P : Program) (t : TypeId) : Option Sh :=
  match P.info? t, P.underlying t with
  | some i, some d => if d.isRow = true then some (some i.size) else if i.size = 1 then some none else none
  | _, _ => none

theorem tsh_spec {P : Program} {t : TypeId} {sh : Sh} (h : tsh P t = some sh) :
    ∃ i d, P.info? t = some i ∧ P.underlying t = some d ∧ (match (generalizing := false) sh with | none => d.isRow = false | some n => d.isRow = true ∧ i.size = n) ∧ i.size = shn sh := by
  unfold tsh at h
  split at h
  · rename_i i d hi hd
    split at h
    · rename_i hr
      cases h
      exact ⟨i, d, hi, hd, ⟨hr, rfl⟩, rfl⟩
    · rename_i hr
      split at h
      · rename_i h1
        cases h
        exact ⟨i, d, hi, hd, by simpa using hr, h1⟩
      · cases h
  · cases h

def skinds (P : Program) : List Field → Option (List SK)
  | [] => some []
  | f :: fs => match skinds P fs with
    | none => none
    | some ks => match P.underlying f.type with
      | some (.int _) => some (.int :: ks)
      | some .bool => some (.bool :: ks)
      | some .string => some (.str :: ks)
      | _ => none

def eqk (P : Program) (t : TypeId) : EqK :=
  match P.underlying t with
  | some .bool => .bool
  | some (.pointer _) => .ptr
  | some (.interface _) => .ifc
  | some (.slice _) => .sl
  | some (.map _ _) => .mp
  | some (.func _ _ _) => .fn
  | some (.struct fs) => (match skinds P fs.toList with
    | some ks => if plainFields P 0 ks fs.toList = true ∧ P.stoodInHeld t = false ∧ P.eqGuardType P.depth t = false then .struct ks else .other
    | none => .other)
  | _ => .other

theorem eqk_ok (P : Program) (t : TypeId) : EqOk P t (eqk P t) := by
  unfold eqk
  split <;> first
    | exact ‹_›
    | exact ⟨_, ‹_›⟩
    | exact ⟨_, _, ‹_›⟩
    | exact ⟨_, _, _, ‹_›⟩
    | skip
  · rename_i fs hfs
    split
    · split
      · rename_i h
        obtain ⟨h1, h2, h3⟩ := h
        have : P.fieldsOf t = fs := by simp [Program.fieldsOf, hfs]
        exact ⟨by rw [this]; exact hfs, h2, h3, by rw [this]; exact h1⟩
      · trivial
    · trivial
  · trivial

def zipP (places : List (Nat × Nat)) : List Nat → List E → Option (List (Nat × Nat × E))
  | [], [] => some []
  | i :: is, e :: es => match places[i]?, zipP places is es with
    | some q, some r => some ((q.1, q.2, e) :: r)
    | _, _ => none
  | _, _ => none

theorem zipP_spec {places : List (Nat × Nat)} : ∀ {is : List Nat} {es : List E} {ds : List (Nat × Nat × E)}, zipP places is es = some ds →
    ds.length = is.length ∧ ∀ (i : Nat) k e, is[i]? = some k → es[i]? = some e → ∃ q, places[k]? = some q ∧ ds[i]? = some (q.1, q.2, e)
  | [], [], ds, h => by cases h; simp
  | [], e :: es, ds, h => by cases h
  | i :: is, [], ds, h => by cases h
  | i :: is, e :: es, ds, h => by
    simp only [zipP] at h
    split at h
    · rename_i q r hq hr
      cases h
      obtain ⟨h1, h2⟩ := zipP_spec hr
      refine ⟨by simp [h1], fun j k e' hk he => ?_⟩
      cases j with
      | zero => simp at hk he; subst hk he; exact ⟨q, hq, rfl⟩
      | succ j => simp at hk he; simpa using h2 j k e' hk he
    · cases h

def compBuild (P : Program) (t : TypeId) (ps : List (Nat × Operand)) : Option AOp :=
  match P.info? t, P.underlying t with
  | some it, some (.struct fields) =>
    match it.zero, fields.toList.mapM (fun f => (P.info? f.type).map fun i => (f.offset, i.size)), cEs (ps.map (·.2)) with
    | some z, some places, some es =>
      match cV z, zipP places (ps.map (·.1)) es with
      | some x, some ds => some (.build x.cells ds)
      | _, _ => none
    | _, _, _ => none
  | _, _ => none

def compMksl (P : Program) (t : TypeId) (len : Nat) (ps : List (Nat × Operand)) : Option AOp :=
  match P.underlying t with
  | some (.slice e) =>
    match P.info? e, tsh P e, cEs (ps.map (·.2)) with
    | some ie, some sh, some es =>
      match ie.zero with
      | some z => if 0 < ie.size ∧ z.cells.size = ie.size ∧ len = ps.length ∧ ps.map (·.1) = List.range ps.length ∧ len * ie.size ≤ 2 ^ 24 then some (.mksl sh es) else none
      | none => none
    | _, _, _ => none
  | _ => none

def compMkslm (P : Program) (t : TypeId) (len : Nat) (ps : List (Nat × Operand)) : Option AOp :=
  match compMksl P t len ps with
  | some (.mksl sh es) => some (.ext (.mkslm sh) es)
  | _ => none

def compMksld (P : Program) (t : TypeId) (len : Nat) (ps : List (Nat × Operand)) : Option AOp :=
  match compMksl P t len ps with
  | some (.mksl sh es) => some (.ext (.mksld sh) es)
  | _ => none

def compConv (P : Program) (src dst : TypeId) (x : Operand) : Option AOp :=
  match cE x, P.underlying src, P.underlying dst with
  | some ex, some ds, some (.int k) => some (.conv (.toInt k) ex)
  | some ex, some (.slice e), some .string => (match P.underlying e with
    | some (.int .u8) => some (.conv .ofBytes ex)
    | _ => none)
  | some ex, some .string, some .string => some (.conv .strs ex)
  | some ex, some (.int _), some .string => some (.conv .rune ex)
  | some ex, some .string, some (.slice e) => (match P.underlying e with
    | some (.int .u8) => some (.conv .toBytes ex)
    | _ => none)
  | some ex, some (.slice _), some (.slice e) => (match P.underlying e with
    | some (.int .u8) => if src = dst then some (.ext .give [ex]) else none
    | _ => none)
  | _, _, _ => none

def compSlice (P : Program) (t : TypeId) (x : Operand) (lo hi mx : Option Operand) : Option AOp :=
  match cE x, cEo lo, cEo hi, cEo mx, P.underlying t with
  | some ex, some el, some eh, some none, some .string => some (.slice .str ex el eh none)
  | some ex, some el, some eh, some em, some (.slice e) => (match tsh P e with
    | some sh => if mx.isSome = true → hi.isSome = true then some (.slice (.sl sh) ex el eh em) else none
    | none => none)
  | _, _, _, _, _ => none

def compLen (P : Program) (t : TypeId) (x : Operand) : Option AOp :=
  match cE x, P.underlying t with
  | some ex, some .string => some (.len .str ex)
  | some ex, some (.slice _) => some (.len .sl ex)
  | some ex, some (.map _ _) => some (.len .mp ex)
  | _, _ => none

def runsB : TypeDesc → Bool
  | .slice _ | .string => true
  | _ => false

def compAppend (P : Program) (t u : TypeId) (x y : Operand) : Option AOp :=
  match cE x, cE y, P.underlying t, P.underlying u with
  | some ex, some ey, some (.slice e), some d =>
    match P.info? e, tsh P e with
    | some i, some sh =>
      match i.zero with
      | some z => if runsB d = true ∧ z.cells.size = shn sh ∧ 0 < i.bytes then some (.append sh i.bytes ex ey) else none
      | none => none
    | _, _ => none
  | _, _, _, _ => none

def isIfc : TypeDesc → Bool
  | .interface _ => true
  | _ => false

def compKK (P : Program) (t : TypeId) : Option KK :=
  match P.underlying t with
  | some (.int k) => some (.int k)
  | some .string => some .str
  | some (.struct fs) => if fs.size = 2 ∧ P.stoodInHeld t = false ∧ plainFields P 0 [.int, .str] (P.fieldsOf t).toList = true then (match (P.fieldsOf t)[0]? with | some f => (match P.underlying f.type with | some (.int k) => some (.pair k) | _ => none) | none => none) else none
  | _ => none
theorem compKK_ok {P : Program} {t : TypeId} {kk : KK} (h : compKK P t = some kk) : kkTy P t kk := by
  unfold compKK at h
  split at h
  · cases h; assumption
  · cases h; assumption
  · rename_i fs hu
    split at h
    · rename_i hc
      have hf : P.fieldsOf t = fs := by simp [Program.fieldsOf, hu]
      split at h
      · split at h
        · cases h
          exact ⟨by rw [hf]; exact hu, hc.2.1, hc.2.2⟩
        · cases h
      · cases h
    · cases h
  · cases h

def compPut (P : Program) (t : TypeId) (x y z : Operand) : Option AOp :=
  match cE x, cE y, cE z, P.underlying t with
  | some ex, some ey, some ez, some (.map kt _) => (match compKK P kt with | some kk => some (.ext (.mput kk) [ex, ey, ez]) | none => none)
  | _, _, _, _ => none

def compGet (P : Program) (t : TypeId) (x y : Operand) (ok : Bool) : Option AOp :=
  match cE x, cE y, P.underlying t with
  | some ex, some ey, some (.map kt et) =>
    match compKK P kt, P.info? et with
    | some kk, some i => (match i.zero with
      | some zv => (match cV zv with | some z => some (.ext (.mget kk ok z) [ex, ey]) | none => none)
      | none => none)
    | _, _ => none
  | _, _, _ => none

def compAppm (P : Program) (t u : TypeId) (x y : Operand) : Option AOp :=
  match cE x, cE y, P.underlying t, P.underlying u with
  | some ex, some ey, some (.slice e), some d =>
    match P.info? e, tsh P e with
    | some i, some sh =>
      match i.zero with
      | some z => (match cV z with
        | some _ => if runsB d = true ∧ z.cells.size = shn sh ∧ 0 < i.bytes ∧ 0 < shn sh then some (.ext (.appm sh i.bytes) [ex, ey]) else none
        | none => none)
      | none => none
    | _, _ => none
  | _, _, _, _ => none

def compAppd (P : Program) (t u : TypeId) (x y : Operand) : Option AOp :=
  match compAppm P t u x y with
  | some (.ext (.appm sh b) es) => some (.ext (.appd sh b) es)
  | _ => none

def compAppz (P : Program) (t u : TypeId) (x y : Operand) : Option AOp :=
  match cE x, cE y, P.underlying t, P.underlying u with
  | some ex, some ey, some (.slice e), some (.int _) =>
    match P.info? e, tsh P e with
    | some i, some sh =>
      match i.zero with
      | some zv => (match cV zv with
        | some z => if zv.cells.size = shn sh ∧ 0 < i.bytes ∧ 0 < shn sh then some (.ext (.appz sh i.bytes z.cells) [ex, ey]) else none
        | none => none)
      | none => none
    | _, _ => none
  | _, _, _, _ => none

def compClear (P : Program) (t : TypeId) (x : Operand) : Option AOp :=
  match cE x, P.underlying t with
  | some ex, some (.slice e) => (match P.info? e with
    | some i => (match i.zero with
      | some zv => (match cV zv with
        | some z => some (.ext (.clear z.cells) [ex])
        | none => none)
      | none => none)
    | none => none)
  | _, _ => none

def compMkvec (P : Program) (t : TypeId) (x y : Operand) : Option AOp :=
  match cE x, cE y, P.underlying t with
  | some ex, some ey, some (.slice e) =>
    match P.info? e, tsh P e with
    | some i, some sh =>
      match i.zero with
      | some zv => (match cV zv with
        | some z => if zv.cells.size = shn sh ∧ 0 < i.bytes ∧ 0 < shn sh then some (.ext (.mkvec sh i.bytes z.cells) [ex, ey]) else none
        | none => none)
      | none => none
    | _, _ => none
  | _, _, _ => none

def compCopy (P : Program) (t : TypeId) (x y : Operand) : Option AOp :=
  match cE x, cE y, P.underlying t with
  | some ex, some ey, some (.slice e) => (match tsh P e with
    | some sh => some (.ext (.copy sh) [ex, ey])
    | none => none)
  | _, _, _ => none

def compCap (P : Program) (t : TypeId) (x : Operand) : Option AOp :=
  match cE x, P.underlying t with
  | some ex, some (.slice _) => some (.ext .cap [ex])
  | _, _ => none

def compDel (P : Program) (t : TypeId) (x y : Operand) : Option AOp :=
  match cE x, cE y, P.underlying t with
  | some ex, some ey, some (.map kt _) => (match compKK P kt with | some kk => if kk.scal = true then some (.ext (.mdel kk) [ex, ey]) else none | none => none)
  | _, _, _ => none

def compRange (P : Program) (t : TypeId) (x : Operand) : Option AOp :=
  match cE x, P.underlying t with
  | some ex, some (.map _ _) => some (.ext .mrange [ex])
  | _, _ => none

def compCall (P : Program) (c : Call) (mu : Bool) : Option AOp :=
  match c.callee with
  | .builtin .len => (match c.args.toList, c.argTypes.toList with
    | [x], [t] => compLen P t x
    | _, _ => none)
  | .builtin .append => (match c.args.toList, c.argTypes.toList with
    | [x, y], [t, u] => if mu = true then (match compAppm P t u x y with | some op => some op | none => compAppz P t u x y) else (match compAppend P t u x y with | some op => some op | none => compAppz P t u x y)
    | _, _ => none)
  | .builtin .copy => (match c.args.toList, c.argTypes.toList with
    | [x, y], [t, _] => compCopy P t x y
    | _, _ => none)
  | .builtin .clear => (match c.args.toList, c.argTypes.toList with
    | [x], [t] => compClear P t x
    | _, _ => none)
  | .builtin .delete => (match c.args.toList, c.argTypes.toList with
    | [x, y], [t, _] => compDel P t x y
    | _, _ => none)
  | .builtin .cap => (match c.args.toList, c.argTypes.toList with
    | [x], [t] => compCap P t x
    | _, _ => none)
  | .builtin .max => (match c.args.toList with
    | [x, y] => (match cE x, cE y with
      | some ex, some ey => some (.ext .max [ex, ey])
      | _, _ => none)
    | _ => none)
  | .builtin .min => (match c.args.toList with
    | [x, y] => (match cE x, cE y with
      | some ex, some ey => some (.min [ex, ey])
      | _, _ => none)
    | _ => none)
  | .value f => (match cE f, cEs c.args.toList with
    | some ef, some es => some (.call ef es)
    | _, _ => none)
  | .invoke x name => (match cE x, cEs c.args.toList with
    | some ex, some es => some (.inv name ex es)
    | _, _ => none)
  | _ => none

def compCallD (P : Program) (c : Call) : Option AOp :=
  match c.callee with
  | .builtin .append => (match c.args.toList, c.argTypes.toList with
    | [x, y], [t, u] => compAppd P t u x y
    | _, _ => none)
  | _ => none

/-- Is its outcome among those that may be written to? -/
def inMs (ms : List Nat) : Option Nat → Bool
  | some d => ms.contains d
  | none => false

/-- Is it a struct that may be written to later, by whoever has its address? -/
def inMs2 (ms : List Nat) : Option Nat → Bool
  | some d => ms.contains (d + 1000000)
  | none => false

def comp (P : Program) (o : Oper) (ms : List Nat := []) : Option AOp :=
  match o.op with
  | .makeMap _ none => some (.ext .mkmap [])
  | .mapUpdate t x y z => compPut P t x y z
  | .insert t x y z => compPut P t x y z
  | .lookup t x y ok => compGet P t x y ok
  | .panic _ => some (.ext .stop [])
  | .range t x => compRange P t x
  | .next x false => (match cE x with | some e => some (.ext .mnext [e]) | none => none)
  | .entry x => (match cE x with | some e => some (.ext .mentry [e]) | none => none)
  | .move x => (match cE x with | some e => some (.mv e) | none => none)
  | .assign x => (match cE x with | some e => some (.mv e) | none => none)
  | .pick c x y => (match cE c, cE x, cE y with | some c, some x, some y => some (.pick c x y) | _, _, _ => none)
  | .alloc e => (match P.info? e with
    | some i => (match i.zero with
      | some z => (match cV z with | some x => some (.alloc x.cells) | none => none)
      | none => none)
    | none => none)
  | .box _ x => (match cE x with | some e => some (if inMs2 ms o.dst = true then .ext .xbox [e] else if inMs ms o.dst = true then .ext .ibox [e] else .box e) | none => none)
  | .build t ps => compBuild P t ps.toList
  | .buildSlice t len ps => if inMs2 ms o.dst = true then compMksld P t len ps.toList else if inMs ms o.dst = true then compMkslm P t len ps.toList else compMksl P t len ps.toList
  | .load t x => (match cE x, tsh P t with | some e, some sh => some (if inMs ms o.dst = true then .ext (.ldk sh) [e] else .load sh e) | _, _ => none)
  | .store t x y => (match cE x, cE y, P.info? t with | some e, some f, some i => some (.store i.size e f) | _, _, _ => none)
  | .nilCheck x => (match cE x with | some e => some (.nilck e) | none => none)
  | .binOp op t x y _ => (match cE x, cE y with | some e, some f => some (.bin op (eqk P t) (isConstOp x || isConstOp y) e f) | _, _ => none)
  | .unOp op _ x => (match cE x with | some e => some (.un op e) | none => none)
  | .convert src dst x => compConv P src dst x
  | .makeInterface t x => (match cE x, P.underlying t with
    | some e, some d => if isIfc d = true then none else some (.mkif t e)
    | _, _ => none)
  | .makeFunc (.func f) first caps => if first = #[] then (match cEs caps.toList with | some es => some (.mkfn f es) | none => none) else if caps = #[] then (match first.toList with | [x] => (match cE x with | some ex => some (.ext (.bind f) [ex]) | none => none) | _ => none) else none
  | .slice t x lo hi mx => compSlice P t x lo hi mx
  | .fieldAddr t x fi => (match cE x, P.underlying t with
    | some e, some (.struct fields) => (match fields[fi]? with
      | some f => (match P.info? f.type with | some i => if i.size ≠ 0 then some (.faddr f.offset e) else none | none => none)
      | none => none)
    | _, _ => none)
  | .field t x fi => (match cE x, P.underlying t with
    | some e, some (.struct fields) => (match fields[fi]? with
      | some f => (match tsh P f.type with | some sh => some (.field sh f.offset e) | none => none)
      | none => none)
    | _, _ => none)
  | .indexAddr t x y => (match cE x, cE y, P.underlying t with
    | some e, some f, some (.slice el) => (match tsh P el with | some sh => some (if inMs ms o.dst = true then .ext (.iexp sh) [e, f] else .iaddr sh e f) | none => none)
    | _, _, _ => none)
  | .index t x y => (match cE x, cE y, P.underlying t with
    | some e, some f, some .string => some (.index e f)
    | _, _, _ => none)
  | .extract x i => (match cE x with | some e => some (.extract e i) | none => none)
  | .makeSlice t x y => compMkvec P t x y
  | .call c => if inMs2 ms o.dst = true then compCallD P c else compCall P c (inMs ms o.dst)
  | _ => none

theorem arr1 {α : Type} {a : Array α} {x : α} (h : a.toList = [x]) : a = #[x] := Array.ext' (by simpa using h)
theorem arr2 {α : Type} {a : Array α} {x y : α} (h : a.toList = [x, y]) : a = #[x, y] := Array.ext' (by simpa using h)

theorem compCallD_ok {P : Program} {o : Oper} {c : Call} {O : AOp} (ho : o.op = .call c) (h : compCallD P c = some O) : OpOk P o O := by
  obtain ⟨callee, args, ts⟩ := c
  unfold compCallD at h
  dsimp only at h
  split at h
  · split at h
    · rename_i x y t u hx ht
      have h1 := arr2 hx
      have h2 := arr2 ht
      subst h1 h2
      unfold compAppd at h
      split at h
      · rename_i hop
        cases h
        unfold compAppm at hop
        split at hop
        · rename_i ex ey e d hex hey hut huu
          split at hop
          · rename_i i sh hi hsh
            split at hop
            · rename_i z hz
              split at hop
              · rename_i zx hzx
                split at hop
                · rename_i hc
                  cases hop
                  obtain ⟨i', d', hi', hd', _, hsz⟩ := tsh_spec hsh
                  rw [hi] at hi'
                  cases hi'
                  refine ok_appd ho hex hey hut huu ?_ hi hz hzx hsz hc.2.1 hc.2.2.1 hc.2.2.2
                  have hr := hc.1
                  cases d <;> simp [runsB] at hr
                  · exact .inr rfl
                  · exact .inl ⟨_, rfl⟩
                · cases hop
              · cases hop
            · cases hop
          · cases hop
        · cases hop
      · cases h
    · cases h
  · cases h

theorem compCall_ok {P : Program} {o : Oper} {c : Call} {O : AOp} {mu : Bool} (ho : o.op = .call c) (h : compCall P c mu = some O) : OpOk P o O := by
  obtain ⟨callee, args, ts⟩ := c
  unfold compCall at h
  dsimp only at h
  split at h
  · split at h
    · rename_i x t hx ht
      have h1 := arr1 hx
      have h2 := arr1 ht
      subst h1 h2
      unfold compLen at h
      split at h <;> first
        | (cases h; done)
        | skip
      · cases h; exact ok_len ho ‹_› ‹_› rfl
      · cases h; exact ok_len ho ‹_› ‹_› ⟨_, rfl⟩
      · cases h; exact ok_len ho ‹_› ‹_› ⟨_, _, rfl⟩
    · cases h
  · split at h
    · rename_i x y t u hx ht
      have h1 := arr2 hx
      have h2 := arr2 ht
      subst h1 h2
      have hz : ∀ O', compAppz P t u x y = some O' → OpOk P o O' := by
        intro O' h
        unfold compAppz at h
        split at h
        · split at h
          · split at h
            · split at h
              · split at h
                · rename_i hc
                  cases h
                  have hie := ‹P.info? _ = some _›
                  obtain ⟨i', d', hi', hd', _, hsz⟩ := tsh_spec ‹tsh P _ = some _›
                  rw [hie] at hi'
                  cases hi'
                  exact ok_appz ho ‹_› ‹_› ‹_› ‹_› hie ‹_› ‹_› hsz hc.1 hc.2.1 hc.2.2
                · cases h
              · cases h
            · cases h
          · cases h
        · cases h
      split at h
      · split at h
        · rename_i op hop
          cases h
          unfold compAppm at hop
          split at hop
          · rename_i ex ey e d hex hey hut huu
            split at hop
            · rename_i i sh hi hsh
              split at hop
              · rename_i z hz
                split at hop
                · rename_i zx hzx
                  split at hop
                  · rename_i hc
                    cases hop
                    obtain ⟨i', d', hi', hd', _, hsz⟩ := tsh_spec hsh
                    rw [hi] at hi'
                    cases hi'
                    refine ok_appm ho hex hey hut huu ?_ hi hz hzx hsz hc.2.1 hc.2.2.1 hc.2.2.2
                    have hr := hc.1
                    cases d <;> simp [runsB] at hr
                    · exact .inr rfl
                    · exact .inl ⟨_, rfl⟩
                  · cases hop
                · cases hop
              · cases hop
            · cases hop
          · cases hop
        · exact hz _ h
      · split at h
        · rename_i op hop
          cases h
          unfold compAppend at hop
          split at hop
          · rename_i ex ey e d hex hey hut huu
            split at hop
            · rename_i i sh hi hsh
              split at hop
              · rename_i z hz
                split at hop
                · rename_i hc
                  cases hop
                  obtain ⟨i', d', hi', hd', _, hsz⟩ := tsh_spec hsh
                  rw [hi] at hi'
                  cases hi'
                  refine ok_append ho hex hey hut huu ?_ hi hz hsz hc.2.1 hc.2.2
                  have hr := hc.1
                  cases d <;> simp [runsB] at hr
                  · exact .inr rfl
                  · exact .inl ⟨_, rfl⟩
                · cases hop
              · cases hop
            · cases hop
          · cases hop
        · exact hz _ h
    · cases h
  · split at h
    · rename_i x y t u hx ht
      have h1 := arr2 hx
      have h2 := arr2 ht
      subst h1 h2
      unfold compCopy at h
      split at h
      · split at h
        · rename_i sh hsh
          cases h
          obtain ⟨i, d, hi', hd, _, hsz⟩ := tsh_spec hsh
          exact ok_copy ho ‹_› ‹_› ‹_› hi' hsz
        · cases h
      · cases h
    · cases h
  · split at h
    · rename_i x t hx ht
      have h1 := arr1 hx
      have h2 := arr1 ht
      subst h1 h2
      unfold compClear at h
      split at h
      · split at h
        · split at h
          · split at h
            · cases h; exact ok_clear ho ‹_› ‹_› ‹_› ‹_› ‹_›
            · cases h
          · cases h
        · cases h
      · cases h
    · cases h
  · split at h
    · rename_i x y t u hx ht
      have h1 := arr2 hx
      have h2 := arr2 ht
      subst h1 h2
      unfold compDel at h
      split at h
      · split at h
        · split at h
          · rename_i hsc
            cases h
            exact ok_mdel ho ‹_› ‹_› ‹_› (compKK_ok ‹_›) hsc
          · cases h
        · cases h
      · cases h
    · cases h
  · split at h
    · rename_i x t hx ht
      have h1 := arr1 hx
      have h2 := arr1 ht
      subst h1 h2
      unfold compCap at h
      split at h
      · cases h; exact ok_cap ho ‹_› ‹_›
      · cases h
    · cases h
  · split at h
    · rename_i x y hx
      have h1 := arr2 hx
      subst h1
      split at h
      · cases h; exact ok_max ho ‹_› ‹_›
      · cases h
    · cases h
  · split at h
    · rename_i x y hx
      have h1 := arr2 hx
      subst h1
      split at h
      · cases h; exact ok_min ho ‹_› ‹_›
      · cases h
    · cases h
  · split at h
    · cases h; exact ok_call ho ‹_› ‹_›
    · cases h
  · split at h
    · cases h; exact ok_inv ho ‹_› ‹_›
    · cases h
  · cases h

theorem compMksl_is {P : Program} {t : TypeId} {len : Nat} {ps : List (Nat × Operand)} {O : AOp} (h : compMksl P t len ps = some O) : ∃ sh es, O = .mksl sh es := by
  unfold compMksl at h
  split at h
  · split at h
    · split at h
      · split at h
        · cases h; exact ⟨_, _, rfl⟩
        · cases h
      · cases h
    · cases h
  · cases h
theorem compMksl_both {P : Program} {o : Oper} {t : TypeId} {len : Nat} {ps : Array (Nat × Operand)} {sh : Sh} {es : List E} (ho : o.op = .buildSlice t len ps) (h : compMksl P t len ps.toList = some (.mksl sh es)) : OpOk P o (.mksl sh es) ∧ OpOk P o (.ext (.mkslm sh) es) ∧ OpOk P o (.ext (.mksld sh) es) := by
  unfold compMksl at h
  split at h
  · split at h
    · split at h
      · split at h
        · rename_i hc
          have hie := ‹P.info? _ = some _›
          obtain ⟨i', d', hi', hd', _, hsz⟩ := tsh_spec ‹tsh P _ = some _›
          rw [hie] at hi'
          cases hi'
          cases h
          exact ⟨ok_mksl ho ‹_› hie ‹_› hsz hc.1 hc.2.1 (by simpa using hc.2.2.1) (by simpa using hc.2.2.2.1) hc.2.2.2.2 ‹_›,
            ok_mkslm ho ‹_› hie ‹_› hsz hc.1 hc.2.1 (by simpa using hc.2.2.1) (by simpa using hc.2.2.2.1) hc.2.2.2.2 ‹_›,
            ok_mksld ho ‹_› hie ‹_› hsz hc.1 hc.2.1 (by simpa using hc.2.2.1) (by simpa using hc.2.2.2.1) hc.2.2.2.2 ‹_›⟩
        · cases h
      · cases h
    · cases h
  · cases h

theorem compPut_ok {P : Program} {o : Oper} {O : AOp} {t : TypeId} {x y z : Operand} (ho : o.op = .mapUpdate t x y z ∨ o.op = .insert t x y z) (h : compPut P t x y z = some O) : OpOk P o O := by
  unfold compPut at h
  split at h
  · split at h
    · cases h; exact ok_mput ho ‹_› ‹_› ‹_› ‹_› (compKK_ok ‹_›)
    · cases h
  · cases h

theorem comp_ok {P : Program} {o : Oper} {O : AOp} {ms : List Nat} (h : comp P o ms = some O) : OpOk P o O := by
  unfold comp at h
  split at h
  · cases h; exact ok_mkmap ‹_›
  · exact compPut_ok (.inl ‹_›) h
  · exact compPut_ok (.inr ‹_›) h
  · unfold compGet at h
    split at h
    · split at h
      · split at h
        · split at h
          · cases h; exact ok_mget ‹_› ‹_› ‹_› ‹_› (compKK_ok ‹_›) ‹_› ‹_› ‹_›
          · cases h
        · cases h
      · cases h
    · cases h
  · cases h; exact ok_stop []
  · unfold compRange at h
    split at h
    · cases h; exact ok_mrange ‹_› ‹_› ‹_›
    · cases h
  · split at h
    · cases h; exact ok_mnext ‹_› ‹_›
    · cases h
  · split at h
    · cases h; exact ok_mentry ‹_› ‹_›
    · cases h
  · split at h
    · cases h; exact ok_mv (.inl ‹_›) ‹_›
    · cases h
  · split at h
    · cases h; exact ok_mv (.inr ‹_›) ‹_›
    · cases h
  · split at h
    · cases h; exact ok_pick ‹_› ‹_› ‹_› ‹_›
    · cases h
  · split at h
    · split at h
      · split at h
        · cases h; exact ok_alloc ‹_› ‹_› ‹_› ‹_›
        · cases h
      · cases h
    · cases h
  · split at h
    · cases h
      split
      · exact ok_xbox ‹_› ‹_›
      · split
        · exact ok_ibox ‹_› ‹_›
        · exact ok_box ‹_› ‹_›
    · cases h
  · rename_i t ps ho
    unfold compBuild at h
    split at h
    · split at h
      · split at h
        · cases h
          obtain ⟨h1, h2⟩ := zipP_spec ‹zipP _ _ _ = some _›
          refine ok_build ho ‹_› ‹_› ‹_› ‹_› ‹_› ‹_› (by simpa using h1) fun i p e hp he => ?_
          exact h2 i p.1 e (by simp [List.getElem?_map, hp]) he
        · cases h
      · cases h
    · cases h
  · rename_i t len ps ho
    split at h
    · unfold compMksld at h
      split at h
      · rename_i sh es hc
        cases h
        exact (compMksl_both ho hc).2.2
      · cases h
    · split at h
      · unfold compMkslm at h
        split at h
        · rename_i sh es hc
          cases h
          exact (compMksl_both ho hc).2.1
        · cases h
      · obtain ⟨sh, es, rfl⟩ := compMksl_is h
        exact (compMksl_both ho h).1
  · split at h
    · rename_i e sh he hsh
      cases h
      obtain ⟨i, d, hi, hd, hq, hsz⟩ := tsh_spec hsh
      split
      · exact ok_ldk ‹_› he hd hi hq
      · exact ok_load ‹_› he hd hi hq
    · cases h
  · split at h
    · cases h; exact ok_store ‹_› ‹_› ‹_› ‹_› rfl
    · cases h
  · split at h
    · cases h; exact ok_nilck ‹_› ‹_›
    · cases h
  · split at h
    · cases h; exact ok_bin ‹_› ‹_› ‹_› (eqk_ok P _)
    · cases h
  · split at h
    · cases h; exact ok_un ‹_› ‹_›
    · cases h
  · rename_i src dst x ho
    unfold compConv at h
    split at h
    · cases h; exact ok_conv_int ho ‹_› ‹_› ‹_›
    · split at h
      · cases h; exact ok_conv_of ho ‹_› ‹_› ‹_› ‹_›
      · cases h
    · cases h; exact ok_conv_str ho ‹_› ‹_› ‹_›
    · cases h; exact ok_conv_rune ho ‹_› ‹_› ‹_›
    · split at h
      · cases h; exact ok_conv_to ho ‹_› ‹_› ‹_› ‹_›
      · cases h
    · split at h
      · split at h
        · rename_i hsd
          subst hsd
          cases h; exact ok_give ho ‹_› ‹_› ‹_›
        · cases h
      · cases h
    · cases h
  · split at h
    · split at h
      · cases h
      · rename_i hni
        cases h
        exact ok_mkif ‹_› ‹_› ‹_› fun ms hms => hni (by rw [hms]; rfl)
    · cases h
  · split at h
    · rename_i f first caps ho hf
      subst hf
      split at h
      · cases h; exact ok_mkfn ho ‹_›
      · cases h
    · rename_i f first caps ho hf
      split at h
      · rename_i hcap
        subst hcap
        split at h
        · rename_i x hx1
          split at h
          · cases h
            have hfirst : first = #[x] := by
              apply Array.ext'
              simpa using hx1
            subst hfirst
            exact ok_bind ho ‹_›
          · cases h
        · cases h
      · cases h
  · rename_i t x lo hi mx ho
    unfold compSlice at h
    split at h
    · rename_i ex el eh hx hlo hhi hmx hu
      cases h
      have : mx = none := by
        cases mx with
        | none => rfl
        | some m => simp only [cEo] at hmx; split at hmx <;> cases hmx
      subst this
      exact ok_slice_str ho hx hlo hhi hu
    · split at h
      · rename_i sh hsh
        split at h
        · rename_i hmh
          cases h
          obtain ⟨i, d, hi', hd, _, hsz⟩ := tsh_spec hsh
          exact ok_slice_sl ho ‹_› ‹_› ‹_› ‹_› hmh ‹_› hi' hsz
        · cases h
      · cases h
    · cases h
  · split at h
    · split at h
      · split at h
        · split at h
          · cases h; exact ok_faddr ‹_› ‹_› ‹_› ‹_› ‹_› ‹_›
          · cases h
        · cases h
      · cases h
    · cases h
  · split at h
    · split at h
      · split at h
        · rename_i sh hsh
          cases h
          obtain ⟨i, d, hi', hd, hq, hsz⟩ := tsh_spec hsh
          exact ok_field ‹_› ‹_› ‹_› ‹_› hd hi' hq
        · cases h
      · cases h
    · cases h
  · split at h
    · split at h
      · rename_i sh hsh
        cases h
        obtain ⟨i, d, hi', hd, hq, hsz⟩ := tsh_spec hsh
        split
        · exact ok_iexp ‹_› ‹_› ‹_› ‹_› hi' hsz
        · exact ok_iaddr ‹_› ‹_› ‹_› ‹_› hi' hsz
      · cases h
    · cases h
  · split at h
    · cases h; exact ok_index ‹_› ‹_› ‹_› ‹_›
    · cases h
  · split at h
    · cases h; exact ok_extract ‹_› ‹_›
    · cases h
  · unfold compMkvec at h
    split at h
    · split at h
      · split at h
        · split at h
          · split at h
            · rename_i hc
              cases h
              have hie := ‹P.info? _ = some _›
              obtain ⟨i', d', hi', hd', _, hsz⟩ := tsh_spec ‹tsh P _ = some _›
              rw [hie] at hi'
              cases hi'
              exact ok_mkvec ‹_› ‹_› ‹_› ‹_› hie ‹_› ‹_› hsz hc.1 hc.2.1 hc.2.2
            · cases h
          · cases h
        · cases h
      · cases h
    · cases h
  · split at h
    · exact compCallD_ok ‹_› h
    · exact compCall_ok ‹_› h
  · cases h

/-- What isn't covered is turned into an operation that must not be reached. -/
def stoT (ph : List Nat) : AOp → AOp
  | .store n a x => (match ph with
    | [] => .store n a x
    | p :: ph => .ext (.sto n) (x :: a :: (p :: ph).map .t))
  | op => op
theorem stoT_ok {P : Program} {o : Oper} {op : AOp} (ph : List Nat) (h : OpOk P o op) : OpOk P o (stoT ph op) := by
  unfold stoT
  split
  · split
    · exact h
    · exact h
  · exact h
def compT (P : Program) (o : Oper) (ms : List Nat := []) (ph : List Nat := []) : Option AOp :=
  match comp P o ms with
  | some op => some (stoT ph op)
  | none => some (.ext .stop [])
theorem compT_ok {P : Program} {o : Oper} {O : AOp} {ms ph : List Nat} (h : compT P o ms ph = some O) : OpOk P o O := by
  unfold compT at h
  split at h
  · rename_i op hop
    cases h
    exact stoT_ok ph (comp_ok hop)
  · cases h
    exact ok_stop []

end Go.Abs
