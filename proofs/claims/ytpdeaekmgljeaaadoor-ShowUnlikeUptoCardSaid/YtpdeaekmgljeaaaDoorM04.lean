/-
  The model's code, turned into the small language; what its weakest precondition says holds of a call. (Own work; seat-independent.)
-/
import Derived.Test.YtpdeaekmgljeaaaDoorM03
import Derived.Lib.SlBytesConst
set_option linter.unusedVariables false
set_option linter.unusedSimpArgs false
namespace Go.Abs
open Go

/-! ### Turning the code -/

def tsh (P : Program) (t : TypeId) : Option Sh :=
  match P.info? t, P.underlying t with
  | some i, some d => if d.isRow = true then some (some i.size) else if i.size = 1 then some none else none
  | _, _ => none

theorem tsh_spec {P : Program} {t : TypeId} {sh : Sh} (h : tsh P t = some sh) :
    ∃ i d, P.info? t = some i ∧ P.underlying t = some d ∧ (match (generalizing := false) sh with | none => d.isRow = false | some n => d.isRow = true ∧ i.size = n) ∧ i.size = shn sh := by
  unfold tsh at h
  split at h
  · rename_i i d hi hd
    split at h
    · rename_i hr
      cases h
      exact ⟨i, d, hi, hd, ⟨hr, rfl⟩, rfl⟩
    · rename_i hr
      split at h
      · rename_i h1
        cases h
        exact ⟨i, d, hi, hd, by simpa using hr, h1⟩
      · cases h
  · cases h

def skinds (P : Program) : List Field → Option (List SK)
  | [] => some []
  | f :: fs => match skinds P fs with
    | none => none
    | some ks => match P.underlying f.type with
      | some (.int _) => some (.int :: ks)
      | some .bool => some (.bool :: ks)
      | some .string => some (.str :: ks)
      | _ => none

def eqk (P : Program) (t : TypeId) : EqK :=
  match P.underlying t with
  | some .bool => .bool
  | some (.pointer _) => .ptr
  | some (.interface _) => .ifc
  | some (.slice _) => .sl
  | some (.map _ _) => .mp
  | some (.func _ _ _) => .fn
  | some (.struct fs) => (match skinds P fs.toList with
    | some ks => if plainFields P 0 ks fs.toList = true ∧ P.stoodInHeld t = false ∧ P.eqGuardType P.depth t = false then .struct ks else .other
    | none => .other)
  | _ => .other

theorem eqk_ok (P : Program) (t : TypeId) : EqOk P t (eqk P t) := by
  unfold eqk
  split <;> first
    | exact ‹_›
    | exact ⟨_, ‹_›⟩
    | exact ⟨_, _, ‹_›⟩
    | exact ⟨_, _, _, ‹_›⟩
    | skip
  · rename_i fs hfs
    split
    · split
      · rename_i h
        obtain ⟨h1, h2, h3⟩ := h
        have : P.fieldsOf t = fs := by simp [Program.fieldsOf, hfs]
        exact ⟨by rw [this]; exact hfs, h2, h3, by rw [this]; exact h1⟩
      · trivial
    · trivial
  · trivial

def zipP (places : List (Nat × Nat)) : List Nat → List E → Option (List (Nat × Nat × E))
  | [], [] => some []
  | i :: is, e :: es => match places[i]?, zipP places is es with
    | some q, some r => some ((q.1, q.2, e) :: r)
    | _, _ => none
  | _, _ => none

theorem zipP_spec {places : List (Nat × Nat)} : ∀ {is : List Nat} {es : List E} {ds : List (Nat × Nat × E)}, zipP places is es = some ds →
    ds.length = is.length ∧ ∀ (i : Nat) k e, is[i]? = some k → es[i]? = some e → ∃ q, places[k]? = some q ∧ ds[i]? = some (q.1, q.2, e)
  | [], [], ds, h => by cases h; simp
  | [], e :: es, ds, h => by cases h
  | i :: is, [], ds, h => by cases h
  | i :: is, e :: es, ds, h => by
    simp only [zipP] at h
    split at h
    · rename_i q r hq hr
      cases h
      obtain ⟨h1, h2⟩ := zipP_spec hr
      refine ⟨by simp [h1], fun j k e' hk he => ?_⟩
      cases j with
      | zero => simp at hk he; subst hk he; exact ⟨q, hq, rfl⟩
      | succ j => simp at hk he; simpa using h2 j k e' hk he
    · cases h

def compBuild (P : Program) (t : TypeId) (ps : List (Nat × Operand)) : Option AOp :=
  match P.info? t, P.underlying t with
  | some it, some (.struct fields) =>
    match it.zero, fields.toList.mapM (fun f => (P.info? f.type).map fun i => (f.offset, i.size)), cEs (ps.map (·.2)) with
    | some z, some places, some es =>
      match cV z, zipP places (ps.map (·.1)) es with
      | some x, some ds => some (.build x.cells ds)
      | _, _ => none
    | _, _, _ => none
  | _, _ => none

def compMksl (P : Program) (t : TypeId) (len : Nat) (ps : List (Nat × Operand)) : Option AOp :=
  match P.underlying t with
  | some (.slice e) =>
    match P.info? e, tsh P e, cEs (ps.map (·.2)) with
    | some ie, some sh, some es =>
      match ie.zero with
      | some z => if 0 < ie.size ∧ z.cells.size = ie.size ∧ len = ps.length ∧ ps.map (·.1) = List.range ps.length ∧ len * ie.size ≤ 2 ^ 24 then some (.mksl sh es) else none
      | none => none
    | _, _, _ => none
  | _ => none

def compMkslm (P : Program) (t : TypeId) (len : Nat) (ps : List (Nat × Operand)) : Option AOp :=
  match compMksl P t len ps with
  | some (.mksl sh es) => some (.ext (.mkslm sh) es)
  | _ => none

def compConv (P : Program) (src dst : TypeId) (x : Operand) : Option AOp :=
  match cE x, P.underlying src, P.underlying dst with
  | some ex, some ds, some (.int k) => some (.conv (.toInt k) ex)
  | some ex, some (.slice e), some .string => (match P.underlying e with
    | some (.int .u8) => some (.conv .ofBytes ex)
    | _ => none)
  | some ex, some .string, some .string => some (.conv .strs ex)
  | some ex, some .string, some (.slice e) => (match P.underlying e with
    | some (.int .u8) => some (.conv .toBytes ex)
    | _ => none)
  | some ex, some (.slice _), some (.slice e) => (match P.underlying e with
    | some (.int .u8) => if src = dst then some (.ext .give [ex]) else none
    | _ => none)
  | _, _, _ => none

def compSlice (P : Program) (t : TypeId) (x : Operand) (lo hi mx : Option Operand) : Option AOp :=
  match cE x, cEo lo, cEo hi, cEo mx, P.underlying t with
  | some ex, some el, some eh, some none, some .string => some (.slice .str ex el eh none)
  | some ex, some el, some eh, some em, some (.slice e) => (match tsh P e with
    | some sh => if mx.isSome = true → hi.isSome = true then some (.slice (.sl sh) ex el eh em) else none
    | none => none)
  | _, _, _, _, _ => none

def compLen (P : Program) (t : TypeId) (x : Operand) : Option AOp :=
  match cE x, P.underlying t with
  | some ex, some .string => some (.len .str ex)
  | some ex, some (.slice _) => some (.len .sl ex)
  | some ex, some (.map _ _) => some (.len .mp ex)
  | _, _ => none

def runsB : TypeDesc → Bool
  | .slice _ | .string => true
  | _ => false

def compAppend (P : Program) (t u : TypeId) (x y : Operand) : Option AOp :=
  match cE x, cE y, P.underlying t, P.underlying u with
  | some ex, some ey, some (.slice e), some d =>
    match P.info? e, tsh P e with
    | some i, some sh =>
      match i.zero with
      | some z => if runsB d = true ∧ z.cells.size = shn sh ∧ 0 < i.bytes then some (.append sh i.bytes ex ey) else none
      | none => none
    | _, _ => none
  | _, _, _, _ => none

def isIfc : TypeDesc → Bool
  | .interface _ => true
  | _ => false

def compKK (P : Program) (t : TypeId) : Option KK :=
  match P.underlying t with
  | some (.int k) => some (.int k)
  | some .string => some .str
  | some (.struct fs) => if fs.size = 2 ∧ P.stoodInHeld t = false ∧ plainFields P 0 [.int, .str] (P.fieldsOf t).toList = true then (match (P.fieldsOf t)[0]? with | some f => (match P.underlying f.type with | some (.int k) => some (.pair k) | _ => none) | none => none) else none
  | _ => none
theorem compKK_ok {P : Program} {t : TypeId} {kk : KK} (h : compKK P t = some kk) : kkTy P t kk := by
  unfold compKK at h
  split at h
  · cases h; assumption
  · cases h; assumption
  · rename_i fs hu
    split at h
    · rename_i hc
      have hf : P.fieldsOf t = fs := by simp [Program.fieldsOf, hu]
      split at h
      · split at h
        · cases h
          exact ⟨by rw [hf]; exact hu, hc.2.1, hc.2.2⟩
        · cases h
      · cases h
    · cases h
  · cases h

def compPut (P : Program) (t : TypeId) (x y z : Operand) : Option AOp :=
  match cE x, cE y, cE z, P.underlying t with
  | some ex, some ey, some ez, some (.map kt _) => (match compKK P kt with | some kk => some (.ext (.mput kk) [ex, ey, ez]) | none => none)
  | _, _, _, _ => none

def compGet (P : Program) (t : TypeId) (x y : Operand) (ok : Bool) : Option AOp :=
  match cE x, cE y, P.underlying t with
  | some ex, some ey, some (.map kt et) =>
    match compKK P kt, P.info? et with
    | some kk, some i => (match i.zero with
      | some zv => (match cV zv with | some z => some (.ext (.mget kk ok z) [ex, ey]) | none => none)
      | none => none)
    | _, _ => none
  | _, _, _ => none

def compAppm (P : Program) (t u : TypeId) (x y : Operand) : Option AOp :=
  match cE x, cE y, P.underlying t, P.underlying u with
  | some ex, some ey, some (.slice e), some d =>
    match P.info? e, tsh P e with
    | some i, some sh =>
      match i.zero with
      | some z => (match cV z with
        | some _ => if runsB d = true ∧ z.cells.size = shn sh ∧ 0 < i.bytes ∧ 0 < shn sh then some (.ext (.appm sh i.bytes) [ex, ey]) else none
        | none => none)
      | none => none
    | _, _ => none
  | _, _, _, _ => none

def compAppz (P : Program) (t u : TypeId) (x y : Operand) : Option AOp :=
  match cE x, cE y, P.underlying t, P.underlying u with
  | some ex, some ey, some (.slice e), some (.int _) =>
    match P.info? e, tsh P e with
    | some i, some sh =>
      match i.zero with
      | some zv => (match cV zv with
        | some z => if zv.cells.size = shn sh ∧ 0 < i.bytes ∧ 0 < shn sh then some (.ext (.appz sh i.bytes z.cells) [ex, ey]) else none
        | none => none)
      | none => none
    | _, _ => none
  | _, _, _, _ => none

def compClear (P : Program) (t : TypeId) (x : Operand) : Option AOp :=
  match cE x, P.underlying t with
  | some ex, some (.slice e) => (match P.info? e with
    | some i => (match i.zero with
      | some zv => (match cV zv with
        | some z => some (.ext (.clear z.cells) [ex])
        | none => none)
      | none => none)
    | none => none)
  | _, _ => none

def compMkvec (P : Program) (t : TypeId) (x y : Operand) : Option AOp :=
  match cE x, cE y, P.underlying t with
  | some ex, some ey, some (.slice e) =>
    match P.info? e, tsh P e with
    | some i, some sh =>
      match i.zero with
      | some zv => (match cV zv with
        | some z => if zv.cells.size = shn sh ∧ 0 < i.bytes ∧ 0 < shn sh then some (.ext (.mkvec sh i.bytes z.cells) [ex, ey]) else none
        | none => none)
      | none => none
    | _, _ => none
  | _, _, _ => none

def compCopy (P : Program) (t : TypeId) (x y : Operand) : Option AOp :=
  match cE x, cE y, P.underlying t with
  | some ex, some ey, some (.slice e) => (match tsh P e with
    | some sh => some (.ext (.copy sh) [ex, ey])
    | none => none)
  | _, _, _ => none

def compCap (P : Program) (t : TypeId) (x : Operand) : Option AOp :=
  match cE x, P.underlying t with
  | some ex, some (.slice _) => some (.ext .cap [ex])
  | _, _ => none

def compDel (P : Program) (t : TypeId) (x y : Operand) : Option AOp :=
  match cE x, cE y, P.underlying t with
  | some ex, some ey, some (.map kt _) => (match compKK P kt with | some kk => if kk.scal = true then some (.ext (.mdel kk) [ex, ey]) else none | none => none)
  | _, _, _ => none

def compRange (P : Program) (t : TypeId) (x : Operand) : Option AOp :=
  match cE x, P.underlying t with
  | some ex, some (.map _ _) => some (.ext .mrange [ex])
  | _, _ => none

def compCall (P : Program) (c : Call) (mu : Bool) : Option AOp :=
  match c.callee with
  | .builtin .len => (match c.args.toList, c.argTypes.toList with
    | [x], [t] => compLen P t x
    | _, _ => none)
  | .builtin .append => (match c.args.toList, c.argTypes.toList with
    | [x, y], [t, u] => if mu = true then (match compAppm P t u x y with | some op => some op | none => compAppz P t u x y) else (match compAppend P t u x y with | some op => some op | none => compAppz P t u x y)
    | _, _ => none)
  | .builtin .copy => (match c.args.toList, c.argTypes.toList with
    | [x, y], [t, _] => compCopy P t x y
    | _, _ => none)
  | .builtin .clear => (match c.args.toList, c.argTypes.toList with
    | [x], [t] => compClear P t x
    | _, _ => none)
  | .builtin .delete => (match c.args.toList, c.argTypes.toList with
    | [x, y], [t, _] => compDel P t x y
    | _, _ => none)
  | .builtin .cap => (match c.args.toList, c.argTypes.toList with
    | [x], [t] => compCap P t x
    | _, _ => none)
  | .builtin .max => (match c.args.toList with
    | [x, y] => (match cE x, cE y with
      | some ex, some ey => some (.ext .max [ex, ey])
      | _, _ => none)
    | _ => none)
  | .builtin .min => (match c.args.toList with
    | [x, y] => (match cE x, cE y with
      | some ex, some ey => some (.min [ex, ey])
      | _, _ => none)
    | _ => none)
  | .value f => (match cE f, cEs c.args.toList with
    | some ef, some es => some (.call ef es)
    | _, _ => none)
  | .invoke x name => (match cE x, cEs c.args.toList with
    | some ex, some es => some (.inv name ex es)
    | _, _ => none)
  | _ => none

/-- Is its outcome among those that may be written to? -/
def inMs (ms : List Nat) : Option Nat → Bool
  | some d => ms.contains d
  | none => false

def comp (P : Program) (o : Oper) (ms : List Nat := []) : Option AOp :=
  match o.op with
  | .makeMap _ none => some (.ext .mkmap [])
  | .mapUpdate t x y z => compPut P t x y z
  | .insert t x y z => compPut P t x y z
  | .lookup t x y ok => compGet P t x y ok
  | .panic _ => some (.ext .stop [])
  | .range t x => compRange P t x
  | .next x false => (match cE x with | some e => some (.ext .mnext [e]) | none => none)
  | .entry x => (match cE x with | some e => some (.ext .mentry [e]) | none => none)
  | .move x => (match cE x with | some e => some (.mv e) | none => none)
  | .assign x => (match cE x with | some e => some (.mv e) | none => none)
  | .pick c x y => (match cE c, cE x, cE y with | some c, some x, some y => some (.pick c x y) | _, _, _ => none)
  | .alloc e => (match P.info? e with
    | some i => (match i.zero with
      | some z => (match cV z with | some x => some (.alloc x.cells) | none => none)
      | none => none)
    | none => none)
  | .box _ x => (match cE x with | some e => some (.box e) | none => none)
  | .build t ps => compBuild P t ps.toList
  | .buildSlice t len ps => if inMs ms o.dst = true then compMkslm P t len ps.toList else compMksl P t len ps.toList
  | .load t x => (match cE x, tsh P t with | some e, some sh => some (.load sh e) | _, _ => none)
  | .store t x y => (match cE x, cE y, P.info? t with | some e, some f, some i => some (.store i.size e f) | _, _, _ => none)
  | .nilCheck x => (match cE x with | some e => some (.nilck e) | none => none)
  | .binOp op t x y _ => (match cE x, cE y with | some e, some f => some (.bin op (eqk P t) (isConstOp x || isConstOp y) e f) | _, _ => none)
  | .unOp op _ x => (match cE x with | some e => some (.un op e) | none => none)
  | .convert src dst x => compConv P src dst x
  | .makeInterface t x => (match cE x, P.underlying t with
    | some e, some d => if isIfc d = true then none else some (.mkif t e)
    | _, _ => none)
  | .makeFunc (.func f) first caps => if first = #[] then (match cEs caps.toList with | some es => some (.mkfn f es) | none => none) else if caps = #[] then (match first.toList with | [x] => (match cE x with | some ex => some (.ext (.bind f) [ex]) | none => none) | _ => none) else none
  | .slice t x lo hi mx => compSlice P t x lo hi mx
  | .fieldAddr t x fi => (match cE x, P.underlying t with
    | some e, some (.struct fields) => (match fields[fi]? with
      | some f => (match P.info? f.type with | some i => if i.size ≠ 0 then some (.faddr f.offset e) else none | none => none)
      | none => none)
    | _, _ => none)
  | .field t x fi => (match cE x, P.underlying t with
    | some e, some (.struct fields) => (match fields[fi]? with
      | some f => (match tsh P f.type with | some sh => some (.field sh f.offset e) | none => none)
      | none => none)
    | _, _ => none)
  | .indexAddr t x y => (match cE x, cE y, P.underlying t with
    | some e, some f, some (.slice el) => (match tsh P el with | some sh => some (.iaddr sh e f) | none => none)
    | _, _, _ => none)
  | .index t x y => (match cE x, cE y, P.underlying t with
    | some e, some f, some .string => some (.index e f)
    | _, _, _ => none)
  | .extract x i => (match cE x with | some e => some (.extract e i) | none => none)
  | .makeSlice t x y => compMkvec P t x y
  | .call c => compCall P c (inMs ms o.dst)
  | _ => none

theorem arr1 {α : Type} {a : Array α} {x : α} (h : a.toList = [x]) : a = #[x] := Array.ext' (by simpa using h)
theorem arr2 {α : Type} {a : Array α} {x y : α} (h : a.toList = [x, y]) : a = #[x, y] := Array.ext' (by simpa using h)

theorem compCall_ok {P : Program} {o : Oper} {c : Call} {O : AOp} {mu : Bool} (ho : o.op = .call c) (h : compCall P c mu = some O) : OpOk P o O := by
  obtain ⟨callee, args, ts⟩ := c
  unfold compCall at h
  dsimp only at h
  split at h
  · split at h
    · rename_i x t hx ht
      have h1 := arr1 hx
      have h2 := arr1 ht
      subst h1 h2
      unfold compLen at h
      split at h <;> first
        | (cases h; done)
        | skip
      · cases h; exact ok_len ho ‹_› ‹_› rfl
      · cases h; exact ok_len ho ‹_› ‹_› ⟨_, rfl⟩
      · cases h; exact ok_len ho ‹_› ‹_› ⟨_, _, rfl⟩
    · cases h
  · split at h
    · rename_i x y t u hx ht
      have h1 := arr2 hx
      have h2 := arr2 ht
      subst h1 h2
      have hz : ∀ O', compAppz P t u x y = some O' → OpOk P o O' := by
        intro O' h
        unfold compAppz at h
        split at h
        · split at h
          · split at h
            · split at h
              · split at h
                · rename_i hc
                  cases h
                  have hie := ‹P.info? _ = some _›
                  obtain ⟨i', d', hi', hd', _, hsz⟩ := tsh_spec ‹tsh P _ = some _›
                  rw [hie] at hi'
                  cases hi'
                  exact ok_appz ho ‹_› ‹_› ‹_› ‹_› hie ‹_› ‹_› hsz hc.1 hc.2.1 hc.2.2
                · cases h
              · cases h
            · cases h
          · cases h
        · cases h
      split at h
      · split at h
        · rename_i op hop
          cases h
          unfold compAppm at hop
          split at hop
          · rename_i ex ey e d hex hey hut huu
            split at hop
            · rename_i i sh hi hsh
              split at hop
              · rename_i z hz
                split at hop
                · rename_i zx hzx
                  split at hop
                  · rename_i hc
                    cases hop
                    obtain ⟨i', d', hi', hd', _, hsz⟩ := tsh_spec hsh
                    rw [hi] at hi'
                    cases hi'
                    refine ok_appm ho hex hey hut huu ?_ hi hz hzx hsz hc.2.1 hc.2.2.1 hc.2.2.2
                    have hr := hc.1
                    cases d <;> simp [runsB] at hr
                    · exact .inr rfl
                    · exact .inl ⟨_, rfl⟩
                  · cases hop
                · cases hop
              · cases hop
            · cases hop
          · cases hop
        · exact hz _ h
      · split at h
        · rename_i op hop
          cases h
          unfold compAppend at hop
          split at hop
          · rename_i ex ey e d hex hey hut huu
            split at hop
            · rename_i i sh hi hsh
              split at hop
              · rename_i z hz
                split at hop
                · rename_i hc
                  cases hop
                  obtain ⟨i', d', hi', hd', _, hsz⟩ := tsh_spec hsh
                  rw [hi] at hi'
                  cases hi'
                  refine ok_append ho hex hey hut huu ?_ hi hz hsz hc.2.1 hc.2.2
                  have hr := hc.1
                  cases d <;> simp [runsB] at hr
                  · exact .inr rfl
                  · exact .inl ⟨_, rfl⟩
                · cases hop
              · cases hop
            · cases hop
          · cases hop
        · exact hz _ h
    · cases h
  · split at h
    · rename_i x y t u hx ht
      have h1 := arr2 hx
      have h2 := arr2 ht
      subst h1 h2
      unfold compCopy at h
      split at h
      · split at h
        · rename_i sh hsh
          cases h
          obtain ⟨i, d, hi', hd, _, hsz⟩ := tsh_spec hsh
          exact ok_copy ho ‹_› ‹_› ‹_› hi' hsz
        · cases h
      · cases h
    · cases h
  · split at h
    · rename_i x t hx ht
      have h1 := arr1 hx
      have h2 := arr1 ht
      subst h1 h2
      unfold compClear at h
      split at h
      · split at h
        · split at h
          · split at h
            · cases h; exact ok_clear ho ‹_› ‹_› ‹_› ‹_› ‹_›
            · cases h
          · cases h
        · cases h
      · cases h
    · cases h
  · split at h
    · rename_i x y t u hx ht
      have h1 := arr2 hx
      have h2 := arr2 ht
      subst h1 h2
      unfold compDel at h
      split at h
      · split at h
        · split at h
          · rename_i hsc
            cases h
            exact ok_mdel ho ‹_› ‹_› ‹_› (compKK_ok ‹_›) hsc
          · cases h
        · cases h
      · cases h
    · cases h
  · split at h
    · rename_i x t hx ht
      have h1 := arr1 hx
      have h2 := arr1 ht
      subst h1 h2
      unfold compCap at h
      split at h
      · cases h; exact ok_cap ho ‹_› ‹_›
      · cases h
    · cases h
  · split at h
    · rename_i x y hx
      have h1 := arr2 hx
      subst h1
      split at h
      · cases h; exact ok_max ho ‹_› ‹_›
      · cases h
    · cases h
  · split at h
    · rename_i x y hx
      have h1 := arr2 hx
      subst h1
      split at h
      · cases h; exact ok_min ho ‹_› ‹_›
      · cases h
    · cases h
  · split at h
    · cases h; exact ok_call ho ‹_› ‹_›
    · cases h
  · split at h
    · cases h; exact ok_inv ho ‹_› ‹_›
    · cases h
  · cases h

theorem compMksl_is {P : Program} {t : TypeId} {len : Nat} {ps : List (Nat × Operand)} {O : AOp} (h : compMksl P t len ps = some O) : ∃ sh es, O = .mksl sh es := by
  unfold compMksl at h
  split at h
  · split at h
    · split at h
      · split at h
        · cases h; exact ⟨_, _, rfl⟩
        · cases h
      · cases h
    · cases h
  · cases h
theorem compMksl_both {P : Program} {o : Oper} {t : TypeId} {len : Nat} {ps : Array (Nat × Operand)} {sh : Sh} {es : List E} (ho : o.op = .buildSlice t len ps) (h : compMksl P t len ps.toList = some (.mksl sh es)) : OpOk P o (.mksl sh es) ∧ OpOk P o (.ext (.mkslm sh) es) := by
  unfold compMksl at h
  split at h
  · split at h
    · split at h
      · split at h
        · rename_i hc
          have hie := ‹P.info? _ = some _›
          obtain ⟨i', d', hi', hd', _, hsz⟩ := tsh_spec ‹tsh P _ = some _›
          rw [hie] at hi'
          cases hi'
          cases h
          exact ⟨ok_mksl ho ‹_› hie ‹_› hsz hc.1 hc.2.1 (by simpa using hc.2.2.1) (by simpa using hc.2.2.2.1) hc.2.2.2.2 ‹_›,
            ok_mkslm ho ‹_› hie ‹_› hsz hc.1 hc.2.1 (by simpa using hc.2.2.1) (by simpa using hc.2.2.2.1) hc.2.2.2.2 ‹_›⟩
        · cases h
      · cases h
    · cases h
  · cases h

theorem compPut_ok {P : Program} {o : Oper} {O : AOp} {t : TypeId} {x y z : Operand} (ho : o.op = .mapUpdate t x y z ∨ o.op = .insert t x y z) (h : compPut P t x y z = some O) : OpOk P o O := by
  unfold compPut at h
  split at h
  · split at h
    · cases h; exact ok_mput ho ‹_› ‹_› ‹_› ‹_› (compKK_ok ‹_›)
    · cases h
  · cases h

theorem comp_ok {P : Program} {o : Oper} {O : AOp} {ms : List Nat} (h : comp P o ms = some O) : OpOk P o O := by
  unfold comp at h
  split at h
  · cases h; exact ok_mkmap ‹_›
  · exact compPut_ok (.inl ‹_›) h
  · exact compPut_ok (.inr ‹_›) h
  · unfold compGet at h
    split at h
    · split at h
      · split at h
        · split at h
          · cases h; exact ok_mget ‹_› ‹_› ‹_› ‹_› (compKK_ok ‹_›) ‹_› ‹_› ‹_›
          · cases h
        · cases h
      · cases h
    · cases h
  · cases h; exact ok_stop []
  · unfold compRange at h
    split at h
    · cases h; exact ok_mrange ‹_› ‹_› ‹_›
    · cases h
  · split at h
    · cases h; exact ok_mnext ‹_› ‹_›
    · cases h
  · split at h
    · cases h; exact ok_mentry ‹_› ‹_›
    · cases h
  · split at h
    · cases h; exact ok_mv (.inl ‹_›) ‹_›
    · cases h
  · split at h
    · cases h; exact ok_mv (.inr ‹_›) ‹_›
    · cases h
  · split at h
    · cases h; exact ok_pick ‹_› ‹_› ‹_› ‹_›
    · cases h
  · split at h
    · split at h
      · split at h
        · cases h; exact ok_alloc ‹_› ‹_› ‹_› ‹_›
        · cases h
      · cases h
    · cases h
  · split at h
    · cases h; exact ok_box ‹_› ‹_›
    · cases h
  · rename_i t ps ho
    unfold compBuild at h
    split at h
    · split at h
      · split at h
        · cases h
          obtain ⟨h1, h2⟩ := zipP_spec ‹zipP _ _ _ = some _›
          refine ok_build ho ‹_› ‹_› ‹_› ‹_› ‹_› ‹_› (by simpa using h1) fun i p e hp he => ?_
          exact h2 i p.1 e (by simp [List.getElem?_map, hp]) he
        · cases h
      · cases h
    · cases h
  · rename_i t len ps ho
    split at h
    · unfold compMkslm at h
      split at h
      · rename_i sh es hc
        cases h
        exact (compMksl_both ho hc).2
      · cases h
    · obtain ⟨sh, es, rfl⟩ := compMksl_is h
      exact (compMksl_both ho h).1
  · split at h
    · rename_i e sh he hsh
      cases h
      obtain ⟨i, d, hi, hd, hq, hsz⟩ := tsh_spec hsh
      exact ok_load ‹_› he hd hi hq
    · cases h
  · split at h
    · cases h; exact ok_store ‹_› ‹_› ‹_› ‹_› rfl
    · cases h
  · split at h
    · cases h; exact ok_nilck ‹_› ‹_›
    · cases h
  · split at h
    · cases h; exact ok_bin ‹_› ‹_› ‹_› (eqk_ok P _)
    · cases h
  · split at h
    · cases h; exact ok_un ‹_› ‹_›
    · cases h
  · rename_i src dst x ho
    unfold compConv at h
    split at h
    · cases h; exact ok_conv_int ho ‹_› ‹_› ‹_›
    · split at h
      · cases h; exact ok_conv_of ho ‹_› ‹_› ‹_› ‹_›
      · cases h
    · cases h; exact ok_conv_str ho ‹_› ‹_› ‹_›
    · split at h
      · cases h; exact ok_conv_to ho ‹_› ‹_› ‹_› ‹_›
      · cases h
    · split at h
      · split at h
        · rename_i hsd
          subst hsd
          cases h; exact ok_give ho ‹_› ‹_› ‹_›
        · cases h
      · cases h
    · cases h
  · split at h
    · split at h
      · cases h
      · rename_i hni
        cases h
        exact ok_mkif ‹_› ‹_› ‹_› fun ms hms => hni (by rw [hms]; rfl)
    · cases h
  · split at h
    · rename_i f first caps ho hf
      subst hf
      split at h
      · cases h; exact ok_mkfn ho ‹_›
      · cases h
    · rename_i f first caps ho hf
      split at h
      · rename_i hcap
        subst hcap
        split at h
        · rename_i x hx1
          split at h
          · cases h
            have hfirst : first = #[x] := by
              apply Array.ext'
              simpa using hx1
            subst hfirst
            exact ok_bind ho ‹_›
          · cases h
        · cases h
      · cases h
  · rename_i t x lo hi mx ho
    unfold compSlice at h
    split at h
    · rename_i ex el eh hx hlo hhi hmx hu
      cases h
      have : mx = none := by
        cases mx with
        | none => rfl
        | some m => simp only [cEo] at hmx; split at hmx <;> cases hmx
      subst this
      exact ok_slice_str ho hx hlo hhi hu
    · split at h
      · rename_i sh hsh
        split at h
        · rename_i hmh
          cases h
          obtain ⟨i, d, hi', hd, _, hsz⟩ := tsh_spec hsh
          exact ok_slice_sl ho ‹_› ‹_› ‹_› ‹_› hmh ‹_› hi' hsz
        · cases h
      · cases h
    · cases h
  · split at h
    · split at h
      · split at h
        · split at h
          · cases h; exact ok_faddr ‹_› ‹_› ‹_› ‹_› ‹_› ‹_›
          · cases h
        · cases h
      · cases h
    · cases h
  · split at h
    · split at h
      · split at h
        · rename_i sh hsh
          cases h
          obtain ⟨i, d, hi', hd, hq, hsz⟩ := tsh_spec hsh
          exact ok_field ‹_› ‹_› ‹_› ‹_› hd hi' hq
        · cases h
      · cases h
    · cases h
  · split at h
    · split at h
      · rename_i sh hsh
        cases h
        obtain ⟨i, d, hi', hd, hq, hsz⟩ := tsh_spec hsh
        exact ok_iaddr ‹_› ‹_› ‹_› ‹_› hi' hsz
      · cases h
    · cases h
  · split at h
    · cases h; exact ok_index ‹_› ‹_› ‹_› ‹_›
    · cases h
  · split at h
    · cases h; exact ok_extract ‹_› ‹_›
    · cases h
  · unfold compMkvec at h
    split at h
    · split at h
      · split at h
        · split at h
          · split at h
            · rename_i hc
              cases h
              have hie := ‹P.info? _ = some _›
              obtain ⟨i', d', hi', hd', _, hsz⟩ := tsh_spec ‹tsh P _ = some _›
              rw [hie] at hi'
              cases hi'
              exact ok_mkvec ‹_› ‹_› ‹_› ‹_› hie ‹_› ‹_› hsz hc.1 hc.2.1 hc.2.2
            · cases h
          · cases h
        · cases h
      · cases h
    · cases h
  · exact compCall_ok ‹_› h
  · cases h

/-- What isn't covered is turned into an operation that must not be reached. -/
def compT (P : Program) (o : Oper) (ms : List Nat := []) : Option AOp :=
  match comp P o ms with
  | some op => some op
  | none => some (.ext .stop [])
theorem compT_ok {P : Program} {o : Oper} {O : AOp} {ms : List Nat} (h : compT P o ms = some O) : OpOk P o O := by
  unfold compT at h
  split at h
  · rename_i op hop
    cases h
    exact comp_ok hop
  · cases h
    exact ok_stop []

end Go.Abs

/-
  Regions whose order is drawn, on abstract values: what a quiet operation yields does not hang on its turn. (Own work; seat-independent.)
-/
set_option linter.unusedVariables false
set_option linter.unusedSimpArgs false
namespace Go.Abs
open Go

section
variable {P : Program} {s s' : List (Nat × D)}

theorem ev_on {e : E} (h : ∀ n ∈ e.tmps, look s n = look s' n) : ev s e = ev s' e := by
  cases e with
  | t n => exact h n (by simp [E.tmps])
  | c x => rfl

theorem evs_on : ∀ {es : List E}, (∀ n ∈ es.flatMap E.tmps, look s n = look s' n) → es.map (ev s) = es.map (ev s')
  | [], _ => rfl
  | e :: es, h => by
    simp only [List.map_cons]
    rw [ev_on fun n hn => h n (by simp [hn]), evs_on fun n hn => h n (by rw [List.flatMap_cons]; exact List.mem_append.2 (.inr hn))]

theorem evo_on {e : Option E} (h : ∀ n ∈ E.otmps e, look s n = look s' n) : e.map (ev s) = e.map (ev s') := by
  cases e with
  | none => rfl
  | some e => simp only [Option.map_some]; rw [ev_on h]

theorem evp_on : ∀ {ps : List (Nat × Nat × E)}, (∀ n ∈ ps.flatMap (fun p => p.2.2.tmps), look s n = look s' n) → (ps.map fun p => (p.1, p.2.1, ev s p.2.2)) = ps.map fun p => (p.1, p.2.1, ev s' p.2.2)
  | [], _ => rfl
  | p :: ps, h => by
    simp only [List.map_cons]
    rw [ev_on fun n hn => h n (by rw [List.flatMap_cons]; exact List.mem_append.2 (.inl hn)), evp_on fun n hn => h n (by rw [List.flatMap_cons]; exact List.mem_append.2 (.inr hn))]

theorem WOp_on {op : AOp} {σ : Sg} {K : D → Sg → Prop} (h : ∀ n ∈ op.tmps, look s n = look s' n) : WOp P op s σ K = WOp P op s' σ K := by
  cases op <;> simp only [AOp.tmps, List.mem_append] at h <;> simp only [WOp]
  case mv x => rw [ev_on h]
  case pick c a b => rw [ev_on fun n hn => h n (.inl hn), ev_on fun n hn => h n (.inr (.inl hn)), ev_on fun n hn => h n (.inr (.inr hn))]
  case box x => rw [ev_on h]
  case build zs ps => rw [evp_on h]
  case mksl sh xs => rw [evs_on h]
  case load sh a => rw [ev_on h]
  case store n a x => rw [ev_on fun n hn => h n (.inl hn), ev_on fun n hn => h n (.inr hn)]
  case nilck x => rw [ev_on h]
  case bin op k c x y => rw [ev_on fun n hn => h n (.inl hn), ev_on fun n hn => h n (.inr hn)]
  case un op x => rw [ev_on h]
  case conv c x => rw [ev_on h]
  case mkif t x => rw [ev_on h]
  case mkfn f caps => cases caps with
    | nil => rfl
    | cons c cs => show K (.fn f ((c :: cs).map (ev s))) σ = K (.fn f ((c :: cs).map (ev s'))) σ; rw [evs_on h]
  case slice k x lo hi mx => rw [ev_on fun n hn => h n (.inl hn), evo_on fun n hn => h n (.inr (.inl hn)), evo_on fun n hn => h n (.inr (.inr (.inl hn))), evo_on fun n hn => h n (.inr (.inr (.inr hn)))]
  case faddr off x => rw [ev_on h]
  case field sh off x => rw [ev_on h]
  case iaddr sh x i => rw [ev_on fun n hn => h n (.inl hn), ev_on fun n hn => h n (.inr hn)]
  case index x i => rw [ev_on fun n hn => h n (.inl hn), ev_on fun n hn => h n (.inr hn)]
  case extract x i => rw [ev_on h]
  case call f args => rw [ev_on fun n hn => h n (.inl hn), evs_on fun n hn => h n (.inr hn)]
  case inv name x args => rw [ev_on fun n hn => h n (.inl hn), evs_on fun n hn => h n (.inr hn)]
  case len k x => rw [ev_on h]
  case append sh b a x => rw [ev_on fun n hn => h n (.inl hn), ev_on fun n hn => h n (.inr hn)]
  case min xs => rw [evs_on h]
  case ext x xs => rw [evs_on h]

/-! ### Weaker ends -/

theorem WInt_mono {op : BinOp} {k l : IntKind} {a b : Int} {K K' : V → Prop} (hK : ∀ v, K v → K' v) (h : WInt op k a l b K) : WInt op k a l b K' := by
  cases op <;> simp only [WInt] at h ⊢ <;> first | exact h | exact ⟨h.1, hK _ h.2⟩ | exact ⟨h.1, h.2.1, hK _ h.2.2⟩

theorem WStr_mono {op : BinOp} {a b : List UInt8} {K K' : V → Prop} (hK : ∀ v, K v → K' v) (h : WStr op a b K) : WStr op a b K' := by
  cases op <;> simp only [WStr] at h ⊢ <;> first | exact h | exact hK _ h | exact ⟨h.1, hK _ h.2⟩

theorem WEq_mono {k : EqK} {c : Bool} {x y : D} {B B' : Bool → Prop} (hB : ∀ b, B b → B' b) (h : WEq P k c x y B) : WEq P k c x y B' := by
  unfold WEq at h ⊢
  split at h
  all_goals first
    | exact ⟨h.1, hB _ h.2⟩
    | exact ⟨h.1, h.2.1, hB _ h.2.2⟩
    | exact ⟨h.1, fun e => hB _ (h.2.1 e), fun e => ⟨(h.2.2 e).1, (h.2.2 e).2.1, hB _ (h.2.2 e).2.2⟩⟩
    | exact ⟨h.1, fun b hb => hB _ (h.2 b hb)⟩
    | exact h.elim
    | skip
  split at h
  · split at h
    · exact hB _ h
    · exact h.elim
  · exact h.elim

theorem WBin_mono {op : BinOp} {k : EqK} {c : Bool} {x y : D} {K K' : V → Prop} (hK : ∀ v, K v → K' v) (h : WBin P op k c x y K) : WBin P op k c x y K' := by
  unfold WBin at h ⊢
  split at h
  · exact WInt_mono hK h
  · exact WStr_mono hK h
  · cases op <;> first | exact WEq_mono (fun b => hK _) h | exact h

theorem WUn_mono {op : UnOp} {x : D} {K K' : V → Prop} (hK : ∀ v, K v → K' v) (h : WUn op x K) : WUn op x K' := by
  unfold WUn at h ⊢
  split at h <;> first | exact hK _ h | exact h

theorem WConv_mono {c : ConvK} {x : D} {K K' : V → Prop} (hK : ∀ v, K v → K' v) (h : WConv c x K) : WConv c x K' := by
  unfold WConv at h ⊢
  split at h <;> first | exact hK _ h | exact ⟨h.1, hK _ h.2⟩ | exact ⟨h.choose, h.choose_spec.1, hK _ h.choose_spec.2⟩ | exact h

theorem WLoad_mono {sh : Sh} {a : D} {σ : Sg} {K K' : D → Prop} (hK : ∀ v, K v → K' v) (h : WLoad sh a σ K) : WLoad sh a σ K' := by
  cases a with
  | imm sh' x off =>
    simp only [WLoad] at h ⊢
    split
    · rename_i hc; rw [if_pos hc] at h; exact hK _ h
    · rename_i hc
      rw [if_neg hc] at h
      cases sh with
      | none => dsimp only at h ⊢; cases hx : x.cells[off]? with
        | none => rw [hx] at h; exact h
        | some c => rw [hx] at h; exact hK _ h
      | some n => exact ⟨h.1, hK _ h.2⟩
  | ptr o off =>
    simp only [WLoad] at h ⊢
    rcases hob : σ.objs[o]? with _ | (cs | es | _)
    · rw [hob] at h; exact h
    · rw [hob] at h
      cases sh with
      | none => dsimp only at h ⊢; cases hx : cs[off]? with
        | none => rw [hx] at h; exact h
        | some c => rw [hx] at h; exact hK _ h
      | some n => exact ⟨h.1, h.2.1, hK _ h.2.2⟩
    · rw [hob] at h; exact h
    · rw [hob] at h; exact h
  | _ => exact h

theorem WStore_mono {n : Nat} {a x : D} {σ : Sg} {K K' : D → Sg → Prop} (hK : ∀ d σ, K d σ → K' d σ) (h : WStore n a x σ K) : WStore n a x σ K' := by
  cases a with
  | ptr o off =>
    simp only [WStore] at h ⊢
    rcases hob : σ.objs[o]? with _ | (cs | es | _)
    · rw [hob] at h; exact h
    · rw [hob] at h; exact ⟨h.1, h.2.1, h.2.2.1, h.2.2.2.1, hK _ _ h.2.2.2.2⟩
    · rw [hob] at h; exact h
    · rw [hob] at h; exact h
  | _ => exact h

theorem WNil_mono {x : D} {K K' : D → Prop} (hK : ∀ v, K v → K' v) (h : WNil x K) : WNil x K' := by
  unfold WNil at h ⊢
  split at h <;> first | exact hK _ h | exact h

theorem WSlice_mono {k : SlK} {x : D} {lo hi mx : Option D} {K K' : V → Prop} (hK : ∀ v, K v → K' v) (h : WSlice k x lo hi mx K) : WSlice k x lo hi mx K' := by
  have key : ∀ {o : Option (Int × Int × Option Int)} {n : Nat} {sh : Sh} {xs : List V} {K K' : V → Prop}, (∀ v, K v → K' v) →
      (match o with | some (l, h, none) => 0 ≤ l ∧ l ≤ h ∧ h ≤ n ∧ K (.sl sh false ((xs.take h.toNat).drop l.toNat)) | some (l, h, some m) => 0 ≤ l ∧ l ≤ h ∧ h = m ∧ m ≤ n ∧ K (.sl sh true ((xs.take h.toNat).drop l.toNat)) | none => False) →
      (match o with | some (l, h, none) => 0 ≤ l ∧ l ≤ h ∧ h ≤ n ∧ K' (.sl sh false ((xs.take h.toNat).drop l.toNat)) | some (l, h, some m) => 0 ≤ l ∧ l ≤ h ∧ h = m ∧ m ≤ n ∧ K' (.sl sh true ((xs.take h.toNat).drop l.toNat)) | none => False) := by
    intro o n sh xs K K' hK h
    rcases o with _ | ⟨l, h', _ | m⟩
    · exact h
    · exact ⟨h.1, h.2.1, h.2.2.1, hK _ h.2.2.2⟩
    · exact ⟨h.1, h.2.1, h.2.2.1, h.2.2.2.1, hK _ h.2.2.2.2⟩
  unfold WSlice at h ⊢
  split at h
  · rename_i s
    rcases hb : bounds s.length lo hi mx with _ | ⟨l, h', _ | m⟩ <;> rw [hb] at h
    · exact h
    · exact ⟨h.1, h.2.1, h.2.2.1, hK _ h.2.2.2⟩
    · exact h
  · exact ⟨h.1, key hK h.2⟩
  · exact ⟨h.1, key hK h.2⟩
  · rcases hb : bounds 0 lo hi mx with _ | ⟨l, h', q⟩ <;> rw [hb] at h
    · exact h
    · exact ⟨h.1, h.2.1, h.2.2.1, hK _ h.2.2.2⟩
  · exact h

theorem WSl_mono {k : SlK} {x : D} {lo hi mx : Option D} {K K' : D → Prop} (hK : ∀ v, K v → K' v) (h : WSl k x lo hi mx K) : WSl k x lo hi mx K' := by
  unfold WSl at h ⊢
  split at h
  · rename_i sh o off len sh' cp
    unfold WSlM at h ⊢
    refine ⟨h.1, ?_⟩
    replace h := h.2
    cases cp with
    | none => exact h
    | some c =>
      dsimp only at h ⊢
      rcases hb : bounds len lo hi mx with _ | ⟨l, h', _ | m⟩ <;> rw [hb] at h
      · exact h
      · exact ⟨h.1, h.2.1, h.2.2.1, hK _ h.2.2.2⟩
      · exact ⟨h.1, h.2.1, h.2.2.1, h.2.2.2.1, hK _ h.2.2.2.2⟩
  · exact WSlice_mono (fun v => hK _) h

theorem WFaddr_mono {off : Nat} {x : D} {K K' : D → Prop} (hK : ∀ v, K v → K' v) (h : WFaddr off x K) : WFaddr off x K' := by
  unfold WFaddr at h ⊢
  split at h <;> first | exact hK _ h | exact h

theorem WField_mono {sh : Sh} {off : Nat} {x : D} {K K' : D → Prop} (hK : ∀ v, K v → K' v) (h : WField sh off x K) : WField sh off x K' := by
  unfold WField at h ⊢
  split at h
  · rename_i cs
    cases sh with
    | none => dsimp only at h ⊢; cases hx : cs[off]? with
      | none => rw [hx] at h; exact h
      | some c => rw [hx] at h; exact hK _ h
    | some n => exact ⟨h.1, hK _ h.2⟩
  · rename_i cs
    cases sh with
    | none => dsimp only at h ⊢; cases hx : cs[off]? with
      | none => rw [hx] at h; exact h
      | some c => rw [hx] at h; exact hK _ h
    | some n => exact ⟨h.1, hK _ h.2⟩
  · exact h

theorem WIaddr_mono {sh : Sh} {x i : D} {K K' : D → Prop} (hK : ∀ v, K v → K' v) (h : WIaddr sh x i K) : WIaddr sh x i K' := by
  unfold WIaddr at h ⊢
  split at h <;> first | exact ⟨h.1, h.2.1, h.2.2.1, fun y hy => hK _ (h.2.2.2 y hy)⟩ | exact ⟨h.1, h.2.1, h.2.2.1, hK _ h.2.2.2⟩ | exact h

theorem WIndex_mono {x i : D} {K K' : V → Prop} (hK : ∀ v, K v → K' v) (h : WIndex x i K) : WIndex x i K' := by
  unfold WIndex at h ⊢
  split at h <;> first | exact ⟨h.1, h.2.1, fun y hy => hK _ (h.2.2 y hy)⟩ | exact h

theorem WExtract_mono {x : D} {i : Nat} {K K' : D → Prop} (hK : ∀ v, K v → K' v) (h : WExtract x i K) : WExtract x i K' := by
  cases x with
  | tup ds =>
    simp only [WExtract] at h ⊢
    cases hx : ds[i]? with
    | none => rw [hx] at h; exact h
    | some c => rw [hx] at h; exact hK _ h
  | _ => exact h

theorem WLen_mono {k : LenK} {x : D} {σ : Sg} {K K' : V → Prop} (hK : ∀ v, K v → K' v) (h : WLen k x σ K) : WLen k x σ K' := by
  unfold WLen at h ⊢
  split at h <;> first | exact hK _ h | skip
  · rename_i o
    rcases hob : σ.objs[o]? with _ | (cs | es | _)
    · rw [hob] at h; exact h
    · rw [hob] at h; exact h
    · rw [hob] at h; exact ⟨h.1, hK _ h.2⟩
    · rw [hob] at h; exact h
  · exact h

theorem WAppend_mono {sh : Sh} {b : Nat} {a x : D} {σ : Sg} {K K' : D → Sg → Prop} (hK : ∀ d σ, K d σ → K' d σ) (h : WAppend sh b a x σ K) : WAppend sh b a x σ K' := by
  unfold WAppend at h ⊢
  split at h
  · exact h
  · rename_i ys hys
    split at h
    · exact ⟨h.1, hK _ _ h.2⟩
    · exact ⟨h.1, h.2.1, hK _ _ h.2.2⟩
    · exact ⟨h.1, h.2.1, h.2.2.1, hK _ _ h.2.2.2⟩
    · exact h

theorem WMin_mono {xs : List D} {K K' : V → Prop} (hK : ∀ v, K v → K' v) (h : WMin xs K) : WMin xs K' := by
  unfold WMin at h ⊢
  split at h <;> first | exact ⟨h.1, hK _ h.2⟩ | exact h

theorem WMksl_mono {sh : Sh} {xs : List D} {K K' : V → Prop} (hK : ∀ v, K v → K' v) (h : WMksl sh xs K) : WMksl sh xs K' := by
  unfold WMksl at h ⊢
  split at h <;> first | exact ⟨h.1, hK _ h.2⟩ | exact h

theorem WApm0_mono {sh : Sh} {b : Nat} {ys : List V} {σ : Sg} {K K' : D → Sg → Prop} (hK : ∀ d σ, K d σ → K' d σ) (h : WApm0 sh b ys σ K) : WApm0 sh b ys σ K' :=
  ⟨fun e => hK _ _ (h.1 e), fun e => ⟨(h.2 e).1, fun c h1 h2 => hK _ _ ((h.2 e).2 c h1 h2)⟩⟩
theorem WApmV_mono {sh : Sh} {b : Nat} {s : D} {ys : List V} {σ : Sg} {K K' : D → Sg → Prop} (hK : ∀ d σ, K d σ → K' d σ) (h : WApmV sh b s ys σ K) : WApmV sh b s ys σ K' := by
  unfold WApmV at h ⊢
  split at h
  · exact WApm0_mono hK h
  · exact ⟨h.1, WApm0_mono hK h.2⟩
  · refine ⟨h.1, ?_⟩
    replace h := h.2
    unfold WApm1 at h ⊢
    split at h
    · exact ⟨fun e => ⟨(h.1 e).1, hK _ _ (h.1 e).2⟩, fun e => ⟨(h.2 e).1, (h.2 e).2.1, fun c h1 h2 => hK _ _ ((h.2 e).2.2 c h1 h2)⟩⟩
    · exact h
  · exact h
theorem WApm_mono {sh : Sh} {b : Nat} {s x : D} {σ : Sg} {K K' : D → Sg → Prop} (hK : ∀ d σ, K d σ → K' d σ) (h : WApm sh b s x σ K) : WApm sh b s x σ K' := by
  unfold WApm at h ⊢
  split at h
  · exact h
  · exact WApmV_mono hK h
theorem WClear_mono {zs : List V} {x : D} {σ : Sg} {K K' : D → Sg → Prop} (hK : ∀ d σ, K d σ → K' d σ) (h : WClear zs x σ K) : WClear zs x σ K' := by
  unfold WClear at h ⊢
  split at h
  · exact hK _ _ h
  · exact hK _ _ h
  · split at h
    · exact ⟨h.1, h.2.1, h.2.2.1, hK _ _ h.2.2.2⟩
    · exact h
  · exact h
theorem WCopy_mono {sh : Sh} {s x : D} {σ : Sg} {K K' : D → Sg → Prop} (hK : ∀ d σ, K d σ → K' d σ) (h : WCopy sh s x σ K) : WCopy sh s x σ K' := by
  unfold WCopy at h ⊢
  split at h
  · exact h
  · split at h
    · split at h
      · exact ⟨h.1, h.2.1, h.2.2.1, h.2.2.2.1, hK _ _ h.2.2.2.2⟩
      · exact h
    · exact h
theorem WCap_mono {x : D} {K K' : D → Prop} (hK : ∀ d, K d → K' d) (h : WCap x K) : WCap x K' := by
  unfold WCap at h ⊢
  split at h <;> first | exact hK _ h | exact fun c h1 h2 => hK _ (h c h1 h2) | exact h

theorem WX_mono {x : XOp} {ds : List D} {σ : Sg} {K K' : D → Sg → Prop} (hK : ∀ d σ, K d σ → K' d σ) (h : WX x ds σ K) : WX x ds σ K' := by
  cases x with
  | mkmap => exact hK _ _ h
  | stop => exact h
  | mput kk =>
    simp only [WX] at h ⊢
    split at h
    · rename_i o k d
      rcases hob : σ.objs[o]? with _ | (cs | es | _)
      · rw [hob] at h; exact h
      · rw [hob] at h; exact h
      · rw [hob] at h; exact ⟨h.1, h.2.1, hK _ _ h.2.2⟩
      · rw [hob] at h; exact h
    · exact h
  | mget kk ok z =>
    simp only [WX] at h ⊢
    split at h
    · exact ⟨h.1, hK _ _ h.2⟩
    · rename_i o k
      rcases hob : σ.objs[o]? with _ | (cs | es | _)
      · rw [hob] at h; exact h
      · rw [hob] at h; exact h
      · rw [hob] at h; exact ⟨h.1, h.2.1, hK _ _ h.2.2⟩
      · rw [hob] at h; exact h
    · exact h
  | appm sh b =>
    simp only [WX] at h ⊢
    split at h
    · exact WApm_mono hK h
    · exact h
  | mkvec sh b zs =>
    simp only [WX] at h ⊢
    split at h
    · exact ⟨h.1, h.2.1, h.2.2.1, fun e => hK _ _ (h.2.2.2.1 e), fun e => hK _ _ (h.2.2.2.2 e)⟩
    · exact h
  | copy sh =>
    simp only [WX] at h ⊢
    split at h
    · exact WCopy_mono hK h
    · exact h
  | appz sh b zs =>
    simp only [WX] at h ⊢
    split at h
    · exact ⟨h.1, h.2.1, WApmV_mono hK h.2.2⟩
    · exact h
  | clear zs =>
    simp only [WX] at h ⊢
    split at h
    · exact WClear_mono hK h
    · exact h
  | max =>
    simp only [WX] at h ⊢
    split at h
    · exact ⟨h.1, hK _ _ h.2⟩
    · exact h
  | bind =>
    simp only [WX] at h ⊢
    split at h
    · exact hK _ _ h
    · exact h
  | give =>
    simp only [WX] at h ⊢
    split at h
    · obtain ⟨cs, xs, h1, h2, h3, h4, h5, h6⟩ := h
      exact ⟨cs, xs, h1, h2, h3, h4, h5, hK _ _ h6⟩
    · exact h
  | cap =>
    simp only [WX] at h ⊢
    split at h
    · exact WCap_mono (fun d => hK _ _) h
    · exact h
  | mkslm sh =>
    simp only [WX, WMkslm] at h ⊢
    refine WMksl_mono (fun v h => ?_) h
    cases v <;> first | exact h.elim | exact ⟨h.1, hK _ _ h.2⟩
  | mrange =>
    simp only [WX] at h ⊢
    split at h
    · exact hK _ _ h
    · rename_i o
      rcases hob : σ.objs[o]? with _ | (cs | es | _)
      · rw [hob] at h; exact h
      · rw [hob] at h; exact h
      · rw [hob] at h; exact ⟨h.1, hK _ _ h.2⟩
      · rw [hob] at h; exact h
    · exact h
  | mdel kk =>
    simp only [WX] at h ⊢
    split at h
    · exact ⟨h.1, hK _ _ h.2⟩
    · rename_i o k
      rcases hob : σ.objs[o]? with _ | (cs | es | _)
      · rw [hob] at h; exact h
      · rw [hob] at h; exact h
      · rw [hob] at h; exact ⟨h.1, h.2.1, h.2.2.1, hK _ _ h.2.2.2⟩
      · rw [hob] at h; exact h
    · exact h
  | mnext =>
    simp only [WX] at h ⊢
    split at h
    · rename_i i
      split at h
      · exact hK _ _ h
      · unfold WNext at h ⊢
        split at h
        · exact ⟨h.1, h.2.1, fun e => hK _ _ (h.2.2.1 e), fun j x e1 e2 => hK _ _ (h.2.2.2 j x e1 e2)⟩
        · exact h
      · exact h
    · exact h
  | mentry =>
    simp only [WX] at h ⊢
    split at h
    · rename_i i
      split at h
      · unfold WEntry at h ⊢
        split at h
        · obtain ⟨h0, h1, pre, j, x, h2, h3, h4⟩ := h
          exact ⟨h0, h1, pre, j, x, h2, h3, hK _ _ h4⟩
        · exact h
      · exact h
    · exact h

theorem WOp_mono {op : AOp} {σ : Sg} {K K' : D → Sg → Prop} (hK : ∀ d σ, K d σ → K' d σ) (h : WOp P op s σ K) : WOp P op s σ K' := by
  cases op <;> simp only [WOp] at h ⊢
  case mv x => exact hK _ _ h
  case pick c a b =>
    generalize ev s c = d at h
    cases d with
    | v x => cases x with
      | bool p => exact ⟨fun e => hK _ _ (h.1 e), fun e => hK _ _ (h.2 e)⟩
      | _ => exact h
    | _ => exact h
  case alloc => exact hK _ _ h
  case box x => exact ⟨h.1, hK _ _ h.2⟩
  case build zs ps =>
    split at h
    · exact hK _ _ h
    · exact h
  case mksl sh xs => exact WMksl_mono (fun v => hK _ _) h
  case load sh a => exact WLoad_mono (fun v => hK _ _) h
  case store n a x => exact WStore_mono hK h
  case nilck x => exact WNil_mono (fun v => hK _ _) h
  case bin op k c x y => exact WBin_mono (fun v => hK _ _) h
  case un op x => exact WUn_mono (fun v => hK _ _) h
  case conv c x => exact WConv_mono (fun v => hK _ _) h
  case mkif t x => exact hK _ _ h
  case mkfn f caps => exact hK _ _ h
  case slice k x lo hi mx => exact WSl_mono (fun v => hK _ _) h
  case faddr off x => exact WFaddr_mono (fun v => hK _ _) h
  case field sh off x => exact WField_mono (fun v => hK _ _) h
  case iaddr sh x i => exact WIaddr_mono (fun v => hK _ _) h
  case index x i => exact WIndex_mono (fun v => hK _ _) h
  case extract x i => exact WExtract_mono (fun v => hK _ _) h
  case call f args =>
    split at h
    · exact h.mono hK
    · exact h.mono hK
    · exact h.mono hK
    · exact h
  case inv name x args =>
    unfold WInv at h ⊢
    split at h
    · exact h.imp fun g h => ⟨h.1, h.2.mono hK⟩
    · exact h.imp fun g h => ⟨h.1, h.2.mono hK⟩
    · exact h
  case len k x => exact WLen_mono (fun v => hK _ _) h
  case append sh b a x => exact WAppend_mono hK h
  case min xs => exact WMin_mono (fun v => hK _ _) h
  case ext x xs => exact WX_mono hK h

theorem WO_mono : ∀ {ros : List RO} {s : List (Nat × D)} {σ : Sg} {K K' : List (Nat × D) → Sg → Prop}, (∀ s σ, K s σ → K' s σ) → WO P ros s σ K → WO P ros s σ K'
  | [], s, σ, K, K', hK, h => hK _ _ h
  | ⟨dst, none, op⟩ :: r, s, σ, K, K', hK, h => by
    simp only [WO] at h ⊢
    exact WOp_mono (fun d σ' h => WO_mono hK h) h
  | ⟨dst, some (n, want), op⟩ :: r, s, σ, K, K', hK, h => by
    simp only [WO] at h ⊢
    generalize look s n = d at h
    cases d with
    | v x => cases x with
      | bool p => exact ⟨fun e => WOp_mono (fun d σ' h => WO_mono hK h) (h.1 e), fun e => WO_mono hK (h.2 e)⟩
      | _ => exact h
    | tup ds => cases ds with
      | nil => exact WO_mono hK h
      | cons d ds => exact h
    | _ => exact h

end
end Go.Abs

/-
  Quiet operations: one answer, whatever else has happened. (Own work; seat-independent.)
-/
set_option linter.unusedVariables false
set_option linter.unusedSimpArgs false
namespace Go.Abs
open Go

def quietBin : EqK → Bool
  | .sl => false
  | _ => true

def XOp.quiet : XOp → Bool
  | .mget _ _ _ => true
  | .stop => true
  | _ => false

def AOp.quiet : AOp → Bool
  | .bin _ k _ _ _ => quietBin k
  | .alloc _ => false
  | .box _ => false
  | .store _ _ _ => false
  | .call _ _ => false
  | .inv _ _ _ => false
  | .append _ _ _ _ => false
  | .ext x _ => x.quiet
  | _ => true

section
variable {P : Program} {s : List (Nat × D)}

theorem WInt_det {op : BinOp} {k l : IntKind} {a b : Int} {K : V → Prop} (h : WInt op k a l b K) : ∃ v, K v ∧ ∀ K' : V → Prop, K' v → WInt op k a l b K' := by
  cases op <;> simp only [WInt] at h ⊢
  case add => exact ⟨_, h.2, fun K' hk => ⟨h.1, hk⟩⟩
  case sub => exact ⟨_, h.2, fun K' hk => ⟨h.1, hk⟩⟩
  case mul => exact ⟨_, h.2, fun K' hk => ⟨h.1, hk⟩⟩
  case quo => exact ⟨_, h.2.2, fun K' hk => ⟨h.1, h.2.1, hk⟩⟩
  case rem => exact ⟨_, h.2.2, fun K' hk => ⟨h.1, h.2.1, hk⟩⟩
  case and => exact ⟨_, h.2, fun K' hk => ⟨h.1, hk⟩⟩
  case or => exact ⟨_, h.2, fun K' hk => ⟨h.1, hk⟩⟩
  case xor => exact ⟨_, h.2, fun K' hk => ⟨h.1, hk⟩⟩
  case shl => exact ⟨_, h.2, fun K' hk => ⟨h.1, hk⟩⟩
  case shr => exact ⟨_, h.2, fun K' hk => ⟨h.1, hk⟩⟩
  case eql => exact ⟨_, h.2, fun K' hk => ⟨h.1, hk⟩⟩
  case neq => exact ⟨_, h.2, fun K' hk => ⟨h.1, hk⟩⟩
  case lss => exact ⟨_, h.2, fun K' hk => ⟨h.1, hk⟩⟩
  case leq => exact ⟨_, h.2, fun K' hk => ⟨h.1, hk⟩⟩
  case gtr => exact ⟨_, h.2, fun K' hk => ⟨h.1, hk⟩⟩
  case geq => exact ⟨_, h.2, fun K' hk => ⟨h.1, hk⟩⟩
  all_goals exact h.elim

theorem WStr_det {op : BinOp} {a b : List UInt8} {K : V → Prop} (h : WStr op a b K) : ∃ v, K v ∧ ∀ K' : V → Prop, K' v → WStr op a b K' := by
  cases op <;> simp only [WStr] at h ⊢
  case add => exact ⟨_, h.2, fun K' hk => ⟨h.1, hk⟩⟩
  all_goals first | exact ⟨_, h, fun K' hk => hk⟩ | exact h.elim

theorem WEq_det {k : EqK} {c : Bool} {x y : D} {B : Bool → Prop} (hk : quietBin k = true) (h : WEq P k c x y B) : ∃ b, B b ∧ ∀ B' : Bool → Prop, B' b → WEq P k c x y B' := by
  unfold WEq at h ⊢
  split at h
  all_goals first
    | exact ⟨_, h.2, fun B' hb => ⟨h.1, hb⟩⟩
    | exact ⟨_, h.2.2, fun B' hb => ⟨h.1, h.2.1, hb⟩⟩
    | (rw [h.1] at hk; cases hk)
    | exact h.elim
    | skip
  · rename_i t p a u q b
    by_cases htu : t = u
    · exact ⟨_, (h.2.2 htu).2.2, fun B' hb => ⟨h.1, fun e => (e htu).elim, fun _ => ⟨(h.2.2 htu).1, (h.2.2 htu).2.1, hb⟩⟩⟩
    · exact ⟨_, h.2.1 htu, fun B' hb => ⟨h.1, fun _ => hb, fun e => (htu e).elim⟩⟩
  · split at h
    · split at h
      · exact ⟨_, h, fun B' hb => hb⟩
      · exact h.elim
    · exact h.elim

theorem WBin_det {op : BinOp} {k : EqK} {c : Bool} {x y : D} {K : V → Prop} (hk : quietBin k = true) (h : WBin P op k c x y K) : ∃ v, K v ∧ ∀ K' : V → Prop, K' v → WBin P op k c x y K' := by
  unfold WBin at h ⊢
  split at h
  · exact WInt_det h
  · exact WStr_det h
  · cases op
    case eql => obtain ⟨b, h1, h2⟩ := WEq_det hk h; exact ⟨_, h1, fun K' hb => h2 _ hb⟩
    case neq => obtain ⟨b, h1, h2⟩ := WEq_det hk h; exact ⟨_, h1, fun K' hb => h2 _ hb⟩
    all_goals exact h.elim

theorem WUn_det {op : UnOp} {x : D} {K : V → Prop} (h : WUn op x K) : ∃ v, K v ∧ ∀ K' : V → Prop, K' v → WUn op x K' := by
  unfold WUn at h ⊢
  split at h <;> first | exact ⟨_, h, fun K' hk => hk⟩ | exact h.elim

theorem WConv_det {c : ConvK} {x : D} {K : V → Prop} (h : WConv c x K) : ∃ v, K v ∧ ∀ K' : V → Prop, K' v → WConv c x K' := by
  unfold WConv at h ⊢
  split at h
  all_goals first
    | exact h.elim
    | exact ⟨_, h, fun K' hk => hk⟩
    | exact ⟨_, h.2, fun K' hk => ⟨h.1, hk⟩⟩
    | exact ⟨_, h.choose_spec.2, fun K' hk => ⟨_, h.choose_spec.1, hk⟩⟩

theorem WLoad_det {sh : Sh} {a : D} {σ : Sg} {K : D → Prop} (h : WLoad sh a σ K) : ∃ d, K d ∧ ∀ σ' (K' : D → Prop), KeepOn (rdL sh a) σ σ' → K' d → WLoad sh a σ' K' := by
  cases a with
  | imm sh' x off =>
    simp only [WLoad] at h ⊢
    by_cases hc : off = 0 ∧ sh = sh'
    · rw [if_pos hc] at h
      exact ⟨_, h, fun σ' K' _ hk => by rw [if_pos hc]; exact hk⟩
    · rw [if_neg hc] at h
      cases sh with
      | none => dsimp only at h ⊢; cases hx : x.cells[off]? with
        | none => rw [hx] at h; exact h.elim
        | some c => rw [hx] at h; exact ⟨_, h, fun σ' K' _ hk => by rw [if_neg hc]; exact hk⟩
      | some n => exact ⟨_, h.2, fun σ' K' _ hk => by rw [if_neg hc]; exact ⟨h.1, hk⟩⟩
  | ptr o off =>
    simp only [WLoad] at h ⊢
    rcases hob : σ.objs[o]? with _ | (cs | es | _)
    · rw [hob] at h; exact h.elim
    · rw [hob] at h
      cases sh with
      | none => dsimp only at h ⊢; cases hx : cs[off]? with
        | none => rw [hx] at h; exact h.elim
        | some c =>
          rw [hx] at h
          refine ⟨_, h, fun σ' K' hs hk => ?_⟩
          rcases hs ⟨o, some (none, off)⟩ (by simp [rdL]) _ hob with hq | ⟨cs1, cs2, e, hq, hr⟩
          · dsimp only at hq
            rw [hq]; dsimp only; rw [hx]; exact hk
          · cases e
            dsimp only at hq
            have hr2 : cs2[off]? = cs[off]? := hr
            rw [hq]; dsimp only; rw [hr2, hx]; exact hk
      | some n =>
        refine ⟨_, h.2.2, fun σ' K' hs hk => ?_⟩
        rcases hs ⟨o, some (some n, off)⟩ (by simp [rdL]) _ hob with hq | ⟨cs1, cs2, e, hq, hr⟩
        · dsimp only at hq
          rw [hq]; exact ⟨h.1, h.2.1, hk⟩
        · cases e
          dsimp only at hq
          obtain ⟨hr1, hr2⟩ := hr
          rw [hq]; dsimp only; rw [hr1, hr2]; exact ⟨h.1, h.2.1, hk⟩
    · rw [hob] at h; exact h.elim
    · rw [hob] at h; exact h.elim
  | _ => exact h.elim

theorem WNil_det {x : D} {K : D → Prop} (h : WNil x K) : ∃ v, K v ∧ ∀ K' : D → Prop, K' v → WNil x K' := by
  unfold WNil at h ⊢
  split at h <;> first | exact ⟨_, h, fun K' hk => hk⟩ | exact h.elim

theorem WSlice_det {k : SlK} {x : D} {lo hi mx : Option D} {K : V → Prop} (h : WSlice k x lo hi mx K) : ∃ v, K v ∧ ∀ K' : V → Prop, K' v → WSlice k x lo hi mx K' := by
  unfold WSlice at h ⊢
  split at h
  · rename_i s
    rcases hb : bounds s.length lo hi mx with _ | ⟨l, h', _ | m⟩ <;> rw [hb] at h
    · exact h.elim
    · exact ⟨_, h.2.2.2, fun K' hk => ⟨h.1, h.2.1, h.2.2.1, hk⟩⟩
    · exact h.elim
  · rename_i sh sh' f xs
    rcases hb : bounds xs.length lo hi mx with _ | ⟨l, h', _ | m⟩ <;> rw [hb] at h
    · exact h.2.elim
    · exact ⟨_, h.2.2.2.2, fun K' hk => ⟨h.1, h.2.1, h.2.2.1, h.2.2.2.1, hk⟩⟩
    · exact ⟨_, h.2.2.2.2.2, fun K' hk => ⟨h.1, h.2.1, h.2.2.1, h.2.2.2.1, h.2.2.2.2.1, hk⟩⟩
  · rename_i sh t sh' xs
    rcases hb : bounds xs.length lo hi mx with _ | ⟨l, h', _ | m⟩ <;> rw [hb] at h
    · exact h.2.elim
    · exact ⟨_, h.2.2.2.2, fun K' hk => ⟨h.1, h.2.1, h.2.2.1, h.2.2.2.1, hk⟩⟩
    · exact ⟨_, h.2.2.2.2.2, fun K' hk => ⟨h.1, h.2.1, h.2.2.1, h.2.2.2.1, h.2.2.2.2.1, hk⟩⟩
  · rcases hb : bounds 0 lo hi mx with _ | ⟨l, h', q⟩ <;> rw [hb] at h
    · exact h.elim
    · exact ⟨_, h.2.2.2, fun K' hk => ⟨h.1, h.2.1, h.2.2.1, hk⟩⟩
  · exact h.elim

theorem WSl_det {k : SlK} {x : D} {lo hi mx : Option D} {K : D → Prop} (h : WSl k x lo hi mx K) : ∃ v, K v ∧ ∀ K' : D → Prop, K' v → WSl k x lo hi mx K' := by
  unfold WSl at h ⊢
  split at h
  · rename_i sh o off len sh' cp
    unfold WSlM at h ⊢
    obtain ⟨e, h⟩ := h
    cases cp with
    | none => exact h.elim
    | some c =>
      dsimp only at h ⊢
      rcases hb : bounds len lo hi mx with _ | ⟨l, h', _ | m⟩ <;> rw [hb] at h
      · exact h.elim
      · exact ⟨_, h.2.2.2, fun K' hk => ⟨e, h.1, h.2.1, h.2.2.1, hk⟩⟩
      · exact ⟨_, h.2.2.2.2, fun K' hk => ⟨e, h.1, h.2.1, h.2.2.1, h.2.2.2.1, hk⟩⟩
  · obtain ⟨v, h1, h2⟩ := WSlice_det h
    exact ⟨_, h1, fun K' hk => h2 _ hk⟩

theorem WFaddr_det {off : Nat} {x : D} {K : D → Prop} (h : WFaddr off x K) : ∃ v, K v ∧ ∀ K' : D → Prop, K' v → WFaddr off x K' := by
  unfold WFaddr at h ⊢
  split at h <;> first | exact ⟨_, h, fun K' hk => hk⟩ | exact h.elim

theorem WField_det {sh : Sh} {off : Nat} {x : D} {K : D → Prop} (h : WField sh off x K) : ∃ v, K v ∧ ∀ K' : D → Prop, K' v → WField sh off x K' := by
  unfold WField at h ⊢
  split at h
  · rename_i cs
    cases sh with
    | none => dsimp only at h ⊢; cases hx : cs[off]? with
      | none => rw [hx] at h; exact h.elim
      | some c => rw [hx] at h; exact ⟨_, h, fun K' hk => hk⟩
    | some n => exact ⟨_, h.2, fun K' hk => ⟨h.1, hk⟩⟩
  · rename_i cs
    cases sh with
    | none => dsimp only at h ⊢; cases hx : cs[off]? with
      | none => rw [hx] at h; exact h.elim
      | some c => rw [hx] at h; exact ⟨_, h, fun K' hk => hk⟩
    | some n => exact ⟨_, h.2, fun K' hk => ⟨h.1, hk⟩⟩
  · exact h.elim

theorem WIaddr_det {sh : Sh} {x i : D} {K : D → Prop} (h : WIaddr sh x i K) : ∃ v, K v ∧ ∀ K' : D → Prop, K' v → WIaddr sh x i K' := by
  unfold WIaddr at h ⊢
  split at h
  all_goals first
    | exact h.elim
    | (obtain ⟨h1, h2, h3, h4⟩ := h
       refine ⟨_, h4 _ (List.getElem?_eq_getElem (by omega)), fun K' hk => ⟨h1, h2, h3, fun y hy => ?_⟩⟩
       rw [List.getElem?_eq_getElem (by omega)] at hy
       cases hy
       exact hk)
    | exact ⟨_, h.2.2.2, fun K' hk => ⟨h.1, h.2.1, h.2.2.1, hk⟩⟩

theorem WIndex_det {x i : D} {K : V → Prop} (h : WIndex x i K) : ∃ v, K v ∧ ∀ K' : V → Prop, K' v → WIndex x i K' := by
  unfold WIndex at h ⊢
  split at h
  · obtain ⟨h2, h3, h4⟩ := h
    refine ⟨_, h4 _ (List.getElem?_eq_getElem (by omega)), fun K' hk => ⟨h2, h3, fun y hy => ?_⟩⟩
    rw [List.getElem?_eq_getElem (by omega)] at hy
    cases hy
    exact hk
  · exact h.elim

theorem WExtract_det {x : D} {i : Nat} {K : D → Prop} (h : WExtract x i K) : ∃ v, K v ∧ ∀ K' : D → Prop, K' v → WExtract x i K' := by
  cases x with
  | tup ds =>
    simp only [WExtract] at h ⊢
    cases hx : ds[i]? with
    | none => rw [hx] at h; exact h.elim
    | some c => rw [hx] at h; exact ⟨_, h, fun K' hk => hk⟩
  | _ => exact h.elim

theorem WLen_det {k : LenK} {x : D} {σ : Sg} {K : V → Prop} (h : WLen k x σ K) : ∃ v, K v ∧ ∀ σ' (K' : V → Prop), KeepOn (rdD x) σ σ' → K' v → WLen k x σ' K' := by
  unfold WLen at h ⊢
  split at h <;> first | exact ⟨_, h, fun σ' K' _ hk => hk⟩ | skip
  · rename_i o
    rcases hob : σ.objs[o]? with _ | (cs | es | _)
    · rw [hob] at h; exact h.elim
    · rw [hob] at h; exact h.elim
    · rw [hob] at h; exact ⟨_, h.2, fun σ' K' hs hk => by rw [show σ'.objs[o]? = _ from (hs ⟨o, none⟩ (by simp [rdD, rdH]) _ hob).resolve_right id]; exact ⟨h.1, hk⟩⟩
    · rw [hob] at h; exact h.elim
  · exact h.elim

theorem WMin_det {xs : List D} {K : V → Prop} (h : WMin xs K) : ∃ v, K v ∧ ∀ K' : V → Prop, K' v → WMin xs K' := by
  unfold WMin at h ⊢
  split at h <;> first | exact ⟨_, h.2, fun K' hk => ⟨h.1, hk⟩⟩ | exact h.elim

theorem WMksl_det {sh : Sh} {xs : List D} {K : V → Prop} (h : WMksl sh xs K) : ∃ v, K v ∧ ∀ K' : V → Prop, K' v → WMksl sh xs K' := by
  unfold WMksl at h ⊢
  split at h <;> first | exact ⟨_, h.2, fun K' hk => ⟨h.1, hk⟩⟩ | exact h.elim

theorem det_of {rds : List Rd} {W1 : (V → Prop) → Prop} {W2 : Sg → (D → Sg → Prop) → Prop} {σ : Sg} {K : D → Sg → Prop} (h : ∃ v, K (.v v) σ ∧ ∀ K' : V → Prop, K' v → W1 K') (e : ∀ σ' K', W2 σ' K' = W1 fun v => K' (.v v) σ') :
    ∃ d, K d σ ∧ ∀ σ' (K' : D → Sg → Prop), KeepOn rds σ σ' → K' d σ' → W2 σ' K' := by
  obtain ⟨v, h1, h2⟩ := h
  exact ⟨_, h1, fun σ' K' _ hk => by rw [e]; exact h2 _ hk⟩

theorem detD_of {rds : List Rd} {W1 : (D → Prop) → Prop} {W2 : Sg → (D → Sg → Prop) → Prop} {σ : Sg} {K : D → Sg → Prop} (h : ∃ v, K v σ ∧ ∀ K' : D → Prop, K' v → W1 K') (e : ∀ σ' K', W2 σ' K' = W1 fun v => K' v σ') :
    ∃ d, K d σ ∧ ∀ σ' (K' : D → Sg → Prop), KeepOn rds σ σ' → K' d σ' → W2 σ' K' := by
  obtain ⟨v, h1, h2⟩ := h
  exact ⟨_, h1, fun σ' K' _ hk => by rw [e]; exact h2 _ hk⟩

theorem WX_det {x : XOp} (hq : x.quiet = true) {ds : List D} {σ : Sg} {K : D → Sg → Prop} (h : WX x ds σ K) : ∃ d, K d σ ∧ ∀ σ' (K' : D → Sg → Prop), KeepOn (rdH ds) σ σ' → K' d σ' → WX x ds σ' K' := by
  cases x with
  | mkmap => cases hq
  | mput => cases hq
  | appm => cases hq
  | mkvec => cases hq
  | copy => cases hq
  | cap => cases hq
  | mrange => cases hq
  | mnext => cases hq
  | mentry => cases hq
  | mkslm => cases hq
  | appz => cases hq
  | clear => cases hq
  | give => cases hq
  | max => cases hq
  | bind => cases hq
  | mdel => cases hq
  | stop => exact h.elim
  | mget kk ok z =>
    simp only [WX] at h ⊢
    split at h
    · exact ⟨_, h.2, fun σ' K' _ hk => ⟨h.1, hk⟩⟩
    · rename_i o k
      rcases hob : σ.objs[o]? with _ | (cs | es | _)
      · rw [hob] at h; exact h.elim
      · rw [hob] at h; exact h.elim
      · rw [hob] at h; exact ⟨_, h.2.2, fun σ' K' hs hk => by rw [show σ'.objs[o]? = _ from (hs ⟨o, none⟩ (by simp [rdD, rdH]) _ hob).resolve_right id]; exact ⟨h.1, h.2.1, hk⟩⟩
      · rw [hob] at h; exact h.elim
    · exact h.elim

theorem WOp_det {op : AOp} (hq : op.quiet = true) {σ : Sg} {K : D → Sg → Prop} (h : WOp P op s σ K) : ∃ d, K d σ ∧ ∀ σ' (K' : D → Sg → Prop), KeepOn (op.reads s) σ σ' → K' d σ' → WOp P op s σ' K' := by
  cases op <;> simp only [AOp.quiet] at hq <;> simp only [WOp] at h ⊢
  case mv x => exact ⟨_, h, fun σ' K' _ hk => hk⟩
  case pick c a b =>
    generalize ev s c = d at h
    cases d with
    | v x => cases x with
      | bool p => cases p with
        | true => exact ⟨_, h.1 rfl, fun σ' K' _ hk => ⟨fun _ => hk, fun e => nomatch e⟩⟩
        | false => exact ⟨_, h.2 rfl, fun σ' K' _ hk => ⟨fun e => (nomatch e), fun _ => hk⟩⟩
      | _ => exact h.elim
    | _ => exact h.elim
  case build zs ps =>
    split at h
    · exact ⟨_, h, fun σ' K' _ hk => hk⟩
    · exact h.elim
  case mksl sh xs => exact det_of (WMksl_det h) fun _ _ => rfl
  case load sh a => obtain ⟨d, h1, h2⟩ := WLoad_det h; exact ⟨d, h1, fun σ' K' hs hk => h2 σ' _ hs hk⟩
  case nilck x => exact detD_of (WNil_det h) fun _ _ => rfl
  case bin op k c x y => exact det_of (WBin_det hq h) fun _ _ => rfl
  case un op x => exact det_of (WUn_det h) fun _ _ => rfl
  case conv c x => exact det_of (WConv_det h) fun _ _ => rfl
  case mkif t x => exact ⟨_, h, fun σ' K' _ hk => hk⟩
  case mkfn f caps => exact ⟨_, h, fun σ' K' _ hk => hk⟩
  case slice k x lo hi mx => exact detD_of (WSl_det h) fun _ _ => rfl
  case faddr off x => exact detD_of (WFaddr_det h) fun _ _ => rfl
  case field sh off x => exact detD_of (WField_det h) fun _ _ => rfl
  case iaddr sh x i => exact detD_of (WIaddr_det h) fun _ _ => rfl
  case index x i => exact det_of (WIndex_det h) fun _ _ => rfl
  case extract x i => exact detD_of (WExtract_det h) fun _ _ => rfl
  case len k x => obtain ⟨d, h1, h2⟩ := WLen_det h; exact ⟨_, h1, fun σ' K' hs hk => h2 σ' _ hs hk⟩
  case min xs => exact det_of (WMin_det h) fun _ _ => rfl
  case ext x xs => exact WX_det hq h
  all_goals cases hq

theorem reads_on {s' : List (Nat × D)} {op : AOp} (h : ∀ n ∈ op.tmps, look s n = look s' n) : op.reads s = op.reads s' := by
  cases op <;> try rfl
  case load sh a => exact congrArg (rdL sh) (ev_on h)
  case len k x => exact congrArg rdD (ev_on h)
  case ext x xs => exact congrArg rdH (evs_on h)

theorem KeepOn.sub {rds rds' : List Rd} {σ σ' : Sg} (h : KeepOn rds σ σ') (hs : ∀ o ∈ rds', o ∈ rds) : KeepOn rds' σ σ' := fun o ho => h o (hs o ho)
theorem Keep.on {rds : List Rd} {σ σ' : Sg} (h : Keep σ σ') : KeepOn rds σ σ' := fun r _ ob e => .inl (h r.o ob e)

end
end Go.Abs

/-
  What the small language's weakest precondition says of a function's code holds of its calls. (Own work; seat-independent.)
-/
set_option linter.unusedVariables false
set_option linter.unusedSimpArgs false
namespace Go.Abs
open Go

def dstOk (nt : Nat) : Option Nat → Bool
  | some d => decide (d < nt)
  | none => true

def compRO (P : Program) (nt : Nat) (ops : Array Oper) (ms : List Nat) (o : Oper) : Option RO :=
  match compT P o ms with
  | none => none
  | some op =>
    if dstOk nt o.dst = true then
      match o.guard with
      | none => some ⟨o.dst, none, op⟩
      | some (j, want) => (match (ops[j]?).bind (·.dst) with
        | some d => some ⟨o.dst, some (d, want), op⟩
        | none => none)
    else none

/-- The bytes of a constant string: a row is built, and turned into its own type. -/
def isLit (P : Program) (nt : Nat) (o o' : Oper) : Option (RO × RO) :=
  match o.op, o'.op, o.guard, o'.guard, o.dst with
  | .buildSlice t len ps, .convert src dst (.tmp d'), none, none, some d =>
    if src = t ∧ dst = t ∧ d' = d ∧ d < nt ∧ dstOk nt o'.dst = true then
      match P.underlying t with
      | some (.slice e) => (match P.underlying e, compMksl P t len ps.toList with
        | some (.int .u8), some op => some (⟨some d, none, op⟩, ⟨o'.dst, none, .mv (.t d)⟩)
        | _, _ => none)
      | _ => none
    else none
  | _, _, _, _, _ => none

def compROs (P : Program) (nt : Nat) (ops : Array Oper) (ms : List Nat) : List Oper → Option (List RO)
  | [] => some []
  | [o] => (match compRO P nt ops ms o with
    | some r => some [r]
    | none => none)
  | o :: o' :: l => (match isLit P nt o o' with
    | some (r, r') => (match compROs P nt ops ms l with
      | some rs => some (r :: r' :: rs)
      | none => none)
    | none => (match compRO P nt ops ms o, compROs P nt ops ms (o' :: l) with
      | some r, some rs => some (r :: rs)
      | _, _ => none))

theorem compROs_cons {P : Program} {nt : Nat} {ops : Array Oper} {ms : List Nat} {o : Oper} {l : List Oper} {ros : List RO} (h : compROs P nt ops ms (o :: l) = some ros) :
    (∃ r rs, compRO P nt ops ms o = some r ∧ compROs P nt ops ms l = some rs ∧ ros = r :: rs) ∨ (∃ o' l' r r' rs, l = o' :: l' ∧ isLit P nt o o' = some (r, r') ∧ compROs P nt ops ms l' = some rs ∧ ros = r :: r' :: rs) := by
  cases l with
  | nil =>
    simp only [compROs] at h
    split at h
    · rename_i r hr; cases h; exact .inl ⟨r, [], hr, rfl, rfl⟩
    · cases h
  | cons o' l =>
    simp only [compROs] at h
    split at h
    · rename_i r r' hl
      split at h
      · rename_i rs hrs; cases h; exact .inr ⟨o', l, r, r', rs, rfl, hl, hrs, rfl⟩
      · cases h
    · split at h
      · rename_i r rs hr hrs; cases h; exact .inl ⟨r, rs, hr, hrs, rfl⟩
      · cases h

theorem isLit_spec {P : Program} {nt : Nat} {o o' : Oper} {r r' : RO} (h : isLit P nt o o' = some (r, r')) : ∃ (t e : TypeId) (len : Nat) (ps : Array (Nat × Operand)) (ie : TypeInfo) (z : Value) (sh : Sh) (es : List E) (d : Nat),
    o.op = .buildSlice t len ps ∧ o'.op = .convert t t (.tmp d) ∧ o.guard = none ∧ o'.guard = none ∧ o.dst = some d ∧ d < nt ∧ (∀ k, o'.dst = some k → k < nt) ∧ r = ⟨some d, none, .mksl sh es⟩ ∧ r' = ⟨o'.dst, none, .mv (.t d)⟩ ∧
    P.underlying t = some (.slice e) ∧ P.underlying e = some (.int .u8) ∧ P.info? e = some ie ∧ ie.zero = some z ∧ ie.size = shn sh ∧ 0 < ie.size ∧ z.cells.size = ie.size ∧
    len = ps.size ∧ ps.toList.map (·.1) = List.range ps.size ∧ len * ie.size ≤ 2 ^ 24 ∧ cEs (ps.toList.map (·.2)) = some es := by
  unfold isLit at h
  split at h
  · rename_i t len ps src dst d' d ho ho' hg hg' hd
    split at h
    · rename_i hc
      obtain ⟨rfl, rfl, rfl, hlt, hok⟩ := hc
      split at h
      · rename_i e hu
        split at h
        · rename_i op he hop
          cases h
          unfold compMksl at hop
          split at hop
          · split at hop
            · split at hop
              · split at hop
                · rename_i e2 hu2 _ _ _ ie sh es hie hsh hes _ z hz hc
                  cases hop
                  rw [hu] at hu2
                  cases hu2
                  obtain ⟨i', dd, hi', hd', _, hsz⟩ := tsh_spec hsh
                  rw [hie] at hi'
                  cases hi'
                  refine ⟨_, e, len, ps, ie, z, sh, es, _, ho, ho', hg, hg', hd, hlt, ?_, rfl, rfl, hu, he, hie, hz, hsz, hc.1, hc.2.1, by simpa using hc.2.2.1, by simpa using hc.2.2.2.1, hc.2.2.2.2, hes⟩
                  intro k hk
                  rw [hk] at hok
                  simpa [dstOk] using hok
                · cases hop
              · cases hop
            · cases hop
          · cases hop
        · cases h
      · cases h
    · cases h
  · cases h

def dstsOf : List RO → List Nat
  | [] => []
  | r :: rs => match r.dst with
    | some d => d :: dstsOf rs
    | none => dstsOf rs

def outsOf (keep : List Nat) : List RO → List Nat
  | [] => []
  | r :: rs => match r.dst with
    | some d => if keep.contains d then d :: outsOf keep rs else outsOf keep rs
    | none => outsOf keep rs

section
variable {P : Program}

theorem look_upd : ∀ (env : List (Nat × D)) (n : Nat) (d : D) (k : Nat), look (upd env n d) k = if k = n then d else look env k
  | [], n, d, k => by simp only [upd, look]; by_cases h : n = k <;> simp [h, eq_comm]
  | (j, x) :: r, n, d, k => by
    have ih := look_upd r n d k
    simp only [upd]
    by_cases hjn : j = n
    · subst hjn
      simp only [if_true, look]
      by_cases hjk : j = k
      · subst hjk; simp
      · simp [hjk, Ne.symm hjk]
    · simp only [hjn, if_false, look]
      by_cases hjk : j = k
      · subst hjk; simp [hjn]
      · simp only [hjk, if_false]; exact ih

theorem outs_rep {m : Gh} {w : World} {s : List (Nat × D)} {tmps : Array Value} (hs : EnvR m w s tmps) : ∀ (os : List Nat) (env : List (Nat × D)), (∀ n, RepD m w (look env n) (tmps.getD n undef) ∨ n ∈ os) →
    EnvR m w (outs os s env) tmps
  | [], env, h => fun n => (h n).resolve_right (by simp)
  | o :: os, env, h => by
    refine outs_rep hs os (upd env o (look s o)) fun n => ?_
    rw [look_upd]
    by_cases hno : n = o
    · subst hno; left; rw [if_pos rfl]; exact hs n
    · rw [if_neg hno]
      rcases h n with h1 | h1
      · exact .inl h1
      · exact .inr ((List.mem_cons.1 h1).resolve_left hno)

theorem push_rep {m : Gh} {w : World} {s : List (Nat × D)} {a : Act} (hs : EnvR m w s a.tmps) {dst : Option Nat} (hd : ∀ n, dst = some n → n < a.tmps.size) {d : D} {u : Value} (hr : RepD m w d u) : EnvR m w (push dst d s) (a.put dst u).tmps := by
  cases dst with
  | none => exact hs
  | some n =>
    intro k
    have hn := hd n rfl
    simp only [push, look, Act.put]
    by_cases hnk : n = k
    · subst hnk
      rw [if_pos rfl]
      have : (a.tmps.setIfInBounds n u).getD n undef = u := by simp [Array.getD, hn]
      rw [this]
      exact hr
    · rw [if_neg hnk]
      have : (a.tmps.setIfInBounds n u).getD k undef = a.tmps.getD k undef := by simp [Array.getD_eq_getD_getElem?, Array.getElem?_setIfInBounds_ne hnk]
      rw [this]
      exact hs k

theorem put_size (a : Act) (dst : Option Nat) (u : Value) : (a.put dst u).tmps.size = a.tmps.size := by cases dst <;> simp [Act.put]
theorem put_defers' (a : Act) (dst : Option Nat) (u : Value) : (a.put dst u).defers = a.defers := by cases dst <;> simp [Act.put]

theorem put_same (a : Act) (dst : Option Nat) (u : Value) (n : Nat) (h : dst ≠ some n) : (a.put dst u).tmps.getD n undef = a.tmps.getD n undef := by
  cases dst with
  | none => rfl
  | some d =>
    have : d ≠ n := fun e => h (by rw [e])
    simp [Act.put, Array.getD_eq_getD_getElem?, Array.getElem?_setIfInBounds_ne this]

theorem mem_outsOf {keep : List Nat} {n : Nat} : ∀ (rs : List RO), n ∈ outsOf keep rs ↔ n ∈ dstsOf rs ∧ n ∈ keep
  | [] => by simp [outsOf, dstsOf]
  | r :: rs => by
    have ih := mem_outsOf (keep := keep) (n := n) rs
    simp only [outsOf, dstsOf]
    cases r.dst with
    | none => exact ih
    | some d =>
      dsimp only
      by_cases hk : keep.contains d = true
      · rw [if_pos hk]
        simp only [List.mem_cons, ih]
        constructor
        · rintro (rfl | h)
          · exact ⟨.inl rfl, by simpa using hk⟩
          · exact ⟨.inr h.1, h.2⟩
        · rintro ⟨rfl | h, h2⟩
          · exact .inl rfl
          · exact .inr ⟨h, h2⟩
      · rw [if_neg hk]
        simp only [List.mem_cons, ih]
        constructor
        · exact fun h => ⟨.inr h.1, h.2⟩
        · rintro ⟨rfl | h, h2⟩
          · exact (hk (by simpa using h2)).elim
          · exact ⟨h, h2⟩

theorem outs_dom {s : List (Nat × D)} {n : Nat} : ∀ (os : List Nat) (env : List (Nat × D)), n ∉ os → look (outs os s env) n = look env n
  | [], env, _ => rfl
  | o :: os, env, h => by
    simp only [List.mem_cons, not_or] at h
    rw [outs, outs_dom os _ h.2, look_upd, if_neg h.1]

theorem compRO_spec {nt : Nat} {ops : Array Oper} {ms : List Nat} {o : Oper} {r : RO} (h : compRO P nt ops ms o = some r) :
    compT P o ms = some r.op ∧ r.dst = o.dst ∧ (∀ d, o.dst = some d → d < nt) ∧
      ((o.guard = none ∧ r.g = none) ∨ ∃ j want d, o.guard = some (j, want) ∧ (ops[j]?).bind (·.dst) = some d ∧ r.g = some (d, want)) := by
  unfold compRO at h
  split at h
  · cases h
  · rename_i op hop
    split at h
    · rename_i hd
      have hd' : ∀ d, o.dst = some d → d < nt := by intro d hdd; rw [hdd] at hd; simpa [dstOk] using hd
      split at h
      · cases h; exact ⟨hop, rfl, hd', .inl ⟨‹_›, rfl⟩⟩
      · rename_i j want hg
        split at h
        · rename_i d hdj; cases h; exact ⟨hop, rfl, hd', .inr ⟨j, want, d, hg, hdj, rfl⟩⟩
        · cases h
    · cases h

theorem bool_at {m : Gh} {w : World} {tmps : Array Value} {n : Nat} {p : Bool} (h : RepD m w (.v (.bool p)) (tmps.getD n undef)) : tmps[n]? = some (.bool p) := by
  have := h.bool_inv
  rw [Array.getD_eq_getD_getElem?] at this
  cases ht : tmps[n]? with
  | none => rw [ht] at this; simp [undef] at this
  | some v => rw [ht] at this; simp at this; rw [this]

theorem undef_at {m : Gh} {w : World} {tmps : Array Value} {n : Nat} (h : RepD m w (.tup []) (tmps.getD n undef)) : ∀ b, tmps[n]? ≠ some (.bool b) := by
  intro b hb
  rw [Array.getD_eq_getD_getElem?, hb] at h
  simp only [Option.getD_some] at h
  cases h

theorem WO_sound {nt : Nat} {ops : Array Oper} {ms : List Nat} {Q : Exit → Act → World → Prop} : ∀ (l : List Oper) (ros : List RO) (pre : List Oper), ops.toList = pre ++ l → compROs P nt ops ms l = some ros →
    ∀ (σ : Sg) (m : Gh) (w : World) (a : Act) (s : List (Nat × D)) (K : List (Nat × D) → Sg → Prop), Inv σ m w → EnvR m w s a.tmps → a.tmps.size = nt → a.defers = [] → WO P ros s σ K →
      (∀ s' σ' m' w' a', K s' σ' → Inv σ' m' w' → EnvR m' w' s' a'.tmps → a'.tmps.size = nt → a'.defers = [] → Ext m w m' w' → (∀ n, n ∉ dstsOf ros → a'.tmps.getD n undef = a.tmps.getD n undef) → Q .normal a' w') →
      wpOps P ops Q (List.range' pre.length l.length) a w
  | [], ros, pre, _, hc, σ, m, w, a, s, K, hI, hE, hsz, hdf, hW, hk => by
    cases hc
    exact hk s σ m w a hW hI hE hsz hdf (.refl m w) fun _ _ => rfl
  | o :: l, ros, pre, hops, hc, σ, m, w, a, s, K, hI, hE, hsz, hdf, hW, hk => by
    rcases compROs_cons hc with ⟨r, rs, hr, hrs, rfl⟩ | ⟨o', l, r, r', rs, rfl, hlit, hrs, rfl⟩
    · obtain ⟨hcomp, hdst, hdlt, hg⟩ := compRO_spec hr
      have hget : ops[pre.length]? = some o := by
        rw [← Array.getElem?_toList, hops, List.getElem?_append_right (Nat.le_refl _)]
        simp
      have hops' : ops.toList = (pre ++ [o]) ++ l := by rw [hops]; simp
      have hlen : (pre ++ [o]).length = pre.length + 1 := by simp
      have next : ∀ (σ' : Sg) (m' : Gh) (w' : World) (s' : List (Nat × D)) (a' : Act), WO P rs s' σ' K → Inv σ' m' w' → EnvR m' w' s' a'.tmps → a'.tmps.size = nt → a'.defers = [] → Ext m w m' w' → (∀ n, o.dst ≠ some n → a'.tmps.getD n undef = a.tmps.getD n undef) → wpOps P ops Q (List.range' (pre.length + 1) l.length) a' w' := by
        intro σ' m' w' s' a' hW' hI' hE' hsz' hdf' hX' hsame
        have := WO_sound l rs (pre ++ [o]) hops' hrs σ' m' w' a' s' K hI' hE' hsz' hdf' hW' fun s'' σ'' m'' w'' a'' h1 h2 h3 h4 h5 h6 h7 => hk s'' σ'' m'' w'' a'' h1 h2 h3 h4 h5 (hX'.trans h6) fun n hn => by
          have h8 : n ∉ dstsOf rs ∧ o.dst ≠ some n := by
            rw [← hdst]
            cases hrd : r.dst with
            | none => simp only [dstsOf, hrd] at hn; exact ⟨hn, by simp⟩
            | some d => simp only [dstsOf, hrd, List.mem_cons, not_or] at hn; exact ⟨hn.2, fun e => hn.1 (Option.some.inj e).symm⟩
          rw [h7 n h8.1, hsame n h8.2]
        rw [hlen] at this
        exact this
      have run : ∀ (s1 : List (Nat × D)), EnvR m w s1 a.tmps → WOp P r.op s1 σ (fun d σ' => WO P rs (push r.dst d s1) σ' K) → o.wp P a w (wpOps P ops Q (List.range' (pre.length + 1) l.length)) Q := by
        intro s1 hE1 hW1
        refine compT_ok hcomp σ m w a s1 _ hI hE1 hW1 _ Q fun d σ' m' w' u hW' hI' hX' hR' => ?_
        refine next σ' m' w' _ _ hW' hI' ?_ (by rw [put_size]; exact hsz) (by rw [put_defers']; exact hdf) hX' (put_same a o.dst _)
        rw [hdst]
        exact push_rep (hE1.mono hX') (fun n hn => by rw [hsz]; exact hdlt n hn) hR'
      have skip : ∀ (s1 : List (Nat × D)), EnvR m w s1 a.tmps → WO P rs (push r.dst .undef s1) σ K → wpOps P ops Q (List.range' (pre.length + 1) l.length) (a.put o.dst undef) w := by
        intro s1 hE1 hW1
        refine next σ m w _ _ hW1 hI ?_ (by rw [put_size]; exact hsz) (by rw [put_defers']; exact hdf) (.refl m w) (put_same a o.dst _)
        rw [hdst]
        exact push_rep hE1 (fun n hn => by rw [hsz]; exact hdlt n hn) (.tup [] [] rfl (by simp))
      simp only [List.length_cons, List.range'_succ, wpOps, hget]
      obtain ⟨rdst, rg, rop⟩ := r
      rcases hg with ⟨hg, hrg⟩ | ⟨j, want, d, hg, hjd, hrg⟩
      · have hrg' : rg = none := hrg
        subst hrg'
        have hw : Region.wanted o (yielded ops a.tmps) = true := by simp [Region.wanted, hg]
        rw [if_pos hw]
        exact .inl (run s hE hW)
      · have hrg' : rg = some (d, want) := hrg
        subst hrg'
        have hy1 : ∀ p, a.tmps[d]? = some (.bool p) → yielded ops a.tmps j = some p := by
          intro p hp
          simp [yielded, hjd, hp]
        have hy2 : (∀ b, a.tmps[d]? ≠ some (.bool b)) → ∀ q, yielded ops a.tmps j ≠ some q := by
          intro hn q
          simp only [yielded, hjd, Option.bind_some]
          cases ht : a.tmps[d]? with
          | none => simp
          | some v =>
            cases v with
            | bool b => exact absurd ht (hn b)
            | _ => simp
        simp only [WO] at hW
        have hEd := hE d
        split at hW
        · rename_i p hp
          rw [hp] at hEd
          have hy' := hy1 p (bool_at hEd)
          have hE1 : ∀ q : Bool, p = q → EnvR m w ((d, .v (.bool q)) :: s) a.tmps := by
            rintro q rfl k
            simp only [look]
            by_cases hdk : d = k
            · subst hdk; rw [if_pos rfl]; exact hEd
            · rw [if_neg hdk]; exact hE k
          by_cases hpw : p = want
          · have hw : Region.wanted o (yielded ops a.tmps) = true := by simp [Region.wanted, hg, hy', hpw]
            rw [if_pos hw]
            exact .inl (run _ (hE1 want hpw) (hW.1 hpw))
          · have hw : ¬ Region.wanted o (yielded ops a.tmps) = true := by simp [Region.wanted, hg, hy', hpw]
            rw [if_neg hw]
            have hpn : p = !want := by cases p <;> cases want <;> simp_all
            exact skip _ (hE1 _ hpn) (hW.2 hpn)
        · rename_i hp
          rw [hp] at hEd
          have hu := hy2 (undef_at hEd)
          have hw : ¬ Region.wanted o (yielded ops a.tmps) = true := by
            simp only [Region.wanted, hg]
            simpa using hu want
          rw [if_neg hw]
          exact skip s hE hW
        · exact hW.elim
    · obtain ⟨t, e, len, ps, ie, z, sh, es, d, ho, ho', hg, hg', hd, hdlt, hdlt', rfl, rfl, hu, he, hie, hz, hsz1, hpos, hzs, hlen1, hidx, hsmall, hes⟩ := isLit_spec hlit
      have hget : ops[pre.length]? = some o := by
        rw [← Array.getElem?_toList, hops, List.getElem?_append_right (Nat.le_refl _)]
        simp
      have hget' : ops[pre.length + 1]? = some o' := by
        rw [← Array.getElem?_toList, hops, List.getElem?_append_right (by omega)]
        simp
      have hops' : ops.toList = (pre ++ [o, o']) ++ l := by rw [hops]; simp
      have hlen : (pre ++ [o, o']).length = pre.length + 1 + 1 := by simp
      obtain ⟨C, x, hrun, hW', hrep, _⟩ := mksl_core ho hu hie hz hsz1 hpos hzs hlen1 hidx hsmall hes (K := fun y σ' => WO P rs (push o'.dst (ev ((d, y) :: s) (.t d)) ((d, y) :: s)) σ' K) hI hE (by simpa [WO, push, WOp] using hW)
      simp only [List.length_cons, List.range'_succ, wpOps, hget, hget']
      have hw : Region.wanted o (yielded ops a.tmps) = true := by simp [Region.wanted, hg]
      have hw' : ∀ tmps, Region.wanted o' (yielded ops tmps) = true := fun tmps => by simp [Region.wanted, hg']
      rw [if_pos hw]
      refine .inl ?_
      unfold Oper.wp
      rw [hrun]
      simp only [Oper.upon]
      rw [if_pos (hw' _)]
      refine .inl ?_
      have hval : (a.put o.dst (.slice (some ⟨w.heap.size, 0, none⟩) len len)).eval (.tmp d) = .slice (some ⟨w.heap.size, 0, none⟩) len len := by
        have hds : d < a.tmps.size := by omega
        simp [Act.eval, Act.put, hd, Array.getD, hds]
      have hrun2 : (execOp (a.put o.dst (.slice (some ⟨w.heap.size, 0, none⟩) len len)).eval o').run P (w.alloc (.cells C e)) = .ok (.value (.slice (some ⟨w.heap.size, 0, none⟩) len len)) (w.alloc (.cells C e (C.size, C.size + 1))) := by
        have hc := Lib.run_convert_bytes_const (P := P) w t e C len len hu he
        simp only [execOp, ho', hval, Sem.run_bind, hc, Result.andThen_ok, Sem.run_pure]
      rw [hrun2]
      dsimp only
      have hX : Ext m w m (w.alloc (.cells C e (C.size, C.size + 1))) := .alloc m w _
      have hE1 : EnvR m (w.alloc (.cells C e (C.size, C.size + 1))) ((d, .v x) :: s) (a.put o.dst (.slice (some ⟨w.heap.size, 0, none⟩) len len)).tmps := by
        have := push_rep (hE.mono hX) (dst := o.dst) (fun n hn => by rw [hd] at hn; cases hn; omega) (hrep (C.size, C.size + 1))
        simpa [hd, push] using this
      have hE2 := push_rep hE1 (dst := o'.dst) (fun n hn => by rw [put_size, hsz]; exact hdlt' n hn) (d := .v x) (u := .slice (some ⟨w.heap.size, 0, none⟩) len len) (hrep (C.size, C.size + 1))
      have hev : ev ((d, D.v x) :: s) (.t d) = .v x := by simp [ev, look]
      rw [hev] at hW'
      have := WO_sound l rs (pre ++ [o, o']) hops' hrs σ m _ _ _ K (hI.alloc _) hE2 (by rw [put_size, put_size]; exact hsz) (by rw [put_defers', put_defers']; exact hdf) hW' fun s'' σ'' m'' w'' a'' h1 h2 h3 h4 h5 h6 h7 => hk s'' σ'' m'' w'' a'' h1 h2 h3 h4 h5 (hX.trans h6) fun n hn => by
        have hn' : n ∉ dstsOf rs ∧ o.dst ≠ some n ∧ o'.dst ≠ some n := by
          rw [hd]
          simp only [dstsOf] at hn
          cases hd' : o'.dst with
          | none => rw [hd'] at hn; simp only [List.mem_cons, not_or] at hn; exact ⟨hn.2, fun e => hn.1 (Option.some.inj e).symm, by simp⟩
          | some k => rw [hd'] at hn; simp only [List.mem_cons, not_or] at hn; exact ⟨hn.2.2, fun e => hn.1 (Option.some.inj e).symm, fun e => hn.2.1 (Option.some.inj e).symm⟩
        rw [h7 n hn'.1, put_same _ _ _ n hn'.2.2, put_same _ _ _ n hn'.2.1]
      rw [hlen] at this
      exact this


end
end Go.Abs
