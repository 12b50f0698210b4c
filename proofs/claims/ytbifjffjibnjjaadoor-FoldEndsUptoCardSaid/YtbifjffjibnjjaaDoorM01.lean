/-
  The abstract values of a run, and how they stand for the model's values in a world. (Own work; seat-independent.)
-/
import Derived.Laws.AppendOwn
import Derived.Orders
import Derived.KernelRfl
import Derived.MapKept
import Derived.Deep.MidRow
import Derived.Laws.StructEq
import Derived.Laws.Cover3
namespace Go.Abs
open Go

/-- The shape of a slice's element: none: one cell; some n: a struct or array of n cells. -/
abbrev Sh := Option Nat
def shn : Sh → Nat
  | none => 1
  | some n => n

/-- Data that never change. -/
inductive V where
  | bool (b : Bool)
  | int (k : IntKind) (n : Int)
  | str (s : List UInt8)
  | pnil
  | snil
  | mnil
  | fnil
  | inil
  | sl (sh : Sh) (full : Bool) (xs : List V)
  | agg (cs : List V)
  | iface (t : Nat) (v : V)
  | fn (f : Nat)
  | box (sh : Sh) (x : V) (off : Nat)
  | adr (b off : Nat)
  deriving Inhabited

def V.cells : V → List V
  | .agg cs => cs
  | v => [v]
def V.one : V → Bool
  | .agg _ => false
  | _ => true
def V.shape : V → Sh
  | .agg cs => some cs.length
  | _ => none
def V.flat (xs : List V) : List V := xs.flatMap V.cells

theorem V.cells_length (x : V) : x.cells.length = shn x.shape := by cases x <;> rfl

theorem V.flat_length {sh : Sh} : ∀ {xs : List V}, (∀ x ∈ xs, x.shape = sh) → (V.flat xs).length = xs.length * shn sh
  | [], _ => by simp [V.flat]
  | x :: xs, h => by
    have ih := V.flat_length (xs := xs) fun y hy => h y (by simp [hy])
    have hx := h x (by simp)
    simp only [V.flat, List.flatMap_cons, List.length_append, List.length_cons] at *
    rw [V.cells_length, hx, ih, Nat.add_mul]
    omega

/-- In a kind's range. -/
def inR (k : IntKind) (n : Int) : Prop := k.min ≤ n ∧ n ≤ k.max
instance (k : IntKind) (n : Int) : Decidable (inR k n) := inferInstanceAs (Decidable (_ ∧ _))

/-- An immutable value stands for a value of the model. F: cells that stay as0 they are. -/
inductive RepV (w : World) (F : Nat → Nat → Prop) : V → Value → Prop where
  | bool (b : Bool) : RepV w F (.bool b) (.bool b)
  | int (k : IntKind) (n : Int) (h : inR k n) : RepV w F (.int k n) (.int k n)
  | str (s : List UInt8) (h : s.length ≤ maxLen) : RepV w F (.str s) (.string ⟨s.toArray⟩)
  | pnil : RepV w F .pnil (.pointer none)
  | snil : RepV w F .snil (.slice none 0 0)
  | mnil : RepV w F .mnil (.map none)
  | fnil : RepV w F .fnil .nilFunc
  | inil : RepV w F .inil .nilIface
  | slNil (sh : Sh) (full : Bool) (a : Option Addr) : RepV w F (.sl sh full []) (.slice a 0 0)
  | sl (sh : Sh) (full : Bool) (xs : List V) (b off cap : Nat) (us : Nat → Value) (hs : ∀ x ∈ xs, x.shape = sh) (h1 : ∀ c ∈ V.flat xs, c.one = true)
      (hl : xs.length ≤ cap) (hm : cap ≤ maxLen) (hf : full = true → cap = xs.length)
      (hc : ∀ i, i < xs.length * shn sh → w.cell? ⟨b, off + i, none⟩ = some (us i) ∧ F b (off + i))
      (hr : ∀ (i : Nat) c, (V.flat xs)[i]? = some c → RepV w F c (us i)) : RepV w F (.sl sh full xs) (.slice (some ⟨b, off, none⟩) xs.length cap)
  | agg (cs : List V) (us : List Value) (hl : cs.length = us.length) (h1 : ∀ c ∈ cs, c.one = true)
      (hr : ∀ (i : Nat) c u, cs[i]? = some c → us[i]? = some u → RepV w F c u) : RepV w F (.agg cs) (.agg us.toArray)
  | iface (t : Nat) (v : V) (u : Value) (h : RepV w F v u) : RepV w F (.iface t v) (.iface t u)
  | fn (f : Nat) : RepV w F (.fn f) (.func (.func f) #[] #[])
  | box (sh : Sh) (x : V) (off b base : Nat) (us : Nat → Value) (hs : x.shape = sh) (h1 : ∀ c ∈ x.cells, c.one = true)
      (hc : ∀ i, i < shn sh → w.cell? ⟨b, base + i, none⟩ = some (us i) ∧ F b (base + i))
      (hr : ∀ (i : Nat) c, x.cells[i]? = some c → RepV w F c (us i)) : RepV w F (.box sh x off) (.pointer (some ⟨b, base + off, none⟩))
  | adr (b off : Nat) : RepV w F (.adr b off) (.pointer (some ⟨b, off, none⟩))

theorem RepV.mono {w w' : World} {F F' : Nat → Nat → Prop} (h : ∀ b off, F b off → w'.cell? ⟨b, off, none⟩ = w.cell? ⟨b, off, none⟩ ∧ F' b off) {x : V} {u : Value} (r : RepV w F x u) : RepV w' F' x u := by
  induction r with
  | bool b => exact .bool b
  | int k n h => exact .int k n h
  | str s h => exact .str s h
  | pnil => exact .pnil
  | snil => exact .snil
  | mnil => exact .mnil
  | fnil => exact .fnil
  | inil => exact .inil
  | slNil sh full a => exact .slNil sh full a
  | sl sh full xs b off cap us hs h1 hl hm hf hc hr ih =>
    exact .sl sh full xs b off cap us hs h1 hl hm hf (fun i hi => ⟨by rw [(h b _ (hc i hi).2).1]; exact (hc i hi).1, (h b _ (hc i hi).2).2⟩) ih
  | agg cs us hl h1 hr ih => exact .agg cs us hl h1 ih
  | iface t v u _ ih => exact .iface t v u ih
  | fn f => exact .fn f
  | box sh x off b base us hs h1 hc hr ih => exact .box sh x off b base us hs h1 (fun i hi => ⟨by rw [(h b _ (hc i hi).2).1]; exact (hc i hi).1, (h b _ (hc i hi).2).2⟩) ih
  | adr b off => exact .adr b off

theorem RepV.one {w : World} {F : Nat → Nat → Prop} {x : V} {u : Value} (r : RepV w F x u) (h : x.one = true) : u.oneCell' = true := by
  cases r <;> first | rfl | (simp [V.one] at h)

/-- A value that may lead into memory that the run owns. -/
inductive D where
  | v (x : V)
  | ptr (o off : Nat)
  | imm (sh : Sh) (x : V) (off : Nat)
  | tsl (t : Nat) (sh : Sh) (xs : List V)
  | agg (cs : List D)
  | fn (f : Nat) (caps : List D)
  | bfn (f : Nat) (d : D)
  | iface (t : Nat) (d : D)
  | tup (ds : List D)
  | map (o : Nat)
  | msl (o off len : Nat) (sh : Sh) (cp : Option Nat)
  | junk
  deriving Inhabited

/-- What is known of an append's room: the block at whose head it begins (none: no room at all), its shape, how many fit, how many are there. -/
structure Tok where
  own : Option Nat
  sh : Sh
  cap : Nat
  hw : Nat

/-- The blocks of the objects (none: the object is no more: its cells stay as0 they are). -/
structure Gh where
  objs : List (Option Nat)
  toks : List Tok

def Gh.objb (m : Gh) : List Nat := m.objs.filterMap id
theorem Gh.mem_objb {m : Gh} {b : Nat} : b ∈ m.objb ↔ some b ∈ m.objs := by simp [Gh.objb]
def Gh.mut (m : Gh) (b off : Nat) : Prop := b ∈ m.objb ∨ ∃ tk ∈ m.toks, tk.own = some b ∧ tk.hw * shn tk.sh ≤ off
def Fz (m : Gh) (w : World) (b off : Nat) : Prop := b < w.heap.size ∧ ¬ m.mut b off
def Gh.ownb (m : Gh) : List Nat := m.toks.filterMap (·.own)
def Gh.blocks (m : Gh) : List Nat := m.objb ++ m.ownb

/-- Object o lies in block b (or is no more). -/
def Gh.at (m : Gh) (o b : Nat) : Prop := m.objs[o]? = some (some b) ∨ m.objs[o]? = some none

def D.undef : D := .tup []

/-- A value's reading. -/
inductive RepD (m : Gh) (w : World) : D → Value → Prop where
  | v (x : V) (u : Value) (h : RepV w (Fz m w) x u) : RepD m w (.v x) u
  | ptr (o off b : Nat) (h : m.at o b) : RepD m w (.ptr o off) (.pointer (some ⟨b, off, none⟩))
  | imm (sh : Sh) (x : V) (off b base : Nat) (us : Nat → Value) (hs : x.shape = sh) (h1 : ∀ c ∈ x.cells, c.one = true)
      (hc : ∀ i, i < shn sh → w.cell? ⟨b, base + i, none⟩ = some (us i) ∧ Fz m w b (base + i))
      (hr : ∀ (i : Nat) c, x.cells[i]? = some c → RepV w (Fz m w) c (us i)) : RepD m w (.imm sh x off) (.pointer (some ⟨b, base + off, none⟩))
  | tsl (t : Nat) (sh : Sh) (xs : List V) (a : Option Addr) (len cap : Nat) (tk : Tok) (hv : RepV w (Fz m w) (.sl sh false xs) (.slice a len cap))
      (ht : m.toks[t]? = some tk) (hsh : tk.sh = sh) (hle : xs.length ≤ tk.hw)
      (heq : xs.length = tk.hw → cap = tk.cap ∧ ∀ b, tk.own = some b → a = some ⟨b, 0, none⟩) : RepD m w (.tsl t sh xs) (.slice a len cap)
  | agg (cs : List D) (us : List Value) (hl : cs.length = us.length) (h1 : ∀ u ∈ us, u.oneCell' = true)
      (hr : ∀ (i : Nat) c u, cs[i]? = some c → us[i]? = some u → RepD m w c u) : RepD m w (.agg cs) (.agg us.toArray)
  | fn (f : Nat) (caps : List D) (us : List Value) (hl : caps.length = us.length)
      (hr : ∀ (i : Nat) c u, caps[i]? = some c → us[i]? = some u → RepD m w c u) : RepD m w (.fn f caps) (.func (.func f) #[] us.toArray)
  | bfn (f : Nat) (d : D) (u : Value) (h : RepD m w d u) : RepD m w (.bfn f d) (.func (.func f) #[u] #[])
  | iface (t : Nat) (d : D) (u : Value) (h : RepD m w d u) : RepD m w (.iface t d) (.iface t u)
  | tup (ds : List D) (us : List Value) (hl : ds.length = us.length)
      (hr : ∀ (i : Nat) c u, ds[i]? = some c → us[i]? = some u → RepD m w c u) : RepD m w (.tup ds) (.tuple us.toArray)
  | map (o b : Nat) (h : m.at o b) : RepD m w (.map o) (.map (some b))
  | msl (o off len : Nat) (sh : Sh) (cp : Option Nat) (a : Option Addr) (cap : Nat) (ho : o < m.objs.length) (h : (∃ b, a = some ⟨b, off, none⟩ ∧ m.at o b) ∨ (len = 0 ∧ cap = 0)) (hl : len ≤ cap) (hm : cap ≤ maxLen) (hc : ∀ c, cp = some c → cap = c) :
      RepD m w (.msl o off len sh cp) (.slice a len cap)
  | junk (u : Value) : RepD m w .junk u

/-- From one moment to a later one. -/
structure Ext (m : Gh) (w : World) (m' : Gh) (w' : World) : Prop where
  os : w'.os = w.os
  tape : w'.tape = w.tape
  output : w'.output = w.output
  size : w.heap.size ≤ w'.heap.size
  objs : ∀ (o : Nat) x, m.objs[o]? = some x → m'.objs[o]? = some x ∨ m'.objs[o]? = some none
  toks : ∀ (t : Nat) tk, m.toks[t]? = some tk → ∃ tk', m'.toks[t]? = some tk' ∧ tk'.sh = tk.sh ∧ tk.hw ≤ tk'.hw ∧ (tk.hw = tk'.hw → tk' = tk)
  froz : ∀ b off, Fz m w b off → w'.cell? ⟨b, off, none⟩ = w.cell? ⟨b, off, none⟩ ∧ ¬ m'.mut b off
  blocks : ∀ b, b < w.heap.size → b ∉ m.blocks → w'.heap[b]? = w.heap[b]? ∧ b ∉ m'.blocks

theorem Ext.fz {m m' : Gh} {w w' : World} (h : Ext m w m' w') (b off : Nat) (f : Fz m w b off) : w'.cell? ⟨b, off, none⟩ = w.cell? ⟨b, off, none⟩ ∧ Fz m' w' b off :=
  ⟨(h.froz b off f).1, Nat.lt_of_lt_of_le f.1 h.size, (h.froz b off f).2⟩

theorem Ext.at {m m' : Gh} {w w' : World} (h : Ext m w m' w') {o b : Nat} (k : m.at o b) : m'.at o b := by
  rcases k with k | k
  · exact h.objs o _ k
  · rcases h.objs o _ k with e | e <;> exact .inr e
theorem Ext.len {m m' : Gh} {w w' : World} (h : Ext m w m' w') {o : Nat} (k : o < m.objs.length) : o < m'.objs.length := by
  rcases h.objs o _ (List.getElem?_eq_getElem k) with e | e <;> exact (List.getElem?_eq_some_iff.1 e).1

theorem Ext.refl (m : Gh) (w : World) : Ext m w m w :=
  ⟨rfl, rfl, rfl, Nat.le_refl _, fun _ _ h => .inl h, fun _ tk h => ⟨tk, h, rfl, Nat.le_refl _, fun _ => rfl⟩, fun _ _ h => ⟨rfl, h.2⟩, fun _ _ h => ⟨rfl, h⟩⟩

theorem Ext.trans {m₁ m₂ m₃ : Gh} {w₁ w₂ w₃ : World} (h : Ext m₁ w₁ m₂ w₂) (k : Ext m₂ w₂ m₃ w₃) : Ext m₁ w₁ m₃ w₃ := by
  refine ⟨k.os.trans h.os, k.tape.trans h.tape, k.output.trans h.output, Nat.le_trans h.size k.size, fun o b hb => ?_, ?_, ?_, ?_⟩
  · rcases h.objs o b hb with e | e
    · exact k.objs o b e
    · rcases k.objs o _ e with e | e <;> exact .inr e
  · intro t tk ht
    obtain ⟨tk', h1, h2, h3, h4⟩ := h.toks t tk ht
    obtain ⟨tk'', k1, k2, k3, k4⟩ := k.toks t tk' h1
    refine ⟨tk'', k1, k2.trans h2, Nat.le_trans h3 k3, fun e => ?_⟩
    have e1 : tk.hw = tk'.hw := by omega
    have e2 : tk'.hw = tk''.hw := by omega
    exact (k4 e2).trans (h4 e1)
  · intro b off f
    have f2 := h.fz b off f
    have f3 := k.froz b off f2.2
    exact ⟨f3.1.trans f2.1, f3.2⟩
  · intro b hb hn
    have a1 := h.blocks b hb hn
    have a2 := k.blocks b (Nat.lt_of_lt_of_le hb h.size) a1.2
    exact ⟨a2.1.trans a1.1, a2.2⟩

theorem RepD.mono {m m' : Gh} {w w' : World} (h : Ext m w m' w') {d : D} {u : Value} (r : RepD m w d u) : RepD m' w' d u := by
  induction r with
  | v x u hx => exact .v x u (hx.mono h.fz)
  | ptr o off b hb => exact .ptr o off b (h.at hb)
  | imm sh x off b base us hs h1 hc hr =>
    exact .imm sh x off b base us hs h1 (fun i hi => ⟨by rw [(h.fz b _ (hc i hi).2).1]; exact (hc i hi).1, (h.fz b _ (hc i hi).2).2⟩) (fun i c hi => (hr i c hi).mono h.fz)
  | tsl t sh xs a len cap tk hv ht hsh hle heq =>
    obtain ⟨tk', h1, h2, h3, h4⟩ := h.toks t tk ht
    refine .tsl t sh xs a len cap tk' (hv.mono h.fz) h1 (h2.trans hsh) (Nat.le_trans hle h3) fun e => ?_
    have e1 : tk.hw = tk'.hw := by omega
    rw [h4 e1]
    exact heq (by omega)
  | agg cs us hl h1 _ ih => exact .agg cs us hl h1 ih
  | fn f caps us hl _ ih => exact .fn f caps us hl ih
  | bfn f d u _ ih => exact .bfn f d u ih
  | iface t d u _ ih => exact .iface t d u ih
  | tup ds us hl _ ih => exact .tup ds us hl ih
  | map o b hb => exact .map o b (h.at hb)
  | msl o off len sh cp a cap ho hb hl hm hc => exact .msl o off len sh cp a cap (h.len ho) (hb.imp (fun ⟨b, e, k⟩ => ⟨b, e, h.at k⟩) id) hl hm hc
  | junk u => exact .junk u

inductive Ob where
  | cells (cs : List D)
  | map (es : List (V × D))
  | iter (mo : Option Nat) (since : Nat) (seen : List Nat)
  | known (b : Nat) (cs : List D)
  deriving Inhabited

/-- Are maps only laid into, never taken from? (Of this seat: a range over a map asks for it; 'delete' asks for the other.) -/
def dense : Bool := false
theorem dense_is : dense = false := rfl
/-- A map; where maps are dense: into which all its entries have been laid one after the other, and out of which none was taken. -/
def Dense (ms : Array MapEntry) (clock : Nat) : Prop := MapKept.Stamped ms clock ∧ (dense = true → clock = ms.size ∧ ∀ (i : Nat) e, ms[i]? = some e → e.born = i)
theorem dense_empty : Dense #[] 0 := ⟨MapKept.stamped_empty 0, fun _ => ⟨rfl, by simp⟩⟩
theorem dense_push {es : Array MapEntry} {clock : Nat} (h : Dense es clock) {key val : Value} (hk : ∀ x ∈ es.toList, x.key ≠ key) : Dense (es.push { key, val, born := clock }) (clock + 1) := by
  refine ⟨MapKept.stamped_push h.1 hk, fun hd => ⟨by simp [(h.2 hd).1], fun i e he => ?_⟩⟩
  rw [Array.getElem?_push] at he
  split at he
  · rename_i hi
    cases he
    simp [hi, (h.2 hd).1]
  · exact (h.2 hd).2 i e he
theorem dense_modify {es : Array MapEntry} {clock : Nat} (h : Dense es clock) (i : Nat) (f : MapEntry → MapEntry) (hb : ∀ e ∈ es.toList, (f e).born = e.born) (hk : ∀ e ∈ es.toList, es[i]? = some e → (f e).key = e.key) : Dense (es.modify i f) clock := by
  refine ⟨MapKept.stamped_modify h.1 i f hb hk, fun hd => ⟨by simp [(h.2 hd).1], fun j e he => ?_⟩⟩
  rw [Array.getElem?_modify] at he
  split at he
  · cases hj : es[j]? with
    | none => rw [hj] at he; cases he
    | some x =>
      rw [hj] at he
      cases he
      rw [hb x (Array.mem_toList_iff.2 (Array.mem_of_getElem? hj))]
      exact (h.2 hd).2 j x hj
  · exact (h.2 hd).2 j e he
theorem dense_erase {es : Array MapEntry} {clock : Nat} (hd : dense = false) (h : Dense es clock) (i : Nat) : Dense (es.eraseIdxIfInBounds i) clock :=
  ⟨MapKept.stamped_erase h.1 i, fun h => by rw [hd] at h; cases h⟩


/-- The memory that the run owns: its objects; how much of each append's room is in use. -/
structure Sg where
  objs : List Ob
  toks : List Nat

def ObRep (m : Gh) (w : World) : Ob → Nat → Prop
  | .cells cs, b => ∃ us ty, w.heap[b]? = some (.cells us ty (0, 0)) ∧ cs.length ≤ us.size ∧ (∀ (i : Nat) d u, cs[i]? = some d → us[i]? = some u → RepD m w d u ∧ u.oneCell' = true) ∧ True
  | .map es, b => ∃ ms clock, w.heap[b]? = some (.map ms clock) ∧ ms.size = es.length ∧
      (∀ (i : Nat) x e, es[i]? = some x → ms[i]? = some e → RepV w (Fz m w) x.1 e.key ∧ RepD m w x.2 e.val) ∧ Dense ms clock
  | .iter none _ _, b => w.heap[b]? = some (.mapIter none 0 #[] 0)
  | .iter (some o) since seen, b => ∃ bm, m.at o bm ∧ w.heap[b]? = some (.mapIter (some bm) since seen.toArray since)
  | .known b' cs, b => b' = b ∧ ∃ us ty, w.heap[b]? = some (.cells us ty (0, 0)) ∧ cs.length ≤ us.size ∧ (∀ (i : Nat) d u, cs[i]? = some d → us[i]? = some u → RepD m w d u ∧ u.oneCell' = true) ∧ True

/-- A row of which cells are put anew: those that are known are one cell each. -/
theorem row_one {cs : List D} {us vs : List Value} {off : Nat} {R : D → Value → Prop} (hob : ∀ (i : Nat) d u, cs[i]? = some d → us[i]? = some u → R d u ∧ u.oneCell' = true) (c3 : ∀ u ∈ vs, u.oneCell' = true) (hfit : off + vs.length ≤ cs.length) (hsz : cs.length ≤ us.length) :
    ∀ (j : Nat) u, (us.take off ++ vs ++ us.drop (off + vs.length))[j]? = some u → j < cs.length → u.oneCell' = true := by
  intro j u hu hj
  have old : us[j]? = some u → u.oneCell' = true := fun h => (hob j cs[j] u (List.getElem?_eq_getElem hj) h).2
  have htl : (us.take off).length = off := by rw [List.length_take]; omega
  rw [List.append_assoc] at hu
  by_cases h1 : j < off
  · rw [List.getElem?_append_left (by omega), List.getElem?_take_of_lt h1] at hu
    exact old hu
  · rw [List.getElem?_append_right (by omega), htl] at hu
    by_cases h2 : j - off < vs.length
    · rw [List.getElem?_append_left h2] at hu
      exact c3 u (List.mem_of_getElem? hu)
    · rw [List.getElem?_append_right (by omega), List.getElem?_drop] at hu
      rw [show off + vs.length + (j - off - vs.length) = j by omega] at hu
      exact old hu

/-- The package variables that stay as0 they were laid: their blocks, their cells. (Of this seat.) -/
def globs : List (Nat × (Array Value → Prop)) := [(0, fun cs => cs = #[.int .u64 1, .int .u64 10, .int .u64 100, .int .u64 1000, .int .u64 10000, .int .u64 100000, .int .u64 1000000, .int .u64 10000000, .int .u64 100000000, .int .u64 1000000000, .int .u64 10000000000, .int .u64 100000000000, .int .u64 1000000000000, .int .u64 10000000000000, .int .u64 100000000000000, .int .u64 1000000000000000, .int .u64 10000000000000000, .int .u64 100000000000000000, .int .u64 1000000000000000000, .int .u64 10000000000000000000])]
def Glob (m : Gh) (w : World) : Prop := ∀ p ∈ globs, (∃ cs ty fr, w.heap[p.1]? = some (.cells cs ty fr) ∧ p.2 cs) ∧ p.1 ∉ m.blocks
theorem Glob.mono {m m' : Gh} {w w' : World} (e : Ext m w m' w') (h : Glob m w) : Glob m' w' := fun p hp => by
  obtain ⟨⟨cs, ty, fr, h1, hp2⟩, h2⟩ := h p hp
  have hb := e.blocks p.1 (Array.getElem?_eq_some_iff.1 h1).1 h2
  exact ⟨⟨cs, ty, fr, hb.1.trans h1, hp2⟩, hb.2⟩

structure Inv (σ : Sg) (m : Gh) (w : World) : Prop where
  lobj : m.objs.length = σ.objs.length
  ltok : m.toks.map (·.hw) = σ.toks
  nodup : m.blocks.Nodup
  ob : ∀ (o : Nat) ob b, σ.objs[o]? = some ob → m.objs[o]? = some (some b) → ObRep m w ob b
  gone : ∀ (o : Nat), m.objs[o]? = some none → σ.objs[o]? = some (.cells [])
  tk : ∀ tk ∈ m.toks, tk.hw ≤ tk.cap ∧ tk.cap ≤ maxLen ∧ (tk.own = none → tk.cap = tk.hw) ∧
    ∀ b, tk.own = some b → ∃ us ty, w.heap[b]? = some (.cells us ty (0, 0)) ∧ tk.cap * shn tk.sh ≤ us.size
  glob : Glob m w

def EnvRep (m : Gh) (w : World) (env : List (Nat × D)) (tmps : Array Value) : Prop := ∀ p ∈ env, RepD m w p.2 (tmps.getD p.1 undef)

theorem EnvRep.mono {m m' : Gh} {w w' : World} (h : Ext m w m' w') {env : List (Nat × D)} {tmps : Array Value} (r : EnvRep m w env tmps) : EnvRep m' w' env tmps :=
  fun p hp => (r p hp).mono h

theorem Inv.lt_obj {σ : Sg} {m : Gh} {w : World} (h : Inv σ m w) {b : Nat} (hb : b ∈ m.objb) : b < w.heap.size := by
  obtain ⟨o, ho⟩ := List.mem_iff_getElem?.1 (Gh.mem_objb.1 hb)
  have hlt : o < σ.objs.length := by rw [← h.lobj]; exact (List.getElem?_eq_some_iff.1 ho).1
  have hr := h.ob o (σ.objs[o]) b (List.getElem?_eq_getElem hlt) ho
  cases hob : σ.objs[o] with
  | cells cs => rw [hob] at hr; obtain ⟨us, ty, hh, _⟩ := hr; exact (Array.getElem?_eq_some_iff.1 hh).1
  | map es => rw [hob] at hr; obtain ⟨us, ty, hh, _⟩ := hr; exact (Array.getElem?_eq_some_iff.1 hh).1
  | iter mo since seen =>
    rw [hob] at hr
    cases mo with
    | none => exact (Array.getElem?_eq_some_iff.1 hr).1
    | some o' => obtain ⟨_, _, hh⟩ := hr; exact (Array.getElem?_eq_some_iff.1 hh).1
  | known b' cs => rw [hob] at hr; obtain ⟨_, us, ty, hh, _⟩ := hr; exact (Array.getElem?_eq_some_iff.1 hh).1

/-- An object that has cells lies in a block. -/
theorem Inv.live {σ : Sg} {m : Gh} {w : World} (h : Inv σ m w) {o b : Nat} {ob : Ob} (ho : σ.objs[o]? = some ob) (hne : ob ≠ .cells []) (hb : m.at o b) : m.objs[o]? = some (some b) := by
  rcases hb with hb | hb
  · exact hb
  · have := h.gone o hb
    rw [ho] at this
    exact absurd (Option.some.inj this) hne
/-- An object whose block is known lies there. -/
theorem Inv.known {σ : Sg} {m : Gh} {w : World} (h : Inv σ m w) {o b : Nat} {cs : List D} (ho : σ.objs[o]? = some (.known b cs)) : m.objs[o]? = some (some b) ∧
    ∃ us ty, w.heap[b]? = some (.cells us ty (0, 0)) ∧ cs.length ≤ us.size ∧ ∀ (i : Nat) d u, cs[i]? = some d → us[i]? = some u → RepD m w d u ∧ u.oneCell' = true := by
  have hlt : o < m.objs.length := by rw [h.lobj]; exact (List.getElem?_eq_some_iff.1 ho).1
  have hm : m.objs[o]? = some m.objs[o] := List.getElem?_eq_getElem hlt
  cases hx : m.objs[o] with
  | none =>
    rw [hx] at hm
    have := h.gone o hm
    rw [ho] at this
    cases this
  | some b1 =>
    rw [hx] at hm
    obtain ⟨rfl, us, ty, h1, h2, h3, _⟩ := h.ob o _ b1 ho hm
    exact ⟨hm, us, ty, h1, h2, h3⟩
theorem ne_nil_of_get {cs : List D} {i : Nat} {d : D} (h : cs[i]? = some d) : Ob.cells cs ≠ .cells [] := by
  rintro e
  cases e
  simp at h
theorem ne_nil_of_lt {cs : List D} {i : Nat} (h : i < cs.length) : Ob.cells cs ≠ .cells [] := ne_nil_of_get (List.getElem?_eq_getElem h)

theorem Gh.mem_ownb {m : Gh} {b : Nat} : b ∈ m.ownb ↔ ∃ tk ∈ m.toks, tk.own = some b := by
  simp only [Gh.ownb, List.mem_filterMap]

theorem Inv.lt_own {σ : Sg} {m : Gh} {w : World} (h : Inv σ m w) {b : Nat} (hb : b ∈ m.ownb) : b < w.heap.size := by
  obtain ⟨tk, htk, ho⟩ := Gh.mem_ownb.1 hb
  obtain ⟨us, ty, hh, _⟩ := (h.tk tk htk).2.2.2 b ho
  exact (Array.getElem?_eq_some_iff.1 hh).1

theorem Inv.lt_block {σ : Sg} {m : Gh} {w : World} (h : Inv σ m w) {b : Nat} (hb : b ∈ m.blocks) : b < w.heap.size := by
  rcases List.mem_append.1 hb with h1 | h1
  · exact h.lt_obj h1
  · exact h.lt_own h1

theorem Gh.mut_block {m : Gh} {b off : Nat} (h : m.mut b off) : b ∈ m.blocks := by
  rcases h with h | ⟨tk, htk, ho, _⟩
  · exact List.mem_append.2 (.inl h)
  · exact List.mem_append.2 (.inr (Gh.mem_ownb.2 ⟨tk, htk, ho⟩))

theorem cell?_of_heap {w w' : World} {b off : Nat} (h : w'.heap[b]? = w.heap[b]?) : w'.cell? ⟨b, off, none⟩ = w.cell? ⟨b, off, none⟩ := by simp [World.cell?, h]

theorem ObRep.mono {m m' : Gh} {w w' : World} (h : Ext m w m' w') {ob : Ob} {b : Nat} (hb : w'.heap[b]? = w.heap[b]?) (r : ObRep m w ob b) : ObRep m' w' ob b := by
  cases ob with
  | cells cs =>
    obtain ⟨us, ty, h1, h2, h3, h4⟩ := r
    exact ⟨us, ty, hb.trans h1, h2, fun i d u hd hu => ⟨(h3 i d u hd hu).1.mono h, (h3 i d u hd hu).2⟩, h4⟩
  | map es =>
    obtain ⟨us, ty, h1, h2, h3, h4⟩ := r
    exact ⟨us, ty, hb.trans h1, h2, fun i d u hd hu => ⟨(h3 i d u hd hu).1.mono h.fz, (h3 i d u hd hu).2.mono h⟩, h4⟩
  | iter mo since seen =>
    cases mo with
    | none => exact hb.trans r
    | some o' =>
      obtain ⟨bm, h1, h2⟩ := r
      exact ⟨bm, h.at h1, hb.trans h2⟩
  | known b' cs =>
    obtain ⟨h0, us, ty, h1, h2, h3, h4⟩ := r
    exact ⟨h0, us, ty, hb.trans h1, h2, fun i d u hd hu => ⟨(h3 i d u hd hu).1.mono h, (h3 i d u hd hu).2⟩, h4⟩

end Go.Abs

/-
  How the reading of values and the invariant stand through the steps of a run: a new block, a draw, a store, an append. (Own work; seat-independent.)
-/
set_option linter.unusedVariables false
set_option linter.unusedSimpArgs false
namespace Go.Abs
open Go

theorem heap_alloc_lt (w : World) (o : Obj) {b : Nat} (h : b < w.heap.size) : (w.alloc o).heap[b]? = w.heap[b]? := heap_alloc_old w o b h
theorem objb_inj {l : List (Option Nat)} (h : (l.filterMap id).Nodup) {i j b : Nat} (hi : l[i]? = some (some b)) (hj : l[j]? = some (some b)) : i = j := by
  induction l generalizing i j with
  | nil => simp at hi
  | cons a l ih =>
    have tl : (l.filterMap id).Nodup := by
      rw [List.filterMap_cons] at h
      split at h
      · exact h
      · exact (List.nodup_cons.1 h).2
    cases i with
    | zero =>
      cases j with
      | zero => rfl
      | succ j =>
        simp at hi hj
        subst hi
        have hm : b ∈ l.filterMap id := by simp; exact List.mem_of_getElem? hj
        simp at h
        exact absurd (List.mem_of_getElem? hj) h.1
    | succ i =>
      cases j with
      | zero =>
        simp at hi hj
        subst hj
        simp at h
        exact absurd (List.mem_of_getElem? hi) h.1
      | succ j => exact congrArg Nat.succ (ih tl (i := i) (j := j) (by simpa using hi) (by simpa using hj))

/-- A step that turns no block that was there, and gives nothing new. -/
theorem Ext.of_old {m : Gh} {w w' : World} (os : w'.os = w.os) (tape : w'.tape = w.tape) (output : w'.output = w.output) (size : w.heap.size ≤ w'.heap.size)
    (old : ∀ b, b < w.heap.size → w'.heap[b]? = w.heap[b]?) : Ext m w m w' :=
  ⟨os, tape, output, size, fun _ _ h => .inl h, fun _ tk h => ⟨tk, h, rfl, Nat.le_refl _, fun _ => rfl⟩, fun b off f => ⟨cell?_of_heap (old b f.1), f.2⟩,
    fun b hb hn => ⟨old b hb, hn⟩⟩

theorem Inv.of_old {σ : Sg} {m : Gh} {w w' : World} (h : Inv σ m w) (e : Ext m w m w') (old : ∀ b, b < w.heap.size → w'.heap[b]? = w.heap[b]?) : Inv σ m w' := by
  refine ⟨h.lobj, h.ltok, h.nodup, fun o ob b ho hb => (h.ob o ob b ho hb).mono e (old b (h.lt_obj (Gh.mem_objb.2 (List.mem_of_getElem? hb)))), h.gone, fun tk htk => ?_, h.glob.mono e⟩
  obtain ⟨h1, h2, h3, h4⟩ := h.tk tk htk
  refine ⟨h1, h2, h3, fun b hbo => ?_⟩
  rw [old b (h.lt_own (Gh.mem_ownb.2 ⟨tk, htk, hbo⟩))]
  exact h4 b hbo

theorem Ext.alloc (m : Gh) (w : World) (o : Obj) : Ext m w m (w.alloc o) :=
  .of_old rfl rfl rfl (by simp) fun _ hb => heap_alloc_lt w o hb
theorem Inv.alloc {σ : Sg} {m : Gh} {w : World} (h : Inv σ m w) (o : Obj) : Inv σ m (w.alloc o) :=
  h.of_old (.alloc m w o) fun _ hb => heap_alloc_lt w o hb
theorem Ext.drew (m : Gh) (w : World) : Ext m w m w.drew := .of_old rfl rfl rfl (Nat.le_refl _) fun _ _ => rfl
theorem Inv.drew {σ : Sg} {m : Gh} {w : World} (h : Inv σ m w) : Inv σ m w.drew := h.of_old (.drew m w) fun _ _ => rfl

/-- A new object. -/
def Gh.add (m : Gh) (b : Nat) : Gh := { m with objs := m.objs ++ [some b] }
theorem Gh.add_objb {m : Gh} {b : Nat} : (m.add b).objb = m.objb ++ [b] := by simp [Gh.objb, Gh.add]
def Sg.add (σ : Sg) (ob : Ob) : Sg := { σ with objs := σ.objs ++ [ob] }

theorem Gh.add_mut {m : Gh} {b c off : Nat} : (m.add b).mut c off ↔ c = b ∨ m.mut c off := by
  have ht : (m.add b).toks = m.toks := rfl
  simp only [Gh.mut, Gh.add_objb, ht, List.mem_append, List.mem_singleton]
  constructor
  · rintro ((h | h) | h)
    · exact .inr (.inl h)
    · exact .inl h
    · exact .inr (.inr h)
  · rintro (h | h | h)
    · exact .inl (.inr h)
    · exact .inl (.inl h)
    · exact .inr h

theorem Gh.add_blocks {m : Gh} {b c : Nat} : c ∈ (m.add b).blocks ↔ c = b ∨ c ∈ m.blocks := by
  have ht : (m.add b).toks = m.toks := rfl
  simp only [Gh.blocks, Gh.add_objb, Gh.ownb, ht, List.mem_append, List.mem_singleton]
  constructor
  · rintro ((h | h) | h)
    · exact .inr (.inl h)
    · exact .inl h
    · exact .inr (.inr h)
  · rintro (h | h | h)
    · exact .inl (.inr h)
    · exact .inl (.inl h)
    · exact .inr h

theorem Ext.add (m : Gh) (w : World) (o : Obj) : Ext m w (m.add w.heap.size) (w.alloc o) := by
  refine ⟨rfl, rfl, rfl, by simp, fun i b h => ?_, fun _ tk h => ⟨tk, h, rfl, Nat.le_refl _, fun _ => rfl⟩, fun b off f => ⟨cell?_of_heap (heap_alloc_lt w o f.1), ?_⟩, fun b hb hn => ⟨heap_alloc_lt w o hb, ?_⟩⟩
  · have hlt := (List.getElem?_eq_some_iff.1 h).1
    simp only [Gh.add, List.getElem?_append_left hlt]
    exact .inl h
  · rw [Gh.add_mut]
    rintro (h | h)
    · have := f.1; omega
    · exact f.2 h
  · rw [Gh.add_blocks]
    rintro (h | h)
    · omega
    · exact hn h

theorem Gh.add_nodup {m : Gh} {b : Nat} (h : m.blocks.Nodup) (hb : b ∉ m.blocks) : (m.add b).blocks.Nodup := by
  have h' : (m.objb ++ m.ownb).Nodup := h
  have hb' : b ∉ m.objb ++ m.ownb := hb
  show ((m.add b).objb ++ m.ownb).Nodup
  rw [Gh.add_objb]
  rw [List.append_assoc]
  rw [List.nodup_append] at h' ⊢
  simp only [List.mem_append, not_or] at hb'
  refine ⟨h'.1, ?_, ?_⟩
  · rw [List.singleton_append, List.nodup_cons]
    exact ⟨hb'.2, h'.2.1⟩
  · intro a ha c hc
    simp only [List.singleton_append, List.mem_cons] at hc
    rcases hc with rfl | hc
    · rintro rfl; exact hb'.1 ha
    · exact h'.2.2 a ha c hc

theorem Inv.add {σ : Sg} {m : Gh} {w : World} (h : Inv σ m w) (o : Obj) (ob : Ob) (r : ObRep (m.add w.heap.size) (w.alloc o) ob w.heap.size) :
    Inv (σ.add ob) (m.add w.heap.size) (w.alloc o) := by
  have e := Ext.add m w o
  refine ⟨by simp [Gh.add, Sg.add, h.lobj], h.ltok, Gh.add_nodup h.nodup (fun hb => by have := h.lt_block hb; omega), fun i ob' b hi hb => ?_, fun i hi => ?_, fun tk htk => ?_, h.glob.mono e⟩
  · simp only [Sg.add] at hi
    simp only [Gh.add] at hb
    rcases Nat.lt_or_ge i σ.objs.length with hlt | hge
    · rw [List.getElem?_append_left hlt] at hi
      rw [List.getElem?_append_left (by rw [h.lobj]; exact hlt)] at hb
      exact (h.ob i ob' b hi hb).mono e (heap_alloc_lt w o (h.lt_obj (Gh.mem_objb.2 (List.mem_of_getElem? hb))))
    · rw [List.getElem?_append_right hge] at hi
      rw [List.getElem?_append_right (by rw [h.lobj]; exact hge)] at hb
      have h0 : i - σ.objs.length = 0 := by
        have := (List.getElem?_eq_some_iff.1 hi).1
        simp at this
        omega
      rw [h0] at hi
      have h0' : i - m.objs.length = 0 := by rw [h.lobj]; exact h0
      rw [h0'] at hb
      simp at hi hb
      subst hi hb
      exact r
  · simp only [Gh.add] at hi
    have hlt : i < m.objs.length := by
      rcases Nat.lt_or_ge i m.objs.length with hlt | hge
      · exact hlt
      · rw [List.getElem?_append_right hge] at hi
        rcases hk : i - m.objs.length with _ | k
        · rw [hk] at hi; simp at hi
        · rw [hk] at hi; simp at hi
    rw [List.getElem?_append_left hlt] at hi
    have := h.gone i hi
    simp only [Sg.add]
    rw [List.getElem?_append_left (by rw [← h.lobj]; exact hlt)]
    exact this
  · obtain ⟨h1, h2, h3, h4⟩ := h.tk tk htk
    refine ⟨h1, h2, h3, fun b hbo => ?_⟩
    rw [heap_alloc_lt w o (h.lt_own (Gh.mem_ownb.2 ⟨tk, htk, hbo⟩))]
    exact h4 b hbo

/-- New cells: what an object of them holds. -/
theorem ObRep.new {m : Gh} {w : World} {cs : List D} {us : List Value} (ty : TypeId) (hl : cs.length = us.length) (h1 : ∀ u ∈ us, u.oneCell' = true)
    (hr : ∀ (i : Nat) d u, cs[i]? = some d → us[i]? = some u → RepD m w d u) :
    ObRep (m.add w.heap.size) (w.alloc (.cells us.toArray ty)) (.cells cs) w.heap.size :=
  ⟨us.toArray, ty, heap_alloc_new w _, by simp [hl], fun i d u hd hu => by
    simp only [List.getElem?_toArray] at hu
    exact ⟨(hr i d u hd hu).mono (.add m w _), h1 u (List.mem_of_getElem? hu)⟩, trivial⟩

theorem Ext.setRow {m : Gh} {w : World} {b : Nat} (cs : Array Value) (hb : b ∈ m.objb) : Ext m w m (w.setRow b cs) := by
  refine ⟨rfl, rfl, rfl, by simp [World.setRow], fun _ _ h => .inl h, fun _ tk h => ⟨tk, h, rfl, Nat.le_refl _, fun _ => rfl⟩, fun c off f => ⟨cell?_of_heap (setRow_other w b c cs ?_), f.2⟩, fun c hc hn => ⟨setRow_other w b c cs ?_, hn⟩⟩
  · rintro rfl; exact f.2 (.inl hb)
  · rintro rfl; exact hn (List.mem_append.2 (.inl hb))

def Sg.put (σ : Sg) (o : Nat) (ob : Ob) : Sg := { σ with objs := σ.objs.set o ob }

theorem Inv.setRow {σ : Sg} {m : Gh} {w : World} (h : Inv σ m w) {o b : Nat} (hb : m.objs[o]? = some (some b)) (cs : Array Value) (ob : Ob)
    (r : ObRep m (w.setRow b cs) ob b) : Inv (σ.put o ob) m (w.setRow b cs) := by
  have hmem : b ∈ m.objb := Gh.mem_objb.2 (List.mem_of_getElem? hb)
  have e := Ext.setRow (m := m) (w := w) cs hmem
  have nd : m.objb.Nodup := (List.nodup_append.1 h.nodup).1
  refine ⟨by simp [Sg.put, h.lobj], h.ltok, h.nodup, fun i ob' c hi hc => ?_, fun i hi => ?_, fun tk htk => ?_, h.glob.mono e⟩
  · simp only [Sg.put, List.getElem?_set] at hi
    by_cases hio : o = i
    · subst hio
      have hcb : c = b := Option.some.inj (Option.some.inj (hc.symm.trans hb))
      subst hcb
      simp only [if_true] at hi
      split at hi
      · cases hi; exact r
      · cases hi
    · rw [if_neg hio] at hi
      have hcb : c ≠ b := by
        rintro rfl
        exact hio (objb_inj nd hb hc)
      exact (h.ob i ob' c hi hc).mono e (setRow_other w b c cs hcb)
  · have hio : o ≠ i := by
      rintro rfl
      rw [hb] at hi
      cases hi
    simp only [Sg.put, List.getElem?_set]
    rw [if_neg hio]
    exact h.gone i hi
  · obtain ⟨h1, h2, h3, h4⟩ := h.tk tk htk
    refine ⟨h1, h2, h3, fun c hbo => ?_⟩
    have hne : c ≠ b := by
      rintro rfl
      have := (List.nodup_append.1 h.nodup).2.2 c hmem c (Gh.mem_ownb.2 ⟨tk, htk, hbo⟩)
      exact this rfl
    rw [setRow_other w b c cs hne]
    exact h4 c hbo

end Go.Abs

/-
  Append: what it does to a slice whose room the run owns. (Own work; seat-independent.)
-/
set_option linter.unusedVariables false
set_option linter.unusedSimpArgs false
namespace Go.Abs
open Go

def Sg.tput (σ : Sg) (t n : Nat) : Sg := { σ with toks := σ.toks.set t n }
def Sg.tadd (σ : Sg) (n : Nat) : Sg := { σ with toks := σ.toks ++ [n] }
def Gh.tput (m : Gh) (t : Nat) (tk : Tok) : Gh := { m with toks := m.toks.set t tk }
def Gh.tadd (m : Gh) (tk : Tok) : Gh := { m with toks := m.toks ++ [tk] }

/-- What is appended: how many elements, their cells. -/
structure Src (P : Program) (w : World) (size : Nat) (x : Value) (n : Nat) (news : List Value) : Prop where
  len : (Builtin.lenOf x).run P w = .ok n w
  cells : (Builtin.firstCells size n x).run P w = .ok news.toArray w
  cells' : (Builtin.firstCells size n x).run P w.drew = .ok news.toArray w.drew
  lenEq : news.length = n * size

def Runs (d : TypeDesc) : Prop := (∃ e, d = .slice e) ∨ d = .string

section
variable {P : Program} {w : World}

theorem run_append_room' (t u ty e : TypeId) (d : TypeDesc) (i : TypeInfo) (ht : P.underlying t = some (.slice e)) (hu : P.underlying u = some d) (hd : Runs d) (hi : P.info? e = some i)
    (g sLen sCap : Nat) (cur : Array Value) (ty' : TypeId) (hg : w.heap[g]? = some (.cells cur ty' (0, 0)))
    (x : Value) (n : Nat) (news : List Value) (hs : Src P w i.size x n news) (h1 : ∀ u ∈ news, u.oneCell' = true)
    (hroom : sLen + n ≤ sCap) (hfit : sLen * i.size + news.length ≤ cur.size) :
    (Builtin.append_ #[t, u] ty #[.slice (some ⟨g, 0, none⟩) sLen sCap, x]).run P w =
      .ok (.slice (some ⟨g, 0, none⟩) (sLen + n) sCap) (w.setRow g (cur.toList.take (sLen * i.size) ++ news ++ cur.toList.drop (sLen * i.size + news.length)).toArray) := by
  have hst := run_storeCells_at P g (sLen * i.size) ty' news 0 cur w hg (by simpa using hfit) h1
  simp only [Nat.add_zero] at hst
  rcases hd with ⟨e2, rfl⟩ | rfl <;>
    simp [Builtin.append_, run_underlying ht, run_underlying hu, sizeOf, typeInfo, hi, hs.len, hroom, hs.cells, Addr.add_lit, hst]

theorem run_append_none (t u ty e : TypeId) (d : TypeDesc) (i : TypeInfo) (ht : P.underlying t = some (.slice e)) (hu : P.underlying u = some d) (hd : Runs d) (hi : P.info? e = some i)
    (a : Option Addr) (sLen sCap : Nat) (x : Value) (hs : Src P w i.size x 0 []) (hroom : sLen ≤ sCap) :
    (Builtin.append_ #[t, u] ty #[.slice a sLen sCap, x]).run P w = .ok (.slice a sLen sCap) w := by
  rcases hd with ⟨e2, rfl⟩ | rfl <;> cases a <;>
    simp [Builtin.append_, run_underlying ht, run_underlying hu, sizeOf, typeInfo, hi, hs.len, hroom, hs.cells, storeCells]

theorem run_append_grow' (t u ty e : TypeId) (d : TypeDesc) (i : TypeInfo) (z : Value) (ht : P.underlying t = some (.slice e)) (hu : P.underlying u = some d) (hd : Runs d) (hi : P.info? e = some i) (hz : i.zero = some z)
    (a : Option Addr) (sLen sCap : Nat) (olds : List Value) (hold : (Builtin.firstCells i.size sLen (.slice a sLen sCap)).run P w.drew = .ok olds.toArray w.drew)
    (x : Value) (n : Nat) (news : List Value) (hs : Src P w i.size x n news)
    (hg : sCap < sLen + n) (h63 : ((sLen + n : Nat) : Int) ≤ 9223372036854775807) (hfit : Builtin.nextslicecap (sLen + n) sCap * i.bytes ≤ 281474976710656) :
    (Builtin.append_ #[t, u] ty #[.slice a sLen sCap, x]).run P w =
      .ok (.slice (some ⟨w.heap.size, 0, none⟩) (sLen + n) (grownCap w (sLen + n) sCap e))
        (w.drew.alloc (.cells (olds.toArray ++ news.toArray ++ Builtin.zeroCells z.cells (grownCap w (sLen + n) sCap e - (sLen + n))) e)) := by
  have hn : ¬ (sLen + n ≤ sCap) := by omega
  have h63' : ¬ (9223372036854775807 < ((sLen : Int) + (n : Int))) := by omega
  have h48' : ¬ (281474976710656 < Builtin.nextslicecap (sLen + n) sCap * i.bytes) := by omega
  rcases hd with ⟨e2, rfl⟩ | rfl <;>
    (simp [Builtin.append_, run_underlying ht, run_underlying hu, sizeOf, typeInfo, zeroValue, hi, hz, hs.len, hn, h63', h48', Question.forced, hs.cells', hold, newRow, grownCap]
     try (congr 2; apply Array.ext'; simp [List.append_assoc]))
end

theorem RepV.lax {w : World} {F : Nat → Nat → Prop} {sh : Sh} {full : Bool} {xs : List V} {u : Value} (h : RepV w F (.sl sh full xs) u) : RepV w F (.sl sh false xs) u := by
  cases h with
  | slNil _ _ a => exact .slNil sh false a
  | sl _ _ _ b off cap us hs h1 hl hm hf hc hr => exact .sl sh false xs b off cap us hs h1 hl hm (by simp) hc hr

/-- What a slice's value looks like. -/
theorem RepV.sl_inv {w : World} {F : Nat → Nat → Prop} {sh : Sh} {full : Bool} {xs : List V} {u : Value} (h : RepV w F (.sl sh full xs) u) :
    ∃ (a : Option Addr) (cap : Nat), u = .slice a xs.length cap ∧ xs.length ≤ cap ∧ cap ≤ maxLen ∧ (full = true → cap = xs.length) ∧ (∀ x ∈ xs, x.shape = sh) ∧ (∀ c ∈ V.flat xs, c.one = true) ∧
      ((xs = [] ∧ cap = 0) ∨ ∃ (b off : Nat) (us : Nat → Value), a = some ⟨b, off, none⟩ ∧ (∀ i, i < xs.length * shn sh → w.cell? ⟨b, off + i, none⟩ = some (us i) ∧ F b (off + i)) ∧
        ∀ (i : Nat) c, (V.flat xs)[i]? = some c → RepV w F c (us i)) := by
  cases h with
  | slNil _ _ a => exact ⟨a, 0, rfl, Nat.le_refl _, by simp [maxLen], fun _ => rfl, by simp, by simp [V.flat], .inl ⟨rfl, rfl⟩⟩
  | sl _ _ _ b off cap us hs h1 hl hm hf hc hr => exact ⟨some ⟨b, off, none⟩, cap, rfl, hl, hm, hf, hs, h1, .inr ⟨b, off, us, rfl, hc, hr⟩⟩

theorem Inv.tok_len {σ : Sg} {m : Gh} {w : World} (h : Inv σ m w) : m.toks.length = σ.toks.length := by rw [← h.ltok]; simp

theorem Inv.tok_at {σ : Sg} {m : Gh} {w : World} (h : Inv σ m w) {t n : Nat} (ht : σ.toks[t]? = some n) : ∃ tk, m.toks[t]? = some tk ∧ tk.hw = n := by
  rw [← h.ltok, List.getElem?_map] at ht
  cases hm : m.toks[t]? with
  | none => simp [hm] at ht
  | some tk => simp [hm] at ht; exact ⟨tk, rfl, ht⟩

/-- A slice without room to spare becomes one that is appended to. -/
theorem Inv.tadd {σ : Sg} {m : Gh} {w : World} (h : Inv σ m w) (sh : Sh) (n : Nat) (hm : n ≤ maxLen) :
    Inv (σ.tadd n) (m.tadd ⟨none, sh, n, n⟩) w ∧ Ext m w (m.tadd ⟨none, sh, n, n⟩) w := by
  have hob : (m.tadd ⟨none, sh, n, n⟩).objb = m.objb := rfl
  have hmut : ∀ b off, (m.tadd ⟨none, sh, n, n⟩).mut b off ↔ m.mut b off := by
    intro b off
    simp only [Gh.mut, hob]
    simp [Gh.tadd, or_and_right, exists_or]
  have hbl : (m.tadd ⟨none, sh, n, n⟩).blocks = m.blocks := by
    simp only [Gh.blocks, hob]
    simp [Gh.ownb, Gh.tadd]
  have e : Ext m w (m.tadd ⟨none, sh, n, n⟩) w := by
    refine ⟨rfl, rfl, rfl, Nat.le_refl _, fun _ _ h => .inl h, fun t tk ht => ⟨tk, ?_, rfl, Nat.le_refl _, fun _ => rfl⟩, fun b off f => ⟨rfl, fun hx => f.2 ((hmut b off).1 hx)⟩, fun b hb hn => ⟨rfl, by rw [hbl]; exact hn⟩⟩
    have hlt := (List.getElem?_eq_some_iff.1 ht).1
    simp only [Gh.tadd, List.getElem?_append_left hlt]
    exact ht
  refine ⟨⟨h.lobj, by simp [Gh.tadd, Sg.tadd, h.ltok], by rw [hbl]; exact h.nodup, fun o ob b ho hb => (h.ob o ob b ho hb).mono e rfl, h.gone, fun tk htk => ?_, h.glob.mono e⟩, e⟩
  simp only [Gh.tadd, List.mem_append, List.mem_singleton] at htk
  rcases htk with htk | rfl
  · exact h.tk tk htk
  · exact ⟨Nat.le_refl _, hm, fun _ => rfl, fun b hb => by cases hb⟩

theorem RepV.tokd {m : Gh} {w : World} {sh : Sh} {xs : List V} {a : Option Addr} {len cap : Nat} (hx : RepV w (Fz m w) (.sl sh true xs) (.slice a len cap)) (e : Ext m w (m.tadd ⟨none, sh, xs.length, xs.length⟩) w) :
    RepD (m.tadd ⟨none, sh, xs.length, xs.length⟩) w (.tsl m.toks.length sh xs) (.slice a len cap) := by
  obtain ⟨a', cap', he, hl, hm, hf, _⟩ := hx.sl_inv
  cases he
  exact .tsl _ _ _ _ _ _ ⟨none, sh, xs.length, xs.length⟩ (hx.lax.mono e.fz) (by simp [Gh.tadd]) rfl (Nat.le_refl _) fun _ => ⟨hf rfl, fun b hb => by cases hb⟩

theorem mem_set_cases {α : Type} {l : List α} {t : Nat} {x y : α} (h : y ∈ l.set t x) : y = x ∨ ∃ i, i ≠ t ∧ l[i]? = some y := by
  obtain ⟨i, hi⟩ := List.mem_iff_getElem?.1 h
  rw [List.getElem?_set] at hi
  split at hi
  · split at hi
    · exact .inl (Option.some.inj hi).symm
    · cases hi
  · exact .inr ⟨i, by omega, hi⟩

/-- Two of the owned blocks of append rooms are one only if the rooms are. -/
theorem Gh.own_inj {m : Gh} (h : m.blocks.Nodup) {i j : Nat} {x y : Tok} (hi : m.toks[i]? = some x) (hj : m.toks[j]? = some y) {b : Nat} (hx : x.own = some b) (hy : y.own = some b) : i = j := by
  have hn : m.ownb.Nodup := (List.nodup_append.1 h).2.1
  have key : ∀ (l : List Tok), (l.filterMap (·.own)).Nodup → ∀ (i j : Nat) (x y : Tok), l[i]? = some x → l[j]? = some y → x.own = some b → y.own = some b → i = j := by
    intro l
    induction l with
    | nil => intro _ i j x y hi; simp at hi
    | cons a l ih =>
      intro hn i j x y hi hj hx hy
      have tl : (l.filterMap (·.own)).Nodup := by
        rw [List.filterMap_cons] at hn
        split at hn
        · exact hn
        · exact (List.nodup_cons.1 hn).2
      have notin : ∀ (k : Nat) (z : Tok), l[k]? = some z → z.own = some b → a.own = some b → False := by
        intro k z hk hz ha
        rw [List.filterMap_cons, ha] at hn
        exact (List.nodup_cons.1 hn).1 (List.mem_filterMap.2 ⟨z, List.mem_of_getElem? hk, hz⟩)
      cases i with
      | zero =>
        simp at hi
        subst hi
        cases j with
        | zero => rfl
        | succ j => simp at hj; exact (notin j y hj hy hx).elim
      | succ i =>
        simp at hi
        cases j with
        | zero => simp at hj; subst hj; exact (notin i x hi hx hy).elim
        | succ j => simp at hj; rw [ih tl i j x y hi hj hx hy]
  exact key m.toks hn i j x y hi hj hx hy

theorem Gh.own_not_obj {m : Gh} (h : m.blocks.Nodup) {tk : Tok} (ht : tk ∈ m.toks) {b : Nat} (hb : tk.own = some b) : b ∉ m.objb := fun hm =>
  (List.nodup_append.1 h).2.2 b hm b (Gh.mem_ownb.2 ⟨tk, ht, hb⟩) rfl

theorem Gh.tput_mut {m : Gh} {k b off : Nat} {tk' : Tok} (h : (m.tput k tk').mut b off) :
    b ∈ m.objb ∨ (∃ (i : Nat) (x : Tok), i ≠ k ∧ m.toks[i]? = some x ∧ x.own = some b ∧ x.hw * shn x.sh ≤ off) ∨ (tk'.own = some b ∧ tk'.hw * shn tk'.sh ≤ off) := by
  rcases h with h | ⟨x, hx, h1, h2⟩
  · exact .inl h
  · rcases mem_set_cases hx with rfl | ⟨i, hne, hi⟩
    · exact .inr (.inr ⟨h1, h2⟩)
    · exact .inr (.inl ⟨i, x, hne, hi, h1, h2⟩)

theorem Gh.tput_blocks {m : Gh} {k b : Nat} {tk' : Tok} (h : b ∈ (m.tput k tk').blocks) : b ∈ m.blocks ∨ tk'.own = some b := by
  rcases List.mem_append.1 h with h | h
  · exact .inl (List.mem_append.2 (.inl h))
  · obtain ⟨x, hx, h1⟩ := Gh.mem_ownb.1 h
    rcases mem_set_cases hx with rfl | ⟨i, hne, hi⟩
    · exact .inr h1
    · exact .inl (List.mem_append.2 (.inr (Gh.mem_ownb.2 ⟨x, List.mem_of_getElem? hi, h1⟩)))

theorem nodup_set_own (tk' : Tok) : ∀ (l : List Tok) (k : Nat), (l.filterMap (·.own)).Nodup → (∀ b, tk'.own = some b → (∀ x, l[k]? = some x → x.own = some b) ∨ b ∉ l.filterMap (·.own)) →
    ((l.set k tk').filterMap (·.own)).Nodup
  | [], k, h, _ => by simp
  | a :: l, 0, h, h1 => by
    rw [List.set_cons_zero, List.filterMap_cons]
    have tl : (l.filterMap (·.own)).Nodup := by
      rw [List.filterMap_cons] at h
      split at h
      · exact h
      · exact (List.nodup_cons.1 h).2
    split
    · exact tl
    · rename_i b hb
      refine List.nodup_cons.2 ⟨?_, tl⟩
      rcases h1 b hb with h2 | h2
      · have ha := h2 a (by simp)
        rw [List.filterMap_cons, ha] at h
        exact (List.nodup_cons.1 h).1
      · intro hm
        refine h2 ?_
        rw [List.filterMap_cons]
        split
        · exact hm
        · exact List.mem_cons_of_mem _ hm
  | a :: l, k + 1, h, h1 => by
    rw [List.set_cons_succ, List.filterMap_cons]
    have tl : (l.filterMap (·.own)).Nodup := by
      rw [List.filterMap_cons] at h
      split at h
      · exact h
      · exact (List.nodup_cons.1 h).2
    have ih := nodup_set_own tk' l k tl fun b hb => by
      rcases h1 b hb with h2 | h2
      · exact .inl fun x hx => h2 x (by simpa using hx)
      · refine .inr fun hm => h2 ?_
        rw [List.filterMap_cons]
        split
        · exact hm
        · exact List.mem_cons_of_mem _ hm
    split
    · exact ih
    · rename_i b hb
      refine List.nodup_cons.2 ⟨fun hm => ?_, ih⟩
      rw [List.filterMap_cons, hb] at h
      have hn := (List.nodup_cons.1 h).1
      obtain ⟨x, hx, hxo⟩ := List.mem_filterMap.1 hm
      rcases mem_set_cases hx with rfl | ⟨i, hne, hi⟩
      · rcases h1 b hxo with h2 | h2
        · rcases Nat.lt_or_ge k l.length with hlt | hge
          · have := h2 l[k] (by simp)
            exact hn (List.mem_filterMap.2 ⟨l[k], List.getElem_mem hlt, this⟩)
          · rw [List.set_eq_of_length_le hge] at hx
            exact hn (List.mem_filterMap.2 ⟨_, hx, hxo⟩)
        · rw [List.filterMap_cons, hb] at h2
          exact h2 (by simp)
      · exact hn (List.mem_filterMap.2 ⟨x, List.mem_of_getElem? hi, hxo⟩)

theorem Gh.tput_nodup {m : Gh} (h : m.blocks.Nodup) {k : Nat} {tk tk' : Tok} (hk : m.toks[k]? = some tk) (ho : ∀ b, tk'.own = some b → tk.own = some b ∨ b ∉ m.blocks) : (m.tput k tk').blocks.Nodup := by
  have h' := List.nodup_append.1 h
  refine List.nodup_append.2 ⟨h'.1, ?_, ?_⟩
  · refine nodup_set_own tk' m.toks k h'.2.1 fun b hb => ?_
    rcases ho b hb with h1 | h1
    · exact .inl fun x hx => by rw [hk] at hx; cases hx; exact h1
    · exact .inr fun hm => h1 (List.mem_append.2 (.inr hm))
  · intro a ha c hc
    rintro rfl
    obtain ⟨x, hx, hxo⟩ := Gh.mem_ownb.1 hc
    rcases mem_set_cases hx with rfl | ⟨i, hne, hi⟩
    · rcases ho a hxo with h1 | h1
      · exact h'.2.2 a ha a (Gh.mem_ownb.2 ⟨tk, List.mem_of_getElem? hk, h1⟩) rfl
      · exact h1 (List.mem_append.2 (.inl ha))
    · exact h'.2.2 a ha a (Gh.mem_ownb.2 ⟨x, List.mem_of_getElem? hi, hxo⟩) rfl

/-- The room of one append turns: what stands. (own': the old block, written behind its use alone, or a new one.) -/
theorem tput_ok {σ : Sg} {m : Gh} {w w' : World} (h : Inv σ m w) {k : Nat} {tk tk' : Tok} (hk : m.toks[k]? = some tk) (hsh : tk'.sh = tk.sh) (hhw : tk.hw ≤ tk'.hw) (heq : tk.hw = tk'.hw → tk' = tk)
    (os : w'.os = w.os) (tape : w'.tape = w.tape) (output : w'.output = w.output) (size : w.heap.size ≤ w'.heap.size)
    (old : ∀ b, b < w.heap.size → tk.own ≠ some b → w'.heap[b]? = w.heap[b]?)
    (mine : ∀ b, tk.own = some b → ∀ off, off < tk.hw * shn tk.sh → w'.cell? ⟨b, off, none⟩ = w.cell? ⟨b, off, none⟩)
    (own' : ∀ b, tk'.own = some b → tk.own = some b ∨ w.heap.size ≤ b)
    (cap' : tk'.hw ≤ tk'.cap ∧ tk'.cap ≤ maxLen ∧ (tk'.own = none → tk'.cap = tk'.hw) ∧ ∀ b, tk'.own = some b → ∃ us ty, w'.heap[b]? = some (.cells us ty (0, 0)) ∧ tk'.cap * shn tk'.sh ≤ us.size) :
    Inv (σ.tput k tk'.hw) (m.tput k tk') w' ∧ Ext m w (m.tput k tk') w' := by
  have hmem := List.mem_of_getElem? hk
  have e : Ext m w (m.tput k tk') w' := by
    refine ⟨os, tape, output, size, fun _ _ h => .inl h, fun t x ht => ?_, fun b off f => ⟨?_, ?_⟩, fun b hb hn => ⟨old b hb fun ho => hn (List.mem_append.2 (.inr (Gh.mem_ownb.2 ⟨tk, hmem, ho⟩))), fun hx => ?_⟩⟩
    · by_cases htk : k = t
      · subst htk
        rw [hk] at ht
        cases ht
        have hlt := (List.getElem?_eq_some_iff.1 hk).1
        exact ⟨tk', by simp [Gh.tput, hlt], hsh, hhw, heq⟩
      · exact ⟨x, by simp [Gh.tput, List.getElem?_set, htk, ht], rfl, Nat.le_refl _, fun _ => rfl⟩
    · by_cases ho : tk.own = some b
      · refine mine b ho off ?_
        rcases Nat.lt_or_ge off (tk.hw * shn tk.sh) with hlt | hge
        · exact hlt
        · exact (f.2 (.inr ⟨tk, hmem, ho, hge⟩)).elim
      · exact cell?_of_heap (old b f.1 ho)
    · intro hx
      rcases Gh.tput_mut hx with h1 | ⟨i, x, hne, hi, h1, h2⟩ | ⟨h1, h2⟩
      · exact f.2 (.inl h1)
      · exact f.2 (.inr ⟨x, List.mem_of_getElem? hi, h1, h2⟩)
      · rcases own' b h1 with h3 | h3
        · refine f.2 (.inr ⟨tk, hmem, h3, Nat.le_trans ?_ h2⟩)
          rw [hsh]
          exact Nat.mul_le_mul_right _ hhw
        · have := f.1; omega
    · rcases Gh.tput_blocks hx with h1 | h1
      · exact hn h1
      · rcases own' b h1 with h3 | h3
        · exact hn (List.mem_append.2 (.inr (Gh.mem_ownb.2 ⟨tk, hmem, h3⟩)))
        · omega
  refine ⟨⟨h.lobj, ?_, ?_, fun o ob b ho hb => ?_, h.gone, fun x hx => ?_, h.glob.mono e⟩, e⟩
  · simp [Gh.tput, Sg.tput, ← h.ltok, List.map_set]
  · refine Gh.tput_nodup h.nodup hk fun b hb => ?_
    rcases own' b hb with h3 | h3
    · exact .inl h3
    · exact .inr fun hm => by have := h.lt_block hm; omega
  · have hbm : b ∈ m.objb := Gh.mem_objb.2 (List.mem_of_getElem? hb)
    exact (h.ob o ob b ho hb).mono e (old b (h.lt_obj hbm) fun hx => Gh.own_not_obj h.nodup hmem hx hbm)
  · rcases mem_set_cases hx with rfl | ⟨i, hne, hi⟩
    · exact cap'
    · obtain ⟨h1, h2, h3, h4⟩ := h.tk x (List.mem_of_getElem? hi)
      refine ⟨h1, h2, h3, fun b hb => ?_⟩
      rw [old b (h.lt_own (Gh.mem_ownb.2 ⟨x, List.mem_of_getElem? hi, hb⟩)) fun ho => hne (Gh.own_inj h.nodup hi hk hb ho)]
      exact h4 b hb

end Go.Abs

/-
  Append, in one theorem. (Own work; seat-independent.)
-/
set_option linter.unusedVariables false
set_option linter.unusedSimpArgs false
namespace Go.Abs
open Go

theorem V.flat_append (xs ys : List V) : V.flat (xs ++ ys) = V.flat xs ++ V.flat ys := by simp [V.flat]

theorem RepV.cells_one {w : World} {F : Nat → Nat → Prop} {cs : List V} {us : List Value} (h1 : ∀ c ∈ cs, c.one = true) (hl : cs.length = us.length)
    (hr : ∀ (i : Nat) c u, cs[i]? = some c → us[i]? = some u → RepV w F c u) : ∀ u ∈ us, u.oneCell' = true := by
  intro u hu
  obtain ⟨i, hi⟩ := List.mem_iff_getElem?.1 hu
  have hlt : i < cs.length := by rw [hl]; exact (List.getElem?_eq_some_iff.1 hi).1
  exact (hr i cs[i] u (List.getElem?_eq_getElem hlt) hi).one (h1 _ (List.getElem_mem hlt))

/-- The cells of a slice's elements, as0 append reads them. -/
theorem RepV.olds {P : Program} {w : World} {F : Nat → Nat → Prop} {sh : Sh} {full : Bool} {xs : List V} {a : Option Addr} {len cap : Nat} (h : RepV w F (.sl sh full xs) (.slice a len cap)) :
    ∃ olds : List Value, olds.length = xs.length * shn sh ∧ (∀ (i : Nat) c u, (V.flat xs)[i]? = some c → olds[i]? = some u → RepV w F c u) ∧
      ∀ w' : World, w'.heap = w.heap → (Builtin.firstCells (shn sh) xs.length (.slice a len cap)).run P w' = .ok olds.toArray w' := by
  obtain ⟨a', cap', he, hl, hm, hf, hs, h1, hh⟩ := h.sl_inv
  cases he
  rcases hh with ⟨rfl, rfl⟩ | ⟨b, off, us, rfl, hc, hr⟩
  · refine ⟨[], by simp, by simp [V.flat], fun w' _ => ?_⟩
    cases a with
    | none => simp [Builtin.firstCells]
    | some a => exact run_firstCells_some (P := P) w' (shn sh) 0 a 0 0 [] (by simp) fun j v hj => by simp at hj
  · refine ⟨(List.range (xs.length * shn sh)).map us, by simp, fun i c u hi hu => ?_, fun w' hw => ?_⟩
    · simp only [List.getElem?_map] at hu
      have hlt : i < xs.length * shn sh := by rw [← V.flat_length hs]; exact (List.getElem?_eq_some_iff.1 hi).1
      rw [List.getElem?_range hlt] at hu
      cases hu
      exact hr i c hi
    · have := run_firstCells_some (P := P) w' (shn sh) xs.length ⟨b, off, none⟩ xs.length cap ((List.range (xs.length * shn sh)).map us) (by simp) fun j v hj => by
        simp only [List.getElem?_map] at hj
        rcases Nat.lt_or_ge j (xs.length * shn sh) with hlt | hge
        · rw [List.getElem?_range hlt] at hj
          cases hj
          rw [Addr.add_lit, cell?_of_heap (w := w) (by rw [hw])]
          exact (hc j hlt).1
        · simp [hge] at hj
      simpa using this

/-- A slice that lies at the head of a block: its reading. -/
theorem RepV.at_head {w : World} {F : Nat → Nat → Prop} (sh : Sh) {xs : List V} {B cap : Nat} {arr : Array Value} {ty : TypeId} {fr : Nat × Nat} {cs : List Value} (hB : w.heap[B]? = some (.cells arr ty fr))
    (hlen : cs.length = xs.length * shn sh) (harr : ∀ (i : Nat) u, cs[i]? = some u → arr[i]? = some u) (hF : ∀ i, i < xs.length * shn sh → F B i)
    (hs : ∀ x ∈ xs, x.shape = sh) (h1 : ∀ c ∈ V.flat xs, c.one = true) (hl : xs.length ≤ cap) (hm : cap ≤ maxLen) {full : Bool} (hf : full = true → cap = xs.length)
    (hr : ∀ (i : Nat) c u, (V.flat xs)[i]? = some c → cs[i]? = some u → RepV w F c u) : RepV w F (.sl sh full xs) (.slice (some ⟨B, 0, none⟩) xs.length cap) := by
  refine .sl sh full xs B 0 cap (fun i => cs.getD i undef) hs h1 hl hm hf (fun i hi => ⟨?_, by simpa using hF i hi⟩) fun i c hi => ?_
  · have hi' : i < cs.length := by omega
    rw [Nat.zero_add, cell_of_row w B i arr ty fr hB, harr i cs[i] (List.getElem?_eq_getElem hi')]
    simp [List.getD, hi']
  · have hlt : i < cs.length := by rw [hlen, ← V.flat_length hs]; exact (List.getElem?_eq_some_iff.1 hi).1
    refine hr i c _ hi ?_
    simp [List.getD, hlt]

theorem append_ok {P : Program} {σ : Sg} {m : Gh} {w : World} (h : Inv σ m w) (t u ty e : TypeId) (d : TypeDesc) (i : TypeInfo) (z : Value) (sh : Sh)
    (ht : P.underlying t = some (.slice e)) (hu : P.underlying u = some d) (hd : Runs d) (hi : P.info? e = some i) (hz : i.zero = some z) (hsz : i.size = shn sh) (hzs : z.cells.size = shn sh)
    {k : Nat} {xs ys : List V} {s x : Value} (r : RepD m w (.tsl k sh xs) s) (hσ : σ.toks[k]? = some xs.length)
    {news : List Value} (src : Src P w i.size x ys.length news) (hys : ∀ y ∈ ys, y.shape = sh) (hy1 : ∀ c ∈ V.flat ys, c.one = true)
    (hnew : ∀ (j : Nat) c v, (V.flat ys)[j]? = some c → news[j]? = some v → RepV w (Fz m w) c v)
    (hm63 : xs.length + ys.length ≤ maxLen) (hbytes : (xs.length + ys.length) * i.bytes ≤ 140737488355328) :
    ∃ s' m' w', (Builtin.append_ #[t, u] ty #[s, x]).run P w = .ok s' w' ∧ Inv (σ.tput k (xs.length + ys.length)) m' w' ∧ Ext m w m' w' ∧ RepD m' w' (.tsl k sh (xs ++ ys)) s' := by
  cases r with
  | tsl _ _ _ a len cap tk hv htk hsh hle heq =>
  obtain ⟨tk2, htk2, hhw⟩ := h.tok_at hσ
  rw [htk] at htk2
  cases htk2
  obtain ⟨hcap, hown⟩ := heq hhw.symm
  obtain ⟨a', cap', he, hl, hm, hf, hs, h1, hh⟩ := hv.sl_inv
  cases he
  have hmem := List.mem_of_getElem? htk
  obtain ⟨q1, q2, q3, q4⟩ := h.tk tk hmem
  have hlen : (V.flat (xs ++ ys)).length = (xs ++ ys).length * shn sh := V.flat_length (by
    intro x hx
    rcases List.mem_append.1 hx with hx | hx
    · exact hs x hx
    · exact hys x hx)
  have hsA : ∀ x ∈ xs ++ ys, x.shape = sh := by
    intro x hx
    rcases List.mem_append.1 hx with hx | hx
    · exact hs x hx
    · exact hys x hx
  have h1A : ∀ c ∈ V.flat (xs ++ ys), c.one = true := by
    intro c hc
    rw [V.flat_append] at hc
    rcases List.mem_append.1 hc with hx | hx
    · exact h1 c hx
    · exact hy1 c hx
  have hnl : news.length = ys.length * shn sh := by rw [src.lenEq, hsz]
  obtain ⟨olds, hol, hor, horun⟩ := hv.olds (P := P)
  have hnone : ∀ u ∈ news, u.oneCell' = true := RepV.cells_one hy1 (by rw [hnl, V.flat_length hys]) hnew
  by_cases hroom : xs.length + ys.length ≤ cap
  · -- in place
    by_cases hy0 : ys = []
    · subst hy0
      have hn0 : news = [] := List.eq_nil_of_length_eq_zero (by simpa using hnl)
      subst hn0
      have hrun := run_append_none (P := P) (w := w) t u ty e d i ht hu hd hi a xs.length cap x src (by simpa using hroom)
      refine ⟨_, m, w, hrun, ?_, .refl m w, ?_⟩
      · have hσ' : σ.tput k (xs.length + ([] : List V).length) = σ := by
          simp only [Sg.tput, List.length_nil, Nat.add_zero]
          have : σ.toks.set k xs.length = σ.toks := by
            apply List.ext_getElem?
            intro j
            rw [List.getElem?_set]
            split
            · rename_i hkj; subst hkj; split
              · exact hσ.symm
              · rename_i hh; simp [List.getElem?_eq_none (Nat.le_of_not_lt hh)] at hσ
            · rfl
          rw [this]
        rw [hσ']
        exact h
      · rw [List.append_nil]
        exact .tsl k sh xs a _ cap tk hv htk hsh hle heq
    · have hpos : 0 < ys.length := by cases ys with | nil => exact (hy0 rfl).elim | cons => simp
      cases ho : tk.own with
      | none => have := q3 ho; omega
      | some b =>
        have ha := hown b ho
        subst ha
        obtain ⟨cur, tyb, hb, hfit⟩ := q4 b ho
        rw [hsh, ← hcap] at hfit
        have hfit' : xs.length * i.size + news.length ≤ cur.size := by
          rw [hnl, hsz, ← Nat.add_mul]
          exact Nat.le_trans (Nat.mul_le_mul_right _ hroom) hfit
        have hrun := run_append_room' (P := P) (w := w) t u ty e d i ht hu hd hi b xs.length cap cur tyb hb x ys.length news src hnone hroom hfit'
        rw [hsz] at hrun hfit'
        have hb' := setRow_heap w b cur (cur.toList.take (xs.length * shn sh) ++ news ++ cur.toList.drop (xs.length * shn sh + news.length)).toArray tyb (0, 0) hb
        have hpre : ∀ j, j < xs.length * shn sh → (cur.toList.take (xs.length * shn sh) ++ news ++ cur.toList.drop (xs.length * shn sh + news.length))[j]? = cur[j]? := by
          intro j hj
          rw [List.append_assoc, List.getElem?_append_left (by simp; omega), List.getElem?_take_of_lt hj]
          simp
        have hmid : ∀ j, j < news.length → (cur.toList.take (xs.length * shn sh) ++ news ++ cur.toList.drop (xs.length * shn sh + news.length))[xs.length * shn sh + j]? = news[j]? := by
          intro j hj
          have hlt : (cur.toList.take (xs.length * shn sh)).length = xs.length * shn sh := by simp; omega
          rw [List.append_assoc, List.getElem?_append_right (by omega), List.getElem?_append_left (by omega)]
          congr 1
          omega
        have hcell : ∀ off, (w.setRow b (cur.toList.take (xs.length * shn sh) ++ news ++ cur.toList.drop (xs.length * shn sh + news.length)).toArray).cell? ⟨b, off, none⟩ = (cur.toList.take (xs.length * shn sh) ++ news ++ cur.toList.drop (xs.length * shn sh + news.length))[off]? := by
          intro off
          rw [cell_of_row _ b off _ tyb (0, 0) hb']
          simp
        obtain ⟨hI, hE⟩ := tput_ok (w' := w.setRow b (cur.toList.take (xs.length * shn sh) ++ news ++ cur.toList.drop (xs.length * shn sh + news.length)).toArray) h htk (tk' := ⟨some b, sh, cap, xs.length + ys.length⟩) hsh.symm (by show tk.hw ≤ xs.length + ys.length; omega) (fun e => by
            have e' : tk.hw = xs.length + ys.length := e
            omega) rfl rfl rfl (by simp [World.setRow])
          (fun c hc hn => setRow_other w b c _ (fun e => hn (by rw [ho, e])))
          (fun c hc off hoff => by
            rw [ho] at hc
            cases hc
            rw [hsh, hhw] at hoff
            rw [hcell, hpre off hoff, cell_of_row w b off cur tyb (0, 0) hb])
          (fun c hc => .inl (ho.trans hc))
          ⟨hroom, hm, fun hx => (by cases hx), fun c hc => by
            cases hc
            refine ⟨_, tyb, hb', ?_⟩
            show cap * shn sh ≤ _
            simp only [List.size_toArray, List.length_append, List.length_take, List.length_drop, Array.length_toList]
            omega⟩
        refine ⟨_, _, _, hrun, hI, hE, ?_⟩
        have hk' : (m.tput k ⟨some b, sh, cap, xs.length + ys.length⟩).toks[k]? = some ⟨some b, sh, cap, xs.length + ys.length⟩ := by
          have hlt := (List.getElem?_eq_some_iff.1 htk).1
          simp [Gh.tput, hlt]
        have hcsl : (olds ++ news).length = (xs ++ ys).length * shn sh := by rw [List.length_append, List.length_append, hol, hnl, Nat.add_mul]
        have holdcell : ∀ (j : Nat) (v : Value), olds[j]? = some v → cur[j]? = some v := by
          intro j v hj
          have hjl : j < xs.length * shn sh := by rw [← hol]; exact (List.getElem?_eq_some_iff.1 hj).1
          rcases hh with ⟨h0, _⟩ | ⟨b', off', us, h0, hc, hr⟩
          · rw [h0] at hjl; simp at hjl
          · cases h0
            have hfc := run_firstCells_some (P := P) w (shn sh) xs.length ⟨b, 0, none⟩ xs.length cap ((List.range (xs.length * shn sh)).map us) (by simp) fun j v hj => by
              simp only [List.getElem?_map] at hj
              rcases Nat.lt_or_ge j (xs.length * shn sh) with hlt | hge
              · rw [List.getElem?_range hlt] at hj
                cases hj
                rw [Addr.add_lit]
                exact (hc j hlt).1
              · simp [hge] at hj
            rw [horun w rfl] at hfc
            have hol2 : olds = (List.range (xs.length * shn sh)).map us := by
              have := congrArg (fun r => match r with | Result.ok (v : Array Value) _ => v.toList | _ => []) hfc
              simpa using this
            rw [hol2, List.getElem?_map, List.getElem?_range hjl] at hj
            cases hj
            have := (hc j hjl).1
            rw [Nat.zero_add, cell_of_row w b j cur tyb (0, 0) hb] at this
            exact this
        have hrep := RepV.at_head (F := Fz (m.tput k ⟨some b, sh, cap, xs.length + ys.length⟩) (w.setRow b (cur.toList.take (xs.length * shn sh) ++ news ++ cur.toList.drop (xs.length * shn sh + news.length)).toArray)) (full := false) sh (xs := xs ++ ys) (cap := cap) (cs := olds ++ news) hb' hcsl
          (fun j v hj => by
            rw [List.getElem?_toArray]
            rcases Nat.lt_or_ge j olds.length with hlt | hge
            · rw [List.getElem?_append_left hlt] at hj
              rw [hpre j (by omega)]
              exact holdcell j v hj
            · rw [List.getElem?_append_right hge] at hj
              have hjn := (List.getElem?_eq_some_iff.1 hj).1
              have := hmid (j - olds.length) hjn
              rw [show xs.length * shn sh + (j - olds.length) = j by omega] at this
              rw [this]
              exact hj)
          (fun j hj => ⟨by rw [show (w.setRow b (cur.toList.take (xs.length * shn sh) ++ news ++ cur.toList.drop (xs.length * shn sh + news.length)).toArray).heap.size = w.heap.size by simp [World.setRow]]; exact h.lt_own (Gh.mem_ownb.2 ⟨tk, hmem, ho⟩), fun hx => by
            rcases Gh.tput_mut hx with hx1 | ⟨i2, x2, hne, hi2, hx1, hx2⟩ | ⟨hx1, hx2⟩
            · exact Gh.own_not_obj h.nodup hmem ho hx1
            · exact hne (Gh.own_inj h.nodup hi2 htk hx1 ho)
            · have hx3 : (xs.length + ys.length) * shn sh ≤ j := hx2
              rw [List.length_append] at hj
              omega⟩)
          hsA h1A (by rw [List.length_append]; exact hroom) hm (by simp)
          (fun j c v hj hv' => by
            rw [V.flat_append] at hj
            rcases Nat.lt_or_ge j olds.length with hlt | hge
            · rw [List.getElem?_append_left hlt] at hv'
              rw [List.getElem?_append_left (by rw [V.flat_length hs, ← hol]; exact hlt)] at hj
              exact (hor j c v hj hv').mono hE.fz
            · rw [List.getElem?_append_right hge] at hv'
              rw [List.getElem?_append_right (by rw [V.flat_length hs, ← hol]; exact hge)] at hj
              rw [V.flat_length hs, ← hol] at hj
              exact (hnew _ c v hj hv').mono hE.fz)
        rw [List.length_append] at hrep
        exact .tsl k sh (xs ++ ys) _ _ cap _ hrep hk' rfl (by rw [List.length_append]; exact Nat.le_refl _) fun _ => ⟨rfl, fun c hc => by cases hc; rfl⟩
  · -- a new block
    have hg : cap < xs.length + ys.length := by omega
    have hrun := run_append_grow' (P := P) (w := w) t u ty e d i z ht hu hd hi hz a xs.length cap olds (by rw [hsz]; exact horun w.drew rfl) x ys.length news src hg
      (by simp only [maxLen] at hm63; omega) (growslice_fits hg hbytes)
    have hge := grownCap_ge w (xs.length + ys.length) cap e
    have hcm : grownCap w (xs.length + ys.length) cap e ≤ maxLen := grownCap_le_maxLen w (xs.length + ys.length) cap e hm63
    generalize hC : grownCap w (xs.length + ys.length) cap e = C at hrun hge hcm
    generalize hA : olds.toArray ++ news.toArray ++ Builtin.zeroCells z.cells (C - (xs.length + ys.length)) = arr at hrun
    have hnewb : (w.drew.alloc (.cells arr e)).heap[w.heap.size]? = some (.cells arr e (0, 0)) := heap_alloc_new w.drew _
    have hasz : C * shn sh ≤ arr.size := by
      rw [← hA]
      simp only [Array.size_append, List.size_toArray, size_zeroCells, hol, hnl, hzs, ← Nat.add_mul]
      exact Nat.mul_le_mul_right _ (by omega)
    have hslt : w.heap.size < (w.drew.alloc (.cells arr e)).heap.size := (Array.getElem?_eq_some_iff.1 hnewb).1
    obtain ⟨hI, hE⟩ := tput_ok (w' := w.drew.alloc (.cells arr e)) h htk (tk' := ⟨some w.heap.size, sh, C, xs.length + ys.length⟩) hsh.symm (by show tk.hw ≤ xs.length + ys.length; omega)
      (fun e => by
        have e' : tk.hw = xs.length + ys.length := e
        omega) rfl rfl rfl (by omega)
      (fun c hc _ => heap_alloc_lt w.drew _ hc)
      (fun c hc off hoff => cell?_of_heap (heap_alloc_lt w.drew _ (h.lt_own (Gh.mem_ownb.2 ⟨tk, hmem, hc⟩))))
      (fun c hc => .inr (by cases hc; exact Nat.le_refl _))
      ⟨hge, hcm, fun hx => (by cases hx), fun c hc => by
        cases hc
        exact ⟨arr, e, hnewb, hasz⟩⟩
    refine ⟨_, _, _, hrun, hI, hE, ?_⟩
    have hk' : (m.tput k ⟨some w.heap.size, sh, C, xs.length + ys.length⟩).toks[k]? = some ⟨some w.heap.size, sh, C, xs.length + ys.length⟩ := by
      have hlt := (List.getElem?_eq_some_iff.1 htk).1
      simp [Gh.tput, hlt]
    have hcsl : (olds ++ news).length = (xs ++ ys).length * shn sh := by rw [List.length_append, List.length_append, hol, hnl, Nat.add_mul]
    have hrep := RepV.at_head (F := Fz (m.tput k ⟨some w.heap.size, sh, C, xs.length + ys.length⟩) (w.drew.alloc (.cells arr e))) (full := false) sh (xs := xs ++ ys) (cap := C) (cs := olds ++ news) hnewb hcsl
      (fun j v hj => by
        rw [← hA]
        have hjl := (List.getElem?_eq_some_iff.1 hj).1
        rw [← Array.getElem?_toList]
        simp only [Array.toList_append]
        rw [List.getElem?_append_left (by simpa using hjl)]
        exact hj)
      (fun j hj => ⟨hslt, fun hx => by
        rcases Gh.tput_mut hx with hx1 | ⟨i2, x2, hne, hi2, hx1, hx2⟩ | ⟨hx1, hx2⟩
        · have := h.lt_obj hx1; omega
        · have := h.lt_own (Gh.mem_ownb.2 ⟨x2, List.mem_of_getElem? hi2, hx1⟩); omega
        · have hx3 : (xs.length + ys.length) * shn sh ≤ j := hx2
          rw [List.length_append] at hj
          omega⟩)
      hsA h1A (by rw [List.length_append]; exact hge) hcm (by simp)
      (fun j c v hj hv' => by
        rw [V.flat_append] at hj
        rcases Nat.lt_or_ge j olds.length with hlt | hge
        · rw [List.getElem?_append_left hlt] at hv'
          rw [List.getElem?_append_left (by rw [V.flat_length hs, ← hol]; exact hlt)] at hj
          exact (hor j c v hj hv').mono hE.fz
        · rw [List.getElem?_append_right hge] at hv'
          rw [List.getElem?_append_right (by rw [V.flat_length hs, ← hol]; exact hge)] at hj
          rw [V.flat_length hs, ← hol] at hj
          exact (hnew _ c v hj hv').mono hE.fz)
    rw [List.length_append] at hrep
    exact .tsl k sh (xs ++ ys) _ _ C _ hrep hk' rfl (by rw [List.length_append]; exact Nat.le_refl _) fun _ => ⟨rfl, fun c hc => by cases hc; rfl⟩

end Go.Abs

/-
  The small language that the model's code is turned into (types resolved), what its operations do to abstract values, and its weakest precondition. (Own work; seat-independent.)
-/
set_option linter.unusedVariables false
set_option linter.unusedSimpArgs false
namespace Go.Abs
open Go

inductive E where
  | t (n : Nat)
  | c (x : V)
  deriving Inhabited

/-- Kinds of plain cells. -/
inductive SK where
  | int | bool | str
  deriving DecidableEq, Inhabited

/-- What '==' compares. -/
inductive EqK where
  | bool | ptr | ifc | sl | mp | fn | other
  | struct (ks : List SK)
  deriving DecidableEq, Inhabited

inductive ConvK where
  | toInt (k : IntKind) | strs | toBytes | ofBytes
  deriving Inhabited

inductive SlK where
  | str
  | sl (sh : Sh)
  deriving Inhabited

inductive LenK where
  | str | sl | mp
  deriving Inhabited

/-- Kinds of a map's keys. -/
inductive KK where
  | int (k : IntKind) | str | pair (k : IntKind)
  deriving DecidableEq, Inhabited

/-- More operations. -/
inductive XOp where
  | mkmap
  | mput (kk : KK)
  | mget (kk : KK) (ok : Bool) (z : V)
  | stop
  | appm (sh : Sh) (bytes : Nat)
  | mkvec (sh : Sh) (bytes : Nat) (zs : List V)
  | copy (sh : Sh)
  | cap
  | mrange
  | mnext
  | mentry
  | mkslm (sh : Sh)
  | appz (sh : Sh) (bytes : Nat) (zs : List V)
  | clear (zs : List V)
  | give
  | max
  | mdel (kk : KK)
  | bind (f : Nat)
  | sto (n : Nat)
  | ibox
  | xbox
  | iexp (sh : Sh)
  | ldk (sh : Sh)
  deriving Inhabited

inductive AOp where
  | mv (x : E)
  | pick (c a b : E)
  | alloc (zs : List V)
  | box (x : E)
  | build (zs : List V) (ps : List (Nat × Nat × E))
  | mksl (sh : Sh) (xs : List E)
  | load (sh : Sh) (a : E)
  | store (n : Nat) (a x : E)
  | nilck (x : E)
  | bin (op : BinOp) (k : EqK) (cst : Bool) (x y : E)
  | un (op : UnOp) (x : E)
  | conv (c : ConvK) (x : E)
  | mkif (t : Nat) (x : E)
  | mkfn (f : Nat) (caps : List E)
  | slice (k : SlK) (x : E) (lo hi mx : Option E)
  | faddr (off : Nat) (x : E)
  | field (sh : Sh) (off : Nat) (x : E)
  | iaddr (sh : Sh) (x i : E)
  | index (x i : E)
  | extract (x : E) (i : Nat)
  | call (f : E) (args : List E)
  | inv (name : String) (x : E) (args : List E)
  | len (k : LenK) (x : E)
  | append (sh : Sh) (bytes : Nat) (s x : E)
  | min (xs : List E)
  | ext (x : XOp) (xs : List E)
  deriving Inhabited

structure RO where
  dst : Option Nat
  g : Option (Nat × Bool)
  op : AOp
  deriving Inhabited

inductive X where
  | skip
  | reg (outs : List Nat) (ops : List RO)
  | any (outs : List Nat) (ops : List (RO × Bool))
  | alt (outs : List Nat) (q : List (RO × Bool)) (c al : RO × Bool) (l r : List (RO × Bool))
  | seq (a b : X)
  | cond (c : E) (a b : X)
  | block (id : Nat) (a : X)
  | loop (a : X)
  | exit (id : Nat)
  | ret
  deriving Inhabited

/-! ### Values -/

/-- Has it cells that may lie in memory? -/
def D.lies : D → Bool
  | .junk => false
  | .tup _ => false
  | _ => true

def D.cells : D → List D
  | .v x => x.cells.map .v
  | .agg ds => ds
  | d => [d]

mutual
def D.toV : D → Option V
  | .v x => some x
  | .tsl _ sh xs => some (.sl sh false xs)
  | .agg ds => match D.toVs ds with
    | some vs => if vs.all V.one then some (.agg vs) else none
    | none => none
  | .iface t d => match d.toV with
    | some x => some (.iface t x)
    | none => none
  | _ => none
def D.toVs : List D → Option (List V)
  | [] => some []
  | d :: ds => match d.toV, D.toVs ds with
    | some x, some xs => some (x :: xs)
    | _, _ => none
end

/-- All of them plain? -/
def allV : List D → Option (List V)
  | [] => some []
  | .v x :: ds => match allV ds with
    | some xs => some (x :: xs)
    | none => none
  | _ :: _ => none

def mkAgg (ds : List D) : D :=
  match allV ds with
  | some xs => .v (.agg xs)
  | none => .agg ds

def mkIface (t : Nat) : D → D
  | .v x => .v (.iface t x)
  | d => .iface t d

def look : List (Nat × D) → Nat → D
  | [], _ => .junk
  | (k, d) :: r, n => if k = n then d else look r n

def ev (s : List (Nat × D)) : E → D
  | .t n => look s n
  | .c x => .v x

def upd : List (Nat × D) → Nat → D → List (Nat × D)
  | [], n, d => [(n, d)]
  | (k, x) :: r, n, d => if k = n then (n, d) :: r else (k, x) :: upd r n d

def outs : List Nat → List (Nat × D) → List (Nat × D) → List (Nat × D)
  | [], _, env => env
  | n :: ns, s, env => outs ns s (upd env n (look s n))

def push (dst : Option Nat) (d : D) (s : List (Nat × D)) : List (Nat × D) :=
  match dst with
  | some n => (n, d) :: s
  | none => s

def putAt (cs : List D) (off : Nat) (xs : List D) : List D := cs.take off ++ (xs ++ cs.drop (off + xs.length))

def fillD (cells : List D) : List (Nat × Nat × D) → Option (List D)
  | [] => some cells
  | (off, n, x) :: r => if x.lies = true ∧ x.cells.length = n ∧ off + n ≤ cells.length then fillD (putAt cells off x.cells) r else none

def eqCells : List SK → List V → List V → Option Bool
  | [], [], [] => some true
  | .int :: q, .int k a :: r, .int l b :: s => if k = l then (match eqCells q r s with | some z => some ((a == b) && z) | none => none) else none
  | .bool :: q, .bool a :: r, .bool b :: s => (match eqCells q r s with | some z => some ((a == b) && z) | none => none)
  | .str :: q, .str a :: r, .str b :: s => (match eqCells q r s with | some z => some ((a == b) && z) | none => none)
  | _, _, _ => none

/-! ### Weakest preconditions of the operations -/

/-- The types whose values, held in an interface, are compared as0 integers. -/
def intTy (P : Program) (t : Nat) : Bool :=
  match P.info? t, P.underlying t with
  | some i, some (.int _) => i.comparable
  | _, _ => false

def WInt (op : BinOp) (k : IntKind) (a : Int) (l : IntKind) (b : Int) (K : V → Prop) : Prop :=
  match op with
  | .add => k = l ∧ K (.int k (k.wrap (a + b)))
  | .sub => k = l ∧ K (.int k (k.wrap (a - b)))
  | .mul => k = l ∧ K (.int k (k.wrap (a * b)))
  | .quo => k = l ∧ b ≠ 0 ∧ K (.int k (k.wrap (a.tdiv b)))
  | .rem => k = l ∧ b ≠ 0 ∧ K (.int k (a.tmod b))
  | .and => k = l ∧ K (.int k (k.wrap (BitVec.ofInt k.bits a &&& BitVec.ofInt k.bits b).toNat))
  | .or => k = l ∧ K (.int k (k.wrap (BitVec.ofInt k.bits a ||| BitVec.ofInt k.bits b).toNat))
  | .xor => k = l ∧ K (.int k (k.wrap (BitVec.ofInt k.bits a ^^^ BitVec.ofInt k.bits b).toNat))
  | .shl => 0 ≤ b ∧ K (.int k (k.wrap (a * 2 ^ (min b.toNat k.bits))))
  | .shr => 0 ≤ b ∧ K (.int k (a.fdiv (2 ^ (min b.toNat k.bits))))
  | .eql => k = l ∧ K (.bool (a == b))
  | .neq => k = l ∧ K (.bool (a != b))
  | .lss => k = l ∧ K (.bool (decide (a < b)))
  | .leq => k = l ∧ K (.bool (decide (a ≤ b)))
  | .gtr => k = l ∧ K (.bool (decide (a > b)))
  | .geq => k = l ∧ K (.bool (decide (a ≥ b)))
  | _ => False

def WStr (op : BinOp) (a b : List UInt8) (K : V → Prop) : Prop :=
  match op with
  | .add => a.length + b.length ≤ 9223372036854775807 ∧ K (.str (a ++ b))
  | .eql => K (.bool (a == b))
  | .neq => K (.bool (!(a == b)))
  | .lss => K (.bool (Op.bytesLess a b))
  | .leq => K (.bool (Op.bytesLess a b || a == b))
  | .gtr => K (.bool (!(Op.bytesLess a b || a == b)))
  | .geq => K (.bool (!Op.bytesLess a b))
  | _ => False

def WEq (P : Program) (k : EqK) (cst : Bool) (x y : D) (B : Bool → Prop) : Prop :=
  match x, y with
  | .v (.bool a), .v (.bool b) => k = .bool ∧ B (a == b)
  | .v .pnil, .v .pnil => k = .ptr ∧ B true
  | .v .pnil, .ptr _ _ => k = .ptr ∧ B false
  | .ptr _ _, .v .pnil => k = .ptr ∧ B false
  | .v .pnil, .imm _ _ _ => k = .ptr ∧ B false
  | .imm _ _ _, .v .pnil => k = .ptr ∧ B false
  | .v .pnil, .v (.box _ _ _) => k = .ptr ∧ B false
  | .v (.box _ _ _), .v .pnil => k = .ptr ∧ B false
  | .v .pnil, .v (.adr _ _) => k = .ptr ∧ B false
  | .v (.adr _ _), .v .pnil => k = .ptr ∧ B false
  | .v .inil, .v .inil => k = .ifc ∧ cst = true ∧ B true
  | .v .inil, .v (.iface _ _) => k = .ifc ∧ B false
  | .v (.iface _ _), .v .inil => k = .ifc ∧ B false
  | .v .inil, .iface _ _ => k = .ifc ∧ B false
  | .iface _ _, .v .inil => k = .ifc ∧ B false
  | .v (.iface t (.int p a)), .v (.iface u (.int q b)) => k = .ifc ∧ (t ≠ u → B false) ∧ (t = u → p = q ∧ intTy P t = true ∧ B (a == b))
  | .v .snil, .v .snil => k = .sl ∧ B true
  | .v (.sl _ _ xs), .v .snil => k = .sl ∧ ∀ b : Bool, (xs ≠ [] → b = false) → B b
  | .tsl _ _ xs, .v .snil => k = .sl ∧ ∀ b : Bool, (xs ≠ [] → b = false) → B b
  | .msl _ _ len _ _, .v .snil => k = .sl ∧ ∀ b : Bool, (len ≠ 0 → b = false) → B b
  | .v .mnil, .v .mnil => k = .mp ∧ B true
  | .map _, .v .mnil => k = .mp ∧ B false
  | .v .fnil, .v .fnil => k = .fn ∧ B true
  | .fn _ _, .v .fnil => k = .fn ∧ B false
  | .v (.fn _), .v .fnil => k = .fn ∧ B false
  | .v (.agg as0), .v (.agg bs) => (match k with
    | .struct ks => (match eqCells ks as0 bs with
      | some r => B r
      | none => False)
    | _ => False)
  | _, _ => False

def WBin (P : Program) (op : BinOp) (k : EqK) (cst : Bool) (x y : D) (K : V → Prop) : Prop :=
  match x, y with
  | .v (.int p a), .v (.int q b) => WInt op p a q b K
  | .v (.str a), .v (.str b) => WStr op a b K
  | x, y => match op with
    | .eql => WEq P k cst x y fun b => K (.bool b)
    | .neq => WEq P k cst x y fun b => K (.bool (!b))
    | _ => False

def WUn (op : UnOp) (x : D) (K : V → Prop) : Prop :=
  match op, x with
  | .not, .v (.bool b) => K (.bool (!b))
  | .neg, .v (.int k n) => K (.int k (k.wrap (0 - n)))
  | .xor, .v (.int k n) => K (.int k (k.wrap (BitVec.ofInt k.bits (if k.signed then -1 else k.max) ^^^ BitVec.ofInt k.bits n).toNat))
  | _, _ => False

def bytesV (s : List UInt8) : List V := s.map fun b => .int .u8 b.toNat

def WConv (c : ConvK) (x : D) (K : V → Prop) : Prop :=
  match c, x with
  | .toInt k, .v (.int _ n) => K (.int k (k.wrap n))
  | .strs, .v (.str s) => K (.str s)
  | .toBytes, .v (.str s) => s.length ≤ maxLen ∧ K (.sl none false (bytesV s))
  | .ofBytes, .v .snil => K (.str [])
  | .ofBytes, .v (.sl _ _ xs) => ∃ s, xs = bytesV s ∧ K (.str s)
  | .ofBytes, .tsl _ _ xs => ∃ s, xs = bytesV s ∧ K (.str s)
  | _, _ => False

def WLoad (sh : Sh) (a : D) (σ : Sg) (K : D → Prop) : Prop :=
  match a with
  | .imm sh' x off =>
    if off = 0 ∧ sh = sh' then K (.v x) else
    match sh with
    | none => (match x.cells[off]? with | some c => K (.v c) | none => False)
    | some n => off + n ≤ shn sh' ∧ K (.v (.agg ((x.cells.drop off).take n)))
  | .v (.box sh' x off) =>
    if off = 0 ∧ sh = sh' then K (.v x) else
    match sh with
    | none => (match x.cells[off]? with | some c => K (.v c) | none => False)
    | some n => off + n ≤ shn sh' ∧ K (.v (.agg ((x.cells.drop off).take n)))
  | .ptr o off =>
    match σ.objs[o]? with
    | some (.cells cs) => (match sh with
      | none => (match cs[off]? with | some d => K d | none => False)
      | some n => 0 < n ∧ off + n ≤ cs.length ∧ K (mkAgg ((cs.drop off).take n)))
    | _ => False
  | _ => False

def WStore (n : Nat) (a x : D) (σ : Sg) (K : D → Sg → Prop) : Prop :=
  match a with
  | .ptr o off =>
    match σ.objs[o]? with
    | some (.cells cs) => x.lies = true ∧ x.cells.length = n ∧ 0 < n ∧ off + n ≤ cs.length ∧ K .undef (σ.put o (.cells (putAt cs off x.cells)))
    | _ => False
  | .v (.adr b off) => ∃ (o : Nat) (cs : List D), σ.objs[o]? = some (.known b cs) ∧ x.lies = true ∧ x.cells.length = n ∧ 0 < n ∧ off + n ≤ cs.length ∧ K .undef (σ.put o (.known b (putAt cs off x.cells)))
  | _ => False

def WNil (x : D) (K : D → Prop) : Prop :=
  match x with
  | .ptr _ _ => K x
  | .imm _ _ _ => K x
  | .fn _ _ => K x
  | .bfn _ _ => K x
  | .v (.fn _) => K x
  | .v (.iface _ _) => K x
  | .v (.box _ _ _) => K x
  | .v (.adr _ _) => K x
  | .iface _ _ => K x
  | _ => False

def asI : D → Option Int
  | .v (.int _ n) => some n
  | _ => none

def loI : Option D → Option Int
  | none => some 0
  | some d => asI d
def hiI (len : Nat) : Option D → Option Int
  | none => some len
  | some d => asI d
def mxI : Option D → Option (Option Int)
  | none => some none
  | some d => match asI d with
    | some m => some (some m)
    | none => none

/-- The bounds of a slice expression: low, high, and the room's end where it is told. -/
def bounds (len : Nat) (lo hi mx : Option D) : Option (Int × Int × Option Int) :=
  match loI lo, hiI len hi, mxI mx with
  | some l, some h, some q => some (l, h, q)
  | _, _, _ => none

def WSlice (k : SlK) (x : D) (lo hi mx : Option D) (K : V → Prop) : Prop :=
  match k, x with
  | .str, .v (.str s) => (match bounds s.length lo hi mx with
    | some (l, h, none) => 0 ≤ l ∧ l ≤ h ∧ h ≤ s.length ∧ K (.str ((s.take h.toNat).drop l.toNat))
    | _ => False)
  | .sl sh, .v (.sl sh' _ xs) => sh = sh' ∧ (match bounds xs.length lo hi mx with
    | some (l, h, none) => 0 ≤ l ∧ l ≤ h ∧ h ≤ xs.length ∧ K (.sl sh false ((xs.take h.toNat).drop l.toNat))
    | some (l, h, some m) => 0 ≤ l ∧ l ≤ h ∧ h = m ∧ m ≤ xs.length ∧ K (.sl sh true ((xs.take h.toNat).drop l.toNat))
    | none => False)
  | .sl sh, .tsl _ sh' xs => sh = sh' ∧ (match bounds xs.length lo hi mx with
    | some (l, h, none) => 0 ≤ l ∧ l ≤ h ∧ h ≤ xs.length ∧ K (.sl sh false ((xs.take h.toNat).drop l.toNat))
    | some (l, h, some m) => 0 ≤ l ∧ l ≤ h ∧ h = m ∧ m ≤ xs.length ∧ K (.sl sh true ((xs.take h.toNat).drop l.toNat))
    | none => False)
  | .sl sh, .v .snil => (match bounds 0 lo hi mx with
    | some (l, h, q) => l = 0 ∧ h = 0 ∧ (q = none ∨ q = some 0) ∧ K (.sl sh true [])
    | none => False)
  | _, _ => False

/-- A piece of a slice that may be written to. -/
def WSlM (sh : Sh) (o off len : Nat) (sh' : Sh) (cp : Option Nat) (lo hi mx : Option D) (K : D → Prop) : Prop :=
  sh = sh' ∧ (match cp with
    | some c => (match bounds len lo hi mx with
      | some (l, h, none) => 0 ≤ l ∧ l ≤ h ∧ h ≤ c ∧ K (.msl o (off + l.toNat * shn sh) (h - l).toNat sh (some (c - l.toNat)))
      | some (l, h, some m) => 0 ≤ l ∧ l ≤ h ∧ h ≤ m ∧ m ≤ c ∧ K (.msl o (off + l.toNat * shn sh) (h - l).toNat sh (some (m - l).toNat))
      | none => False)
    | none => False)
def WSl (k : SlK) (x : D) (lo hi mx : Option D) (K : D → Prop) : Prop :=
  match k, x with
  | .sl sh, .msl o off len sh' cp => WSlM sh o off len sh' cp lo hi mx K
  | k, x => WSlice k x lo hi mx fun v => K (.v v)

def WFaddr (off : Nat) (x : D) (K : D → Prop) : Prop :=
  match x with
  | .ptr o p => K (.ptr o (p + off))
  | .imm sh x p => K (.imm sh x (p + off))
  | .v (.box sh x p) => K (.v (.box sh x (p + off)))
  | .v (.adr b p) => K (.v (.adr b (p + off)))
  | _ => False

def WField (sh : Sh) (off : Nat) (x : D) (K : D → Prop) : Prop :=
  match x with
  | .v (.agg cs) => (match sh with
    | none => (match cs[off]? with | some c => K (.v c) | none => False)
    | some n => off + n ≤ cs.length ∧ K (.v (.agg ((cs.drop off).take n))))
  | .agg ds => (match sh with
    | none => (match ds[off]? with | some c => K c | none => False)
    | some n => off + n ≤ ds.length ∧ K (mkAgg ((ds.drop off).take n)))
  | _ => False

def WIaddr (sh : Sh) (x i : D) (K : D → Prop) : Prop :=
  match x, i with
  | .v (.sl sh' _ xs), .v (.int _ n) => sh = sh' ∧ 0 ≤ n ∧ n < xs.length ∧ ∀ y, xs[n.toNat]? = some y → K (.imm sh y 0)
  | .tsl _ sh' xs, .v (.int _ n) => sh = sh' ∧ 0 ≤ n ∧ n < xs.length ∧ ∀ y, xs[n.toNat]? = some y → K (.imm sh y 0)
  | .msl o off len sh' _, .v (.int _ n) => sh = sh' ∧ 0 ≤ n ∧ n < len ∧ K (.ptr o (off + n.toNat * shn sh))
  | _, _ => False

def WIndex (x i : D) (K : V → Prop) : Prop :=
  match x, i with
  | .v (.str s), .v (.int _ n) => 0 ≤ n ∧ n < s.length ∧ ∀ b, s[n.toNat]? = some b → K (.int .u8 b.toNat)
  | _, _ => False

def WExtract (x : D) (i : Nat) (K : D → Prop) : Prop :=
  match x with
  | .tup ds => (match ds[i]? with | some d => K d | none => False)
  | _ => False

def WLen (k : LenK) (x : D) (σ : Sg) (K : V → Prop) : Prop :=
  match k, x with
  | .str, .v (.str s) => K (.int .i64 s.length)
  | .sl, .v .snil => K (.int .i64 0)
  | .sl, .v (.sl _ _ xs) => K (.int .i64 xs.length)
  | .sl, .tsl _ _ xs => K (.int .i64 xs.length)
  | .sl, .msl _ _ len _ _ => K (.int .i64 len)
  | .mp, .v .mnil => K (.int .i64 0)
  | .mp, .map o => (match σ.objs[o]? with | some (.map es) => es.length ≤ maxLen ∧ K (.int .i64 es.length) | _ => False)
  | _, _ => False

/-- What is appended. -/
def srcV (sh : Sh) : D → Option (List V)
  | .v .snil => some []
  | .v (.sl sh' _ xs) => if sh = sh' then some xs else none
  | .tsl _ sh' xs => if sh = sh' then some xs else none
  | .v (.str s) => if sh = none then some (bytesV s) else none
  | _ => none

/-- Rows out of cells. -/
def chunk (n : Nat) : Nat → List V → List V
  | 0, _ => []
  | k + 1, l => .agg (l.take n) :: chunk n k (l.drop n)
def rowsV : Sh → Nat → List V → List V
  | none, k, l => l.take k
  | some n, k, l => chunk n k l
/-- What is appended; it may lie where it can be written to. -/
def srcM (σ : Sg) (sh : Sh) (x : D) : Option (List V) :=
  match x with
  | .msl o off len sh' _ => (match σ.objs[o]? with
    | some (.cells cs) => if sh = sh' ∧ len ≠ 0 ∧ cs.length ≠ 0 ∧ off + len * shn sh ≤ cs.length then (match allV ((cs.drop off).take (len * shn sh)) with
      | some vs => some (rowsV sh len vs)
      | none => none) else none
    | _ => none)
  | x => srcV sh x

def WAppend (sh : Sh) (bytes : Nat) (s x : D) (σ : Sg) (K : D → Sg → Prop) : Prop :=
  match srcM σ sh x with
  | none => False
  | some ys => match s with
    | .v .snil => ys.length * bytes ≤ 140737488355328 ∧ K (.tsl σ.toks.length sh ys) (σ.tadd ys.length)
    | .v (.sl sh' true xs) => sh = sh' ∧ (xs.length + ys.length) * bytes ≤ 140737488355328 ∧ K (.tsl σ.toks.length sh (xs ++ ys)) (σ.tadd (xs.length + ys.length))
    | .tsl t sh' xs => sh = sh' ∧ σ.toks[t]? = some xs.length ∧ (xs.length + ys.length) * bytes ≤ 140737488355328 ∧ K (.tsl t sh (xs ++ ys)) (σ.tput t (xs.length + ys.length))
    | _ => False

def WMin : List D → (V → Prop) → Prop
  | [.v (.int k a), .v (.int l b)], K => k = l ∧ K (.int k (if b < a then b else a))
  | _, _ => False

/-! Maps -/
def keyOk : KK → V → Bool
  | .int k, .int l _ => k == l
  | .str, .str _ => true
  | .pair k, .agg [.int l _, .str _] => k == l
  | _, _ => false
def keq : V → V → Bool
  | .int _ a, .int _ b => a == b
  | .str a, .str b => a == b
  | .agg [.int _ a, .str s], .agg [.int _ b, .str t] => a == b && s == t
  | _, _ => false
def mfind (x : V) : List (V × D) → Option D
  | [] => none
  | (k, d) :: r => if keq x k = true then some d else mfind x r
def mset (x : V) (d : D) : List (V × D) → List (V × D)
  | [] => [(x, d)]
  | (k, e) :: r => if keq x k = true then (x, d) :: r else (k, e) :: mset x d r
def keysOk (kk : KK) (es : List (V × D)) : Bool := es.all fun e => keyOk kk e.1
def mgot (ok : Bool) (z : V) (r : Option D) : D := if ok = true then .tup [r.getD (.v z), .v (.bool r.isSome)] else r.getD (.v z)

def merase (x : V) : List (V × D) → List (V × D)
  | [] => []
  | (k, d) :: r => if keq x k = true then r else (k, d) :: merase x r

def zerosV (zs : List V) (n : Nat) : List V := (List.replicate n zs).flatten
/-- A new slice that may be written to. -/
def WApm0 (sh : Sh) (bytes : Nat) (ys : List V) (σ : Sg) (K : D → Sg → Prop) : Prop :=
  (ys = [] → K (.v (.sl sh true [])) σ) ∧ (¬ ys = [] → ys.length * bytes ≤ 140737488355328 ∧ ∀ c : Nat, ys.length ≤ c → c ≤ maxLen →
    K (.msl σ.objs.length 0 ys.length sh (some c)) (σ.add (.cells ((V.flat ys).map .v ++ List.replicate ((c - ys.length) * shn sh) .junk))))
def WApm1 (sh : Sh) (bytes : Nat) (o off len c : Nat) (ys : List V) (σ : Sg) (K : D → Sg → Prop) : Prop :=
  match σ.objs[o]? with
  | some (.cells cs) =>
      (len + ys.length ≤ c → off + (len + ys.length) * shn sh ≤ cs.length ∧ K (.msl o off (len + ys.length) sh (some c)) (σ.put o (.cells (putAt cs (off + len * shn sh) ((V.flat ys).map .v))))) ∧
      (¬ len + ys.length ≤ c → off + len * shn sh ≤ cs.length ∧ (len + ys.length) * bytes ≤ 140737488355328 ∧ ∀ c' : Nat, len + ys.length ≤ c' → c' ≤ maxLen →
        K (.msl σ.objs.length 0 (len + ys.length) sh (some c')) (σ.add (.cells ((cs.drop off).take (len * shn sh) ++ ((V.flat ys).map .v ++ List.replicate ((c' - (len + ys.length)) * shn sh) .junk)))))
  | _ => False
def WApmV (sh : Sh) (bytes : Nat) (s : D) (ys : List V) (σ : Sg) (K : D → Sg → Prop) : Prop :=
  match s with
  | .v .snil => WApm0 sh bytes ys σ K
  | .v (.sl sh' true []) => sh = sh' ∧ WApm0 sh bytes ys σ K
  | .msl o off len sh' (some c) => sh = sh' ∧ WApm1 sh bytes o off len c ys σ K
  | _ => False
def WApm (sh : Sh) (bytes : Nat) (s x : D) (σ : Sg) (K : D → Sg → Prop) : Prop :=
  match srcM σ sh x with
  | none => False
  | some ys => WApmV sh bytes s ys σ K
def zrow : Sh → List V → V
  | none, zs => zs.headD .inil
  | some _, zs => .agg zs
def WClear (zs : List V) (x : D) (σ : Sg) (K : D → Sg → Prop) : Prop :=
  match x with
  | .v .snil => K .undef σ
  | .v (.sl _ _ []) => K .undef σ
  | .msl o off len sh _ => (match σ.objs[o]? with
    | some (.cells cs) => zs.length = shn sh ∧ cs.length ≠ 0 ∧ off + len * shn sh ≤ cs.length ∧ K .undef (σ.put o (.cells (putAt cs off ((zerosV zs len).map .v))))
    | _ => False)
  | _ => False
def WMkvec (sh : Sh) (bytes : Nat) (zs : List V) (n c : Int) (σ : Sg) (K : D → Sg → Prop) : Prop :=
  0 ≤ n ∧ n ≤ c ∧ c * bytes ≤ 140737488355328 ∧ (c = 0 → K (.v (.sl sh true [])) σ) ∧ (¬ c = 0 → K (.msl σ.objs.length 0 n.toNat sh (some c.toNat)) (σ.add (.cells ((zerosV zs c.toNat).map .v))))
def WCopy (sh : Sh) (d x : D) (σ : Sg) (K : D → Sg → Prop) : Prop :=
  match srcM σ sh x with
  | none => False
  | some ys => match d with
    | .msl o off len sh' _ => (match σ.objs[o]? with
      | some (.cells cs) => sh = sh' ∧ cs.length ≠ 0 ∧ ys.length ≤ len ∧ off + ys.length * shn sh ≤ cs.length ∧ K (.v (.int .i64 ys.length)) (σ.put o (.cells (putAt cs off ((V.flat ys).map .v))))
      | _ => False)
    | _ => False
def WCap (x : D) (K : D → Prop) : Prop :=
  match x with
  | .v .snil => K (.v (.int .i64 0))
  | .v (.sl _ true xs) => K (.v (.int .i64 xs.length))
  | .v (.sl _ false xs) => ∀ c : Nat, xs.length ≤ c → c ≤ maxLen → K (.v (.int .i64 c))
  | .tsl _ _ xs => ∀ c : Nat, xs.length ≤ c → c ≤ maxLen → K (.v (.int .i64 c))
  | .msl _ _ _ _ (some c) => K (.v (.int .i64 c))
  | .msl _ _ len _ none => ∀ c : Nat, len ≤ c → c ≤ maxLen → K (.v (.int .i64 c))
  | _ => False

def WMksl (sh : Sh) (ds : List D) (K : V → Prop) : Prop :=
  match D.toVs ds with
  | some xs => (∀ x ∈ xs, x.shape = sh ∧ (x.cells.all V.one) = true) ∧ K (.sl sh true xs)
  | none => False

def WMkslm (sh : Sh) (ds : List D) (σ : Sg) (K : D → Sg → Prop) : Prop := WMksl sh ds fun v => match v with
  | .sl _ _ xs => xs ≠ [] ∧ K (.msl σ.objs.length 0 xs.length sh (some xs.length)) (σ.add (.cells ((V.flat xs).map .v)))
  | _ => False

/-- A step of a range over a map: any entry that has not come yet; or none is left. -/
def WNext (i o since : Nat) (seen : List Nat) (ob : Option Ob) (σ : Sg) (K : D → Sg → Prop) : Prop := match ob with
  | some (.map es) => dense = true ∧ es.length = since ∧ ((∀ j, j < es.length → j ∈ seen) → K (.tup [.v (.bool false)]) σ) ∧
      ∀ (j : Nat) x, es[j]? = some x → j ∉ seen → K (.tup [.v (.bool true), .v x.1, x.2]) (σ.put i (.iter (some o) since (seen ++ [j])))
  | _ => False
/-- The entry that the last step came to. -/
def WEntry (o since : Nat) (seen : List Nat) (ob : Option Ob) (σ : Sg) (K : D → Sg → Prop) : Prop := match ob with
  | some (.map es) => dense = true ∧ es.length = since ∧ ∃ pre j x, seen = pre ++ [j] ∧ es[j]? = some x ∧ K (.tup [.v x.1, x.2]) σ
  | _ => False

/-- Bytes that were written one by one, given out for good. -/
def WGive (o len : Nat) (σ : Sg) (K : D → Sg → Prop) : Prop :=
  ∃ (cs : List D) (xs : List V), σ.objs[o]? = some (.cells cs) ∧ cs.take len = xs.map .v ∧ xs.length = len ∧ len ≠ 0 ∧ (∀ x ∈ xs, x.shape = none) ∧ K (.v (.sl none false xs)) (σ.put o (.cells []))

/-- A load out of an object whose block is known, too. -/
def WLdk (sh : Sh) (a : D) (σ : Sg) (K : D → Prop) : Prop :=
  match a with
  | .v (.adr b off) => ∃ (o : Nat) (cs : List D), σ.objs[o]? = some (.known b cs) ∧ (match sh with
      | none => (match cs[off]? with | some d => K d | none => False)
      | some n => 0 < n ∧ off + n ≤ cs.length ∧ K (mkAgg ((cs.drop off).take n)))
  | a => WLoad sh a σ K
def WX (x : XOp) (ds : List D) (σ : Sg) (K : D → Sg → Prop) : Prop :=
  match x with
  | .mkmap => K (.map σ.objs.length) (σ.add (.map []))
  | .mput kk => (match ds with
    | [.map o, .v k, d] => (match σ.objs[o]? with
      | some (.map es) => keyOk kk k = true ∧ keysOk kk es = true ∧ K .undef (σ.put o (.map (mset k d es)))
      | _ => False)
    | _ => False)
  | .mget kk ok z => (match ds with
    | [.v .mnil, .v k] => keyOk kk k = true ∧ K (mgot ok z none) σ
    | [.map o, .v k] => (match σ.objs[o]? with
      | some (.map es) => keyOk kk k = true ∧ keysOk kk es = true ∧ K (mgot ok z (mfind k es)) σ
      | _ => False)
    | _ => False)
  | .stop => False
  | .appm sh bytes => (match ds with
    | [s, x] => WApm sh bytes s x σ K
    | _ => False)
  | .mkvec sh bytes zs => (match ds with
    | [.v (.int _ n), .v (.int _ c)] => WMkvec sh bytes zs n c σ K
    | _ => False)
  | .copy sh => (match ds with
    | [d, x] => WCopy sh d x σ K
    | _ => False)
  | .appz sh bytes zs => (match ds with
    | [s, .v (.int _ n)] => 0 ≤ n ∧ n * bytes ≤ 140737488355328 ∧ WApmV sh bytes s (List.replicate n.toNat (zrow sh zs)) σ K
    | _ => False)
  | .clear zs => (match ds with
    | [x] => WClear zs x σ K
    | _ => False)
  | .cap => (match ds with
    | [x] => WCap x fun d => K d σ
    | _ => False)
  | .mkslm sh => WMkslm sh ds σ K
  | .mdel kk => (match ds with
    | [.v .mnil, .v k] => keyOk kk k = true ∧ K .undef σ
    | [.map o, .v k] => (match σ.objs[o]? with
      | some (.map es) => dense = false ∧ keyOk kk k = true ∧ keysOk kk es = true ∧ K .undef (σ.put o (.map (merase k es)))
      | _ => False)
    | _ => False)
  | .max => (match ds with
    | [.v (.int k a), .v (.int l b)] => k = l ∧ K (.v (.int k (if b > a then b else a))) σ
    | _ => False)
  | .sto n => (match ds with
    | x :: a :: _ => WStore n a x σ K
    | _ => False)
  | .bind f => (match ds with
    | [x] => K (.bfn f x) σ
    | _ => False)
  | .ibox => (match ds with
    | [x] => (match x.toV with
      | some v => v.cells.all V.one = true ∧ K (.v (.box v.shape v 0)) σ
      | none => False)
    | _ => False)
  | .xbox => (match ds with
    | [x] => x.lies = true ∧ ∀ b, K (.v (.adr b 0)) (σ.add (.known b x.cells))
    | _ => False)
  | .iexp sh => (match ds with
    | [.msl o off len sh' _, .v (.int _ n)] => sh = sh' ∧ 0 ≤ n ∧ n < len ∧ (match σ.objs[o]? with
      | some (.cells cs) => cs ≠ [] ∧ ∀ b, K (.v (.adr b (off + n.toNat * shn sh))) (σ.put o (.known b cs))
      | _ => False)
    | _ => False)
  | .ldk sh => (match ds with
    | [a] => WLdk sh a σ fun d => K d σ
    | _ => False)
  | .give => (match ds with
    | [.msl o 0 len none _] => WGive o len σ K
    | _ => False)
  | .mrange => (match ds with
    | [.v .mnil] => K (.ptr σ.objs.length 0) (σ.add (.iter none 0 []))
    | [.map o] => (match σ.objs[o]? with
      | some (.map es) => dense = true ∧ K (.ptr σ.objs.length 0) (σ.add (.iter (some o) es.length []))
      | _ => False)
    | _ => False)
  | .mnext => (match ds with
    | [.ptr i 0] => (match σ.objs[i]? with
      | some (.iter none _ _) => K (.tup [.v (.bool false)]) σ
      | some (.iter (some o) since seen) => WNext i o since seen σ.objs[o]? σ K
      | _ => False)
    | _ => False)
  | .mentry => (match ds with
    | [.ptr i 0] => (match σ.objs[i]? with
      | some (.iter (some o) since seen) => WEntry o since seen σ.objs[o]? σ K
      | _ => False)
    | _ => False)

/-- THE CONTRACT of a Go function, on abstract values. -/
def ACalls (P : Program) (f : Nat) (ds : List D) (σ : Sg) (R : D → Sg → Prop) : Prop :=
  (∃ fn, P.funcs[f]? = some fn ∧ fn.body.isSome = true ∧ (fn.name == "runtime.NumGoroutine") = false) ∧
  ∀ (m : Gh) (w : World) (us : List Value), Inv σ m w → ds.length = us.length → (∀ (i : Nat) d u, ds[i]? = some d → us[i]? = some u → RepD m w d u) →
    Calls P f us.toArray w fun e w' => ∃ v r σ' m', e = .returned v ∧ R r σ' ∧ Inv σ' m' w' ∧ Ext m w m' w' ∧ RepD m' w' r v

/-- The method of that name of a value of type t, held in an interface. -/
def MethP (P : Program) (t : Nat) (name : String) (g : Nat) : Prop := ∀ (a : Addr) (w : World), (method (P.types.size + Made.depth) t (.pointer (some a)) name).run P w = .ok (g, .pointer (some a)) w
def MethI (P : Program) (t : Nat) (name : String) (g : Nat) : Prop := ∀ (k : IntKind) (n : Int) (w : World), (method (P.types.size + Made.depth) t (.int k n) name).run P w = .ok (g, .int k n) w
/-- A method is called by its name. -/
def WInv (P : Program) (name : String) (d : D) (ds : List D) (σ : Sg) (R : D → Sg → Prop) : Prop := match d with
  | .iface t (.ptr o off) => ∃ g, MethP P t name g ∧ ACalls P g (.ptr o off :: ds) σ R
  | .v (.iface t (.int k n)) => ∃ g, MethI P t name g ∧ ACalls P g (.v (.int k n) :: ds) σ R
  | _ => False

theorem ACalls.mono {P : Program} {f : Nat} {ds : List D} {σ : Sg} {R R' : D → Sg → Prop} (h : ACalls P f ds σ R) (k : ∀ r σ', R r σ' → R' r σ') : ACalls P f ds σ R' :=
  ⟨h.1, fun m w us hI hl hr => (h.2 m w us hI hl hr).mono fun _ _ ⟨v, r, σ', m', h1, h2, h3⟩ => ⟨v, r, σ', m', h1, k _ _ h2, h3⟩⟩

def WOp (P : Program) (op : AOp) (s : List (Nat × D)) (σ : Sg) (K : D → Sg → Prop) : Prop :=
  match op with
  | .mv x => K (ev s x) σ
  | .pick c a b => (match ev s c with
    | .v (.bool p) => (p = true → K (ev s a) σ) ∧ (p = false → K (ev s b) σ)
    | _ => False)
  | .alloc zs => K (.ptr σ.objs.length 0) (σ.add (.cells (zs.map .v)))
  | .box x => (ev s x).lies = true ∧ K (.ptr σ.objs.length 0) (σ.add (.cells (ev s x).cells))
  | .build zs ps => (match fillD (zs.map .v) (ps.map fun p => (p.1, p.2.1, ev s p.2.2)) with
    | some cs => K (mkAgg cs) σ
    | none => False)
  | .mksl sh xs => WMksl sh (xs.map (ev s)) fun v => K (.v v) σ
  | .load sh a => WLoad sh (ev s a) σ fun d => K d σ
  | .store n a x => WStore n (ev s a) (ev s x) σ K
  | .nilck x => WNil (ev s x) fun d => K d σ
  | .bin op k cst x y => WBin P op k cst (ev s x) (ev s y) fun v => K (.v v) σ
  | .un op x => WUn op (ev s x) fun v => K (.v v) σ
  | .conv c x => WConv c (ev s x) fun v => K (.v v) σ
  | .mkif t x => K (mkIface t (ev s x)) σ
  | .mkfn f caps => K (match caps with | [] => .v (.fn f) | caps => .fn f (caps.map (ev s))) σ
  | .slice k x lo hi mx => WSl k (ev s x) (lo.map (ev s)) (hi.map (ev s)) (mx.map (ev s)) fun d => K d σ
  | .faddr off x => WFaddr off (ev s x) fun d => K d σ
  | .field sh off x => WField sh off (ev s x) fun d => K d σ
  | .iaddr sh x i => WIaddr sh (ev s x) (ev s i) fun d => K d σ
  | .index x i => WIndex (ev s x) (ev s i) fun v => K (.v v) σ
  | .extract x i => WExtract (ev s x) i fun d => K d σ
  | .call f args => (match ev s f with
    | .v (.fn g) => ACalls P g (args.map (ev s)) σ K
    | .fn g caps => ACalls P g (args.map (ev s) ++ caps) σ K
    | .bfn g d => ACalls P g (d :: args.map (ev s)) σ K
    | _ => False)
  | .inv name x args => WInv P name (ev s x) (args.map (ev s)) σ K
  | .len k x => WLen k (ev s x) σ fun v => K (.v v) σ
  | .append sh bytes s' x => WAppend sh bytes (ev s s') (ev s x) σ K
  | .min xs => WMin (xs.map (ev s)) fun v => K (.v v) σ
  | .ext x xs => WX x (xs.map (ev s)) σ K

def WO (P : Program) : List RO → List (Nat × D) → Sg → (List (Nat × D) → Sg → Prop) → Prop
  | [], s, σ, K => K s σ
  | ⟨dst, g, op⟩ :: r, s, σ, K =>
    match g with
    | none => WOp P op s σ fun d σ' => WO P r (push dst d s) σ' K
    | some (n, want) => match look s n with
      | .v (.bool p) => (p = want → WOp P op ((n, .v (.bool want)) :: s) σ fun d σ' => WO P r (push dst d ((n, .v (.bool want)) :: s)) σ' K) ∧
          (p = !want → WO P r (push dst .undef ((n, .v (.bool (!want))) :: s)) σ K)
      | .tup [] => WO P r (push dst .undef s) σ K
      | _ => False

/-- What was there is there still, and is the same. -/
def Keep (σ σ' : Sg) : Prop := ∀ (o : Nat) ob, σ.objs[o]? = some ob → σ'.objs[o]? = some ob
theorem Keep.refl (σ : Sg) : Keep σ σ := fun _ _ h => h
theorem Keep.trans {a b c : Sg} (h : Keep a b) (k : Keep b c) : Keep a c := fun o ob e => k o ob (h o ob e)

/-- What an operation looks into: an object, or some of its cells. -/
structure Rd where
  o : Nat
  p : Option (Sh × Nat)
def rdD : D → List Rd
  | .ptr o _ => [⟨o, none⟩]
  | .map o => [⟨o, none⟩]
  | _ => []
def rdL (sh : Sh) : D → List Rd
  | .ptr o off => [⟨o, some (sh, off)⟩]
  | _ => []
def rdH : List D → List Rd
  | d :: _ => rdD d
  | [] => []
def AOp.reads (s : List (Nat × D)) : AOp → List Rd
  | .load sh a => rdL sh (ev s a)
  | .len _ x => rdD (ev s x)
  | .ext _ xs => rdH (xs.map (ev s))
  | _ => []
/-- An operation that looks into no object. -/
def AOp.blind : AOp → Bool
  | .load _ _ => false
  | .len _ _ => false
  | .ext _ _ => false
  | _ => true
theorem AOp.blind_reads {op : AOp} (h : op.blind = true) (s : List (Nat × D)) : op.reads s = [] := by
  cases op <;> first | rfl | cases h
def KeepRd (sh : Sh) (off : Nat) (cs cs' : List D) : Prop := match sh with
  | none => cs'[off]? = cs[off]?
  | some n => (cs'.drop off).take n = (cs.drop off).take n ∧ cs'.length = cs.length
/-- What is looked into there is still what it was. -/
def Rd.ok (r : Rd) (σ σ' : Sg) : Prop := ∀ ob, σ.objs[r.o]? = some ob → σ'.objs[r.o]? = some ob ∨ (match r.p with
  | none => False
  | some (sh, off) => ∃ cs cs', ob = .cells cs ∧ σ'.objs[r.o]? = some (.cells cs') ∧ KeepRd sh off cs cs')
def KeepOn (rds : List Rd) (σ σ' : Sg) : Prop := ∀ r ∈ rds, r.ok σ σ'

def E.tmps : E → List Nat
  | .t n => [n]
  | .c _ => []
def E.otmps : Option E → List Nat
  | some e => e.tmps
  | none => []

def AOp.tmps : AOp → List Nat
  | .mv x => x.tmps
  | .pick c a b => c.tmps ++ (a.tmps ++ b.tmps)
  | .alloc _ => []
  | .box x => x.tmps
  | .build _ ps => ps.flatMap fun p => p.2.2.tmps
  | .mksl _ xs => xs.flatMap E.tmps
  | .load _ a => a.tmps
  | .store _ a x => a.tmps ++ x.tmps
  | .nilck x => x.tmps
  | .bin _ _ _ x y => x.tmps ++ y.tmps
  | .un _ x => x.tmps
  | .conv _ x => x.tmps
  | .mkif _ x => x.tmps
  | .mkfn _ caps => caps.flatMap E.tmps
  | .slice _ x lo hi mx => x.tmps ++ (E.otmps lo ++ (E.otmps hi ++ E.otmps mx))
  | .faddr _ x => x.tmps
  | .field _ _ x => x.tmps
  | .iaddr _ x i => x.tmps ++ i.tmps
  | .index x i => x.tmps ++ i.tmps
  | .extract x _ => x.tmps
  | .call f args => f.tmps ++ args.flatMap E.tmps
  | .inv _ x args => x.tmps ++ args.flatMap E.tmps
  | .len _ x => x.tmps
  | .append _ _ s x => s.tmps ++ x.tmps
  | .min xs => xs.flatMap E.tmps
  | .ext _ xs => xs.flatMap E.tmps

def RO.tmps (r : RO) : List Nat := (match r.g with | some (n, _) => [n] | none => []) ++ r.op.tmps

/-- What has been done so far in a region, the last first, with what was looked into. -/
abbrev Hist := List (RO × List Rd)
def RO.feeds (q : RO) (L : List Nat) : Bool := match q.dst with
  | some d => L.contains d
  | none => false
/-- What was looked into by operations on which these temporaries do not hang. -/
def loose : List Nat → Hist → List Rd
  | _, [] => []
  | L, (q, rd) :: h => if q.feeds L = true then loose (q.tmps ++ L) h else rd ++ loose L h
/-- A region whose order is drawn, in one order of all; where the mark is false, what may come later must not see it (hist: what has been looked into). -/
def WOx (P : Program) : Hist → List (RO × Bool) → List (Nat × D) → Sg → (List (Nat × D) → Sg → Prop) → Prop
  | _, [], s, σ, K => K s σ
  | h, (r, b) :: rs, s, σ, K => WO P [r] s σ fun s' σ' => (b = true ∨ Keep σ σ' ∨ KeepOn (loose r.tmps h) σ σ') ∧ WOx P ((r, r.op.reads s) :: h) rs s' σ' K

/-- As WOx; what comes after is told what has been done. -/
def WOxH (P : Program) : Hist → List (RO × Bool) → List (Nat × D) → Sg → (Hist → List (Nat × D) → Sg → Prop) → Prop
  | h, [], s, σ, K => K h s σ
  | h, (r, b) :: rs, s, σ, K => WO P [r] s σ fun s' σ' => (b = true ∨ Keep σ σ' ∨ KeepOn (loose r.tmps h) σ σ') ∧ WOxH P ((r, r.op.reads s) :: h) rs s' σ' K

structure St where
  env : List (Nat × D)
  σ : Sg

/-- Less is known of the second, of what the first is known to be. (B: what was there when the function began.) -/
def Weak (B : Sg) (st st' : St) : Prop :=
  (∀ n, look st.env n = .junk → look st'.env n = .junk) ∧
  ∀ (m0 m : Gh) (w0 w : World) (tmps : Array Value), Inv B m0 w0 → Ext m0 w0 m w → Inv st.σ m w → (∀ n, RepD m w (look st.env n) (tmps.getD n undef)) →
    ∃ m', Inv st'.σ m' w ∧ (∀ n, RepD m' w (look st'.env n) (tmps.getD n undef)) ∧ Ext m0 w0 m' w

inductive XE where
  | normal
  | exit (id : Nat)
  | ret
  deriving DecidableEq

def W (P : Program) (B : Sg) : X → (XE → St → Prop) → St → Prop
  | .skip, Q, st => Q .normal st
  | .reg os ops, Q, st => WO P ops st.env st.σ fun s σ' => Q .normal ⟨outs os s st.env, σ'⟩
  | .any os ops, Q, st => WOx P [] ops st.env st.σ fun s σ' => Q .normal ⟨outs os s st.env, σ'⟩
  | .alt os q c al l r, Q, st => WOxH P [] q st.env st.σ fun h s σ' => WOx P h (c :: (l ++ al :: r)) s σ' (fun s σ' => Q .normal ⟨outs os s st.env, σ'⟩) ∧ WOx P h (al :: c :: (l ++ r)) s σ' (fun s σ' => Q .normal ⟨outs os s st.env, σ'⟩)
  | .seq a b, Q, st => W P B a (fun e st' => match e with | .normal => W P B b Q st' | e => Q e st') st
  | .cond c a b, Q, st => (match ev st.env c with
    | .v (.bool p) => (p = true → W P B a Q st) ∧ (p = false → W P B b Q st)
    | _ => False)
  | .block id a, Q, st => W P B a (fun e st' => match e with | .exit j => if j = id then Q .normal st' else Q (.exit j) st' | e => Q e st') st
  | .loop a, Q, st => ∃ (I : Nat → St → Prop), (∃ n st0, Weak B st st0 ∧ I n st0) ∧
      ∀ n st', I n st' → W P B a (fun e st2 => match e with | .normal => ∃ n' st3, n' < n ∧ Weak B st2 st3 ∧ I n' st3 | e => Q e st2) st'
  | .exit id, Q, st => Q (.exit id) st
  | .ret, Q, st => Q .ret st

end Go.Abs

/-
  The model's operations, turned into the small language; that each does what its weakest precondition says: part 1. (Own work; seat-independent.)
-/
set_option linter.unusedVariables false
set_option linter.unusedSimpArgs false
namespace Go.Abs
open Go

def cV1 : Value → Option V
  | .bool b => some (.bool b)
  | .int k n => if inR k n then some (.int k n) else none
  | .string s => if s.data.toList.length ≤ maxLen then some (.str s.data.toList) else none
  | .pointer none => some .pnil
  | .slice none 0 0 => some .snil
  | .map none => some .mnil
  | .nilFunc => some .fnil
  | .nilIface => some .inil
  | _ => none

def cV1s : List Value → Option (List V)
  | [] => some []
  | v :: vs => match cV1 v, cV1s vs with
    | some x, some xs => some (x :: xs)
    | _, _ => none

def cV : Value → Option V
  | .agg cs => (cV1s cs.toList).map .agg
  | v => cV1 v

theorem cV1_rep {w : World} {F : Nat → Nat → Prop} {v : Value} {x : V} (h : cV1 v = some x) : RepV w F x v ∧ x.one = true := by
  unfold cV1 at h
  split at h <;> (try (split at h)) <;> (first | cases h) <;> first
    | exact ⟨.bool _, rfl⟩ | exact ⟨.int _ _ ‹_›, rfl⟩ | exact ⟨.pnil, rfl⟩ | exact ⟨.snil, rfl⟩ | exact ⟨.mnil, rfl⟩ | exact ⟨.fnil, rfl⟩ | exact ⟨.inil, rfl⟩
    | exact ⟨by have := RepV.str (w := w) (F := F) (‹ByteArray›).data.toList ‹_›; simpa using this, rfl⟩

theorem cV1s_rep {w : World} {F : Nat → Nat → Prop} : ∀ {vs : List Value} {xs : List V}, cV1s vs = some xs →
    xs.length = vs.length ∧ (∀ c ∈ xs, c.one = true) ∧ ∀ (i : Nat) c u, xs[i]? = some c → vs[i]? = some u → RepV w F c u
  | [], xs, h => by cases h; simp
  | v :: vs, xs, h => by
    simp only [cV1s] at h
    split at h
    · rename_i x ys hx hy
      cases h
      obtain ⟨h1, h2, h3⟩ := cV1s_rep (w := w) (F := F) hy
      obtain ⟨r, o⟩ := cV1_rep (w := w) (F := F) hx
      refine ⟨by simp [h1], fun c hc => ?_, fun i c u hc hu => ?_⟩
      · rcases List.mem_cons.1 hc with rfl | hc
        · exact o
        · exact h2 c hc
      · cases i with
        | zero => simp at hc hu; subst hc hu; exact r
        | succ i => simp at hc hu; exact h3 i c u hc hu
    · cases h

theorem cV_rep {w : World} {F : Nat → Nat → Prop} {v : Value} {x : V} (h : cV v = some x) : RepV w F x v := by
  unfold cV at h
  split at h
  · rename_i cs
    cases hx : cV1s cs.toList with
    | none => simp [hx] at h
    | some xs =>
      simp [hx] at h
      subst h
      obtain ⟨h1, h2, h3⟩ := cV1s_rep (w := w) (F := F) hx
      have := RepV.agg (w := w) (F := F) xs cs.toList h1 h2 h3
      simpa using this
  · exact (cV1_rep h).1

def cE : Operand → Option E
  | .tmp t => some (.t t)
  | .const v => (cV v).map .c
  | .func f => some (.c (.fn f))
  | .global _ => none

/-- The environment, as0 it is looked up. -/
def EnvR (m : Gh) (w : World) (s : List (Nat × D)) (tmps : Array Value) : Prop := ∀ n, RepD m w (look s n) (tmps.getD n undef)

theorem EnvR.mono {m m' : Gh} {w w' : World} {s : List (Nat × D)} {tmps : Array Value} (h : EnvR m w s tmps) (e : Ext m w m' w') : EnvR m' w' s tmps := fun n => (h n).mono e

theorem ev_rep {m : Gh} {w : World} {s : List (Nat × D)} {a : Act} (h : EnvR m w s a.tmps) {x : Operand} {e : E} (hc : cE x = some e) : RepD m w (ev s e) (a.eval x) := by
  cases x with
  | tmp t => cases hc; exact h t
  | const v =>
    simp only [cE] at hc
    cases hv : cV v with
    | none => simp [hv] at hc
    | some y => simp [hv] at hc; subst hc; exact .v y v (cV_rep hv)
  | func f => cases hc; exact .v _ _ (.fn f)
  | global g => cases hc

def cEs : List Operand → Option (List E)
  | [] => some []
  | x :: xs => match cE x, cEs xs with
    | some e, some es => some (e :: es)
    | _, _ => none

theorem evs_rep {m : Gh} {w : World} {s : List (Nat × D)} {a : Act} (h : EnvR m w s a.tmps) : ∀ {xs : List Operand} {es : List E}, cEs xs = some es →
    es.length = xs.length ∧ ∀ (i : Nat) d u, (es.map (ev s))[i]? = some d → (xs.map a.eval)[i]? = some u → RepD m w d u
  | [], es, hc => by cases hc; simp
  | x :: xs, es, hc => by
    simp only [cEs] at hc
    split at hc
    · rename_i e es' he hes
      cases hc
      obtain ⟨h1, h2⟩ := evs_rep h hes
      refine ⟨by simp [h1], fun i d u hd hu => ?_⟩
      cases i with
      | zero => simp at hd hu; subst hd hu; exact ev_rep h he
      | succ i => simp only [List.map_cons, List.getElem?_cons_succ] at hd hu; exact h2 i d u hd hu
    · cases hc

/-- What an operation must show. -/
def Runs1 (P : Program) (o : Oper) (σ : Sg) (m : Gh) (w : World) (a : Act) (K : D → Sg → Prop) : Prop :=
  ∃ (n : Next) (u : Value) (w' : World) (m' : Gh) (d : D) (σ' : Sg), (execOp a.eval o).run P w = .ok n w' ∧ (n = .value u ∨ (n = .skip ∧ u = undef)) ∧ K d σ' ∧ Inv σ' m' w' ∧ Ext m w m' w' ∧ RepD m' w' d u

def OpOk (P : Program) (o : Oper) (O : AOp) : Prop :=
  ∀ (σ : Sg) (m : Gh) (w : World) (a : Act) (s : List (Nat × D)) (K : D → Sg → Prop), Inv σ m w → EnvR m w s a.tmps → WOp P O s σ K →
    ∀ (next : Act → World → Prop) (Q : Exit → Act → World → Prop), (∀ d σ' m' w' u, K d σ' → Inv σ' m' w' → Ext m w m' w' → RepD m' w' d u → next (a.put o.dst u) w') →
      o.upon P a next Q ((execOp a.eval o).run P w)

theorem OpOk.of_runs {P : Program} {o : Oper} {O : AOp}
    (h : ∀ (σ : Sg) (m : Gh) (w : World) (a : Act) (s : List (Nat × D)) (K : D → Sg → Prop), Inv σ m w → EnvR m w s a.tmps → WOp P O s σ K → Runs1 P o σ m w a K) : OpOk P o O := by
  intro σ m w a s K hI hE hW next Q hn
  obtain ⟨n, u, w', m', d, σ', hr, hnn, hK, hI', hx, hd⟩ := h σ m w a s K hI hE hW
  rw [hr]
  rcases hnn with rfl | ⟨rfl, rfl⟩
  · exact hn d σ' m' w' u hK hI' hx hd
  · exact hn d σ' m' w' undef hK hI' hx hd

/-- A step that leaves the world as0 it is. -/
theorem Runs1.still {P : Program} {o : Oper} {σ : Sg} {m : Gh} {w : World} {a : Act} {K : D → Sg → Prop} (hI : Inv σ m w) {u : Value} {d : D}
    (hr : (execOp a.eval o).run P w = .ok (.value u) w) (hK : K d σ) (hd : RepD m w d u) : Runs1 P o σ m w a K :=
  ⟨_, u, w, m, d, σ, hr, .inl rfl, hK, hI, .refl m w, hd⟩

/-- The cells of a value. -/
theorem RepV.cellsR {w : World} {F : Nat → Nat → Prop} {x : V} {u : Value} (h : RepV w F x u) :
    x.cells.length = u.cells.size ∧ (∀ (i : Nat) c v, x.cells[i]? = some c → u.cells[i]? = some v → RepV w F c v) ∧ ∀ v ∈ u.cells.toList, v.oneCell' = true := by
  by_cases hx : x.one = true
  · have hu := h.one hx
    have hc : x.cells = [x] := by cases x <;> first | rfl | (simp [V.one] at hx)
    have hv : u.cells = #[u] := by cases u <;> first | rfl | (simp [Value.oneCell'] at hu)
    rw [hc, hv]
    refine ⟨rfl, fun i c v h1 h2 => ?_, fun v hv => ?_⟩
    · cases i with
      | zero => simp at h1 h2; subst h1 h2; exact h
      | succ i => simp at h1
    · simp at hv; subst hv; exact hu
  · cases h <;> first | (simp [V.one] at hx; done) | skip
    rename_i cs us hl h1 hr
    refine ⟨by simp [V.cells, Value.cells, hl], fun i c v hc hv => hr i c v hc (by simpa [Value.cells] using hv), fun v hv => ?_⟩
    simp only [Value.cells] at hv
    exact RepV.cells_one h1 hl hr v hv

theorem RepD.cellsR {m : Gh} {w : World} {d : D} {u : Value} (h : RepD m w d u) (hl : d.lies = true) :
    d.cells.length = u.cells.size ∧ (∀ (i : Nat) c v, d.cells[i]? = some c → u.cells[i]? = some v → RepD m w c v) ∧ ∀ v ∈ u.cells.toList, v.oneCell' = true := by
  have one : ∀ (d : D) (u : Value), d.cells = [d] → u.cells = #[u] → u.oneCell' = true → RepD m w d u →
      d.cells.length = u.cells.size ∧ (∀ (i : Nat) c v, d.cells[i]? = some c → u.cells[i]? = some v → RepD m w c v) ∧ ∀ v ∈ u.cells.toList, v.oneCell' = true := by
    intro d u h1 h2 h3 h4
    rw [h1, h2]
    refine ⟨rfl, fun i c v hc hv => ?_, fun v hv => ?_⟩
    · cases i with
      | zero => simp at hc hv; subst hc hv; exact h4
      | succ i => simp at hc
    · simp at hv; subst hv; exact h3
  cases h with
  | v x u hx =>
    obtain ⟨h1, h2, h3⟩ := hx.cellsR
    refine ⟨by simp [D.cells, h1], fun i c v hc hv => ?_, h3⟩
    simp only [D.cells, List.getElem?_map] at hc
    cases hc' : x.cells[i]? with
    | none => simp [hc'] at hc
    | some y => simp [hc'] at hc; subst hc; exact .v y v (h2 i y v hc' hv)
  | agg cs us hl' h1 hr =>
    exact ⟨by simp [D.cells, Value.cells, hl'], fun i c v hc hv => hr i c v hc (by simpa [Value.cells] using hv), fun v hv => h1 v (by simpa [Value.cells] using hv)⟩
  | junk u => simp [D.lies] at hl
  | tup ds us _ _ => simp [D.lies] at hl
  | ptr o off b hb => exact one _ _ rfl rfl rfl (.ptr o off b hb)
  | imm sh x off b base us h1 h2 h3 h4 => exact one _ _ rfl rfl rfl (.imm sh x off b base us h1 h2 h3 h4)
  | tsl t sh xs a len cap tk h1 h2 h3 h4 h5 => exact one _ _ rfl rfl rfl (.tsl t sh xs a len cap tk h1 h2 h3 h4 h5)
  | fn f caps us h1 h2 => exact one _ _ rfl rfl rfl (.fn f caps us h1 h2)
  | bfn f d u h1 => exact one _ _ rfl rfl rfl (.bfn f d u h1)
  | iface t d u h1 => exact one _ _ rfl rfl rfl (.iface t d u h1)
  | map o b hb => exact one _ _ rfl rfl rfl (.map o b hb)
  | msl o off len sh cp a cap h1 h2 h3 h4 h5 => exact one _ _ rfl rfl rfl (.msl o off len sh cp a cap h1 h2 h3 h4 h5)

/-- Plain cells stand for plain values. -/
theorem allV_map {ds : List D} {xs : List V} (h : allV ds = some xs) : ds = xs.map .v := by
  induction ds generalizing xs with
  | nil => cases h; rfl
  | cons d ds ih =>
    cases d <;> simp only [allV] at h <;> first | (cases h; done) | skip
    split at h
    · rename_i ys hy
      cases h
      simp [ih hy]
    · cases h

theorem RepD.v_inv {m : Gh} {w : World} {x : V} {u : Value} (h : RepD m w (.v x) u) : RepV w (Fz m w) x u := by cases h; assumption

/-- Cells, as0 a struct. -/
theorem mkAgg_rep {m : Gh} {w : World} {ds : List D} {us : List Value} (hl : ds.length = us.length) (h1 : ∀ u ∈ us, u.oneCell' = true)
    (hr : ∀ (i : Nat) d u, ds[i]? = some d → us[i]? = some u → RepD m w d u) : RepD m w (mkAgg ds) (.agg us.toArray) := by
  unfold mkAgg
  split
  · rename_i xs hx
    have hds := allV_map hx
    subst hds
    have hrv : ∀ (i : Nat) c u, xs[i]? = some c → us[i]? = some u → RepV w (Fz m w) c u := fun i c u hc hu => (hr i (.v c) u (by simp [hc]) hu).v_inv
    refine .v _ _ (.agg xs us (by simpa using hl) (fun c hc => ?_) hrv)
    obtain ⟨i, hi⟩ := List.mem_iff_getElem?.1 hc
    have hlt : i < us.length := by rw [← hl]; simpa using (List.getElem?_eq_some_iff.1 hi).1
    obtain ⟨u, hu⟩ : ∃ u, us[i]? = some u := ⟨_, List.getElem?_eq_getElem hlt⟩
    have hr' := hrv i c u hi hu
    have ho := h1 u (List.mem_of_getElem? hu)
    cases hr' with
    | agg cs us' _ _ _ => simp [Value.oneCell'] at ho
    | _ => rfl
  · exact .agg ds us hl h1 hr

end Go.Abs

/-
  The model's operations, turned into the small language; that each does what its weakest precondition says: part 2. (Own work; seat-independent.)
-/
set_option linter.unusedVariables false
set_option linter.unusedSimpArgs false
namespace Go.Abs
open Go

theorem RepD.bool_inv {m : Gh} {w : World} {p : Bool} {u : Value} (h : RepD m w (.v (.bool p)) u) : u = .bool p := by cases h with | v _ _ h => cases h; rfl
theorem RepD.int_inv {m : Gh} {w : World} {k : IntKind} {p : Int} {u : Value} (h : RepD m w (.v (.int k p)) u) : u = .int k p := by cases h with | v _ _ h => cases h; rfl
theorem RepD.str_inv {m : Gh} {w : World} {s : List UInt8} {u : Value} (h : RepD m w (.v (.str s)) u) : u = .string ⟨s.toArray⟩ := by cases h with | v _ _ h => cases h; rfl
theorem RepV.int_r {w : World} {F : Nat → Nat → Prop} {k : IntKind} {p : Int} {u : Value} (h : RepV w F (.int k p) u) : inR k p := by cases h; assumption
theorem RepV.str_r {w : World} {F : Nat → Nat → Prop} {s : List UInt8} {u : Value} (h : RepV w F (.str s) u) : s.length ≤ maxLen := by cases h; assumption
theorem RepD.int_r {m : Gh} {w : World} {k : IntKind} {p : Int} {u : Value} (h : RepD m w (.v (.int k p)) u) : inR k p := by cases h with | v _ _ h => exact h.int_r
theorem RepD.str_r {m : Gh} {w : World} {s : List UInt8} {u : Value} (h : RepD m w (.v (.str s)) u) : s.length ≤ maxLen := by cases h with | v _ _ h => exact h.str_r

theorem inR_wrap (k : IntKind) (n : Int) : inR k (k.wrap n) := by
  cases k <;> simp only [inR, IntKind.wrap, IntKind.min, IntKind.max, IntKind.bits, IntKind.signed] <;> simp <;> (try split) <;> omega
theorem inR_tmod {k : IntKind} {a b : Int} (h : inR k a) : inR k (a.tmod b) := by
  have key : (0 ≤ a → 0 ≤ a.tmod b ∧ a.tmod b ≤ a) ∧ (a ≤ 0 → a ≤ a.tmod b ∧ a.tmod b ≤ 0) := by
    refine ⟨fun ha => ?_, fun ha => ?_⟩
    · obtain ⟨n, rfl⟩ := Int.eq_ofNat_of_zero_le ha
      refine ⟨Int.tmod_nonneg _ ha, ?_⟩
      have h1 : ((n : Int).tmod b).natAbs ≤ n := by rw [Int.natAbs_tmod]; exact Nat.mod_le _ _
      omega
    · have h1 : (a.tmod b).natAbs ≤ a.natAbs := by rw [Int.natAbs_tmod]; exact Nat.mod_le _ _
      have h2 : (-a).tmod b = -(a.tmod b) := Int.neg_tmod _ _
      have h3 := Int.tmod_nonneg (a := -a) b (by omega)
      omega
  rcases Int.le_total 0 a with ha | ha
  · have := key.1 ha
    unfold inR at *
    have : k.min ≤ 0 := by cases k <;> decide
    omega
  · have := key.2 ha
    unfold inR at *
    have : 0 ≤ k.max := by cases k <;> decide
    omega
theorem inR_fdiv {k : IntKind} {a : Int} (n : Nat) (h : inR k a) : inR k (a.fdiv (2 ^ n)) := by
  have hp : (0 : Int) < 2 ^ n := Int.pow_pos (by omega)
  rw [Int.fdiv_eq_ediv_of_nonneg _ (by omega)]
  have key : (0 ≤ a → 0 ≤ a / 2 ^ n ∧ a / 2 ^ n ≤ a) ∧ (a ≤ 0 → a ≤ a / 2 ^ n ∧ a / 2 ^ n ≤ 0) := by
    refine ⟨fun ha => ⟨Int.ediv_nonneg ha (by omega), Int.ediv_le_self _ ha⟩, fun ha => ⟨?_, ?_⟩⟩
    · rw [Int.le_ediv_iff_mul_le hp]
      have : a * 2 ^ n ≤ a * 1 := Int.mul_le_mul_of_nonpos_left ha (by omega)
      omega
    · have := Int.ediv_le_ediv hp ha
      simpa using this
  unfold inR at *
  have h1 : k.min ≤ 0 := by cases k <;> decide
  have h2 : 0 ≤ k.max := by cases k <;> decide
  rcases Int.le_total 0 a with ha | ha
  · have := key.1 ha; omega
  · have := key.2 ha; omega
theorem inR_nat {n : Nat} (h : n ≤ maxLen) : inR .i64 n := by
  unfold maxLen at h
  simp only [inR, IntKind.min, IntKind.max, IntKind.bits, IntKind.signed]
  simp
  omega
theorem inR_byte (b : UInt8) : inR .u8 b.toNat := by
  have := b.toNat_lt
  simp only [inR, IntKind.min, IntKind.max, IntKind.bits, IntKind.signed]
  simp
  omega

section
variable {P : Program} {o : Oper}

theorem ok_mv {x : Operand} {e : E} (ho : o.op = .move x ∨ o.op = .assign x) (hx : cE x = some e) : OpOk P o (.mv e) :=
  .of_runs fun σ m w a s K hI hE hW => .still hI (by rcases ho with ho | ho <;> simp [execOp, ho]) hW (ev_rep hE hx)

theorem ok_pick {c x y : Operand} {ec ex ey : E} (ho : o.op = .pick c x y) (hc : cE c = some ec) (hx : cE x = some ex) (hy : cE y = some ey) : OpOk P o (.pick ec ex ey) := by
  refine .of_runs fun σ m w a s K hI hE hW => ?_
  simp only [WOp] at hW
  split at hW
  · rename_i p hp
    have hcv := ev_rep hE hc
    rw [hp] at hcv
    have hcv := hcv.bool_inv
    cases p with
    | true => exact .still hI (by simp [execOp, ho, hcv, asBool]) (hW.1 rfl) (ev_rep hE hx)
    | false => exact .still hI (by simp [execOp, ho, hcv, asBool]) (hW.2 rfl) (ev_rep hE hy)
  · exact hW.elim

theorem newObj_ok {σ : Sg} {m : Gh} {w : World} (hI : Inv σ m w) {cs : List D} {us : List Value} (ty : TypeId) (hl : cs.length = us.length) (h1 : ∀ u ∈ us, u.oneCell' = true)
    (hr : ∀ (i : Nat) d u, cs[i]? = some d → us[i]? = some u → RepD m w d u) :
    Inv (σ.add (.cells cs)) (m.add w.heap.size) (w.alloc (.cells us.toArray ty)) ∧ Ext m w (m.add w.heap.size) (w.alloc (.cells us.toArray ty)) ∧
      RepD (m.add w.heap.size) (w.alloc (.cells us.toArray ty)) (.ptr σ.objs.length 0) (.pointer (some ⟨w.heap.size, 0, none⟩)) :=
  ⟨hI.add _ _ (ObRep.new ty hl h1 hr), .add m w _, .ptr _ _ _ (.inl (by simp [Gh.add, ← hI.lobj]))⟩

theorem ok_alloc {e : TypeId} {i : TypeInfo} {z : Value} {x : V} (ho : o.op = .alloc e) (hi : P.info? e = some i) (hz : i.zero = some z) (hx : cV z = some x) : OpOk P o (.alloc x.cells) := by
  refine .of_runs fun σ m w a s K hI hE hW => ?_
  simp only [WOp] at hW
  obtain ⟨h1, h2, h3⟩ := (cV_rep (w := w) (F := Fz m w) hx).cellsR
  obtain ⟨hI', hX, hR⟩ := newObj_ok hI (cs := x.cells.map .v) (us := z.cells.toList) e (by simpa using h1) h3 fun j d u hd hu => by
    simp only [List.getElem?_map] at hd
    cases hc : x.cells[j]? with
    | none => simp [hc] at hd
    | some c => simp [hc] at hd; subst hd; exact .v _ _ (h2 j c u hc (by simpa using hu))
  refine ⟨_, _, _, _, _, _, ?_, .inl rfl, hW, hI', hX, hR⟩
  simp [execOp, ho, Instr.alloc, zeroValue, typeInfo, hi, hz, newVar, newRow]

theorem ok_box {e : TypeId} {x : Operand} {ex : E} (ho : o.op = .box e x) (hx : cE x = some ex) : OpOk P o (.box ex) := by
  refine .of_runs fun σ m w a s K hI hE hW => ?_
  simp only [WOp] at hW
  obtain ⟨h1, h2, h3⟩ := (ev_rep hE hx).cellsR hW.1
  obtain ⟨hI', hX, hR⟩ := newObj_ok hI (cs := (ev s ex).cells) (us := (a.eval x).cells.toList) e (by simpa using h1) h3 fun j d u hd hu => h2 j d u hd (by simpa using hu)
  refine ⟨_, _, _, _, _, _, ?_, .inl rfl, hW.2, hI', hX, hR⟩
  simp [execOp, ho, Instr.box, newVar, newRow]

/-! Building a struct -/

theorem foldl_put (off : Nat) : ∀ (vs : List Value) (j : Nat) (cells : Array Value), off + j + vs.length ≤ cells.size →
    ((vs.zipIdx j).foldl (fun cs (p : Value × Nat) => cs.setIfInBounds (off + p.2) p.1) cells).toList = cells.toList.take (off + j) ++ (vs ++ cells.toList.drop (off + j + vs.length))
  | [], j, cells, h => by simp
  | v :: vs, j, cells, h => by
    have ih := foldl_put off vs (j + 1) (cells.setIfInBounds (off + j) v) (by simp at h ⊢; omega)
    simp only [List.zipIdx_cons, List.foldl_cons]
    rw [ih]
    have := list_seg_step cells.toList (off + j) v vs (by simp at h ⊢; omega)
    simp only [Array.toList_setIfInBounds, List.length_cons]
    simpa [Nat.add_assoc, List.append_assoc] using this

theorem putAt_length {cs : List D} {off : Nat} {xs : List D} (h : off + xs.length ≤ cs.length) : (putAt cs off xs).length = cs.length := by
  simp [putAt]; omega

theorem putAt_rep {m : Gh} {w : World} {cs : List D} {us : List Value} (hl : cs.length ≤ us.length) (hr : ∀ (i : Nat) d u, cs[i]? = some d → us[i]? = some u → RepD m w d u)
    {off : Nat} {xs : List D} {vs : List Value} (hx : xs.length = vs.length) (hxr : ∀ (i : Nat) d u, xs[i]? = some d → vs[i]? = some u → RepD m w d u) (hfit : off + xs.length ≤ cs.length) :
    ∀ (i : Nat) d u, (putAt cs off xs)[i]? = some d → (us.take off ++ (vs ++ us.drop (off + vs.length)))[i]? = some u → RepD m w d u := by
  intro i d u hd hu
  unfold putAt at hd
  rcases Nat.lt_or_ge i off with hi | hi
  · rw [List.getElem?_append_left (by simp; omega), List.getElem?_take_of_lt hi] at hd
    rw [List.getElem?_append_left (by simp; omega), List.getElem?_take_of_lt hi] at hu
    exact hr i d u hd hu
  · rw [List.getElem?_append_right (by simp; omega)] at hd
    rw [List.getElem?_append_right (by simp; omega)] at hu
    simp only [List.length_take] at hd hu
    rw [show min off cs.length = off by omega] at hd
    rw [show min off us.length = off by omega] at hu
    rcases Nat.lt_or_ge (i - off) xs.length with h2 | h2
    · rw [List.getElem?_append_left h2] at hd
      rw [List.getElem?_append_left (by omega)] at hu
      exact hxr _ d u hd hu
    · rw [List.getElem?_append_right h2, List.getElem?_drop] at hd
      rw [List.getElem?_append_right (by omega), List.getElem?_drop] at hu
      rw [hx] at hd
      exact hr _ d u hd hu

theorem fill_rep {m : Gh} {w : World} (place : Nat → Option (Nat × Nat)) : ∀ (ps : List (Nat × Value)) (ds : List (Nat × Nat × D)) (cells : Array Value) (cs cs' : List D),
    ps.length = ds.length → (∀ (i : Nat) p d, ps[i]? = some p → ds[i]? = some d → place p.1 = some (d.1, d.2.1) ∧ RepD m w d.2.2 p.2) →
    cs.length = cells.size → (∀ (i : Nat) d u, cs[i]? = some d → cells[i]? = some u → RepD m w d u) → (∀ u ∈ cells.toList, u.oneCell' = true) → fillD cs ds = some cs' →
    ∃ cells', Instr.fill place cells ps = some cells' ∧ cs'.length = cells'.size ∧ (∀ (i : Nat) d u, cs'[i]? = some d → cells'[i]? = some u → RepD m w d u) ∧ ∀ u ∈ cells'.toList, u.oneCell' = true
  | [], [], cells, cs, cs', _, _, hl, hr, h1, hf => by
    simp only [fillD, Option.some.injEq] at hf
    subst hf
    exact ⟨cells, by simp [Instr.fill], hl, hr, h1⟩
  | [], d :: ds, _, _, _, h, _, _, _, _, _ => by simp at h
  | p :: ps, [], _, _, _, h, _, _, _, _, _ => by simp at h
  | (i, v) :: ps, (off, n, d) :: ds, cells, cs, cs', h, hp, hl, hr, h1, hf => by
    simp only [fillD] at hf
    split at hf
    · rename_i hc
      obtain ⟨hlies, hn, hfit⟩ := hc
      obtain ⟨hplace, hd⟩ := hp 0 (i, v) (off, n, d) rfl rfl
      have hd : RepD m w d v := hd
      obtain ⟨c1, c2, c3⟩ := hd.cellsR hlies
      have hsz : v.cells.size = n := by omega
      have hfold := foldl_put off v.cells.toList 0 cells (by simp; omega)
      have harr : v.cells.zipIdx.foldl (fun cs (c, j) => cs.setIfInBounds (off + j) c) cells = (cells.toList.take off ++ (v.cells.toList ++ cells.toList.drop (off + v.cells.toList.length))).toArray := by
        apply Array.ext'
        rw [← Array.foldl_toList, Array.toList_zipIdx]
        simpa using hfold
      obtain ⟨cells', e1, e2, e3, e4⟩ := fill_rep place ps ds (cells.toList.take off ++ (v.cells.toList ++ cells.toList.drop (off + v.cells.toList.length))).toArray (putAt cs off d.cells) cs'
        (by simpa using h) (fun j p d hj hd' => hp (j + 1) p d (by simpa using hj) (by simpa using hd'))
        (by
          rw [putAt_length (by omega)]
          simp only [List.size_toArray, List.length_append, List.length_take, List.length_drop, Array.length_toList]
          omega)
        (fun j d' u hj hu => by
          refine putAt_rep (us := cells.toList) (vs := v.cells.toList) (cs := cs) (Nat.le_of_eq (by simpa using hl)) (fun i d u h1 h2 => hr i d u h1 (by simpa using h2)) (by simpa using c1) (fun i d u h1 h2 => c2 i d u h1 (by simpa using h2)) (by omega) j d' u hj (by simpa using hu))
        (fun u hu => by
          simp only [List.mem_append] at hu
          rcases hu with hu | hu | hu
          · exact h1 u (List.mem_of_mem_take hu)
          · exact c3 u hu
          · exact h1 u (List.mem_of_mem_drop hu))
        hf
      refine ⟨cells', ?_, e2, e3, e4⟩
      simp only [Instr.fill, hplace, hsz]
      rw [harr]
      have hno : ¬ (off + n > cells.size) := by omega
      simp only [hno, bne_self_eq_false, decide_false, Bool.or_self, Bool.false_eq_true, if_false, ne_eq, not_true_eq_false]
      exact e1
    · cases hf

theorem ok_build {t : TypeId} {ps : Array (Nat × Operand)} {it : TypeInfo} {fields : Array Field} {z : Value} {x : V} {places : List (Nat × Nat)} {es : List E} (ho : o.op = .build t ps)
    (hit : P.info? t = some it) (hu : P.underlying t = some (.struct fields)) (hz : it.zero = some z) (hx : cV z = some x)
    (hpl : fields.toList.mapM (fun f => (P.info? f.type).map fun i => (f.offset, i.size)) = some places)
    (hes : cEs (ps.toList.map (·.2)) = some es) {ds : List (Nat × Nat × E)} (hds : ds.length = ps.size) (hd : ∀ (i : Nat) p e, ps.toList[i]? = some p → es[i]? = some e → ∃ q, places[p.1]? = some q ∧ ds[i]? = some (q.1, q.2, e)) :
    OpOk P o (.build x.cells ds) := by
  refine .of_runs fun σ m w a s K hI hE hW => ?_
  simp only [WOp] at hW
  split at hW
  · rename_i cs hcs
    obtain ⟨h1, h2, h3⟩ := (cV_rep (w := w) (F := Fz m w) hx).cellsR
    obtain ⟨l1, l2⟩ := evs_rep hE hes
    obtain ⟨cells, e1, e2, e3, e4⟩ := fill_rep (m := m) (w := w) (places.toArray[·]?) ((ps.map fun (i, x) => (i, a.eval x)).toList) (ds.map fun p => (p.1, p.2.1, ev s p.2.2)) z.cells (x.cells.map .v) cs (by simp [hds])
      (fun i p d hp hd' => by
        simp only [Array.toList_map, List.getElem?_map] at hp hd'
        cases hpi : ps.toList[i]? with
        | none => simp [hpi] at hp
        | some q =>
          simp only [hpi, Option.map_some, Option.some.injEq] at hp
          subst hp
          have hlt : i < es.length := by rw [l1]; simpa using (List.getElem?_eq_some_iff.1 hpi).1
          obtain ⟨r, hr1, hr2⟩ := hd i q es[i] hpi (List.getElem?_eq_getElem hlt)
          rw [hr2] at hd'
          simp only [Option.map_some, Option.some.injEq] at hd'
          subst hd'
          refine ⟨by simpa using hr1, l2 i _ _ (by simp [List.getElem?_eq_getElem hlt]) ?_⟩
          simp [hpi])
      (by simpa using h1)
      (fun j d u hj hu => by
        simp only [List.getElem?_map] at hj
        cases hc : x.cells[j]? with
        | none => simp [hc] at hj
        | some c => simp [hc] at hj; subst hj; exact .v _ _ (h2 j c u hc hu))
      h3 hcs
    have hb : P.built t (ps.map fun (i, x) => (i, a.eval x)).toList = some cells := by
      simp only [Program.built, hit, hu, hz, hpl]
      exact e1
    refine .still hI ?_ hW (by have := mkAgg_rep (ds := cs) (us := cells.toList) (by simpa using e2) e4 (fun i d u h1 h2 => e3 i d u h1 (by simpa using h2)); simpa using this)
    simp [execOp, ho, run_build w t _ cells hb]
  · exact hW.elim

end
end Go.Abs
