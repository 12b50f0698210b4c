/-
  The abstract values of a run, and how they stand for the model's values in a world. (Own work; seat-independent.)
-/
import Derived.Laws.AppendOwn
import Derived.Orders
import Derived.KernelRfl
import Derived.MapKept
namespace Go.Abs
open Go

/-- The shape of a slice's element: none: one cell; some n: a struct or array of n cells. -/
abbrev Sh := Option Nat
def shn : Sh → Nat
  | none => 1
  | some n => n

/-- Data that never change. -/
inductive V where
  | bool (b : Bool)
  | int (k : IntKind) (n : Int)
  | str (s : List UInt8)
  | pnil
  | snil
  | mnil
  | fnil
  | inil
  | sl (sh : Sh) (full : Bool) (xs : List V)
  | agg (cs : List V)
  | iface (t : Nat) (v : V)
  | fn (f : Nat)
  | box (sh : Sh) (x : V) (off : Nat)
  | adr (b off : Nat)
  | fmap (es : List (V × V))
  deriving Inhabited

def V.cells : V → List V
  | .agg cs => cs
  | v => [v]
def V.one : V → Bool
  | .agg _ => false
  | _ => true
def V.shape : V → Sh
  | .agg cs => some cs.length
  | _ => none
def V.flat (xs : List V) : List V := xs.flatMap V.cells

theorem V.cells_length (x : V) : x.cells.length = shn x.shape := by cases x <;> rfl

theorem V.flat_length {sh : Sh} : ∀ {xs : List V}, (∀ x ∈ xs, x.shape = sh) → (V.flat xs).length = xs.length * shn sh
  | [], _ => by simp [V.flat]
  | x :: xs, h => by
    have ih := V.flat_length (xs := xs) fun y hy => h y (by simp [hy])
    have hx := h x (by simp)
    simp only [V.flat, List.flatMap_cons, List.length_append, List.length_cons] at *
    rw [V.cells_length, hx, ih, Nat.add_mul]
    omega

/-- In a kind's range. -/
def inR (k : IntKind) (n : Int) : Prop := k.min ≤ n ∧ n ≤ k.max
instance (k : IntKind) (n : Int) : Decidable (inR k n) := inferInstanceAs (Decidable (_ ∧ _))

/-- Are maps only laid into, never taken from? (Of this seat: a range over a map asks for it; 'delete' asks for the other.) -/
def dense : Bool := false
theorem dense_is : dense = false := rfl
/-- A map; where maps are dense: into which all its entries have been laid one after the other, and out of which none was taken. -/
def Dense (ms : Array MapEntry) (clock : Nat) : Prop := MapKept.Stamped ms clock ∧ (dense = true → clock = ms.size ∧ ∀ (i : Nat) e, ms[i]? = some e → e.born = i)

/-- An immutable value stands for a value of the model. F: cells that stay as they are. -/
inductive RepV (w : World) (F : Nat → Nat → Prop) : V → Value → Prop where
  | bool (b : Bool) : RepV w F (.bool b) (.bool b)
  | int (k : IntKind) (n : Int) (h : inR k n) : RepV w F (.int k n) (.int k n)
  | str (s : List UInt8) (h : s.length ≤ maxLen) : RepV w F (.str s) (.string ⟨s.toArray⟩)
  | pnil : RepV w F .pnil (.pointer none)
  | snil : RepV w F .snil (.slice none 0 0)
  | mnil : RepV w F .mnil (.map none)
  | fnil : RepV w F .fnil .nilFunc
  | inil : RepV w F .inil .nilIface
  | slNil (sh : Sh) (full : Bool) (a : Option Addr) : RepV w F (.sl sh full []) (.slice a 0 0)
  | sl (sh : Sh) (full : Bool) (xs : List V) (b off cap : Nat) (us : Nat → Value) (hs : ∀ x ∈ xs, x.shape = sh) (h1 : ∀ c ∈ V.flat xs, c.one = true)
      (hl : xs.length ≤ cap) (hm : cap ≤ maxLen) (hf : full = true → cap = xs.length)
      (hc : ∀ i, i < xs.length * shn sh → w.cell? ⟨b, off + i, none⟩ = some (us i) ∧ F b (off + i))
      (hr : ∀ (i : Nat) c, (V.flat xs)[i]? = some c → RepV w F c (us i)) : RepV w F (.sl sh full xs) (.slice (some ⟨b, off, none⟩) xs.length cap)
  | agg (cs : List V) (us : List Value) (hl : cs.length = us.length) (h1 : ∀ c ∈ cs, c.one = true)
      (hr : ∀ (i : Nat) c u, cs[i]? = some c → us[i]? = some u → RepV w F c u) : RepV w F (.agg cs) (.agg us.toArray)
  | iface (t : Nat) (v : V) (u : Value) (h : RepV w F v u) : RepV w F (.iface t v) (.iface t u)
  | fn (f : Nat) : RepV w F (.fn f) (.func (.func f) #[] #[])
  | box (sh : Sh) (x : V) (off b base : Nat) (us : Nat → Value) (hs : x.shape = sh) (h1 : ∀ c ∈ x.cells, c.one = true)
      (hc : ∀ i, i < shn sh → w.cell? ⟨b, base + i, none⟩ = some (us i) ∧ F b (base + i))
      (hr : ∀ (i : Nat) c, x.cells[i]? = some c → RepV w F c (us i)) : RepV w F (.box sh x off) (.pointer (some ⟨b, base + off, none⟩))
  | adr (b off : Nat) : RepV w F (.adr b off) (.pointer (some ⟨b, off, none⟩))
  | fmap (es : List (V × V)) (b : Nat) (ms : Array MapEntry) (clock : Nat) (hh : w.heap[b]? = some (.map ms clock)) (hF : ∀ off, F b off) (hd : Dense ms clock) (hl : ms.size = es.length)
      (hk : ∀ (i : Nat) x e, es[i]? = some x → ms[i]? = some e → RepV w F x.1 e.key) (hv : ∀ (i : Nat) x e, es[i]? = some x → ms[i]? = some e → RepV w F x.2 e.val) : RepV w F (.fmap es) (.map (some b))

/-- What stays as it was. -/
structure Kp (w : World) (F : Nat → Nat → Prop) (w' : World) (F' : Nat → Nat → Prop) : Prop where
  c : ∀ b off, F b off → w'.cell? ⟨b, off, none⟩ = w.cell? ⟨b, off, none⟩ ∧ F' b off
  m : ∀ b, (∀ off, F b off) → w'.heap[b]? = w.heap[b]?

theorem RepV.mono {w w' : World} {F F' : Nat → Nat → Prop} (h : Kp w F w' F') {x : V} {u : Value} (r : RepV w F x u) : RepV w' F' x u := by
  induction r with
  | bool b => exact .bool b
  | int k n h => exact .int k n h
  | str s h => exact .str s h
  | pnil => exact .pnil
  | snil => exact .snil
  | mnil => exact .mnil
  | fnil => exact .fnil
  | inil => exact .inil
  | slNil sh full a => exact .slNil sh full a
  | sl sh full xs b off cap us hs h1 hl hm hf hc hr ih =>
    exact .sl sh full xs b off cap us hs h1 hl hm hf (fun i hi => ⟨by rw [(h.c b _ (hc i hi).2).1]; exact (hc i hi).1, (h.c b _ (hc i hi).2).2⟩) ih
  | agg cs us hl h1 hr ih => exact .agg cs us hl h1 ih
  | iface t v u _ ih => exact .iface t v u ih
  | fn f => exact .fn f
  | box sh x off b base us hs h1 hc hr ih => exact .box sh x off b base us hs h1 (fun i hi => ⟨by rw [(h.c b _ (hc i hi).2).1]; exact (hc i hi).1, (h.c b _ (hc i hi).2).2⟩) ih
  | adr b off => exact .adr b off
  | fmap es b ms clock hh hF hd hl hk hv ihk ihv => exact .fmap es b ms clock ((h.m b hF).trans hh) (fun off => (h.c b off (hF off)).2) hd hl ihk ihv

theorem RepV.one {w : World} {F : Nat → Nat → Prop} {x : V} {u : Value} (r : RepV w F x u) (h : x.one = true) : u.oneCell' = true := by
  cases r <;> first | rfl | (simp [V.one] at h)

/-- A value that may lead into memory that the run owns. -/
inductive D where
  | v (x : V)
  | ptr (o off : Nat)
  | imm (sh : Sh) (x : V) (off : Nat)
  | tsl (t : Nat) (sh : Sh) (xs : List V)
  | agg (cs : List D)
  | fn (f : Nat) (caps : List D)
  | bfn (f : Nat) (d : D)
  | iface (t : Nat) (d : D)
  | tup (ds : List D)
  | map (o : Nat)
  | msl (o off len : Nat) (sh : Sh) (cp : Option Nat)
  | junk
  deriving Inhabited

/-- What is known of an append's room: the block at whose head it begins (none: no room at all), its shape, how many fit, how many are there. -/
structure Tok where
  own : Option Nat
  sh : Sh
  cap : Nat
  hw : Nat

/-- The blocks of the objects (none: the object is no more: its cells stay as they are). -/
structure Gh where
  objs : List (Option Nat)
  toks : List Tok

def Gh.objb (m : Gh) : List Nat := m.objs.filterMap id
theorem Gh.mem_objb {m : Gh} {b : Nat} : b ∈ m.objb ↔ some b ∈ m.objs := by simp [Gh.objb]
def Gh.mut (m : Gh) (b off : Nat) : Prop := b ∈ m.objb ∨ ∃ tk ∈ m.toks, tk.own = some b ∧ tk.hw * shn tk.sh ≤ off
def Fz (m : Gh) (w : World) (b off : Nat) : Prop := b < w.heap.size ∧ ¬ m.mut b off
def Gh.ownb (m : Gh) : List Nat := m.toks.filterMap (·.own)
def Gh.blocks (m : Gh) : List Nat := m.objb ++ m.ownb

/-- Object o lies in block b (or is no more). -/
def Gh.at (m : Gh) (o b : Nat) : Prop := m.objs[o]? = some (some b) ∨ m.objs[o]? = some none

def D.undef : D := .tup []

/-- A value's reading. -/
inductive RepD (m : Gh) (w : World) : D → Value → Prop where
  | v (x : V) (u : Value) (h : RepV w (Fz m w) x u) : RepD m w (.v x) u
  | ptr (o off b : Nat) (h : m.at o b) : RepD m w (.ptr o off) (.pointer (some ⟨b, off, none⟩))
  | imm (sh : Sh) (x : V) (off b base : Nat) (us : Nat → Value) (hs : x.shape = sh) (h1 : ∀ c ∈ x.cells, c.one = true)
      (hc : ∀ i, i < shn sh → w.cell? ⟨b, base + i, none⟩ = some (us i) ∧ Fz m w b (base + i))
      (hr : ∀ (i : Nat) c, x.cells[i]? = some c → RepV w (Fz m w) c (us i)) : RepD m w (.imm sh x off) (.pointer (some ⟨b, base + off, none⟩))
  | tsl (t : Nat) (sh : Sh) (xs : List V) (a : Option Addr) (len cap : Nat) (tk : Tok) (hv : RepV w (Fz m w) (.sl sh false xs) (.slice a len cap))
      (ht : m.toks[t]? = some tk) (hsh : tk.sh = sh) (hle : xs.length ≤ tk.hw)
      (heq : xs.length = tk.hw → cap = tk.cap ∧ ∀ b, tk.own = some b → a = some ⟨b, 0, none⟩) : RepD m w (.tsl t sh xs) (.slice a len cap)
  | agg (cs : List D) (us : List Value) (hl : cs.length = us.length) (h1 : ∀ u ∈ us, u.oneCell' = true)
      (hr : ∀ (i : Nat) c u, cs[i]? = some c → us[i]? = some u → RepD m w c u) : RepD m w (.agg cs) (.agg us.toArray)
  | fn (f : Nat) (caps : List D) (us : List Value) (hl : caps.length = us.length)
      (hr : ∀ (i : Nat) c u, caps[i]? = some c → us[i]? = some u → RepD m w c u) : RepD m w (.fn f caps) (.func (.func f) #[] us.toArray)
  | bfn (f : Nat) (d : D) (u : Value) (h : RepD m w d u) : RepD m w (.bfn f d) (.func (.func f) #[u] #[])
  | iface (t : Nat) (d : D) (u : Value) (h : RepD m w d u) : RepD m w (.iface t d) (.iface t u)
  | tup (ds : List D) (us : List Value) (hl : ds.length = us.length)
      (hr : ∀ (i : Nat) c u, ds[i]? = some c → us[i]? = some u → RepD m w c u) : RepD m w (.tup ds) (.tuple us.toArray)
  | map (o b : Nat) (h : m.at o b) : RepD m w (.map o) (.map (some b))
  | msl (o off len : Nat) (sh : Sh) (cp : Option Nat) (a : Option Addr) (cap : Nat) (ho : o < m.objs.length) (h : (∃ b, a = some ⟨b, off, none⟩ ∧ m.at o b) ∨ (len = 0 ∧ cap = 0)) (hl : len ≤ cap) (hm : cap ≤ maxLen) (hc : ∀ c, cp = some c → cap = c) :
      RepD m w (.msl o off len sh cp) (.slice a len cap)
  | junk (u : Value) : RepD m w .junk u

/-- From one moment to a later one. -/
structure Ext (m : Gh) (w : World) (m' : Gh) (w' : World) : Prop where
  os : w'.os = w.os
  tape : w'.tape = w.tape
  output : w'.output = w.output
  size : w.heap.size ≤ w'.heap.size
  objs : ∀ (o : Nat) x, m.objs[o]? = some x → m'.objs[o]? = some x ∨ m'.objs[o]? = some none
  toks : ∀ (t : Nat) tk, m.toks[t]? = some tk → ∃ tk', m'.toks[t]? = some tk' ∧ tk'.sh = tk.sh ∧ tk.hw ≤ tk'.hw ∧ (tk.hw = tk'.hw → tk' = tk)
  froz : ∀ b off, Fz m w b off → w'.cell? ⟨b, off, none⟩ = w.cell? ⟨b, off, none⟩ ∧ ¬ m'.mut b off
  blocks : ∀ b, b < w.heap.size → b ∉ m.blocks → w'.heap[b]? = w.heap[b]? ∧ b ∉ m'.blocks

theorem Gh.all_mut {m : Gh} {b : Nat} (h : ∀ off, ¬ m.mut b off) : b ∉ m.blocks := by
  intro hb
  rcases List.mem_append.1 hb with hb | hb
  · exact h 0 (.inl hb)
  · obtain ⟨tk, htk, ho⟩ := List.mem_filterMap.1 hb
    exact h (tk.hw * shn tk.sh) (.inr ⟨tk, htk, ho, Nat.le_refl _⟩)
theorem Ext.fz {m m' : Gh} {w w' : World} (h : Ext m w m' w') : Kp w (Fz m w) w' (Fz m' w') :=
  ⟨fun b off f => ⟨(h.froz b off f).1, Nat.lt_of_lt_of_le f.1 h.size, (h.froz b off f).2⟩, fun b hF => (h.blocks b (hF 0).1 (Gh.all_mut fun off => (hF off).2)).1⟩

theorem Ext.at {m m' : Gh} {w w' : World} (h : Ext m w m' w') {o b : Nat} (k : m.at o b) : m'.at o b := by
  rcases k with k | k
  · exact h.objs o _ k
  · rcases h.objs o _ k with e | e <;> exact .inr e
theorem Ext.len {m m' : Gh} {w w' : World} (h : Ext m w m' w') {o : Nat} (k : o < m.objs.length) : o < m'.objs.length := by
  rcases h.objs o _ (List.getElem?_eq_getElem k) with e | e <;> exact (List.getElem?_eq_some_iff.1 e).1

theorem Ext.refl (m : Gh) (w : World) : Ext m w m w :=
  ⟨rfl, rfl, rfl, Nat.le_refl _, fun _ _ h => .inl h, fun _ tk h => ⟨tk, h, rfl, Nat.le_refl _, fun _ => rfl⟩, fun _ _ h => ⟨rfl, h.2⟩, fun _ _ h => ⟨rfl, h⟩⟩

theorem Ext.trans {m₁ m₂ m₃ : Gh} {w₁ w₂ w₃ : World} (h : Ext m₁ w₁ m₂ w₂) (k : Ext m₂ w₂ m₃ w₃) : Ext m₁ w₁ m₃ w₃ := by
  refine ⟨k.os.trans h.os, k.tape.trans h.tape, k.output.trans h.output, Nat.le_trans h.size k.size, fun o b hb => ?_, ?_, ?_, ?_⟩
  · rcases h.objs o b hb with e | e
    · exact k.objs o b e
    · rcases k.objs o _ e with e | e <;> exact .inr e
  · intro t tk ht
    obtain ⟨tk', h1, h2, h3, h4⟩ := h.toks t tk ht
    obtain ⟨tk'', k1, k2, k3, k4⟩ := k.toks t tk' h1
    refine ⟨tk'', k1, k2.trans h2, Nat.le_trans h3 k3, fun e => ?_⟩
    have e1 : tk.hw = tk'.hw := by omega
    have e2 : tk'.hw = tk''.hw := by omega
    exact (k4 e2).trans (h4 e1)
  · intro b off f
    have f2 := h.fz.c b off f
    have f3 := k.froz b off f2.2
    exact ⟨f3.1.trans f2.1, f3.2⟩
  · intro b hb hn
    have a1 := h.blocks b hb hn
    have a2 := k.blocks b (Nat.lt_of_lt_of_le hb h.size) a1.2
    exact ⟨a2.1.trans a1.1, a2.2⟩

theorem RepD.mono {m m' : Gh} {w w' : World} (h : Ext m w m' w') {d : D} {u : Value} (r : RepD m w d u) : RepD m' w' d u := by
  induction r with
  | v x u hx => exact .v x u (hx.mono h.fz)
  | ptr o off b hb => exact .ptr o off b (h.at hb)
  | imm sh x off b base us hs h1 hc hr =>
    exact .imm sh x off b base us hs h1 (fun i hi => ⟨by rw [(h.fz.c b _ (hc i hi).2).1]; exact (hc i hi).1, (h.fz.c b _ (hc i hi).2).2⟩) (fun i c hi => (hr i c hi).mono h.fz)
  | tsl t sh xs a len cap tk hv ht hsh hle heq =>
    obtain ⟨tk', h1, h2, h3, h4⟩ := h.toks t tk ht
    refine .tsl t sh xs a len cap tk' (hv.mono h.fz) h1 (h2.trans hsh) (Nat.le_trans hle h3) fun e => ?_
    have e1 : tk.hw = tk'.hw := by omega
    rw [h4 e1]
    exact heq (by omega)
  | agg cs us hl h1 _ ih => exact .agg cs us hl h1 ih
  | fn f caps us hl _ ih => exact .fn f caps us hl ih
  | bfn f d u _ ih => exact .bfn f d u ih
  | iface t d u _ ih => exact .iface t d u ih
  | tup ds us hl _ ih => exact .tup ds us hl ih
  | map o b hb => exact .map o b (h.at hb)
  | msl o off len sh cp a cap ho hb hl hm hc => exact .msl o off len sh cp a cap (h.len ho) (hb.imp (fun ⟨b, e, k⟩ => ⟨b, e, h.at k⟩) id) hl hm hc
  | junk u => exact .junk u

inductive Ob where
  | cells (cs : List D)
  | map (es : List (V × D))
  | iter (mo : Option Nat) (since : Nat) (seen : List Nat)
  | known (b : Nat) (cs : List D)
  deriving Inhabited

theorem dense_empty : Dense #[] 0 := ⟨MapKept.stamped_empty 0, fun _ => ⟨rfl, by simp⟩⟩
theorem dense_push {es : Array MapEntry} {clock : Nat} (h : Dense es clock) {key val : Value} (hk : ∀ x ∈ es.toList, x.key ≠ key) : Dense (es.push { key, val, born := clock }) (clock + 1) := by
  refine ⟨MapKept.stamped_push h.1 hk, fun hd => ⟨by simp [(h.2 hd).1], fun i e he => ?_⟩⟩
  rw [Array.getElem?_push] at he
  split at he
  · rename_i hi
    cases he
    simp [hi, (h.2 hd).1]
  · exact (h.2 hd).2 i e he
theorem dense_modify {es : Array MapEntry} {clock : Nat} (h : Dense es clock) (i : Nat) (f : MapEntry → MapEntry) (hb : ∀ e ∈ es.toList, (f e).born = e.born) (hk : ∀ e ∈ es.toList, es[i]? = some e → (f e).key = e.key) : Dense (es.modify i f) clock := by
  refine ⟨MapKept.stamped_modify h.1 i f hb hk, fun hd => ⟨by simp [(h.2 hd).1], fun j e he => ?_⟩⟩
  rw [Array.getElem?_modify] at he
  split at he
  · cases hj : es[j]? with
    | none => rw [hj] at he; cases he
    | some x =>
      rw [hj] at he
      cases he
      rw [hb x (Array.mem_toList_iff.2 (Array.mem_of_getElem? hj))]
      exact (h.2 hd).2 j x hj
  · exact (h.2 hd).2 j e he
theorem dense_erase {es : Array MapEntry} {clock : Nat} (hd : dense = false) (h : Dense es clock) (i : Nat) : Dense (es.eraseIdxIfInBounds i) clock :=
  ⟨MapKept.stamped_erase h.1 i, fun h => by rw [hd] at h; cases h⟩


/-- The memory that the run owns: its objects; how much of each append's room is in use. -/
structure Sg where
  objs : List Ob
  toks : List Nat

def ObRep (m : Gh) (w : World) : Ob → Nat → Prop
  | .cells cs, b => ∃ us ty, w.heap[b]? = some (.cells us ty (0, 0)) ∧ cs.length ≤ us.size ∧ (∀ (i : Nat) d u, cs[i]? = some d → us[i]? = some u → RepD m w d u ∧ u.oneCell' = true) ∧ True
  | .map es, b => ∃ ms clock, w.heap[b]? = some (.map ms clock) ∧ ms.size = es.length ∧
      (∀ (i : Nat) x e, es[i]? = some x → ms[i]? = some e → RepV w (Fz m w) x.1 e.key ∧ RepD m w x.2 e.val) ∧ Dense ms clock
  | .iter none _ _, b => w.heap[b]? = some (.mapIter none 0 #[] 0)
  | .iter (some o) since seen, b => ∃ bm, m.at o bm ∧ w.heap[b]? = some (.mapIter (some bm) since seen.toArray since)
  | .known b' cs, b => b' = b ∧ ∃ us ty, w.heap[b]? = some (.cells us ty (0, 0)) ∧ cs.length ≤ us.size ∧ (∀ (i : Nat) d u, cs[i]? = some d → us[i]? = some u → RepD m w d u ∧ u.oneCell' = true) ∧ True

/-- A row of which cells are put anew: those that are known are one cell each. -/
theorem row_one {cs : List D} {us vs : List Value} {off : Nat} {R : D → Value → Prop} (hob : ∀ (i : Nat) d u, cs[i]? = some d → us[i]? = some u → R d u ∧ u.oneCell' = true) (c3 : ∀ u ∈ vs, u.oneCell' = true) (hfit : off + vs.length ≤ cs.length) (hsz : cs.length ≤ us.length) :
    ∀ (j : Nat) u, (us.take off ++ vs ++ us.drop (off + vs.length))[j]? = some u → j < cs.length → u.oneCell' = true := by
  intro j u hu hj
  have old : us[j]? = some u → u.oneCell' = true := fun h => (hob j cs[j] u (List.getElem?_eq_getElem hj) h).2
  have htl : (us.take off).length = off := by rw [List.length_take]; omega
  rw [List.append_assoc] at hu
  by_cases h1 : j < off
  · rw [List.getElem?_append_left (by omega), List.getElem?_take_of_lt h1] at hu
    exact old hu
  · rw [List.getElem?_append_right (by omega), htl] at hu
    by_cases h2 : j - off < vs.length
    · rw [List.getElem?_append_left h2] at hu
      exact c3 u (List.mem_of_getElem? hu)
    · rw [List.getElem?_append_right (by omega), List.getElem?_drop] at hu
      rw [show off + vs.length + (j - off - vs.length) = j by omega] at hu
      exact old hu

/-- The package variables that stay as they were laid: their blocks, their cells. (Of this seat.) -/
def globs : List (Nat × (Array Value → Prop)) := [(0, fun cs => cs = #[.int .u64 1, .int .u64 10, .int .u64 100, .int .u64 1000, .int .u64 10000, .int .u64 100000, .int .u64 1000000, .int .u64 10000000, .int .u64 100000000, .int .u64 1000000000, .int .u64 10000000000, .int .u64 100000000000, .int .u64 1000000000000, .int .u64 10000000000000, .int .u64 100000000000000, .int .u64 1000000000000000, .int .u64 10000000000000000, .int .u64 100000000000000000, .int .u64 1000000000000000000, .int .u64 10000000000000000000])]
def Glob (m : Gh) (w : World) : Prop := ∀ p ∈ globs, (∃ cs ty fr, w.heap[p.1]? = some (.cells cs ty fr) ∧ p.2 cs) ∧ p.1 ∉ m.blocks
theorem Glob.mono {m m' : Gh} {w w' : World} (e : Ext m w m' w') (h : Glob m w) : Glob m' w' := fun p hp => by
  obtain ⟨⟨cs, ty, fr, h1, hp2⟩, h2⟩ := h p hp
  have hb := e.blocks p.1 (Array.getElem?_eq_some_iff.1 h1).1 h2
  exact ⟨⟨cs, ty, fr, hb.1.trans h1, hp2⟩, hb.2⟩

structure Inv (σ : Sg) (m : Gh) (w : World) : Prop where
  lobj : m.objs.length = σ.objs.length
  ltok : m.toks.map (·.hw) = σ.toks
  nodup : m.blocks.Nodup
  ob : ∀ (o : Nat) ob b, σ.objs[o]? = some ob → m.objs[o]? = some (some b) → ObRep m w ob b
  gone : ∀ (o : Nat), m.objs[o]? = some none → σ.objs[o]? = some (.cells [])
  tk : ∀ tk ∈ m.toks, tk.hw ≤ tk.cap ∧ tk.cap ≤ maxLen ∧ (tk.own = none → tk.cap = tk.hw) ∧
    ∀ b, tk.own = some b → ∃ us ty, w.heap[b]? = some (.cells us ty (0, 0)) ∧ tk.cap * shn tk.sh ≤ us.size
  glob : Glob m w

def EnvRep (m : Gh) (w : World) (env : List (Nat × D)) (tmps : Array Value) : Prop := ∀ p ∈ env, RepD m w p.2 (tmps.getD p.1 undef)

theorem EnvRep.mono {m m' : Gh} {w w' : World} (h : Ext m w m' w') {env : List (Nat × D)} {tmps : Array Value} (r : EnvRep m w env tmps) : EnvRep m' w' env tmps :=
  fun p hp => (r p hp).mono h

theorem Inv.lt_obj {σ : Sg} {m : Gh} {w : World} (h : Inv σ m w) {b : Nat} (hb : b ∈ m.objb) : b < w.heap.size := by
  obtain ⟨o, ho⟩ := List.mem_iff_getElem?.1 (Gh.mem_objb.1 hb)
  have hlt : o < σ.objs.length := by rw [← h.lobj]; exact (List.getElem?_eq_some_iff.1 ho).1
  have hr := h.ob o (σ.objs[o]) b (List.getElem?_eq_getElem hlt) ho
  cases hob : σ.objs[o] with
  | cells cs => rw [hob] at hr; obtain ⟨us, ty, hh, _⟩ := hr; exact (Array.getElem?_eq_some_iff.1 hh).1
  | map es => rw [hob] at hr; obtain ⟨us, ty, hh, _⟩ := hr; exact (Array.getElem?_eq_some_iff.1 hh).1
  | iter mo since seen =>
    rw [hob] at hr
    cases mo with
    | none => exact (Array.getElem?_eq_some_iff.1 hr).1
    | some o' => obtain ⟨_, _, hh⟩ := hr; exact (Array.getElem?_eq_some_iff.1 hh).1
  | known b' cs => rw [hob] at hr; obtain ⟨_, us, ty, hh, _⟩ := hr; exact (Array.getElem?_eq_some_iff.1 hh).1

/-- An object that has cells lies in a block. -/
theorem Inv.live {σ : Sg} {m : Gh} {w : World} (h : Inv σ m w) {o b : Nat} {ob : Ob} (ho : σ.objs[o]? = some ob) (hne : ob ≠ .cells []) (hb : m.at o b) : m.objs[o]? = some (some b) := by
  rcases hb with hb | hb
  · exact hb
  · have := h.gone o hb
    rw [ho] at this
    exact absurd (Option.some.inj this) hne
/-- An object whose block is known lies there. -/
theorem Inv.known {σ : Sg} {m : Gh} {w : World} (h : Inv σ m w) {o b : Nat} {cs : List D} (ho : σ.objs[o]? = some (.known b cs)) : m.objs[o]? = some (some b) ∧
    ∃ us ty, w.heap[b]? = some (.cells us ty (0, 0)) ∧ cs.length ≤ us.size ∧ ∀ (i : Nat) d u, cs[i]? = some d → us[i]? = some u → RepD m w d u ∧ u.oneCell' = true := by
  have hlt : o < m.objs.length := by rw [h.lobj]; exact (List.getElem?_eq_some_iff.1 ho).1
  have hm : m.objs[o]? = some m.objs[o] := List.getElem?_eq_getElem hlt
  cases hx : m.objs[o] with
  | none =>
    rw [hx] at hm
    have := h.gone o hm
    rw [ho] at this
    cases this
  | some b1 =>
    rw [hx] at hm
    obtain ⟨rfl, us, ty, h1, h2, h3, _⟩ := h.ob o _ b1 ho hm
    exact ⟨hm, us, ty, h1, h2, h3⟩
theorem ne_nil_of_get {cs : List D} {i : Nat} {d : D} (h : cs[i]? = some d) : Ob.cells cs ≠ .cells [] := by
  rintro e
  cases e
  simp at h
theorem ne_nil_of_lt {cs : List D} {i : Nat} (h : i < cs.length) : Ob.cells cs ≠ .cells [] := ne_nil_of_get (List.getElem?_eq_getElem h)

theorem Gh.mem_ownb {m : Gh} {b : Nat} : b ∈ m.ownb ↔ ∃ tk ∈ m.toks, tk.own = some b := by
  simp only [Gh.ownb, List.mem_filterMap]

theorem Inv.lt_own {σ : Sg} {m : Gh} {w : World} (h : Inv σ m w) {b : Nat} (hb : b ∈ m.ownb) : b < w.heap.size := by
  obtain ⟨tk, htk, ho⟩ := Gh.mem_ownb.1 hb
  obtain ⟨us, ty, hh, _⟩ := (h.tk tk htk).2.2.2 b ho
  exact (Array.getElem?_eq_some_iff.1 hh).1

theorem Inv.lt_block {σ : Sg} {m : Gh} {w : World} (h : Inv σ m w) {b : Nat} (hb : b ∈ m.blocks) : b < w.heap.size := by
  rcases List.mem_append.1 hb with h1 | h1
  · exact h.lt_obj h1
  · exact h.lt_own h1

theorem Gh.mut_block {m : Gh} {b off : Nat} (h : m.mut b off) : b ∈ m.blocks := by
  rcases h with h | ⟨tk, htk, ho, _⟩
  · exact List.mem_append.2 (.inl h)
  · exact List.mem_append.2 (.inr (Gh.mem_ownb.2 ⟨tk, htk, ho⟩))

theorem cell?_of_heap {w w' : World} {b off : Nat} (h : w'.heap[b]? = w.heap[b]?) : w'.cell? ⟨b, off, none⟩ = w.cell? ⟨b, off, none⟩ := by simp [World.cell?, h]

theorem ObRep.mono {m m' : Gh} {w w' : World} (h : Ext m w m' w') {ob : Ob} {b : Nat} (hb : w'.heap[b]? = w.heap[b]?) (r : ObRep m w ob b) : ObRep m' w' ob b := by
  cases ob with
  | cells cs =>
    obtain ⟨us, ty, h1, h2, h3, h4⟩ := r
    exact ⟨us, ty, hb.trans h1, h2, fun i d u hd hu => ⟨(h3 i d u hd hu).1.mono h, (h3 i d u hd hu).2⟩, h4⟩
  | map es =>
    obtain ⟨us, ty, h1, h2, h3, h4⟩ := r
    exact ⟨us, ty, hb.trans h1, h2, fun i d u hd hu => ⟨(h3 i d u hd hu).1.mono h.fz, (h3 i d u hd hu).2.mono h⟩, h4⟩
  | iter mo since seen =>
    cases mo with
    | none => exact hb.trans r
    | some o' =>
      obtain ⟨bm, h1, h2⟩ := r
      exact ⟨bm, h.at h1, hb.trans h2⟩
  | known b' cs =>
    obtain ⟨h0, us, ty, h1, h2, h3, h4⟩ := r
    exact ⟨h0, us, ty, hb.trans h1, h2, fun i d u hd hu => ⟨(h3 i d u hd hu).1.mono h, (h3 i d u hd hu).2⟩, h4⟩

end Go.Abs
