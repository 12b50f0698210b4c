/-
  Append: what it does to a slice whose room the run owns. (Own work; seat-independent.)
-/
import Derived.Test.YtbifjffjibnjjaaDoorAbsM
set_option linter.unusedVariables false
set_option linter.unusedSimpArgs false
namespace Go.Abs
open Go

def Sg.tput (σ : Sg) (t n : Nat) : Sg := { σ with toks := σ.toks.set t n }
def Sg.tadd (σ : Sg) (n : Nat) : Sg := { σ with toks := σ.toks ++ [n] }
def Gh.tput (m : Gh) (t : Nat) (tk : Tok) : Gh := { m with toks := m.toks.set t tk }
def Gh.tadd (m : Gh) (tk : Tok) : Gh := { m with toks := m.toks ++ [tk] }

/-- What is appended: how many elements, their cells. -/
structure Src (P : Program) (w : World) (size : Nat) (x : Value) (n : Nat) (news : List Value) : Prop where
  len : (Builtin.lenOf x).run P w = .ok n w
  cells : (Builtin.firstCells size n x).run P w = .ok news.toArray w
  cells' : (Builtin.firstCells size n x).run P w.drew = .ok news.toArray w.drew
  lenEq : news.length = n * size

def Runs (d : TypeDesc) : Prop := (∃ e, d = .slice e) ∨ d = .string

section
variable {P : Program} {w : World}

theorem run_append_room' (t u ty e : TypeId) (d : TypeDesc) (i : TypeInfo) (ht : P.underlying t = some (.slice e)) (hu : P.underlying u = some d) (hd : Runs d) (hi : P.info? e = some i)
    (g sLen sCap : Nat) (cur : Array Value) (ty' : TypeId) (hg : w.heap[g]? = some (.cells cur ty' (0, 0)))
    (x : Value) (n : Nat) (news : List Value) (hs : Src P w i.size x n news) (h1 : ∀ u ∈ news, u.oneCell' = true)
    (hroom : sLen + n ≤ sCap) (hfit : sLen * i.size + news.length ≤ cur.size) :
    (Builtin.append_ #[t, u] ty #[.slice (some ⟨g, 0, none⟩) sLen sCap, x]).run P w =
      .ok (.slice (some ⟨g, 0, none⟩) (sLen + n) sCap) (w.setRow g (cur.toList.take (sLen * i.size) ++ news ++ cur.toList.drop (sLen * i.size + news.length)).toArray) := by
  have hst := run_storeCells_at P g (sLen * i.size) ty' news 0 cur w hg (by simpa using hfit) h1
  simp only [Nat.add_zero] at hst
  rcases hd with ⟨e2, rfl⟩ | rfl <;>
    simp [Builtin.append_, run_underlying ht, run_underlying hu, sizeOf, typeInfo, hi, hs.len, hroom, hs.cells, Addr.add_lit, hst]

theorem run_append_none (t u ty e : TypeId) (d : TypeDesc) (i : TypeInfo) (ht : P.underlying t = some (.slice e)) (hu : P.underlying u = some d) (hd : Runs d) (hi : P.info? e = some i)
    (a : Option Addr) (sLen sCap : Nat) (x : Value) (hs : Src P w i.size x 0 []) (hroom : sLen ≤ sCap) :
    (Builtin.append_ #[t, u] ty #[.slice a sLen sCap, x]).run P w = .ok (.slice a sLen sCap) w := by
  rcases hd with ⟨e2, rfl⟩ | rfl <;> cases a <;>
    simp [Builtin.append_, run_underlying ht, run_underlying hu, sizeOf, typeInfo, hi, hs.len, hroom, hs.cells, storeCells]

theorem run_append_grow' (t u ty e : TypeId) (d : TypeDesc) (i : TypeInfo) (z : Value) (ht : P.underlying t = some (.slice e)) (hu : P.underlying u = some d) (hd : Runs d) (hi : P.info? e = some i) (hz : i.zero = some z)
    (a : Option Addr) (sLen sCap : Nat) (olds : List Value) (hold : (Builtin.firstCells i.size sLen (.slice a sLen sCap)).run P w.drew = .ok olds.toArray w.drew)
    (x : Value) (n : Nat) (news : List Value) (hs : Src P w i.size x n news)
    (hg : sCap < sLen + n) (h63 : ((sLen + n : Nat) : Int) ≤ 9223372036854775807) (hfit : Builtin.nextslicecap (sLen + n) sCap * i.bytes ≤ 281474976710656) :
    (Builtin.append_ #[t, u] ty #[.slice a sLen sCap, x]).run P w =
      .ok (.slice (some ⟨w.heap.size, 0, none⟩) (sLen + n) (grownCap w (sLen + n) sCap e))
        (w.drew.alloc (.cells (olds.toArray ++ news.toArray ++ Builtin.zeroCells z.cells (grownCap w (sLen + n) sCap e - (sLen + n))) e)) := by
  have hn : ¬ (sLen + n ≤ sCap) := by omega
  have h63' : ¬ (9223372036854775807 < ((sLen : Int) + (n : Int))) := by omega
  have h48' : ¬ (281474976710656 < Builtin.nextslicecap (sLen + n) sCap * i.bytes) := by omega
  rcases hd with ⟨e2, rfl⟩ | rfl <;>
    (simp [Builtin.append_, run_underlying ht, run_underlying hu, sizeOf, typeInfo, zeroValue, hi, hz, hs.len, hn, h63', h48', Question.forced, hs.cells', hold, newRow, grownCap]
     try (congr 2; apply Array.ext'; simp [List.append_assoc]))
end

theorem RepV.lax {w : World} {F : Nat → Nat → Prop} {sh : Sh} {full : Bool} {xs : List V} {u : Value} (h : RepV w F (.sl sh full xs) u) : RepV w F (.sl sh false xs) u := by
  cases h with
  | slNil _ _ a => exact .slNil sh false a
  | sl _ _ _ b off cap us hs h1 hl hm hf hc hr => exact .sl sh false xs b off cap us hs h1 hl hm (by simp) hc hr

/-- What a slice's value looks like. -/
theorem RepV.sl_inv {w : World} {F : Nat → Nat → Prop} {sh : Sh} {full : Bool} {xs : List V} {u : Value} (h : RepV w F (.sl sh full xs) u) :
    ∃ (a : Option Addr) (cap : Nat), u = .slice a xs.length cap ∧ xs.length ≤ cap ∧ cap ≤ maxLen ∧ (full = true → cap = xs.length) ∧ (∀ x ∈ xs, x.shape = sh) ∧ (∀ c ∈ V.flat xs, c.one = true) ∧
      ((xs = [] ∧ cap = 0) ∨ ∃ (b off : Nat) (us : Nat → Value), a = some ⟨b, off, none⟩ ∧ (∀ i, i < xs.length * shn sh → w.cell? ⟨b, off + i, none⟩ = some (us i) ∧ F b (off + i)) ∧
        ∀ (i : Nat) c, (V.flat xs)[i]? = some c → RepV w F c (us i)) := by
  cases h with
  | slNil _ _ a => exact ⟨a, 0, rfl, Nat.le_refl _, by simp [maxLen], fun _ => rfl, by simp, by simp [V.flat], .inl ⟨rfl, rfl⟩⟩
  | sl _ _ _ b off cap us hs h1 hl hm hf hc hr => exact ⟨some ⟨b, off, none⟩, cap, rfl, hl, hm, hf, hs, h1, .inr ⟨b, off, us, rfl, hc, hr⟩⟩

theorem Inv.tok_len {σ : Sg} {m : Gh} {w : World} (h : Inv σ m w) : m.toks.length = σ.toks.length := by rw [← h.ltok]; simp

theorem Inv.tok_at {σ : Sg} {m : Gh} {w : World} (h : Inv σ m w) {t n : Nat} (ht : σ.toks[t]? = some n) : ∃ tk, m.toks[t]? = some tk ∧ tk.hw = n := by
  rw [← h.ltok, List.getElem?_map] at ht
  cases hm : m.toks[t]? with
  | none => simp [hm] at ht
  | some tk => simp [hm] at ht; exact ⟨tk, rfl, ht⟩

/-- A slice without room to spare becomes one that is appended to. -/
theorem Inv.tadd {σ : Sg} {m : Gh} {w : World} (h : Inv σ m w) (sh : Sh) (n : Nat) (hm : n ≤ maxLen) :
    Inv (σ.tadd n) (m.tadd ⟨none, sh, n, n⟩) w ∧ Ext m w (m.tadd ⟨none, sh, n, n⟩) w := by
  have hob : (m.tadd ⟨none, sh, n, n⟩).objb = m.objb := rfl
  have hmut : ∀ b off, (m.tadd ⟨none, sh, n, n⟩).mut b off ↔ m.mut b off := by
    intro b off
    simp only [Gh.mut, hob]
    simp [Gh.tadd, or_and_right, exists_or]
  have hbl : (m.tadd ⟨none, sh, n, n⟩).blocks = m.blocks := by
    simp only [Gh.blocks, hob]
    simp [Gh.ownb, Gh.tadd]
  have e : Ext m w (m.tadd ⟨none, sh, n, n⟩) w := by
    refine ⟨rfl, rfl, rfl, Nat.le_refl _, fun _ _ h => .inl h, fun t tk ht => ⟨tk, ?_, rfl, Nat.le_refl _, fun _ => rfl⟩, fun b off f => ⟨rfl, fun hx => f.2 ((hmut b off).1 hx)⟩, fun b hb hn => ⟨rfl, by rw [hbl]; exact hn⟩⟩
    have hlt := (List.getElem?_eq_some_iff.1 ht).1
    simp only [Gh.tadd, List.getElem?_append_left hlt]
    exact ht
  refine ⟨⟨h.lobj, by simp [Gh.tadd, Sg.tadd, h.ltok], by rw [hbl]; exact h.nodup, fun o ob b ho hb => (h.ob o ob b ho hb).mono e rfl, h.gone, fun tk htk => ?_, h.glob.mono e⟩, e⟩
  simp only [Gh.tadd, List.mem_append, List.mem_singleton] at htk
  rcases htk with htk | rfl
  · exact h.tk tk htk
  · exact ⟨Nat.le_refl _, hm, fun _ => rfl, fun b hb => by cases hb⟩

theorem RepV.tokd {m : Gh} {w : World} {sh : Sh} {xs : List V} {a : Option Addr} {len cap : Nat} (hx : RepV w (Fz m w) (.sl sh true xs) (.slice a len cap)) (e : Ext m w (m.tadd ⟨none, sh, xs.length, xs.length⟩) w) :
    RepD (m.tadd ⟨none, sh, xs.length, xs.length⟩) w (.tsl m.toks.length sh xs) (.slice a len cap) := by
  obtain ⟨a', cap', he, hl, hm, hf, _⟩ := hx.sl_inv
  cases he
  exact .tsl _ _ _ _ _ _ ⟨none, sh, xs.length, xs.length⟩ (hx.lax.mono e.fz) (by simp [Gh.tadd]) rfl (Nat.le_refl _) fun _ => ⟨hf rfl, fun b hb => by cases hb⟩

theorem mem_set_cases {α : Type} {l : List α} {t : Nat} {x y : α} (h : y ∈ l.set t x) : y = x ∨ ∃ i, i ≠ t ∧ l[i]? = some y := by
  obtain ⟨i, hi⟩ := List.mem_iff_getElem?.1 h
  rw [List.getElem?_set] at hi
  split at hi
  · split at hi
    · exact .inl (Option.some.inj hi).symm
    · cases hi
  · exact .inr ⟨i, by omega, hi⟩

/-- Two of the owned blocks of append rooms are one only if the rooms are. -/
theorem Gh.own_inj {m : Gh} (h : m.blocks.Nodup) {i j : Nat} {x y : Tok} (hi : m.toks[i]? = some x) (hj : m.toks[j]? = some y) {b : Nat} (hx : x.own = some b) (hy : y.own = some b) : i = j := by
  have hn : m.ownb.Nodup := (List.nodup_append.1 h).2.1
  have key : ∀ (l : List Tok), (l.filterMap (·.own)).Nodup → ∀ (i j : Nat) (x y : Tok), l[i]? = some x → l[j]? = some y → x.own = some b → y.own = some b → i = j := by
    intro l
    induction l with
    | nil => intro _ i j x y hi; simp at hi
    | cons a l ih =>
      intro hn i j x y hi hj hx hy
      have tl : (l.filterMap (·.own)).Nodup := by
        rw [List.filterMap_cons] at hn
        split at hn
        · exact hn
        · exact (List.nodup_cons.1 hn).2
      have notin : ∀ (k : Nat) (z : Tok), l[k]? = some z → z.own = some b → a.own = some b → False := by
        intro k z hk hz ha
        rw [List.filterMap_cons, ha] at hn
        exact (List.nodup_cons.1 hn).1 (List.mem_filterMap.2 ⟨z, List.mem_of_getElem? hk, hz⟩)
      cases i with
      | zero =>
        simp at hi
        subst hi
        cases j with
        | zero => rfl
        | succ j => simp at hj; exact (notin j y hj hy hx).elim
      | succ i =>
        simp at hi
        cases j with
        | zero => simp at hj; subst hj; exact (notin i x hi hx hy).elim
        | succ j => simp at hj; rw [ih tl i j x y hi hj hx hy]
  exact key m.toks hn i j x y hi hj hx hy

theorem Gh.own_not_obj {m : Gh} (h : m.blocks.Nodup) {tk : Tok} (ht : tk ∈ m.toks) {b : Nat} (hb : tk.own = some b) : b ∉ m.objb := fun hm =>
  (List.nodup_append.1 h).2.2 b hm b (Gh.mem_ownb.2 ⟨tk, ht, hb⟩) rfl

theorem Gh.tput_mut {m : Gh} {k b off : Nat} {tk' : Tok} (h : (m.tput k tk').mut b off) :
    b ∈ m.objb ∨ (∃ (i : Nat) (x : Tok), i ≠ k ∧ m.toks[i]? = some x ∧ x.own = some b ∧ x.hw * shn x.sh ≤ off) ∨ (tk'.own = some b ∧ tk'.hw * shn tk'.sh ≤ off) := by
  rcases h with h | ⟨x, hx, h1, h2⟩
  · exact .inl h
  · rcases mem_set_cases hx with rfl | ⟨i, hne, hi⟩
    · exact .inr (.inr ⟨h1, h2⟩)
    · exact .inr (.inl ⟨i, x, hne, hi, h1, h2⟩)

theorem Gh.tput_blocks {m : Gh} {k b : Nat} {tk' : Tok} (h : b ∈ (m.tput k tk').blocks) : b ∈ m.blocks ∨ tk'.own = some b := by
  rcases List.mem_append.1 h with h | h
  · exact .inl (List.mem_append.2 (.inl h))
  · obtain ⟨x, hx, h1⟩ := Gh.mem_ownb.1 h
    rcases mem_set_cases hx with rfl | ⟨i, hne, hi⟩
    · exact .inr h1
    · exact .inl (List.mem_append.2 (.inr (Gh.mem_ownb.2 ⟨x, List.mem_of_getElem? hi, h1⟩)))

theorem nodup_set_own (tk' : Tok) : ∀ (l : List Tok) (k : Nat), (l.filterMap (·.own)).Nodup → (∀ b, tk'.own = some b → (∀ x, l[k]? = some x → x.own = some b) ∨ b ∉ l.filterMap (·.own)) →
    ((l.set k tk').filterMap (·.own)).Nodup
  | [], k, h, _ => by simp
  | a :: l, 0, h, h1 => by
    rw [List.set_cons_zero, List.filterMap_cons]
    have tl : (l.filterMap (·.own)).Nodup := by
      rw [List.filterMap_cons] at h
      split at h
      · exact h
      · exact (List.nodup_cons.1 h).2
    split
    · exact tl
    · rename_i b hb
      refine List.nodup_cons.2 ⟨?_, tl⟩
      rcases h1 b hb with h2 | h2
      · have ha := h2 a (by simp)
        rw [List.filterMap_cons, ha] at h
        exact (List.nodup_cons.1 h).1
      · intro hm
        refine h2 ?_
        rw [List.filterMap_cons]
        split
        · exact hm
        · exact List.mem_cons_of_mem _ hm
  | a :: l, k + 1, h, h1 => by
    rw [List.set_cons_succ, List.filterMap_cons]
    have tl : (l.filterMap (·.own)).Nodup := by
      rw [List.filterMap_cons] at h
      split at h
      · exact h
      · exact (List.nodup_cons.1 h).2
    have ih := nodup_set_own tk' l k tl fun b hb => by
      rcases h1 b hb with h2 | h2
      · exact .inl fun x hx => h2 x (by simpa using hx)
      · refine .inr fun hm => h2 ?_
        rw [List.filterMap_cons]
        split
        · exact hm
        · exact List.mem_cons_of_mem _ hm
    split
    · exact ih
    · rename_i b hb
      refine List.nodup_cons.2 ⟨fun hm => ?_, ih⟩
      rw [List.filterMap_cons, hb] at h
      have hn := (List.nodup_cons.1 h).1
      obtain ⟨x, hx, hxo⟩ := List.mem_filterMap.1 hm
      rcases mem_set_cases hx with rfl | ⟨i, hne, hi⟩
      · rcases h1 b hxo with h2 | h2
        · rcases Nat.lt_or_ge k l.length with hlt | hge
          · have := h2 l[k] (by simp)
            exact hn (List.mem_filterMap.2 ⟨l[k], List.getElem_mem hlt, this⟩)
          · rw [List.set_eq_of_length_le hge] at hx
            exact hn (List.mem_filterMap.2 ⟨_, hx, hxo⟩)
        · rw [List.filterMap_cons, hb] at h2
          exact h2 (by simp)
      · exact hn (List.mem_filterMap.2 ⟨x, List.mem_of_getElem? hi, hxo⟩)

theorem Gh.tput_nodup {m : Gh} (h : m.blocks.Nodup) {k : Nat} {tk tk' : Tok} (hk : m.toks[k]? = some tk) (ho : ∀ b, tk'.own = some b → tk.own = some b ∨ b ∉ m.blocks) : (m.tput k tk').blocks.Nodup := by
  have h' := List.nodup_append.1 h
  refine List.nodup_append.2 ⟨h'.1, ?_, ?_⟩
  · refine nodup_set_own tk' m.toks k h'.2.1 fun b hb => ?_
    rcases ho b hb with h1 | h1
    · exact .inl fun x hx => by rw [hk] at hx; cases hx; exact h1
    · exact .inr fun hm => h1 (List.mem_append.2 (.inr hm))
  · intro a ha c hc
    rintro rfl
    obtain ⟨x, hx, hxo⟩ := Gh.mem_ownb.1 hc
    rcases mem_set_cases hx with rfl | ⟨i, hne, hi⟩
    · rcases ho a hxo with h1 | h1
      · exact h'.2.2 a ha a (Gh.mem_ownb.2 ⟨tk, List.mem_of_getElem? hk, h1⟩) rfl
      · exact h1 (List.mem_append.2 (.inl ha))
    · exact h'.2.2 a ha a (Gh.mem_ownb.2 ⟨x, List.mem_of_getElem? hi, hxo⟩) rfl

/-- The room of one append turns: what stands. (own': the old block, written behind its use alone, or a new one.) -/
theorem tput_ok {σ : Sg} {m : Gh} {w w' : World} (h : Inv σ m w) {k : Nat} {tk tk' : Tok} (hk : m.toks[k]? = some tk) (hsh : tk'.sh = tk.sh) (hhw : tk.hw ≤ tk'.hw) (heq : tk.hw = tk'.hw → tk' = tk)
    (os : w'.os = w.os) (tape : w'.tape = w.tape) (output : w'.output = w.output) (size : w.heap.size ≤ w'.heap.size)
    (old : ∀ b, b < w.heap.size → tk.own ≠ some b → w'.heap[b]? = w.heap[b]?)
    (mine : ∀ b, tk.own = some b → ∀ off, off < tk.hw * shn tk.sh → w'.cell? ⟨b, off, none⟩ = w.cell? ⟨b, off, none⟩)
    (own' : ∀ b, tk'.own = some b → tk.own = some b ∨ w.heap.size ≤ b)
    (cap' : tk'.hw ≤ tk'.cap ∧ tk'.cap ≤ maxLen ∧ (tk'.own = none → tk'.cap = tk'.hw) ∧ ∀ b, tk'.own = some b → ∃ us ty, w'.heap[b]? = some (.cells us ty (0, 0)) ∧ tk'.cap * shn tk'.sh ≤ us.size) :
    Inv (σ.tput k tk'.hw) (m.tput k tk') w' ∧ Ext m w (m.tput k tk') w' := by
  have hmem := List.mem_of_getElem? hk
  have e : Ext m w (m.tput k tk') w' := by
    refine ⟨os, tape, output, size, fun _ _ h => .inl h, fun t x ht => ?_, fun b off f => ⟨?_, ?_⟩, fun b hb hn => ⟨old b hb fun ho => hn (List.mem_append.2 (.inr (Gh.mem_ownb.2 ⟨tk, hmem, ho⟩))), fun hx => ?_⟩⟩
    · by_cases htk : k = t
      · subst htk
        rw [hk] at ht
        cases ht
        have hlt := (List.getElem?_eq_some_iff.1 hk).1
        exact ⟨tk', by simp [Gh.tput, hlt], hsh, hhw, heq⟩
      · exact ⟨x, by simp [Gh.tput, List.getElem?_set, htk, ht], rfl, Nat.le_refl _, fun _ => rfl⟩
    · by_cases ho : tk.own = some b
      · refine mine b ho off ?_
        rcases Nat.lt_or_ge off (tk.hw * shn tk.sh) with hlt | hge
        · exact hlt
        · exact (f.2 (.inr ⟨tk, hmem, ho, hge⟩)).elim
      · exact cell?_of_heap (old b f.1 ho)
    · intro hx
      rcases Gh.tput_mut hx with h1 | ⟨i, x, hne, hi, h1, h2⟩ | ⟨h1, h2⟩
      · exact f.2 (.inl h1)
      · exact f.2 (.inr ⟨x, List.mem_of_getElem? hi, h1, h2⟩)
      · rcases own' b h1 with h3 | h3
        · refine f.2 (.inr ⟨tk, hmem, h3, Nat.le_trans ?_ h2⟩)
          rw [hsh]
          exact Nat.mul_le_mul_right _ hhw
        · have := f.1; omega
    · rcases Gh.tput_blocks hx with h1 | h1
      · exact hn h1
      · rcases own' b h1 with h3 | h3
        · exact hn (List.mem_append.2 (.inr (Gh.mem_ownb.2 ⟨tk, hmem, h3⟩)))
        · omega
  refine ⟨⟨h.lobj, ?_, ?_, fun o ob b ho hb => ?_, h.gone, fun x hx => ?_, h.glob.mono e⟩, e⟩
  · simp [Gh.tput, Sg.tput, ← h.ltok, List.map_set]
  · refine Gh.tput_nodup h.nodup hk fun b hb => ?_
    rcases own' b hb with h3 | h3
    · exact .inl h3
    · exact .inr fun hm => by have := h.lt_block hm; omega
  · have hbm : b ∈ m.objb := Gh.mem_objb.2 (List.mem_of_getElem? hb)
    exact (h.ob o ob b ho hb).mono e (old b (h.lt_obj hbm) fun hx => Gh.own_not_obj h.nodup hmem hx hbm)
  · rcases mem_set_cases hx with rfl | ⟨i, hne, hi⟩
    · exact cap'
    · obtain ⟨h1, h2, h3, h4⟩ := h.tk x (List.mem_of_getElem? hi)
      refine ⟨h1, h2, h3, fun b hb => ?_⟩
      rw [old b (h.lt_own (Gh.mem_ownb.2 ⟨x, List.mem_of_getElem? hi, hb⟩)) fun ho => hne (Gh.own_inj h.nodup hi hk hb ho)]
      exact h4 b hb

end Go.Abs
