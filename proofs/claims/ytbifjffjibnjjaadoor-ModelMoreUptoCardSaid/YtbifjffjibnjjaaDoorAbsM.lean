/-
  How the reading of values and the invariant stand through the steps of a run: a new block, a draw, a store, an append. (Own work; seat-independent.)
-/
import Derived.Test.YtbifjffjibnjjaaDoorAbsV
set_option linter.unusedVariables false
set_option linter.unusedSimpArgs false
namespace Go.Abs
open Go

theorem nodup_inj {α : Type} {l : List α} (h : l.Nodup) {i j : Nat} {x : α} (hi : l[i]? = some x) (hj : l[j]? = some x) : i = j := by
  obtain ⟨l1, e1⟩ := List.getElem?_eq_some_iff.1 hi
  obtain ⟨l2, e2⟩ := List.getElem?_eq_some_iff.1 hj
  have hp := List.pairwise_iff_getElem.1 h
  rcases Nat.lt_trichotomy i j with hlt | he | hlt
  · exact absurd (e1.trans e2.symm) (hp i j l1 l2 hlt)
  · exact he
  · exact absurd (e2.trans e1.symm) (hp j i l2 l1 hlt)

theorem heap_alloc_lt (w : World) (o : Obj) {b : Nat} (h : b < w.heap.size) : (w.alloc o).heap[b]? = w.heap[b]? := heap_alloc_old w o b h
theorem heap_alloc_size (w : World) (o : Obj) : (w.alloc o).heap.size = w.heap.size + 1 := by simp

theorem objb_inj {l : List (Option Nat)} (h : (l.filterMap id).Nodup) {i j b : Nat} (hi : l[i]? = some (some b)) (hj : l[j]? = some (some b)) : i = j := by
  induction l generalizing i j with
  | nil => simp at hi
  | cons a l ih =>
    have tl : (l.filterMap id).Nodup := by
      rw [List.filterMap_cons] at h
      split at h
      · exact h
      · exact (List.nodup_cons.1 h).2
    cases i with
    | zero =>
      cases j with
      | zero => rfl
      | succ j =>
        simp at hi hj
        subst hi
        have hm : b ∈ l.filterMap id := by simp; exact List.mem_of_getElem? hj
        simp at h
        exact absurd (List.mem_of_getElem? hj) h.1
    | succ i =>
      cases j with
      | zero =>
        simp at hi hj
        subst hj
        simp at h
        exact absurd (List.mem_of_getElem? hi) h.1
      | succ j => exact congrArg Nat.succ (ih tl (i := i) (j := j) (by simpa using hi) (by simpa using hj))

/-- A step that turns no block that was there, and gives nothing new. -/
theorem Ext.of_old {m : Gh} {w w' : World} (os : w'.os = w.os) (tape : w'.tape = w.tape) (output : w'.output = w.output) (size : w.heap.size ≤ w'.heap.size)
    (old : ∀ b, b < w.heap.size → w'.heap[b]? = w.heap[b]?) : Ext m w m w' :=
  ⟨os, tape, output, size, fun _ _ h => .inl h, fun _ tk h => ⟨tk, h, rfl, Nat.le_refl _, fun _ => rfl⟩, fun b off f => ⟨cell?_of_heap (old b f.1), f.2⟩,
    fun b hb hn => ⟨old b hb, hn⟩⟩

theorem Inv.of_old {σ : Sg} {m : Gh} {w w' : World} (h : Inv σ m w) (e : Ext m w m w') (old : ∀ b, b < w.heap.size → w'.heap[b]? = w.heap[b]?) : Inv σ m w' := by
  refine ⟨h.lobj, h.ltok, h.nodup, fun o ob b ho hb => (h.ob o ob b ho hb).mono e (old b (h.lt_obj (Gh.mem_objb.2 (List.mem_of_getElem? hb)))), h.gone, fun tk htk => ?_, h.glob.mono e⟩
  obtain ⟨h1, h2, h3, h4⟩ := h.tk tk htk
  refine ⟨h1, h2, h3, fun b hbo => ?_⟩
  rw [old b (h.lt_own (Gh.mem_ownb.2 ⟨tk, htk, hbo⟩))]
  exact h4 b hbo

theorem Ext.alloc (m : Gh) (w : World) (o : Obj) : Ext m w m (w.alloc o) :=
  .of_old rfl rfl rfl (by simp) fun _ hb => heap_alloc_lt w o hb
theorem Inv.alloc {σ : Sg} {m : Gh} {w : World} (h : Inv σ m w) (o : Obj) : Inv σ m (w.alloc o) :=
  h.of_old (.alloc m w o) fun _ hb => heap_alloc_lt w o hb
theorem Ext.drew (m : Gh) (w : World) : Ext m w m w.drew := .of_old rfl rfl rfl (Nat.le_refl _) fun _ _ => rfl
theorem Inv.drew {σ : Sg} {m : Gh} {w : World} (h : Inv σ m w) : Inv σ m w.drew := h.of_old (.drew m w) fun _ _ => rfl

/-- A new object. -/
def Gh.add (m : Gh) (b : Nat) : Gh := { m with objs := m.objs ++ [some b] }
theorem Gh.add_objb {m : Gh} {b : Nat} : (m.add b).objb = m.objb ++ [b] := by simp [Gh.objb, Gh.add]
def Sg.add (σ : Sg) (ob : Ob) : Sg := { σ with objs := σ.objs ++ [ob] }

theorem Gh.add_mut {m : Gh} {b c off : Nat} : (m.add b).mut c off ↔ c = b ∨ m.mut c off := by
  have ht : (m.add b).toks = m.toks := rfl
  simp only [Gh.mut, Gh.add_objb, ht, List.mem_append, List.mem_singleton]
  constructor
  · rintro ((h | h) | h)
    · exact .inr (.inl h)
    · exact .inl h
    · exact .inr (.inr h)
  · rintro (h | h | h)
    · exact .inl (.inr h)
    · exact .inl (.inl h)
    · exact .inr h

theorem Gh.add_blocks {m : Gh} {b c : Nat} : c ∈ (m.add b).blocks ↔ c = b ∨ c ∈ m.blocks := by
  have ht : (m.add b).toks = m.toks := rfl
  simp only [Gh.blocks, Gh.add_objb, Gh.ownb, ht, List.mem_append, List.mem_singleton]
  constructor
  · rintro ((h | h) | h)
    · exact .inr (.inl h)
    · exact .inl h
    · exact .inr (.inr h)
  · rintro (h | h | h)
    · exact .inl (.inr h)
    · exact .inl (.inl h)
    · exact .inr h

theorem Ext.add (m : Gh) (w : World) (o : Obj) : Ext m w (m.add w.heap.size) (w.alloc o) := by
  refine ⟨rfl, rfl, rfl, by simp, fun i b h => ?_, fun _ tk h => ⟨tk, h, rfl, Nat.le_refl _, fun _ => rfl⟩, fun b off f => ⟨cell?_of_heap (heap_alloc_lt w o f.1), ?_⟩, fun b hb hn => ⟨heap_alloc_lt w o hb, ?_⟩⟩
  · have hlt := (List.getElem?_eq_some_iff.1 h).1
    simp only [Gh.add, List.getElem?_append_left hlt]
    exact .inl h
  · rw [Gh.add_mut]
    rintro (h | h)
    · have := f.1; omega
    · exact f.2 h
  · rw [Gh.add_blocks]
    rintro (h | h)
    · omega
    · exact hn h

theorem Gh.add_nodup {m : Gh} {b : Nat} (h : m.blocks.Nodup) (hb : b ∉ m.blocks) : (m.add b).blocks.Nodup := by
  have h' : (m.objb ++ m.ownb).Nodup := h
  have hb' : b ∉ m.objb ++ m.ownb := hb
  show ((m.add b).objb ++ m.ownb).Nodup
  rw [Gh.add_objb]
  rw [List.append_assoc]
  rw [List.nodup_append] at h' ⊢
  simp only [List.mem_append, not_or] at hb'
  refine ⟨h'.1, ?_, ?_⟩
  · rw [List.singleton_append, List.nodup_cons]
    exact ⟨hb'.2, h'.2.1⟩
  · intro a ha c hc
    simp only [List.singleton_append, List.mem_cons] at hc
    rcases hc with rfl | hc
    · rintro rfl; exact hb'.1 ha
    · exact h'.2.2 a ha c hc

theorem Inv.add {σ : Sg} {m : Gh} {w : World} (h : Inv σ m w) (o : Obj) (ob : Ob) (r : ObRep (m.add w.heap.size) (w.alloc o) ob w.heap.size) :
    Inv (σ.add ob) (m.add w.heap.size) (w.alloc o) := by
  have e := Ext.add m w o
  refine ⟨by simp [Gh.add, Sg.add, h.lobj], h.ltok, Gh.add_nodup h.nodup (fun hb => by have := h.lt_block hb; omega), fun i ob' b hi hb => ?_, fun i hi => ?_, fun tk htk => ?_, h.glob.mono e⟩
  · simp only [Sg.add] at hi
    simp only [Gh.add] at hb
    rcases Nat.lt_or_ge i σ.objs.length with hlt | hge
    · rw [List.getElem?_append_left hlt] at hi
      rw [List.getElem?_append_left (by rw [h.lobj]; exact hlt)] at hb
      exact (h.ob i ob' b hi hb).mono e (heap_alloc_lt w o (h.lt_obj (Gh.mem_objb.2 (List.mem_of_getElem? hb))))
    · rw [List.getElem?_append_right hge] at hi
      rw [List.getElem?_append_right (by rw [h.lobj]; exact hge)] at hb
      have h0 : i - σ.objs.length = 0 := by
        have := (List.getElem?_eq_some_iff.1 hi).1
        simp at this
        omega
      rw [h0] at hi
      have h0' : i - m.objs.length = 0 := by rw [h.lobj]; exact h0
      rw [h0'] at hb
      simp at hi hb
      subst hi hb
      exact r
  · simp only [Gh.add] at hi
    have hlt : i < m.objs.length := by
      rcases Nat.lt_or_ge i m.objs.length with hlt | hge
      · exact hlt
      · rw [List.getElem?_append_right hge] at hi
        rcases hk : i - m.objs.length with _ | k
        · rw [hk] at hi; simp at hi
        · rw [hk] at hi; simp at hi
    rw [List.getElem?_append_left hlt] at hi
    have := h.gone i hi
    simp only [Sg.add]
    rw [List.getElem?_append_left (by rw [← h.lobj]; exact hlt)]
    exact this
  · obtain ⟨h1, h2, h3, h4⟩ := h.tk tk htk
    refine ⟨h1, h2, h3, fun b hbo => ?_⟩
    rw [heap_alloc_lt w o (h.lt_own (Gh.mem_ownb.2 ⟨tk, htk, hbo⟩))]
    exact h4 b hbo

/-- New cells: what an object of them holds. -/
theorem ObRep.new {m : Gh} {w : World} {cs : List D} {us : List Value} (ty : TypeId) (hl : cs.length = us.length) (h1 : ∀ u ∈ us, u.oneCell' = true)
    (hr : ∀ (i : Nat) d u, cs[i]? = some d → us[i]? = some u → RepD m w d u) :
    ObRep (m.add w.heap.size) (w.alloc (.cells us.toArray ty)) (.cells cs) w.heap.size :=
  ⟨us.toArray, ty, heap_alloc_new w _, by simp [hl], fun i d u hd hu => by
    simp only [List.getElem?_toArray] at hu
    exact ⟨(hr i d u hd hu).mono (.add m w _), h1 u (List.mem_of_getElem? hu)⟩, trivial⟩

/-- A store into an object's block. -/
theorem heap_setRow_size (w : World) (g : Nat) (cs : Array Value) : (w.setRow g cs).heap.size = w.heap.size := by simp [World.setRow]

theorem Ext.setRow {m : Gh} {w : World} {b : Nat} (cs : Array Value) (hb : b ∈ m.objb) : Ext m w m (w.setRow b cs) := by
  refine ⟨rfl, rfl, rfl, by simp [World.setRow], fun _ _ h => .inl h, fun _ tk h => ⟨tk, h, rfl, Nat.le_refl _, fun _ => rfl⟩, fun c off f => ⟨cell?_of_heap (setRow_other w b c cs ?_), f.2⟩, fun c hc hn => ⟨setRow_other w b c cs ?_, hn⟩⟩
  · rintro rfl; exact f.2 (.inl hb)
  · rintro rfl; exact hn (List.mem_append.2 (.inl hb))

def Sg.put (σ : Sg) (o : Nat) (ob : Ob) : Sg := { σ with objs := σ.objs.set o ob }

theorem Inv.setRow {σ : Sg} {m : Gh} {w : World} (h : Inv σ m w) {o b : Nat} (hb : m.objs[o]? = some (some b)) (cs : Array Value) (ob : Ob)
    (r : ObRep m (w.setRow b cs) ob b) : Inv (σ.put o ob) m (w.setRow b cs) := by
  have hmem : b ∈ m.objb := Gh.mem_objb.2 (List.mem_of_getElem? hb)
  have e := Ext.setRow (m := m) (w := w) cs hmem
  have nd : m.objb.Nodup := (List.nodup_append.1 h.nodup).1
  refine ⟨by simp [Sg.put, h.lobj], h.ltok, h.nodup, fun i ob' c hi hc => ?_, fun i hi => ?_, fun tk htk => ?_, h.glob.mono e⟩
  · simp only [Sg.put, List.getElem?_set] at hi
    by_cases hio : o = i
    · subst hio
      have hcb : c = b := Option.some.inj (Option.some.inj (hc.symm.trans hb))
      subst hcb
      simp only [if_true] at hi
      split at hi
      · cases hi; exact r
      · cases hi
    · rw [if_neg hio] at hi
      have hcb : c ≠ b := by
        rintro rfl
        exact hio (objb_inj nd hb hc)
      exact (h.ob i ob' c hi hc).mono e (setRow_other w b c cs hcb)
  · have hio : o ≠ i := by
      rintro rfl
      rw [hb] at hi
      cases hi
    simp only [Sg.put, List.getElem?_set]
    rw [if_neg hio]
    exact h.gone i hi
  · obtain ⟨h1, h2, h3, h4⟩ := h.tk tk htk
    refine ⟨h1, h2, h3, fun c hbo => ?_⟩
    have hne : c ≠ b := by
      rintro rfl
      have := (List.nodup_append.1 h.nodup).2.2 c hmem c (Gh.mem_ownb.2 ⟨tk, htk, hbo⟩)
      exact this rfl
    rw [setRow_other w b c cs hne]
    exact h4 c hbo

end Go.Abs
