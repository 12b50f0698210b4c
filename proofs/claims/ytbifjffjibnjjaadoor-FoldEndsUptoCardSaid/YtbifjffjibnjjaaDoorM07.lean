/-
  From what arguments are read as0 to the values of the small language; a law's row from its contract. (Own work; by template.)
-/
import Derived.Test.YtbifjffjibnjjaaDoorM06
import Derived.Test.YtbifjffjibnjjaaDoorRows
import Derived.WideKeyArgs
import Derived.WalkKit
import Derived.ProofKit
import Derived.OpenShut
import Derived.JoinedCond
import Derived.Lib.ItoaNum
import Derived.Lib.ItoaLen
set_option linter.unusedVariables false
set_option linter.unusedSimpArgs false
namespace Go.Abs
open Go Go.ChangeShapes Go.WideShapes Go.RowKit

mutual
def V.bulk : V → Nat
  | .str s => s.length + 1
  | .sl _ _ xs => V.bulkL xs + 1
  | .agg cs => V.bulkL cs
  | _ => 1
def V.bulkL : List V → Nat
  | [] => 0
  | x :: xs => x.bulk + V.bulkL xs
end
theorem V.bulkL_append (a b : List V) : V.bulkL (a ++ b) = V.bulkL a + V.bulkL b := by
  induction a with
  | nil => simp [V.bulkL]
  | cons x a ih => simp [V.bulkL, ih, Nat.add_assoc]
theorem V.bulk_cells (x : V) : V.bulkL x.cells = x.bulk := by cases x <;> simp [V.cells, V.bulk, V.bulkL]

/-- The cells that may stand for a value of a type. -/
inductive Ty (P : Program) : TypeId → List V → Prop where
  | bool (t : TypeId) (h : P.underlying t = some .bool) (b : Bool) : Ty P t [.bool b]
  | int (t : TypeId) (k : IntKind) (h : P.underlying t = some (.int k)) (n : Int) (hn : inR k n) : Ty P t [.int k n]
  | str (t : TypeId) (h : P.underlying t = some .string) (s : List UInt8) (hs : s.length ≤ maxLen) : Ty P t [.str s]
  | sl (t e : TypeId) (sh : Sh) (h : P.underlying t = some (.slice e)) (hsh : tsh P e = some sh) (xs : List V) (hl : xs.length ≤ maxLen) (hs : ∀ x ∈ xs, x.shape = sh) (hx : ∀ x ∈ xs, Ty P e x.cells) : Ty P t [.sl sh false xs]
  | struct (t : TypeId) (fs : Array Field) (h : P.underlying t = some (.struct fs)) (parts : List (List V)) (hl : parts.length = fs.size) (hf : ∀ (i : Nat) f p, fs[i]? = some f → parts[i]? = some p → Ty P f.type p) : Ty P t parts.flatten

/-- Fields that lie one behind the other. -/
def laidFs (P : Program) : Nat → List Field → Nat → Bool
  | off, [], n => off == n
  | off, f :: fs, n => f.offset == off && laidFs P (off + P.cellsOf f.type) fs n

/-- Types of plain data, that lead to no others. -/
def plainSet (P : Program) (T : List TypeId) : Bool := T.all fun t => match P.underlying t with
  | some .bool => true
  | some (.int _) => true
  | some .string => true
  | some (.slice e) => T.contains e && (match tsh P e with | some sh => decide (0 < shn sh) && decide (shn sh = P.cellsOf e) | none => false)
  | some (.struct fs) => fs.toList.all (fun f => T.contains f.type) && laidFs P 0 fs.toList (P.cellsOf t)
  | _ => false

theorem inR_of_wf {k : IntKind} {n : Int} (h : (Lit.int k n).wf = true) : inR k n := by simpa [Lit.wf, inR] using h

section
variable {H : Type} {enc : TypeId × Value → H} {P : Program} {w : World} {sp : Nat → Bool} {held : Bool}

/-- What is read, in cells. -/
structure Cs (P : Program) (w : World) (t : TypeId) (cs : List Value) (d : DataW H) (vs : List V) : Prop where
  ty : Ty P t vs
  len : vs.length = cs.length
  one : ∀ c ∈ vs, c.one = true
  rep : ∀ (i : Nat) c u, vs[i]? = some c → cs[i]? = some u → RepV w (fun b _ => b < w.heap.size) c u
  bulk : V.bulkL vs ≤ Go.Proofs.YtbifjffjibnjjaaDoor.Rows.uptoBulk d

theorem cs_one {t : TypeId} {u : Value} {d : DataW H} {x : V} (h : Ty P t [x]) (h1 : x.one = true) (hr : RepV w (fun b _ => b < w.heap.size) x u) (hb : x.bulk ≤ Go.Proofs.YtbifjffjibnjjaaDoor.Rows.uptoBulk d) : Cs P w t [u] d [x] :=
  ⟨h, rfl, by simpa using h1, fun i c v hc hv => by
    cases i with
    | zero => simp at hc hv; subst hc hv; exact hr
    | succ i => simp at hc, by simpa [V.bulkL] using hb⟩

theorem mapM_some_get' {α β : Type} {f : α → Option β} : ∀ {l : List α} {r : List β}, l.mapM f = some r → ∀ (i : Nat) a, l[i]? = some a → ∃ b, f a = some b ∧ r[i]? = some b
  | [], r, h, i, a, hi => by simp at hi
  | x :: l, r, h, i, a, hi => by
    simp only [List.mapM_cons, Option.pure_def, Option.bind_eq_bind, Option.bind_eq_some_iff] at h
    obtain ⟨b, hb, rs, hrs, he⟩ := h
    cases he
    cases i with
    | zero => simp at hi; subst hi; exact ⟨b, hb, rfl⟩
    | succ i => simpa using mapM_some_get' hrs i a (by simpa using hi)

theorem cs_fields {n : Nat} {cs : List Value} {all : List TypeId} (ih : ∀ (t : TypeId) (cs : List Value) (x : DataW H × List MemPlace), t ∈ all → DataW.trod enc P w 0 sp held n t cs = some x → ∃ vs, Cs P w t cs x.1 vs) :
    ∀ (fs : List Field) (off : Nat) (xs : List (DataW H × List MemPlace)), (∀ f ∈ fs, f.type ∈ all) → laidFs P off fs cs.length = true → xs.length = fs.length →
      (∀ (i : Nat) (f : Field), fs[i]? = some f → DataW.trod enc P w 0 sp held n f.type ((cs.drop f.offset).take (P.cellsOf f.type)) = xs[i]?) →
      ∃ parts : List (List V), parts.length = fs.length ∧ (∀ (i : Nat) f p, fs[i]? = some f → parts[i]? = some p → Ty P f.type p) ∧ off ≤ cs.length ∧ parts.flatten.length = cs.length - off ∧ (∀ c ∈ parts.flatten, c.one = true) ∧
        (∀ (i : Nat) c u, parts.flatten[i]? = some c → cs[off + i]? = some u → RepV w (fun b _ => b < w.heap.size) c u) ∧ V.bulkL parts.flatten ≤ Go.Proofs.YtbifjffjibnjjaaDoor.Rows.uptoBulkAll (xs.map (·.1))
  | [], off, xs, _, hl, hx, _ => by
    have hx0 : xs = [] := List.eq_nil_of_length_eq_zero hx
    subst hx0
    have : off = cs.length := by simpa [laidFs] using hl
    exact ⟨[], rfl, by simp, by omega, by simp [this], by simp, by simp, by simp [V.bulkL, Go.Proofs.YtbifjffjibnjjaaDoor.Rows.uptoBulkAll]⟩
  | f :: fs, off, [], _, _, hx, _ => by simp at hx
  | f :: fs, off, x :: xs, hT, hl, hx, hr => by
    simp only [laidFs, Bool.and_eq_true, beq_iff_eq] at hl
    obtain ⟨ho, hl⟩ := hl
    obtain ⟨parts, p1, p2, p3, p4, p5, p6, p7⟩ := cs_fields ih fs _ xs (fun g hg => hT g (by simp [hg])) hl (by simpa using hx) fun i g hg => by simpa using hr (i + 1) g (by simpa using hg)
    obtain ⟨vs, hvs⟩ := ih f.type _ x (hT f (by simp)) (by simpa using hr 0 f rfl)
    have hlen : vs.length = P.cellsOf f.type := by
      have := hvs.len
      rw [ho] at this
      simp at this
      omega
    refine ⟨vs :: parts, by simp [p1], fun i g p hg hp => ?_, by omega, by simp [p4, hlen]; omega, fun c hc => ?_, fun i c u hc hu => ?_, ?_⟩
    · cases i with
      | zero => simp at hg hp; subst hg hp; exact hvs.ty
      | succ i => exact p2 i g p (by simpa using hg) (by simpa using hp)
    · simp only [List.flatten_cons, List.mem_append] at hc
      rcases hc with hc | hc
      · exact hvs.one c hc
      · exact p5 c hc
    · simp only [List.flatten_cons] at hc
      rcases Nat.lt_or_ge i vs.length with hlt | hge
      · rw [List.getElem?_append_left hlt] at hc
        refine hvs.rep i c u hc ?_
        rw [ho, List.getElem?_take, if_pos (by omega), List.getElem?_drop]
        exact hu
      · rw [List.getElem?_append_right hge] at hc
        refine p6 (i - vs.length) c u hc ?_
        rw [hlen] at hge ⊢
        rw [show off + P.cellsOf f.type + (i - P.cellsOf f.type) = off + i by omega]
        exact hu
    · simp only [List.flatten_cons, V.bulkL_append, List.map_cons, Go.Proofs.YtbifjffjibnjjaaDoor.Rows.uptoBulkAll]
      have := hvs.bulk
      omega

theorem cells?_get {w : World} {a : Addr} {n : Nat} {cs : List Value} (h : w.cells? 0 a n = some cs) : cs.length = n ∧ ∀ i, i < n → ∃ u, cs[i]? = some u ∧ w.cell? (a.add i) = some u := by
  unfold World.cells? at h
  rw [if_pos (Nat.zero_le _)] at h
  have hl : cs.length = n := by simpa using mapM_some_length h
  refine ⟨hl, fun i hi => ?_⟩
  obtain ⟨u, h1, h2⟩ := mapM_some_get' h i i (List.getElem?_range hi)
  exact ⟨u, h2, h1⟩

theorem cell?_lt {w : World} {a : Addr} {u : Value} (h : w.cell? a = some u) : a.block < w.heap.size ∧ a.spot = none := by
  unfold World.cell? at h
  split at h
  · rename_i hb
    split at h
    · cases h
    · rename_i hs
      refine ⟨(Array.getElem?_eq_some_iff.1 hb).1, ?_⟩
      cases hsp : a.spot with
      | none => rfl
      | some s => rw [hsp] at hs; simp at hs
  · cases h

theorem choose_list {Q : Nat → V → Prop} : ∀ (n : Nat), (∀ i, i < n → ∃ x, Q i x) → ∃ xs : List V, xs.length = n ∧ ∀ (i : Nat) x, xs[i]? = some x → Q i x
  | 0, _ => ⟨[], rfl, by simp⟩
  | n + 1, h => by
    obtain ⟨xs, h1, h2⟩ := choose_list n fun i hi => h i (by omega)
    obtain ⟨x, hx⟩ := h n (by omega)
    refine ⟨xs ++ [x], by simp [h1], fun i y hy => ?_⟩
    rcases Nat.lt_or_ge i xs.length with hlt | hge
    · rw [List.getElem?_append_left hlt] at hy
      exact h2 i y hy
    · rw [List.getElem?_append_right hge] at hy
      have h3 := (List.getElem?_eq_some_iff.1 hy).1
      simp at h3
      have h4 : i = n := by omega
      have h5 : i - xs.length = 0 := by omega
      rw [h5] at hy
      simp at hy
      subst hy h4
      exact hx

theorem addr_eta {a : Addr} (h : a.spot = none) : a = ⟨a.block, a.off, none⟩ := by
  cases a
  simp only at h
  subst h
  rfl

theorem cs_of_trod {T : List TypeId} (hT : plainSet P T = true) : ∀ (n : Nat) (t : TypeId) (cs : List Value) (x : DataW H × List MemPlace), t ∈ T → DataW.trod enc P w 0 (fun _ => true) held n t cs = some x → ∃ vs, Cs P w t cs x.1 vs
  | 0, t, cs, x, _, h => by simp [DataW.trod] at h
  | n + 1, t, cs, x, ht, h => by
    have hp := List.all_eq_true.1 hT t ht
    split at hp
    · rename_i hu
      obtain ⟨b, rfl, rfl⟩ := DataW.trod_bool hu h
      exact ⟨[.bool b], cs_one (.bool t hu b) rfl (.bool b) (by simp [V.bulk, Go.Proofs.YtbifjffjibnjjaaDoor.Rows.uptoBulk])⟩
    · rename_i k hu
      obtain ⟨z, rfl, rfl, hw⟩ := DataW.trod_int hu h
      exact ⟨[.int k z], cs_one (.int t k hu z (inR_of_wf hw)) rfl (.int k z (inR_of_wf hw)) (by simp [V.bulk, Go.Proofs.YtbifjffjibnjjaaDoor.Rows.uptoBulk])⟩
    · rename_i hu
      obtain ⟨s, rfl, rfl, hw⟩ := DataW.trod_string hu h
      have hw' : s.data.toList.length ≤ maxLen := hw
      refine ⟨[.str s.data.toList], cs_one (.str t hu _ hw') rfl ?_ (by simp [V.bulk, Go.Proofs.YtbifjffjibnjjaaDoor.Rows.uptoBulk])⟩
      have := RepV.str (w := w) (F := fun b _ => b < w.heap.size) s.data.toList hw'
      simpa using this
    · rename_i e hu
      simp only [Bool.and_eq_true, List.contains_iff_mem] at hp
      obtain ⟨he, hp⟩ := hp
      split at hp
      · rename_i sh hsh
        simp only [Bool.and_eq_true, decide_eq_true_eq] at hp
        obtain ⟨h0, hc⟩ := hp
        rcases DataW.trod_slice hu h with ⟨rfl, rfl⟩ | ⟨a, len, cap, elems, rest, n', hn, rfl, rfl, _, hl, hm, hlen, hel, hsp, _⟩
        · refine ⟨[.sl sh false []], cs_one (.sl t e sh hu hsh [] (Nat.zero_le _) (by simp) (by simp)) rfl (.slNil sh false none) (by simp [V.bulk, V.bulkL, Go.Proofs.YtbifjffjibnjjaaDoor.Rows.uptoBulk])⟩
        · cases hn
          have ih := cs_of_trod hT n
          -- the elements, one by one
          have elem : ∀ i, i < len → ∃ x : V, x.shape = sh ∧ Ty P e x.cells ∧ (∀ c ∈ x.cells, c.one = true) ∧ (∃ y, elems[i]? = some y ∧ x.bulk ≤ Go.Proofs.YtbifjffjibnjjaaDoor.Rows.uptoBulk y.1) ∧
              ∀ j, j < shn sh → ∃ c u, x.cells[j]? = some c ∧ w.cell? ⟨a.block, a.off + (i * shn sh + j), none⟩ = some u ∧ a.spot = none ∧ a.block < w.heap.size ∧ RepV w (fun b _ => b < w.heap.size) c u := by
            intro i hi
            have h1 := hel i hi
            obtain ⟨y, hy⟩ : ∃ y, elems[i]? = some y := ⟨_, List.getElem?_eq_getElem (by omega)⟩
            rw [hy, Option.bind_eq_some_iff] at h1
            obtain ⟨cs', hcs', hrd⟩ := h1
            obtain ⟨vs, hvs⟩ := ih e cs' y he hrd
            obtain ⟨hcl, hcc⟩ := cells?_get hcs'
            have hvl : vs.length = shn sh := by rw [hvs.len, hcl, hc]
            have fin : ∀ x : V, x.cells = vs → x.shape = sh → ∃ x : V, x.shape = sh ∧ Ty P e x.cells ∧ (∀ c ∈ x.cells, c.one = true) ∧ (∃ y, elems[i]? = some y ∧ x.bulk ≤ Go.Proofs.YtbifjffjibnjjaaDoor.Rows.uptoBulk y.1) ∧
                ∀ j, j < shn sh → ∃ c u, x.cells[j]? = some c ∧ w.cell? ⟨a.block, a.off + (i * shn sh + j), none⟩ = some u ∧ a.spot = none ∧ a.block < w.heap.size ∧ RepV w (fun b _ => b < w.heap.size) c u := by
              intro x hx hxs
              refine ⟨x, hxs, hx ▸ hvs.ty, hx ▸ hvs.one, ⟨y, hy, by rw [← V.bulk_cells, hx]; exact hvs.bulk⟩, fun j hj => ?_⟩
              obtain ⟨u, hu1, hu2⟩ := hcc j (by omega)
              obtain ⟨c, hcj⟩ : ∃ c, vs[j]? = some c := ⟨_, List.getElem?_eq_getElem (by omega)⟩
              have hlt := cell?_lt hu2
              have hspot : a.spot = none := by
                have h2 := hlt.2
                unfold Addr.add at h2
                by_cases hj0 : j = 0
                · subst hj0
                  rw [if_pos rfl] at h2
                  by_cases hi0 : i * P.cellsOf e = 0
                  · rw [if_pos hi0] at h2; exact h2
                  · -- the first cell of all
                    have hi1 : 0 < i := Nat.pos_of_ne_zero fun h => hi0 (by rw [h, Nat.zero_mul])
                    have h3 := hel 0 (by omega)
                    obtain ⟨y0, hy0⟩ : ∃ y, elems[0]? = some y := ⟨_, List.getElem?_eq_getElem (by omega)⟩
                    rw [hy0, Option.bind_eq_some_iff] at h3
                    obtain ⟨cs0, hcs0, _⟩ := h3
                    obtain ⟨u0, _, hu0⟩ := (cells?_get hcs0).2 0 (by omega)
                    have := (cell?_lt hu0).2
                    simpa [Addr.add] using this
                · have h3 := hel 0 (by omega)
                  obtain ⟨y0, hy0⟩ : ∃ y, elems[0]? = some y := ⟨_, List.getElem?_eq_getElem (by omega)⟩
                  rw [hy0, Option.bind_eq_some_iff] at h3
                  obtain ⟨cs0, hcs0, _⟩ := h3
                  obtain ⟨u0, _, hu0⟩ := (cells?_get hcs0).2 0 (by omega)
                  have := (cell?_lt hu0).2
                  simpa [Addr.add] using this
              have ha : (a.add (i * P.cellsOf e)).add j = ⟨a.block, a.off + (i * shn sh + j), none⟩ := by
                rw [← hc]
                cases a with
                | mk b o s =>
                  simp only at hspot
                  subst hspot
                  simp only [Addr.add]
                  split <;> split <;> simp_all <;> omega
              rw [ha] at hu2
              exact ⟨c, u, by rw [hx]; exact hcj, hu2, hspot, (cell?_lt hu2).1, hvs.rep j c u hcj hu1⟩
            cases sh with
            | none =>
              match vs, hvl, hvs with
              | [c], _, hvs =>
                have h1 := hvs.one c (by simp)
                exact fin c (by cases c <;> first | rfl | simp [V.one] at h1) (by cases c <;> first | rfl | simp [V.one] at h1)
            | some k => exact fin (.agg vs) rfl (by simp [V.shape]; exact hvl)
          obtain ⟨xs, hxl, hxs⟩ := choose_list len elem
          have hmemx : ∀ x ∈ xs, ∃ i, i < len ∧ xs[i]? = some x := fun x hx => by
            obtain ⟨i, hi⟩ := List.mem_iff_getElem?.1 hx
            exact ⟨i, by rw [← hxl]; exact (List.getElem?_eq_some_iff.1 hi).1, hi⟩
          have hshape : ∀ x ∈ xs, x.shape = sh := fun x hx => by obtain ⟨i, _, hi⟩ := hmemx x hx; exact (hxs i x hi).1
          have hone : ∀ c ∈ V.flat xs, c.one = true := fun c hc => by
            obtain ⟨x, hx, hcx⟩ := List.mem_flatMap.1 hc
            obtain ⟨i, _, hi⟩ := hmemx x hx
            exact (hxs i x hi).2.2.1 c hcx
          have hty : Ty P t [.sl sh false xs] := .sl t e sh hu hsh xs (by omega) hshape fun x hx => by obtain ⟨i, _, hi⟩ := hmemx x hx; exact (hxs i x hi).2.1
          have hbulk : V.bulkL xs ≤ Go.Proofs.YtbifjffjibnjjaaDoor.Rows.uptoBulkAll (elems.map (·.1)) := by
            have key : ∀ (xs : List V) (es : List (DataW H × List MemPlace)), xs.length = es.length → (∀ (i : Nat) x, xs[i]? = some x → ∃ y, es[i]? = some y ∧ x.bulk ≤ Go.Proofs.YtbifjffjibnjjaaDoor.Rows.uptoBulk y.1) → V.bulkL xs ≤ Go.Proofs.YtbifjffjibnjjaaDoor.Rows.uptoBulkAll (es.map (·.1)) := by
              intro xs
              induction xs with
              | nil => intro es _ _; simp [V.bulkL]
              | cons x xs ih3 =>
                intro es hl hh
                cases es with
                | nil => simp at hl
                | cons y es =>
                  have h1 := ih3 es (by simpa using hl) fun i x hx => by simpa using hh (i + 1) x (by simpa using hx)
                  obtain ⟨y', hy', hb⟩ := hh 0 x rfl
                  simp at hy'
                  subst hy'
                  simp only [V.bulkL, List.map_cons, Go.Proofs.YtbifjffjibnjjaaDoor.Rows.uptoBulkAll]
                  omega
            exact key xs elems (by omega) fun i x hx => (hxs i x hx).2.2.2.1
          refine ⟨[.sl sh false xs], cs_one hty rfl ?_ ?_⟩
          · by_cases hx0 : xs = []
            · subst hx0
              have hl0 : len = 0 := by simpa using hxl.symm
              subst hl0
              by_cases hc0 : cap = 0
              · subst hc0; exact .slNil sh false (some a)
              · -- room to spare: its first cell is read too
                obtain ⟨hr1, hr2⟩ := hsp rfl
                have h3 := hr2 0 (by omega)
                obtain ⟨y0, hy0⟩ : ∃ y, rest[0]? = some y := ⟨_, List.getElem?_eq_getElem (by omega)⟩
                rw [hy0, Option.bind_eq_some_iff] at h3
                obtain ⟨cs0, hcs0, _⟩ := h3
                obtain ⟨u0, _, hu0⟩ := (cells?_get hcs0).2 0 (by omega)
                have hspot := (cell?_lt hu0).2
                simp only [Nat.zero_add, Nat.zero_mul, Addr.add, if_true] at hspot
                have ha : a = ⟨a.block, a.off, none⟩ := addr_eta hspot
                rw [ha]
                exact .sl sh false [] a.block a.off cap (fun _ => undef) (by simp) (by simp [V.flat]) (by simp) hm (by simp) (by simp) (by simp [V.flat])
            · have hpos : 0 < xs.length := List.length_pos_iff.2 hx0
              obtain ⟨x0, hx0'⟩ : ∃ x, xs[0]? = some x := ⟨_, List.getElem?_eq_getElem hpos⟩
              obtain ⟨_, _, _, _, hspot, _, _⟩ := (hxs 0 x0 hx0').2.2.2.2 0 h0
              have ha : a = ⟨a.block, a.off, none⟩ := addr_eta hspot
              rw [ha, ← hxl]
              have hcell : ∀ k, k < xs.length * shn sh → ∃ c u, (V.flat xs)[k]? = some c ∧ w.cell? ⟨a.block, a.off + k, none⟩ = some u ∧ a.block < w.heap.size ∧ RepV w (fun b _ => b < w.heap.size) c u := by
                intro k hk
                have hi : k / shn sh < xs.length := Nat.div_lt_of_lt_mul (by rw [Nat.mul_comm]; exact hk)
                have hj : k % shn sh < shn sh := Nat.mod_lt _ h0
                obtain ⟨x, hx⟩ : ∃ x, xs[k / shn sh]? = some x := ⟨_, List.getElem?_eq_getElem hi⟩
                obtain ⟨c, u, h1, h2, _, h4, h5⟩ := (hxs _ x hx).2.2.2.2 _ hj
                have hk' : k / shn sh * shn sh + k % shn sh = k := Nat.div_add_mod' k (shn sh)
                rw [hk'] at h2
                refine ⟨c, u, ?_, h2, h4, h5⟩
                have hfl : ∀ (l : List V) (i j : Nat) (x : V), (∀ x ∈ l, x.shape = sh) → l[i]? = some x → j < shn sh → (V.flat l)[i * shn sh + j]? = x.cells[j]? := by
                  intro l
                  induction l with
                  | nil => intro i j x _ h; simp at h
                  | cons y l ih4 =>
                    intro i j x hs h hj
                    have hyl : y.cells.length = shn sh := by rw [V.cells_length, hs y (by simp)]
                    simp only [V.flat, List.flatMap_cons]
                    cases i with
                    | zero => simp at h; subst h; rw [Nat.zero_mul, Nat.zero_add, List.getElem?_append_left (by omega)]
                    | succ i =>
                      rw [List.getElem?_append_right (by rw [hyl, Nat.add_mul]; omega), hyl, show (i + 1) * shn sh + j - shn sh = i * shn sh + j by rw [Nat.add_mul]; omega]
                      exact ih4 i j x (fun z hz => hs z (by simp [hz])) (by simpa using h) hj
                rw [← hk', hfl xs _ _ x hshape hx hj, h1]
              refine .sl sh false xs a.block a.off cap (fun k => (w.cell? ⟨a.block, a.off + k, none⟩).getD undef) hshape hone (by omega) hm (by simp) (fun k hk => ?_) fun k c hk => ?_
              · obtain ⟨c, u, _, h2, h3, _⟩ := hcell k hk
                rw [h2]
                exact ⟨rfl, h3⟩
              · have hlt : k < xs.length * shn sh := by rw [← V.flat_length hshape]; exact (List.getElem?_eq_some_iff.1 hk).1
                obtain ⟨c', u, h1, h2, _, h4⟩ := hcell k hlt
                rw [hk] at h1
                cases h1
                rw [h2]
                exact h4
          · simp only [V.bulk, Go.Proofs.YtbifjffjibnjjaaDoor.Rows.uptoBulk]
            omega
      · cases hp
    · rename_i fs hu
      simp only [Bool.and_eq_true, List.all_eq_true, List.contains_iff_mem] at hp
      obtain ⟨xs, n', hn, rfl, hlen, hxl, hx⟩ := DataW.trod_struct hu h
      cases hn
      obtain ⟨parts, p1, p2, p3, p4, p5, p6, p7⟩ := cs_fields (cs_of_trod hT n) fs.toList 0 xs hp.1 (by rw [hlen]; exact hp.2) (by simpa using hxl) fun i f hf => hx i f (by simpa using hf)
      exact ⟨parts.flatten, .struct t fs hu parts (by simpa using p1) (fun i f p hf hp' => p2 i f p (by simpa using hf) hp'), by simpa using p4, p5, fun i c u hc hu' => p6 i c u hc (by simpa using hu'), by
        simp only [Go.Proofs.YtbifjffjibnjjaaDoor.Rows.uptoBulk]; omega⟩
    · cases hp
end

/-! ### What a type tells of its cells -/
section
variable {P : Program} {t : TypeId} {cs : List V}
theorem Ty.bool_inv (hu : P.underlying t = some .bool) (h : Ty P t cs) : ∃ b, cs = [.bool b] := by
  cases h with
  | bool _ _ b => exact ⟨b, rfl⟩
  | int _ k h => rw [hu] at h; cases h
  | str _ h => rw [hu] at h; cases h
  | sl _ e sh h => rw [hu] at h; cases h
  | struct _ fs h => rw [hu] at h; cases h
theorem Ty.int_inv {k : IntKind} (hu : P.underlying t = some (.int k)) (h : Ty P t cs) : ∃ n, cs = [.int k n] ∧ inR k n := by
  cases h with
  | bool _ h b => rw [hu] at h; cases h
  | int _ k h n hn => rw [hu] at h; cases h; exact ⟨n, rfl, hn⟩
  | str _ h => rw [hu] at h; cases h
  | sl _ e sh h => rw [hu] at h; cases h
  | struct _ fs h => rw [hu] at h; cases h
theorem Ty.str_inv (hu : P.underlying t = some .string) (h : Ty P t cs) : ∃ s, cs = [.str s] ∧ s.length ≤ maxLen := by
  cases h with
  | bool _ h b => rw [hu] at h; cases h
  | int _ k h n hn => rw [hu] at h; cases h
  | str _ h s hs => exact ⟨s, rfl, hs⟩
  | sl _ e sh h => rw [hu] at h; cases h
  | struct _ fs h => rw [hu] at h; cases h
theorem Ty.sl_inv {e : TypeId} {sh : Sh} (hu : P.underlying t = some (.slice e)) (hsh : tsh P e = some sh) (h : Ty P t cs) : ∃ xs, cs = [.sl sh false xs] ∧ xs.length ≤ maxLen ∧ ∀ x ∈ xs, x.shape = sh ∧ Ty P e x.cells := by
  cases h with
  | bool _ h b => rw [hu] at h; cases h
  | int _ k h n hn => rw [hu] at h; cases h
  | str _ h s hs => rw [hu] at h; cases h
  | sl _ e sh h hsh' xs hl hs hx => rw [hu] at h; cases h; rw [hsh] at hsh'; cases hsh'; exact ⟨xs, rfl, hl, fun x hx' => ⟨hs x hx', hx x hx'⟩⟩
  | struct _ fs h => rw [hu] at h; cases h
theorem Ty.struct_inv {fs : Array Field} (hu : P.underlying t = some (.struct fs)) (h : Ty P t cs) : ∃ parts : List (List V), cs = parts.flatten ∧ parts.length = fs.size ∧ ∀ (i : Nat) f p, fs[i]? = some f → parts[i]? = some p → Ty P f.type p := by
  cases h with
  | bool _ h b => rw [hu] at h; cases h
  | int _ k h n hn => rw [hu] at h; cases h
  | str _ h s hs => rw [hu] at h; cases h
  | sl _ e sh h => rw [hu] at h; cases h
  | struct _ fs h parts hl hf => rw [hu] at h; cases h; exact ⟨parts, rfl, hl, hf⟩
end

/-- A list of values that all stand for data of a kind is the data's list. -/
theorem list_of_all {α : Type} {enc : α → V} : ∀ {xs : List V}, (∀ x ∈ xs, ∃ a, x = enc a) → ∃ l : List α, xs = l.map enc
  | [], _ => ⟨[], rfl⟩
  | x :: xs, h => by
    obtain ⟨a, ha⟩ := h x (by simp)
    obtain ⟨l, hl⟩ := list_of_all (enc := enc) (xs := xs) fun y hy => h y (by simp [hy])
    exact ⟨a :: l, by rw [ha, hl]; rfl⟩

/-! ### A law -/

/-- What stands for an argument of a type. -/
structure Arg (P : Program) (t : TypeId) (x : V) : Prop where
  ty : Ty P t x.cells
  sh : tsh P t = some x.shape

def TyAll (P : Program) : List TypeId → List (List V) → Prop
  | [], [] => True
  | t :: ts, p :: ps => Ty P t p ∧ TyAll P ts ps
  | _, _ => False

section
variable {P : Program} {t : TypeId} {x : V}
theorem Arg.one (hs : tsh P t = some none) (h : Arg P t x) : x.cells = [x] := by
  have h1 := h.sh
  rw [hs] at h1
  exact (shape_none (Option.some.inj h1).symm).1
theorem Arg.int {k : IntKind} (hu : P.underlying t = some (.int k)) (hs : tsh P t = some none) (h : Arg P t x) : ∃ n, x = .int k n ∧ inR k n := by
  have h1 := h.ty
  rw [h.one hs] at h1
  obtain ⟨n, e, hn⟩ := h1.int_inv hu
  exact ⟨n, (List.cons.inj e).1, hn⟩
theorem Arg.bool (hu : P.underlying t = some .bool) (hs : tsh P t = some none) (h : Arg P t x) : ∃ b, x = .bool b := by
  have h1 := h.ty
  rw [h.one hs] at h1
  obtain ⟨n, e⟩ := h1.bool_inv hu
  exact ⟨n, (List.cons.inj e).1⟩
theorem Arg.str (hu : P.underlying t = some .string) (hs : tsh P t = some none) (h : Arg P t x) : ∃ s, x = .str s ∧ s.length ≤ maxLen := by
  have h1 := h.ty
  rw [h.one hs] at h1
  obtain ⟨n, e, hn⟩ := h1.str_inv hu
  exact ⟨n, (List.cons.inj e).1, hn⟩
theorem Arg.sl {e : TypeId} {sh : Sh} (hu : P.underlying t = some (.slice e)) (hs : tsh P t = some none) (he : tsh P e = some sh) (h : Arg P t x) : ∃ xs, x = .sl sh false xs ∧ xs.length ≤ maxLen ∧ ∀ y ∈ xs, Arg P e y := by
  have h1 := h.ty
  rw [h.one hs] at h1
  obtain ⟨xs, e1, hn, hx⟩ := h1.sl_inv hu he
  exact ⟨xs, (List.cons.inj e1).1, hn, fun y hy => ⟨(hx y hy).2, by rw [he, (hx y hy).1]⟩⟩
theorem Arg.struct {fs : Array Field} {n : Nat} {ts : List TypeId} (hu : P.underlying t = some (.struct fs)) (hts : fs.toList.map (·.type) = ts) (hs : tsh P t = some (some n)) (h : Arg P t x) : ∃ parts : List (List V), x = .agg parts.flatten ∧ TyAll P ts parts := by
  have h1 := h.sh
  rw [hs] at h1
  obtain ⟨cs, rfl, _⟩ := agg_of_shape (Option.some.inj h1).symm
  obtain ⟨parts, e1, e2, e3⟩ := h.ty.struct_inv hu
  refine ⟨parts, by rw [← e1]; rfl, ?_⟩
  have key : ∀ (l : List Field) (ps : List (List V)), ps.length = l.length → (∀ (i : Nat) f p, l[i]? = some f → ps[i]? = some p → Ty P f.type p) → TyAll P (l.map (·.type)) ps := by
    intro l
    induction l with
    | nil => intro ps hl _; rw [List.eq_nil_of_length_eq_zero hl]; trivial
    | cons f l ih =>
      intro ps hl hp
      cases ps with
      | nil => simp at hl
      | cons p ps => exact ⟨hp 0 f p rfl rfl, ih ps (by simpa using hl) fun i g q h1 h2 => hp (i + 1) g q (by simpa using h1) (by simpa using h2)⟩
  rw [← hts]
  exact key fs.toList parts (by simpa using e2) fun i f p h1 h2 => e3 i f p (by simpa using h1) h2
end

theorem Arg.bytes {P : Program} {t e : TypeId} {x : V} (hu : P.underlying t = some (.slice e)) (hs : tsh P t = some none) (he : P.underlying e = some (.int .u8)) (hse : tsh P e = some none) (h : Arg P t x) : ∃ bs, x = .sl none false (bytesV bs) ∧ bs.length ≤ maxLen := by
  obtain ⟨xs, rfl, hl, hx⟩ := h.sl hu hs hse
  obtain ⟨bs, hb⟩ := list_of_all (enc := fun b : UInt8 => V.int .u8 b.toNat) (xs := xs) fun y hy => by
    obtain ⟨n, rfl, hn⟩ := (hx y hy).int he hse
    simp at hn
    refine ⟨UInt8.ofNat n.toNat, ?_⟩
    have : (UInt8.ofNat n.toNat).toNat = n.toNat := by simp; omega
    rw [this]
    congr 1
    omega
  subst hb
  exact ⟨bs, rfl, by simpa using hl⟩

def Args (P : Program) : List TypeId → List V → Prop
  | [], [] => True
  | t :: ts, x :: xs => Arg P t x ∧ Args P ts xs
  | _, _ => False

section
variable {H : Type} {enc : TypeId × Value → H} {P : Program} {w : World}

theorem arg_of {T : List TypeId} (hT : plainSet P T = true) {t : TypeId} {v : Value} {d : DataW H} {ps : List MemPlace} {base : Nat} (ht : t ∈ T) (hsh : (tsh P t).isSome = true) (hval : Value.okWide P w .any base t v)
    (h : DataW.Trod enc P w 0 (fun _ => true) true t v d ps) : ∃ x, Arg P t x ∧ RepV w (fun b _ => b < w.heap.size) x v ∧ x.bulk ≤ Go.Proofs.YtbifjffjibnjjaaDoor.Rows.uptoBulk d := by
  obtain ⟨n, hn⟩ := h
  obtain ⟨vs, hvs⟩ := cs_of_trod hT n t _ _ ht hn
  obtain ⟨sh, hsh⟩ := Option.isSome_iff_exists.1 hsh
  obtain ⟨i, d', hi, hu, hq, hsz⟩ := tsh_spec hsh
  have hp := List.all_eq_true.1 hT t ht
  have scal : (∀ cs, v ≠ .agg cs) → d'.isRow = false → ∃ x, Arg P t x ∧ RepV w (fun b _ => b < w.heap.size) x v ∧ x.bulk ≤ Go.Proofs.YtbifjffjibnjjaaDoor.Rows.uptoBulk d := by
    intro hv hr
    have hc : v.cells.toList = [v] := by cases v <;> first | rfl | exact absurd rfl (hv _)
    have hlen := hvs.len
    rw [hc] at hlen
    match vs, hlen, hvs with
    | [x], _, hvs =>
      have h1 := hvs.one x (by simp)
      have hxc : x.cells = [x] := by cases x <;> first | rfl | simp [V.one] at h1
      have hxs : x.shape = none := by cases x <;> first | rfl | simp [V.one] at h1
      have hshn : sh = none := by
        cases sh with
        | none => rfl
        | some k => rw [hq.1] at hr; cases hr
      refine ⟨x, ⟨hxc ▸ hvs.ty, by rw [hxs, hsh, hshn]⟩, hvs.rep 0 x v rfl (by rw [hc]; rfl), ?_⟩
      have := hvs.bulk
      simpa [V.bulkL] using this
  have nagg : (∀ fs, P.underlying t ≠ some (.struct fs)) → (∀ n e, P.underlying t ≠ some (.array n e)) → (∀ ms, P.underlying t ≠ some (.interface ms)) → (∀ k e, P.underlying t ≠ some (.map k e)) → ∀ cs, v ≠ .agg cs := by
    rintro h1 h2 h3 h4 cs rfl
    unfold Value.okWide at hval
    rw [hu] at hval h1 h2 h3 h4
    cases d' <;> simp [Cell.okWide, Cell.ok, hu] at hval h1 h2 h3 h4
  split at hp
  · rename_i hu'
    have e : d' = .bool := by rw [hu] at hu'; exact Option.some.inj hu'
    subst e
    exact scal (nagg (by simp [hu]) (by simp [hu]) (by simp [hu]) (by simp [hu])) rfl
  · rename_i k hu'
    have e : d' = .int k := by rw [hu] at hu'; exact Option.some.inj hu'
    subst e
    exact scal (nagg (by simp [hu]) (by simp [hu]) (by simp [hu]) (by simp [hu])) rfl
  · rename_i hu'
    have e : d' = .string := by rw [hu] at hu'; exact Option.some.inj hu'
    subst e
    exact scal (nagg (by simp [hu]) (by simp [hu]) (by simp [hu]) (by simp [hu])) rfl
  · rename_i e0 hu'
    have e : d' = .slice e0 := by rw [hu] at hu'; exact Option.some.inj hu'
    subst e
    exact scal (nagg (by simp [hu]) (by simp [hu]) (by simp [hu]) (by simp [hu])) rfl
  · rename_i fs hu'
    have e : d' = .struct fs := by rw [hu] at hu'; exact Option.some.inj hu'
    subst e
    unfold Value.okWide at hval
    rw [hu] at hval
    obtain ⟨cs, rfl, hcs, _⟩ := hval
    have hshn : sh = some cs.size := by
      cases sh with
      | none => dsimp only at hq; simp [TypeDesc.isRow] at hq
      | some k =>
        rw [← hq.2, hcs]
        simp [Program.cellsOf, hi]
    refine ⟨.agg vs, ⟨hvs.ty, by rw [hsh, hshn]; simp only [V.shape]; rw [hvs.len]; simp [Value.cells]⟩, ?_, ?_⟩
    · have := RepV.agg (w := w) (F := fun b _ => b < w.heap.size) vs cs.toList (by simpa [Value.cells] using hvs.len) hvs.one (fun i c u hc hu => hvs.rep i c u hc (by simpa [Value.cells] using hu))
      simpa using this
    · have := hvs.bulk
      simpa [V.bulk] using this
  · cases hp

theorem args_of {T : List TypeId} (hT : plainSet P T = true) {base : Nat} : ∀ {ts : List TypeId} {vs : List Value} {ds : List (DataW H)} {ps : List MemPlace}, (∀ t ∈ ts, t ∈ T ∧ (tsh P t).isSome = true) →
    (∀ (j : Nat) t v, ts[j]? = some t → vs[j]? = some v → Value.okWide P w .any base t v) → DataW.TrodAll enc P w 0 (fun _ => true) true ts vs ds ps →
    ∃ xs : List V, Args P ts xs ∧ xs.length = vs.length ∧ (∀ (i : Nat) x v, xs[i]? = some x → vs[i]? = some v → RepV w (fun b _ => b < w.heap.size) x v) ∧ V.bulkL xs ≤ Go.Proofs.YtbifjffjibnjjaaDoor.Rows.uptoBulkAll ds
  | [], [], [], _, _, _, _ => ⟨[], trivial, rfl, by simp, by simp [V.bulkL]⟩
  | t :: ts, v :: vs, d :: ds, _, hm, hval, ⟨p, q, h1, h2, _⟩ => by
    obtain ⟨xs, e1, e2, e3, e4⟩ := args_of hT (fun t ht => hm t (by simp [ht])) (fun j t v h3 h4 => hval (j + 1) t v (by simpa using h3) (by simpa using h4)) h2
    obtain ⟨x, f1, f2, f3⟩ := arg_of hT (hm t (by simp)).1 (hm t (by simp)).2 (hval 0 t v rfl rfl) h1
    refine ⟨x :: xs, ⟨f1, e1⟩, by simp [e2], fun i y u hy hu => ?_, by simp only [V.bulkL, Go.Proofs.YtbifjffjibnjjaaDoor.Rows.uptoBulkAll]; omega⟩
    cases i with
    | zero => simp at hy hu; subst hy hu; exact f2
    | succ i => exact e3 i y u (by simpa using hy) (by simpa using hu)

theorem trodAll_stays (hl : laidOutB P = true) {w' : World} {sp' : Nat → Bool} : ∀ {ts : List TypeId} {vs : List Value} {ds : List (DataW H)} {ps : List MemPlace}, (∀ t ∈ ts, P.readableRec t = true ∧ t < P.types.size) →
    (∀ p ∈ ps, w.sameAt w' p) → (∀ p ∈ ps, sp' p.block = true) → DataW.TrodAll enc P w 0 (fun _ => true) true ts vs ds ps → DataW.TrodAll enc P w' 0 sp' true ts vs ds ps
  | [], [], [], _, _, _, _, h => h
  | t :: ts, v :: vs, d :: ds, _, hr, hs, hb, ⟨p, q, h1, h2, e⟩ => by
    subst e
    exact ⟨p, q, Go.WideElems.Trod_stays hl (hr t (by simp)).1 (hr t (by simp)).2 h1 (fun x hx => hs x (by simp [hx])) (fun x hx => hb x (by simp [hx])),
      trodAll_stays hl (fun t ht => hr t (by simp [ht])) (fun x hx => hs x (by simp [hx])) (fun x hx => hb x (by simp [hx])) h2, rfl⟩

theorem trodAll_len {sp : Nat → Bool} {held : Bool} : ∀ {ts : List TypeId} {vs : List Value} {ds : List (DataW H)} {ps : List MemPlace}, DataW.TrodAll enc P w 0 sp held ts vs ds ps → ds.length = ts.length
  | [], [], [], _, _ => rfl
  | _ :: _, _ :: _, _ :: _, _, ⟨_, _, _, h, _⟩ => by simp [trodAll_len h]

/-- A law's row, out of its contract. -/
theorem law_calls {T : List TypeId} (hT : plainSet P T = true) (hl : laidOutB P = true) {f : Nat} {fn : Func} (htsB : (fn.params.toList.all fun t => T.contains t && (tsh P t).isSome && P.readableRec t && decide (t < P.types.size)) = true) {rt : TypeId} (hrt : fn.resultTypes = #[rt])
    (hb : P.underlying rt = some .bool) {W : World} {base : Nat} {args : Array Value} {ds gs : List (DataW H)} {before : List MemPlace}
    (hval : ∀ (j : Nat) t v, fn.params[j]? = some t → args[j]? = some v → Value.okWide P W .any base t v) (s : ChangeSpec) (hsv : s.vars = []) (hW : DataW.Whole enc P fn.params.toList s.vars false W args.toList ds gs before)
    (hs : ∀ ds : List (DataW H), ds.length = fn.params.toList.length → s.fn H ds = { results := [.lit (.bool true)], args := ds })
    (hA : ∀ xs : List V, Args P fn.params.toList xs → V.bulkL xs ≤ Go.Proofs.YtbifjffjibnjjaaDoor.Rows.uptoBulkAll (ds ++ gs) → ACalls P f (xs.map .v) ⟨[], []⟩ fun r _ => r = .v (.bool true)) (hG : ∀ p ∈ globs, ∃ cs ty fr, W.heap[p.1]? = some (.cells cs ty fr) ∧ p.2 cs := by simp [globs]) :
    Calls P f args W fun e W' => ∃ v, e = .returned v ∧ s.post enc P fn false true false false W args v W' := by
  have hts : ∀ t ∈ fn.params.toList, (t ∈ T ∧ (tsh P t).isSome = true) ∧ P.readableRec t = true ∧ t < P.types.size := by
    intro t ht
    have := List.all_eq_true.1 htsB t ht
    simp only [Bool.and_eq_true, List.contains_iff_mem, decide_eq_true_eq] at this
    exact ⟨this.1.1, this.1.2, this.2⟩
  have hW' := hW
  obtain ⟨p, q, hta, htv, hps, hz, _⟩ := hW
  rw [hsv] at htv
  obtain ⟨rfl, rfl⟩ := trodVars_none htv
  have hs : ([] : List (DataW H)) = [] → s.fn H (ds ++ []) = { results := [.lit (.bool true)], args := ds } := fun _ => by
    rw [List.append_nil]
    exact hs ds (trodAll_len hta)
  obtain ⟨xs, e1, e2, e3, e4⟩ := args_of hT (fun t ht => (hts t ht).1) (fun j t v h1 h2 => hval j t v (by simpa using h1) (by simpa using h2)) hta
  have hI : Inv ⟨[], []⟩ ⟨[], []⟩ W := ⟨rfl, rfl, by simp [Gh.blocks, Gh.ownb, Gh.objb], by simp, by simp, by simp, fun p hp => ⟨hG p hp, by simp [Gh.blocks, Gh.ownb, Gh.objb]⟩⟩
  have hrun := (hA xs e1 (by simpa using e4)).2 ⟨[], []⟩ W args.toList hI (by simp [e2]) fun i d u hd hu => by
    simp only [List.getElem?_map] at hd
    cases hx : xs[i]? with
    | none => rw [hx] at hd; cases hd
    | some x =>
      rw [hx] at hd
      cases hd
      exact .v x u ((e3 i x u hx hu).mono fun b off h => ⟨rfl, h, by rintro (h | ⟨tk, h, _⟩) <;> cases h⟩)
  have hargs : args.toList.toArray = args := by simp
  rw [hargs] at hrun
  refine hrun.mono ?_
  rintro e W' ⟨v, r, σ', m', rfl, rfl, _, hX, hR⟩
  have hv := hR.bool_inv
  subst hv
  have hheap : ∀ b, b < W.heap.size → W'.heap[b]? = W.heap[b]? := fun b hb => (hX.blocks b hb (by simp [Gh.blocks, Gh.ownb, Gh.objb])).1
  have hlt : ∀ x ∈ p, x.block < W.heap.size := fun x hx => DataW.TrodAll.lt hta x hx
  have hsame : ∀ x ∈ p, W.sameAt W' x := by
    intro x hx
    have hb := hheap x.block (hlt x hx)
    cases x with
    | cell b off => exact cell?_of_heap hb
    | map b => exact hb
  refine ⟨_, rfl, ds, [], before, [], p, [], hW', ?_, ?_, ?_, ?_, fun h => by cases h⟩
  · rw [hs rfl, hrt]
    exact trodAll_cons_mk (shut_bool hb _) trodAll_mk0
  · rw [hs rfl]
    exact trodAll_stays hl (fun t ht => (hts t ht).2) hsame (fun x hx => by simpa using hlt x hx) hta
  · rw [hs rfl, hsv]
    exact (rfl : ([] : List MemPlace) = [])
  · refine ⟨hX.os, hX.output, fun i hi => ?_⟩
    rw [hheap i hi]
    cases W.heap[i]? with
    | none => trivial
    | some o => cases o <;> simp
end

end Go.Abs

/-
  Core expressions: what they stand for; how great they are. (Own work.)
-/
set_option linter.unusedVariables false
set_option linter.unusedSimpArgs false
namespace Go.Proofs.YtbifjffjibnjjaaDoor
open Go Go.Abs

/-- An expression without labels. -/
inductive Co where
  | mk (k n : Int) (s t : Str) (ns : List Str) (l : List Co)

mutual
def encC : Co → V
  | .mk k n s t ns l => .agg [.int .i64 k, .int .i64 n, .str s, .str t, .sl none false (ns.map .str), .sl (some 6) false (encCs l)]
def encCs : List Co → List V
  | [] => []
  | x :: l => encC x :: encCs l
end
theorem encCs_eq : ∀ l, encCs l = l.map encC
  | [] => by simp [encCs]
  | x :: l => by simp [encCs, encCs_eq l]
theorem encC_mk {k n : Int} {s t : Str} {ns : List Str} {l : List Co} : encC (.mk k n s t ns l) = .agg [.int .i64 k, .int .i64 n, .str s, .str t, .sl none false (ns.map .str), .sl (some 6) false (l.map encC)] := by
  rw [encC, encCs_eq]
theorem encC_shape (e : Co) : (encC e).shape = some 6 := by
  cases e
  rw [encC_mk]
  rfl
attribute [irreducible] encC

theorem Co.ind {P : Co → Prop} (h : ∀ k n s t ns l, (∀ x ∈ l, P x) → P (.mk k n s t ns l)) (e : Co) : P e := by
  refine Co.rec (motive_1 := P) (motive_2 := fun l => ∀ x ∈ l, P x) (fun k n s t ns l ih => h k n s t ns l ih) (by simp) (fun x l h1 h2 y hy => ?_) e
  rcases List.mem_cons.1 hy with rfl | hy
  · exact h1
  · exact h2 y hy

/-- How great: with all texts. -/
def nsz : List Str → Nat
  | [] => 0
  | x :: l => x.length + 1 + nsz l
mutual
def csz : Co → Nat
  | .mk _ _ s t ns l => 6 + s.length + t.length + nsz ns + cszL l
def cszL : List Co → Nat
  | [] => 0
  | x :: l => csz x + cszL l
end
theorem bulk_strs : ∀ ns : List Str, V.bulkL (ns.map .str) = nsz ns
  | [] => rfl
  | x :: l => by simp [V.bulkL, V.bulk, nsz, bulk_strs l]
theorem bulk_co (e : Co) : (encC e).bulk = csz e := by
  refine Co.ind (P := fun e => (encC e).bulk = csz e) (fun k n s t ns l ih => ?_) e
  have hl : V.bulkL (l.map encC) = cszL l := by
    clear e
    induction l with
    | nil => rfl
    | cons x l ih2 => simp only [List.map_cons, V.bulkL, cszL]; rw [ih x (by simp), ih2 fun y hy => ih y (by simp [hy])]
  rw [encC_mk]
  simp only [V.bulk, V.bulkL, csz, bulk_strs, hl]
  omega
theorem nsz_get {l : List Str} {i : Nat} {x : Str} (h : l[i]? = some x) : nsz (l.take (i + 1)) = nsz (l.take i) + (x.length + 1) := by
  induction l generalizing i with
  | nil => simp at h
  | cons y l ih =>
    cases i with
    | zero => simp at h; subst h; simp [nsz]
    | succ i => have := ih (by simpa using h); simp only [List.take_succ_cons, nsz] at *; omega
theorem cszL_get {l : List Co} {i : Nat} {x : Co} (h : l[i]? = some x) : cszL (l.take (i + 1)) = cszL (l.take i) + csz x := by
  induction l generalizing i with
  | nil => simp at h
  | cons y l ih =>
    cases i with
    | zero => simp at h; subst h; simp [cszL]
    | succ i => have := ih (by simpa using h); simp only [List.take_succ_cons, cszL] at *; omega
theorem nsz_take (l : List Str) (i : Nat) : nsz (l.take i) ≤ nsz l := by
  induction l generalizing i with
  | nil => simp
  | cons y l ih =>
    cases i with
    | zero => simp [nsz]
    | succ i => have := ih i; simp only [List.take_succ_cons, nsz]; omega
theorem cszL_take (l : List Co) (i : Nat) : cszL (l.take i) ≤ cszL l := by
  induction l generalizing i with
  | nil => simp
  | cons y l ih =>
    cases i with
    | zero => simp [cszL]
    | succ i => have := ih i; simp only [List.take_succ_cons, cszL]; omega
theorem nsz_len (l : List Str) : l.length ≤ nsz l := by
  induction l with
  | nil => simp
  | cons y l ih => simp only [nsz, List.length_cons]; omega
theorem csz_pos (e : Co) : 6 ≤ csz e := by cases e; simp only [csz]; omega
theorem cszL_len (l : List Co) : 6 * l.length ≤ cszL l := by
  induction l with
  | nil => simp
  | cons y l ih => have := csz_pos y; simp only [cszL, List.length_cons]; omega
theorem cszL_mem {l : List Co} {x : Co} (h : x ∈ l) : csz x ≤ cszL l := by
  induction l with
  | nil => cases h
  | cons y l ih =>
    simp only [cszL]
    rcases List.mem_cons.1 h with rfl | h
    · omega
    · have := ih h; omega

structure CSt where
  i : Nat
  m : Int
theorem k_Count (e : Co) : ∀ {m : Int} {σ : Sg}, csz e ≤ 1048576 → -2000000 ≤ m → m ≤ 2000000 → ACalls Tryd.prog 30 [.v (encC e), .v (.int .i64 m)] σ fun r σ' => (∃ m' : Int, m - csz e ≤ m' ∧ m' ≤ m ∧ r = .v (.int .i64 m')) ∧ σ' = σ := by
  refine Co.ind (P := fun e => ∀ {m : Int} {σ : Sg}, csz e ≤ 1048576 → -2000000 ≤ m → m ≤ 2000000 → ACalls Tryd.prog 30 [.v (encC e), .v (.int .i64 m)] σ fun r σ' => (∃ m' : Int, m - csz e ≤ m' ∧ m' ≤ m ∧ r = .v (.int .i64 m')) ∧ σ' = σ) (fun k n s t ns l ih => ?_) e
  intro m σ he h1 h2
  simp only [csz] at he ⊢
  have hnl := nsz_len ns
  have hll := cszL_len l
  rw [encC_mk]
  refine acalls_fit Tryd.func30 (by kernel_rfl) c30 rfl (by simp [a30]) fun hf => ?_
  clear hf
  simp -implicitDefEqProofs (maxSteps := 2000000) (disch := omega) [-getElem?_pos, a30]
  obtain ⟨os, hos⟩ : ∃ os, os = σ.objs ++ [Ob.cells [.v (.int .i64 k), .v (.int .i64 n), .v (.str s), .v (.str t), .v (.sl none false (ns.map .str)), .v (.sl (some 6) false (l.map encC))]] := ⟨_, rfl⟩
  have ho : os[σ.objs.length]? = some (Ob.cells [.v (.int .i64 k), .v (.int .i64 n), .v (.str s), .v (.str t), .v (.sl none false (ns.map .str)), .v (.sl (some 6) false (l.map encC))]) := by rw [hos]; simp
  refine W_loop (α := CSt) ⟨0, m - 1 - s.length - t.length⟩ (fun x => ns.length - x.i) (fun x => ⟨[(2, .ptr σ.objs.length 0), (1, .v (.int .i64 x.m)), (5, .v (.int .i64 x.i))], ⟨os, σ.toks⟩⟩)
    (fun x => x.i ≤ ns.length ∧ x.m = m - 1 - s.length - t.length - nsz (ns.take x.i)) (.eq2 (by simp [hos]) (by simp)) ⟨by simp, by simp [nsz]⟩ fun ⟨i, m1⟩ ⟨hi, hm⟩ => ?_
  dsimp only at hi hm ⊢
  have hnt := nsz_take ns i
  simp -implicitDefEqProofs (maxSteps := 2000000) (disch := omega) [-getElem?_pos, ho]
  refine .mk (fun h => ?_) fun h => ?_
  · simp -implicitDefEqProofs (maxSteps := 2000000) (disch := omega) [-getElem?_pos, ho]
    refine ⟨by omega, ?_⟩
    intro x hx
    have hx1 := nsz_get hx
    have hx2 := nsz_take ns (i + 1)
    simp -implicitDefEqProofs (maxSteps := 2000000) (disch := omega) [-getElem?_pos, ho]
    refine ⟨⟨i + 1, m1 - 1 - x.length⟩, ⟨by dsimp only; omega, by dsimp only; omega⟩, by dsimp only; omega, .eq (by simp)⟩
  rw [List.take_of_length_le (by omega)] at hm
  clear hnt
  simp -implicitDefEqProofs (maxSteps := 2000000) (disch := omega) [-getElem?_pos, ho]
  refine W_loop (α := CSt) ⟨0, m1⟩ (fun x => l.length - x.i) (fun x => ⟨[(2, .ptr σ.objs.length 0), (1, .v (.int .i64 x.m)), (6, .v (.int .i64 x.i))], ⟨os, σ.toks⟩⟩)
    (fun x => x.i ≤ l.length ∧ x.m ≤ m1 ∧ m1 - cszL (l.take x.i) ≤ x.m) (.eq (by simp)) ⟨by simp, by simp, by simp [cszL]⟩ fun ⟨i, m2⟩ ⟨hi, hm2, hm3⟩ => ?_
  dsimp only at hi hm2 hm3 ⊢
  have hlt := cszL_take l i
  simp -implicitDefEqProofs (maxSteps := 2000000) (disch := omega) [-getElem?_pos, ho]
  refine .mk (fun h => ?_) fun h => ?_
  · simp -implicitDefEqProofs (maxSteps := 2000000) (disch := omega) [-getElem?_pos, ho]
    refine .mk (fun h3 => ?_) fun h3 => ?_
    · simp -implicitDefEqProofs (maxSteps := 2000000) (disch := omega) [-getElem?_pos, ho]
      refine ⟨by omega, ?_⟩
      intro x hx
      have hx1 := cszL_get hx
      have hx2 := cszL_take l (i + 1)
      refine (ih x (List.mem_of_getElem? hx) (by omega) (by omega) (by omega)).then fun r hr => ?_
      obtain ⟨m', h5, h6, rfl⟩ := hr
      simp -implicitDefEqProofs (maxSteps := 2000000) (disch := omega) [-getElem?_pos, ho]
      refine ⟨⟨i + 1, m'⟩, ⟨by dsimp only; omega, by dsimp only; omega, by dsimp only; omega⟩, by dsimp only; omega, .eq (by simp)⟩
    · simp -implicitDefEqProofs (maxSteps := 2000000) (disch := omega) [-getElem?_pos, ho]
      subst hos
      exact .fin _ ⟨⟨m2, by omega, by omega, rfl⟩, rfl⟩ (.refl _)
  · simp -implicitDefEqProofs (maxSteps := 2000000) (disch := omega) [-getElem?_pos, ho]
    subst hos
    exact .fin _ ⟨⟨m2, by omega, by omega, rfl⟩, rfl⟩ (.refl _)

/-- Some truth. -/
def isB (r : D) : Prop := ∃ b, r = .v (.bool b)
theorem k_Few {e : Co} {σ : Sg} (he : csz e ≤ 1048576) : ACalls Tryd.prog 8 [.v (encC e)] σ fun r σ' => isB r ∧ σ' = σ := by
  have hc := fun σ => k_Count e (m := 5000) (σ := σ) he (by omega) (by omega)
  cases e with
  | mk k n s t ns l =>
  rw [encC_mk] at hc ⊢
  refine acalls_fit Tryd.func8 (by kernel_rfl) c8 rfl (by simp [a8]) fun hf => ?_
  clear hf
  simp -implicitDefEqProofs (maxSteps := 2000000) (disch := omega) [-getElem?_pos, a8]
  refine (hc _).then fun r hr => ?_
  obtain ⟨m', h5, h6, rfl⟩ := hr
  simp -implicitDefEqProofs (maxSteps := 2000000) (disch := omega) [-getElem?_pos]
  exact .fin _ ⟨⟨_, rfl⟩, rfl⟩ (.refl _)

/-- The names that an expression binds in its part. -/
def bnd (k : Int) (s t : Str) (ns : List Str) (i : Nat) : List Str :=
  if k = 4 then (if i = 0 then [s] else [])
  else if k = 6 then (if i = 1 then [s] else [])
  else if k = 7 then (if i = 1 then [s] else if i = 0 then [s, t] else [])
  else if k = 14 then (if i = 0 then [] else if (i - 1) / 2 < ns.length then (if i % 2 = 0 then (ns[(i - 1) / 2]?).toList else []) else [t])
  else []
theorem half_of {i : Nat} (h : 0 < i) : ∃ q p : Nat, ((i : Int) - 1).tdiv 2 = q ∧ (i : Int).tmod 2 = p ∧ (i - 1) / 2 = q ∧ i % 2 = p ∧ q ≤ i := by
  refine ⟨(i - 1) / 2, i % 2, ?_, ?_, rfl, rfl, by omega⟩
  · rw [Int.tdiv_eq_ediv_of_nonneg (by omega)]; omega
  · rw [Int.tmod_eq_emod_of_nonneg (by omega)]; omega
theorem beq_dec {a b : Str} : (a == b) = decide (a = b) := by cases h : decide (a = b) <;> simp at h <;> simp [h]
theorem k_Binds {k n : Int} {s t : Str} {ns : List Str} {l : List Co} {i : Nat} {x : Str} {σ : Sg} (hi : i ≤ 1048576) (hn : ns.length ≤ 1048576) :
    ACalls Tryd.prog 73 [.v (encC (.mk k n s t ns l)), .v (.int .i64 i), .v (.str x)] σ fun r σ' => r = .v (.bool (decide (x ∈ bnd k s t ns i))) ∧ σ' = σ := by
  rw [encC_mk]
  refine acalls_fit Tryd.func73 (by kernel_rfl) c73 rfl (by simp [a73]) fun hf => ?_
  clear hf
  by_cases h4 : k = 4
  · subst h4
    by_cases h0 : i = 0
    · subst h0
      simp -implicitDefEqProofs (maxSteps := 2000000) (disch := omega) [-getElem?_pos, a73]
      exact .fin _ ⟨by simp [bnd, beq_dec], rfl⟩ (.refl _)
    · simp -implicitDefEqProofs (maxSteps := 2000000) (disch := omega) [-getElem?_pos, a73, h0]
      exact .fin _ ⟨by simp [bnd, h0], rfl⟩ (.refl _)
  by_cases h6 : k = 6
  · subst h6
    by_cases h0 : i = 1
    · subst h0
      simp -implicitDefEqProofs (maxSteps := 2000000) (disch := omega) [-getElem?_pos, a73]
      exact .fin _ ⟨by simp [bnd, beq_dec], rfl⟩ (.refl _)
    · have h0i : ¬ (i : Int) = 1 := by omega
      simp -implicitDefEqProofs (maxSteps := 2000000) (disch := omega) [-getElem?_pos, a73, h0i]
      exact .fin _ ⟨by simp [bnd, h0], rfl⟩ (.refl _)
  by_cases h7 : k = 7
  · subst h7
    by_cases h0 : i = 0
    · subst h0
      simp -implicitDefEqProofs (maxSteps := 2000000) (disch := omega) [-getElem?_pos, a73]
      refine .mk (fun hq => ?_) fun hq => ?_
      · simp -implicitDefEqProofs (maxSteps := 2000000) (disch := omega) [-getElem?_pos]
        exact .fin _ ⟨by simp [bnd, hq], rfl⟩ (.refl _)
      · simp -implicitDefEqProofs (maxSteps := 2000000) (disch := omega) [-getElem?_pos]
        exact .fin _ ⟨by simp [bnd, beq_dec, hq], rfl⟩ (.refl _)
    by_cases h1 : i = 1
    · subst h1
      simp -implicitDefEqProofs (maxSteps := 2000000) (disch := omega) [-getElem?_pos, a73]
      refine .mk (fun hq => ?_) fun hq => ?_
      · simp -implicitDefEqProofs (maxSteps := 2000000) (disch := omega) [-getElem?_pos]
        exact .fin _ ⟨by simp [bnd, hq], rfl⟩ (.refl _)
      · simp -implicitDefEqProofs (maxSteps := 2000000) (disch := omega) [-getElem?_pos]
        exact .fin _ ⟨by simp [bnd, beq_dec, hq], rfl⟩ (.refl _)
    · have h2 : ¬ (i : Int) < 2 := by omega
      simp -implicitDefEqProofs (maxSteps := 2000000) (disch := omega) [-getElem?_pos, a73, h0, h1, h2]
      exact .fin _ ⟨by simp [bnd, h0, h1], rfl⟩ (.refl _)
  by_cases h14 : k = 14
  · subst h14
    by_cases h0 : i = 0
    · subst h0
      simp -implicitDefEqProofs (maxSteps := 2000000) (disch := omega) [-getElem?_pos, a73]
      exact .fin _ ⟨by simp [bnd], rfl⟩ (.refl _)
    · obtain ⟨q, p, hq, hr, hq', hr', hlt2⟩ := half_of (i := i) (by omega)
      simp -implicitDefEqProofs (maxSteps := 2000000) (disch := omega) [-getElem?_pos, a73, h0, hq, hr]
      refine .mk (fun hc => ?_) fun hc => ?_
      · simp -implicitDefEqProofs (maxSteps := 2000000) (disch := omega) [-getElem?_pos, hr]
        refine .mk (fun hm => ?_) fun hm => ?_
        · simp -implicitDefEqProofs (maxSteps := 2000000) (disch := omega) [-getElem?_pos]
          refine ⟨by omega, ?_⟩
          intro y hy
          exact .fin _ ⟨by simp only [bnd, h0, hq', hr', hc, hm, hy, beq_dec]; simp, rfl⟩ (.refl _)
        · simp -implicitDefEqProofs (maxSteps := 2000000) (disch := omega) [-getElem?_pos]
          exact .fin _ ⟨by simp [bnd, h0, hq', hr', hc, hm], rfl⟩ (.refl _)
      · simp -implicitDefEqProofs (maxSteps := 2000000) (disch := omega) [-getElem?_pos]
        exact .fin _ ⟨by simp [bnd, h0, hq', hc, beq_dec], rfl⟩ (.refl _)
  simp -implicitDefEqProofs (maxSteps := 2000000) (disch := omega) [-getElem?_pos, a73, h4, h6, h7, h14]
  exact .fin _ ⟨by simp [bnd, h4, h6, h7, h14], rfl⟩ (.refl _)
theorem one_slice {α : Type} {l : List α} {j : Nat} (h : j < l.length) : (l.take (j + 1)).drop j = (l[j]?).toList := by
  rw [List.take_add_one, List.drop_left' (by simp; omega)]
theorem k_binds {k n : Int} {s t : Str} {ns : List Str} {l : List Co} {i : Nat} {σ : Sg} (hi : i ≤ 1048576) (hn : ns.length ≤ 1048576) :
    ACalls Tryd.prog 70 [.v (encC (.mk k n s t ns l)), .v (.int .i64 i)] σ fun r σ' => r = .v (vS (bnd k s t ns i)) ∧ σ' = σ := by
  rw [encC_mk]
  refine acalls_fit Tryd.func70 (by kernel_rfl) c70 rfl (by simp [a70]) fun hf => ?_
  clear hf
  by_cases h4 : k = 4
  · subst h4
    by_cases h0 : i = 0
    · subst h0
      simp -implicitDefEqProofs (maxSteps := 2000000) (disch := omega) [-getElem?_pos, a70]
      exact .fin _ ⟨by simp [bnd], rfl⟩ .lax
    · simp -implicitDefEqProofs (maxSteps := 2000000) (disch := omega) [-getElem?_pos, a70, h0]
      exact .fin (.v (vS [])) ⟨by simp [bnd, h0], rfl⟩ .snil
  by_cases h6 : k = 6
  · subst h6
    by_cases h0 : i = 1
    · subst h0
      simp -implicitDefEqProofs (maxSteps := 2000000) (disch := omega) [-getElem?_pos, a70]
      exact .fin _ ⟨by simp [bnd], rfl⟩ .lax
    · have h0i : ¬ (i : Int) = 1 := by omega
      simp -implicitDefEqProofs (maxSteps := 2000000) (disch := omega) [-getElem?_pos, a70, h0i]
      exact .fin (.v (vS [])) ⟨by simp [bnd, h0], rfl⟩ .snil
  by_cases h7 : k = 7
  · subst h7
    by_cases h0 : i = 0
    · subst h0
      simp -implicitDefEqProofs (maxSteps := 2000000) (disch := omega) [-getElem?_pos, a70]
      exact .fin _ ⟨by simp [bnd], rfl⟩ .lax
    by_cases h1 : i = 1
    · subst h1
      simp -implicitDefEqProofs (maxSteps := 2000000) (disch := omega) [-getElem?_pos, a70]
      exact .fin _ ⟨by simp [bnd], rfl⟩ .lax
    · have h1i : ¬ (i : Int) = 1 := by omega
      simp -implicitDefEqProofs (maxSteps := 2000000) (disch := omega) [-getElem?_pos, a70, h0, h1i]
      exact .fin (.v (vS [])) ⟨by simp [bnd, h0, h1], rfl⟩ .snil
  by_cases h14 : k = 14
  · subst h14
    by_cases h0 : i = 0
    · subst h0
      simp -implicitDefEqProofs (maxSteps := 2000000) (disch := omega) [-getElem?_pos, a70]
      exact .fin (.v (vS [])) ⟨by simp [bnd], rfl⟩ .snil
    · obtain ⟨q, p, hq, hr, hq', hr', hlt2⟩ := half_of (i := i) (by omega)
      simp -implicitDefEqProofs (maxSteps := 2000000) (disch := omega) [-getElem?_pos, a70, h0, hq, hr]
      refine .mk (fun hc => ?_) fun hc => ?_
      · simp -implicitDefEqProofs (maxSteps := 2000000) (disch := omega) [-getElem?_pos, hr]
        refine .mk (fun hm => ?_) fun hm => ?_
        · simp -implicitDefEqProofs (maxSteps := 2000000) (disch := omega) [-getElem?_pos, hq]
          repeat refine ⟨by omega, ?_⟩
          exact .fin _ ⟨by rw [one_slice (by simpa using hc)]; simp [bnd, h0, hq', hr', hc, hm], rfl⟩ (.refl _)
        · simp -implicitDefEqProofs (maxSteps := 2000000) (disch := omega) [-getElem?_pos]
          exact .fin (.v (vS [])) ⟨by simp [bnd, h0, hq', hr', hc, hm], rfl⟩ .snil
      · simp -implicitDefEqProofs (maxSteps := 2000000) (disch := omega) [-getElem?_pos]
        exact .fin _ ⟨by simp [bnd, h0, hq', hc], rfl⟩ .lax
  simp -implicitDefEqProofs (maxSteps := 2000000) (disch := omega) [-getElem?_pos, a70, h4, h6, h7, h14]
  exact .fin (.v (vS [])) ⟨by simp [bnd, h4, h6, h7, h14], rfl⟩ .snil
end Go.Proofs.YtbifjffjibnjjaaDoor

/-
  Core expressions, plainly: what they come to. (Own work.)
-/
set_option linter.unusedVariables false
set_option linter.unusedSimpArgs false
namespace Go.Proofs.YtbifjffjibnjjaaDoor
open Go Go.Abs

mutual
inductive Vl where
  | int (n : Int)
  | text (s : Str)
  | fn (rc : Bool) (self param : Str) (part : Co) (env : En)
  | tup (l : List Vl)
  | tag (n : Int) (v : Vl)
  | ref (k : Nat)
inductive En where
  | nil
  | cons (x : Str) (v : Vl) (e : En)
end
/-- A machine: lines to read, fuel, the error, the fault, the trace, what references point to. -/
structure Ms where
  inp : List Str
  fuel : Nat
  err : Int
  fault : Int
  tr : List Str
  st : List Vl
/-- What comes of something: none: the run is over. -/
structure Rs (α : Type) where
  v : Option α
  m : Ms
def Rs.bind {α β : Type} (r : Rs α) (k : α → Ms → Rs β) : Rs β := match r with
  | ⟨none, m⟩ => ⟨none, m⟩
  | ⟨some a, m⟩ => k a m
def done {α : Type} (a : α) (m : Ms) : Rs α := ⟨some a, m⟩
def endM {α : Type} (e f : Int) (m : Ms) : Rs α := ⟨none, if m.err = 0 then { m with err := e, fault := f } else m⟩
def stuckM {α : Type} (m : Ms) : Rs α := endM 11 0 m
def lookE : En → Str → Option Vl
  | .nil, _ => none
  | .cons x v e, s => if x = s then some v else lookE e s
def zCo : Co := .mk 0 0 [] [] [] []
def prt (l : List Co) (i : Nat) : Co := (l[i]?).getD zCo
/-- How many parts a kind has. -/
def partsC (k : Int) (l ns : Nat) (t : Bool) : Int :=
  if k = 1 ∨ k = 2 ∨ k = 3 ∨ k = 22 then 0
  else if k = 4 ∨ k = 17 ∨ k = 18 ∨ k = 20 ∨ k = 21 then 1
  else if k = 5 ∨ k = 6 ∨ k = 7 ∨ k = 9 ∨ k = 11 ∨ k = 13 ∨ k = 16 ∨ k = 19 then 2
  else if k = 10 ∨ k = 12 ∨ k = 15 then 3
  else if k = 8 then l
  else if k = 14 then 1 + 2 * ns + (if t = true then 1 else 0)
  else -1
abbrev Rec := Co → En → Ms → Rs Vl
def allM (R : Rec) (env : En) : List Co → Ms → Rs (List Vl)
  | [], m => done [] m
  | x :: l, m => (R x env m).bind fun v m => (allM R env l m).bind fun vs m => done (v :: vs) m
def chooseM (R : Rec) (env : En) (a b c : Co) (m : Ms) : Rs Vl :=
  (R a env m).bind fun v m => match v with
    | .int n => if n ≠ 0 then R b env m else R c env m
    | _ => stuckM m
/-- The arms of a case, from arm i on. -/
def armsM (R : Rec) (env : En) (l : List Co) (t : Str) (n : Int) (w : Vl) : List Str → Nat → Int → Ms → Rs Vl
  | [], i, below, m => if t = [] then stuckM m else R (prt l (l.length - 1)) (.cons t (.tag (IntKind.i64.wrap (n - below)) w) env) m
  | x :: ns, i, below, m => (R (prt l (1 + 2 * i)) env m).bind fun v m => match v with
    | .int a => if a = n then R (prt l (2 + 2 * i)) (.cons x w env) m else armsM R env l t n w ns (i + 1) (if a < n then below + 1 else below) m
    | _ => stuckM m
def casesM (R : Rec) (env : En) (t : Str) (ns : List Str) (l : List Co) (m : Ms) : Rs Vl :=
  (R (prt l 0) env m).bind fun v m => match v with
    | .tag n w => armsM R env l t n w ns 0 0 m
    | _ => stuckM m
def applyM (R : Rec) : List Vl → Ms → Rs Vl
  | .fn rc self param part env :: v :: _, m => R part (.cons param v (if rc = true then .cons self (.fn rc self param part env) env else env)) m
  | _, m => stuckM m
def tupleM (k : Int) (t a x : Vl) (m : Ms) : Rs Vl := match t, a with
  | .tup l, .int n => if n < 0 ∨ n > l.length ∨ (n = l.length ∧ k ≠ 10) then stuckM m
    else if k = 9 then done ((l[n.toNat]?).getD x) m
    else if k = 11 then done (.tup (l.take n.toNat ++ l.drop (n.toNat + 1))) m
    else if k = 10 then done (.tup (l.take n.toNat ++ x :: l.drop n.toNat)) m
    else done (.tup (l.take n.toNat ++ x :: l.drop (n.toNat + 1))) m
  | _, _ => stuckM m
def flagC (b : Bool) : Int := if b = true then 1 else 0
def arithM (s : Str) (a b : Int) (m : Ms) : Rs Vl :=
  if s = [43] then done (.int (IntKind.i64.wrap (a + b))) m
  else if s = [45] then done (.int (IntKind.i64.wrap (a - b))) m
  else if s = [42] then done (.int (IntKind.i64.wrap (a * b))) m
  else if s = [47] then (if b = 0 then endM 9 1 m else done (.int (IntKind.i64.wrap (a.tdiv b))) m)
  else if s = [60] then done (.int (flagC (decide (a < b)))) m
  else if s = [61, 61] then done (.int (flagC (a == b))) m
  else stuckM m
def opM (s : Str) (a b : Vl) (m : Ms) : Rs Vl := match a, b with
  | .text x, .text y => if s = [94] then (if x.length + y.length > 2000 then endM 9 2 m else done (.text (x ++ y)) m) else stuckM m
  | .text x, .int n => if s = [35] then (match (if n < 0 then none else x[n.toNat]?) with
    | some c => done (.int c.toNat) m
    | none => endM 9 2 m) else stuckM m
  | .int x, .int y => arithM s x y m
  | _, _ => stuckM m
def readM (m : Ms) : Rs Vl := match m.inp with
  | [] => endM 9 3 m
  | s :: r => if s.length > 2000 then endM 9 2 { m with inp := r } else done (.text s) { m with inp := r }
def zVl : Vl := .int 0
/-- What an expression comes to, by what its parts come to. -/
def doM (R : Rec) (k : Int) (s : Str) (vs : List Vl) (m : Ms) : Rs Vl :=
  if k = 5 then applyM R vs m
  else if k = 8 then done (.tup vs) m
  else if k = 9 ∨ k = 11 then (match vs with
    | [t, a] => tupleM k t a zVl m
    | _ => stuckM m)
  else if k = 10 ∨ k = 12 then (match vs with
    | [x, a, t] => tupleM k t a x m
    | _ => stuckM m)
  else if k = 13 then (match vs with
    | [v, .int n] => done (.tag n v) m
    | _ => stuckM m)
  else if k = 16 then (match vs with
    | [a, b] => opM s a b m
    | _ => stuckM m)
  else if k = 17 then (match vs with
    | [v] => done (.ref m.st.length) { m with st := m.st ++ [v] }
    | _ => stuckM m)
  else if k = 18 then (match vs with
    | [.ref i] => done ((m.st[i]?).getD zVl) m
    | _ => stuckM m)
  else if k = 19 then (match vs with
    | [.ref i, v] => done (.tup []) { m with st := m.st.set i v }
    | _ => stuckM m)
  else if k = 20 then (match vs with
    | [.text x] => done (.tup []) { m with tr := m.tr ++ [x] }
    | _ => stuckM m)
  else if k = 21 then (match vs with
    | [.int n] => done (.text (Lib.itoa n)) m
    | _ => stuckM m)
  else if k = 22 then readM m
  else stuckM m
def stepM (R : Rec) : Rec
  | .mk k n s t ns l, env, m =>
    if partsC k l.length ns.length (decide (t ≠ [])) ≠ l.length then stuckM m
    else if k = 1 then done (.int n) m
    else if k = 2 then done (.text s) m
    else if k = 3 then (match lookE env s with
      | some v => done v m
      | none => stuckM m)
    else if k = 4 then done (.fn false [] s (prt l 0) env) m
    else if k = 6 then (R (prt l 0) env m).bind fun v m => R (prt l 1) (.cons s v env) m
    else if k = 7 then R (prt l 1) (.cons s (.fn true s t (prt l 0) env) env) m
    else if k = 15 then chooseM R env (prt l 0) (prt l 1) (prt l 2) m
    else if k = 14 then casesM R env t ns l m
    else (allM R env l m).bind fun vs m => doM R k s vs m
def evM : Nat → Rec
  | 0, _, _, m => ⟨none, m⟩
  | g + 1, e, env, m => if m.fuel = 0 then endM 8 0 m else stepM (evM g) e env { m with fuel := m.fuel - 1 }
end Go.Proofs.YtbifjffjibnjjaaDoor

/-
  Core expressions, plainly: with more fuel, if it ended, it ends the same; if it didn't, the trace goes on. (Own work.)
-/
set_option linter.unusedVariables false
set_option linter.unusedSimpArgs false
namespace Go.Proofs.YtbifjffjibnjjaaDoor
open Go Go.Abs

def Ms.up (m : Ms) (d : Nat) : Ms := { m with fuel := m.fuel + d }
/-- One with less fuel, one with more. -/
structure Gd {α : Type} (d : Nat) (r r' : Rs α) (m : Ms) : Prop where
  err : r.v = none ↔ r.m.err ≠ 0
  fuel : r.m.fuel ≤ m.fuel
  c : r.m.err ≠ 8 → r' = ⟨r.v, r.m.up d⟩
  dd : r.m.err = 8 → r.m.tr <+: r'.m.tr
theorem Gd.bind {α β : Type} {d : Nat} {r r' : Rs α} {k k' : α → Ms → Rs β} {m : Ms} (h : Gd d r r' m) (hk : ∀ a m1, m1.err = 0 → m1.fuel ≤ m.fuel → Gd d (k a m1) (k' a (m1.up d)) m1) (ht : ∀ a m1, m1.tr <+: (k' a m1).m.tr) : Gd d (r.bind k) (r'.bind k') m := by
  obtain ⟨v, m1⟩ := r
  cases v with
  | none =>
    refine ⟨⟨fun _ => h.err.1 rfl, fun _ => rfl⟩, h.fuel, fun he => ?_, fun he => ?_⟩
    · rw [h.c he]; rfl
    · refine List.IsPrefix.trans (h.dd he) ?_
      obtain ⟨v', m'⟩ := r'
      cases v' with
      | none => exact List.prefix_rfl
      | some a => exact ht a m'
  | some a =>
    have h0 : m1.err = 0 := by
      by_cases he : m1.err = 0
      · exact he
      · have h2 : (some a : Option α) = none := h.err.2 he
        cases h2
    have hr := h.c (by show m1.err ≠ 8; omega)
    have hg := hk a m1 h0 h.fuel
    rw [hr]
    exact ⟨hg.err, Nat.le_trans hg.fuel h.fuel, hg.c, hg.dd⟩
theorem Gd.done {α : Type} {d : Nat} {a : α} {m : Ms} (h : m.err = 0) : Gd d (done a m) (done a (m.up d)) m :=
  ⟨⟨fun h => (by cases h), fun h2 => absurd h h2⟩, Nat.le_refl _, fun _ => rfl, fun _ => List.prefix_rfl⟩
theorem Gd.fin {α : Type} {d : Nat} {e f : Int} {m : Ms} (h : m.err = 0) (h0 : e ≠ 0) (h8 : e ≠ 8) : Gd d (endM (α := α) e f m) (endM e f (m.up d)) m := by
  unfold endM
  rw [if_pos h, if_pos (show (m.up d).err = 0 from h)]
  exact ⟨⟨fun _ => h0, fun _ => rfl⟩, Nat.le_refl _, fun _ => rfl, fun he => absurd he h8⟩
theorem Gd.stuck {α : Type} {d : Nat} {m : Ms} (h : m.err = 0) : Gd d (stuckM (α := α) m) (stuckM (m.up d)) m := .fin h (by decide) (by decide)
theorem Gd.on {α : Type} {d : Nat} {r r' : Rs α} {m m2 : Ms} (h : Gd d r r' m2) (hf : m2.fuel ≤ m.fuel) : Gd d r r' m := ⟨h.err, Nat.le_trans h.fuel hf, h.c, h.dd⟩

/-! ### The trace goes on -/
theorem tr_bind {α β : Type} {r : Rs α} {k : α → Ms → Rs β} {m : Ms} (h : m.tr <+: r.m.tr) (ht : ∀ a m1, m1.tr <+: (k a m1).m.tr) : m.tr <+: (r.bind k).m.tr := by
  obtain ⟨v, m1⟩ := r
  cases v with
  | none => exact h
  | some a => exact List.IsPrefix.trans h (ht a m1)
theorem tr_end {α : Type} {e f : Int} {m : Ms} : m.tr <+: (endM (α := α) e f m).m.tr := by
  unfold endM
  split <;> exact List.prefix_rfl
theorem tr_done {α : Type} {a : α} {m : Ms} : m.tr <+: (done a m).m.tr := List.prefix_rfl
section
variable {R : Rec} (hT : ∀ e env m, m.tr <+: (R e env m).m.tr)
include hT
theorem tr_all (env : En) : ∀ (l : List Co) (m : Ms), m.tr <+: (allM R env l m).m.tr
  | [], m => tr_done
  | x :: l, m => tr_bind (hT x env m) fun v m1 => tr_bind (tr_all env l m1) fun vs m2 => tr_done
theorem tr_choose (env : En) (a b c : Co) (m : Ms) : m.tr <+: (chooseM R env a b c m).m.tr := tr_bind (hT a env m) fun v m1 => by
  try dsimp only
  split
  · split
    · exact hT _ _ _
    · exact hT _ _ _
  · exact tr_end
theorem tr_arms (env : En) (l : List Co) (t : Str) (n : Int) (w : Vl) : ∀ (ns : List Str) (i : Nat) (below : Int) (m : Ms), m.tr <+: (armsM R env l t n w ns i below m).m.tr
  | [], i, below, m => by
    unfold armsM
    split
    · exact tr_end
    · exact hT _ _ _
  | x :: ns, i, below, m => tr_bind (hT _ _ m) fun v m1 => by
    try dsimp only
    split
    · split
      · exact hT _ _ _
      · exact tr_arms env l t n w ns _ _ _
    · exact tr_end
theorem tr_cases (env : En) (t : Str) (ns : List Str) (l : List Co) (m : Ms) : m.tr <+: (casesM R env t ns l m).m.tr := tr_bind (hT _ _ m) fun v m1 => by
  try dsimp only
  split
  · exact tr_arms hT env l t _ _ ns 0 0 m1
  · exact tr_end
theorem tr_apply (vs : List Vl) (m : Ms) : m.tr <+: (applyM R vs m).m.tr := by
  unfold applyM
  split
  · exact hT _ _ _
  · exact tr_end
omit hT in
theorem tr_tuple (k : Int) (t a x : Vl) (m : Ms) : m.tr <+: (tupleM k t a x m).m.tr := by
  unfold tupleM
  split
  · split
    · exact tr_end
    · split
      · exact tr_done
      · split
        · exact tr_done
        · split <;> exact tr_done
  · exact tr_end
omit hT in
theorem tr_arith (s : Str) (a b : Int) (m : Ms) : m.tr <+: (arithM s a b m).m.tr := by
  unfold arithM
  repeat' split
  all_goals first | exact tr_done | exact tr_end
omit hT in
theorem tr_op (s : Str) (a b : Vl) (m : Ms) : m.tr <+: (opM s a b m).m.tr := by
  unfold opM
  split
  · repeat' split
    all_goals first | exact tr_done | exact tr_end
  · split
    · generalize (if _ < (0 : Int) then none else _) = o
      cases o with
      | none => exact tr_end
      | some c => exact tr_done
    · exact tr_end
  · exact tr_arith _ _ _ _
  · exact tr_end
omit hT in
theorem tr_read (m : Ms) : m.tr <+: (readM m).m.tr := by
  unfold readM
  split
  · exact tr_end
  · rename_i s r hm
    split
    · exact tr_end (α := Vl) (e := 9) (f := 2) (m := { m with inp := r })
    · exact List.prefix_rfl
theorem tr_do (k : Int) (s : Str) (vs : List Vl) (m : Ms) : m.tr <+: (doM R k s vs m).m.tr := by
  unfold doM
  by_cases h : k = 5
  · rw [if_pos h]
    exact tr_apply hT vs m
  rw [if_neg h]
  clear h
  by_cases h : k = 8
  · rw [if_pos h]
    exact tr_done
  rw [if_neg h]
  clear h
  by_cases h : k = 9 ∨ k = 11
  · rw [if_pos h]
    split
    · exact tr_tuple _ _ _ _ _
    · exact tr_end
  rw [if_neg h]
  clear h
  by_cases h : k = 10 ∨ k = 12
  · rw [if_pos h]
    split
    · exact tr_tuple _ _ _ _ _
    · exact tr_end
  rw [if_neg h]
  clear h
  by_cases h : k = 13
  · rw [if_pos h]
    split
    · exact tr_done
    · exact tr_end
  rw [if_neg h]
  clear h
  by_cases h : k = 16
  · rw [if_pos h]
    split
    · exact tr_op _ _ _ _
    · exact tr_end
  rw [if_neg h]
  clear h
  by_cases h : k = 17
  · rw [if_pos h]
    split
    · exact List.prefix_rfl
    · exact tr_end
  rw [if_neg h]
  clear h
  by_cases h : k = 18
  · rw [if_pos h]
    split
    · exact tr_done
    · exact tr_end
  rw [if_neg h]
  clear h
  by_cases h : k = 19
  · rw [if_pos h]
    split
    · exact List.prefix_rfl
    · exact tr_end
  rw [if_neg h]
  clear h
  by_cases h : k = 20
  · rw [if_pos h]
    split
    · exact List.prefix_append _ _
    · exact tr_end
  rw [if_neg h]
  clear h
  by_cases h : k = 21
  · rw [if_pos h]
    split
    · exact tr_done
    · exact tr_end
  rw [if_neg h]
  clear h
  by_cases h : k = 22
  · rw [if_pos h]
    exact tr_read m
  rw [if_neg h]
  clear h
  exact tr_end
omit hT in
theorem stepM_mk (R : Rec) (k n : Int) (s t : Str) (ns : List Str) (l : List Co) (env : En) (m : Ms) : stepM R (.mk k n s t ns l) env m =
    if partsC k l.length ns.length (decide (t ≠ [])) ≠ l.length then stuckM m
    else if k = 1 then done (.int n) m
    else if k = 2 then done (.text s) m
    else if k = 3 then (match lookE env s with
      | some v => done v m
      | none => stuckM m)
    else if k = 4 then done (.fn false [] s (prt l 0) env) m
    else if k = 6 then (R (prt l 0) env m).bind fun v m => R (prt l 1) (.cons s v env) m
    else if k = 7 then R (prt l 1) (.cons s (.fn true s t (prt l 0) env) env) m
    else if k = 15 then chooseM R env (prt l 0) (prt l 1) (prt l 2) m
    else if k = 14 then casesM R env t ns l m
    else (allM R env l m).bind fun vs m => doM R k s vs m := rfl
theorem tr_step (e : Co) (env : En) (m : Ms) : m.tr <+: (stepM R e env m).m.tr := by
  cases e with
  | mk k n s t ns l =>
  rw [stepM_mk]
  by_cases h : partsC k l.length ns.length (decide (t ≠ [])) ≠ l.length
  · rw [if_pos h]
    exact tr_end
  rw [if_neg h]
  clear h
  by_cases h : k = 1
  · rw [if_pos h]
    exact tr_done
  rw [if_neg h]
  clear h
  by_cases h : k = 2
  · rw [if_pos h]
    exact tr_done
  rw [if_neg h]
  clear h
  by_cases h : k = 3
  · rw [if_pos h]
    split
    · exact tr_done
    · exact tr_end
  rw [if_neg h]
  clear h
  by_cases h : k = 4
  · rw [if_pos h]
    exact tr_done
  rw [if_neg h]
  clear h
  by_cases h : k = 6
  · rw [if_pos h]
    exact tr_bind (hT _ _ _) fun v m1 => hT _ _ _
  rw [if_neg h]
  clear h
  by_cases h : k = 7
  · rw [if_pos h]
    exact hT _ _ _
  rw [if_neg h]
  clear h
  by_cases h : k = 15
  · rw [if_pos h]
    exact tr_choose hT _ _ _ _ _
  rw [if_neg h]
  clear h
  by_cases h : k = 14
  · rw [if_pos h]
    exact tr_cases hT _ _ _ _ _
  rw [if_neg h]
  clear h
  exact tr_bind (tr_all hT _ _ _) fun vs m1 => tr_do hT _ _ _ _
end
theorem tr_ev : ∀ (g : Nat) (e : Co) (env : En) (m : Ms), m.tr <+: (evM g e env m).m.tr
  | 0, e, env, m => List.prefix_rfl
  | g + 1, e, env, m => by
    rw [evM]
    split
    · exact tr_end
    · exact tr_step (tr_ev g) e env { m with fuel := m.fuel - 1 }

/-! ### More fuel -/
section
variable {R R' : Rec} {d F : Nat} (hT : ∀ e env m, m.tr <+: (R' e env m).m.tr) (hR : ∀ e env m, m.err = 0 → m.fuel ≤ F → Gd d (R e env m) (R' e env (m.up d)) m)
include hT hR
theorem gd_all (env : En) : ∀ (l : List Co) (m : Ms), m.err = 0 → m.fuel ≤ F → Gd d (allM R env l m) (allM R' env l (m.up d)) m
  | [], m, h, hf => .done h
  | x :: l, m, h, hf => (hR x env m h hf).bind (fun v m1 h1 hf1 => (gd_all env l m1 h1 (by omega)).bind (fun vs m2 h2 hf2 => .done h2) fun vs m2 => tr_done) fun v m1 => tr_bind (tr_all hT env l m1) fun vs m2 => tr_done
theorem gd_choose (env : En) (a b c : Co) (m : Ms) (h : m.err = 0) (hf : m.fuel ≤ F) : Gd d (chooseM R env a b c m) (chooseM R' env a b c (m.up d)) m :=
  (hR a env m h hf).bind (fun v m1 h1 hf1 => by
    cases v with
    | int n =>
      try dsimp only
      by_cases hn : n ≠ 0
      · rw [if_pos hn, if_pos hn]; exact hR _ _ _ h1 (by omega)
      · rw [if_neg hn, if_neg hn]; exact hR _ _ _ h1 (by omega)
    | _ => exact .stuck h1) fun v m1 => by
    try dsimp only
    split
    · split <;> exact hT _ _ _
    · exact tr_end
theorem gd_arms (env : En) (l : List Co) (t : Str) (n : Int) (w : Vl) : ∀ (ns : List Str) (i : Nat) (below : Int) (m : Ms), m.err = 0 → m.fuel ≤ F → Gd d (armsM R env l t n w ns i below m) (armsM R' env l t n w ns i below (m.up d)) m
  | [], i, below, m, h, hf => by
    unfold armsM
    by_cases ht : t = []
    · rw [if_pos ht, if_pos ht]; exact .stuck h
    · rw [if_neg ht, if_neg ht]; exact hR _ _ _ h hf
  | x :: ns, i, below, m, h, hf => (hR _ _ m h hf).bind (fun v m1 h1 hf1 => by
      cases v with
      | int a =>
        try dsimp only
        by_cases ha : a = n
        · rw [if_pos ha, if_pos ha]; exact hR _ _ _ h1 (by omega)
        · rw [if_neg ha, if_neg ha]; exact gd_arms env l t n w ns _ _ m1 h1 (by omega)
      | _ => exact .stuck h1) fun v m1 => by
      try dsimp only
      split
      · split
        · exact hT _ _ _
        · exact tr_arms hT env l t n w ns _ _ _
      · exact tr_end
theorem gd_cases (env : En) (t : Str) (ns : List Str) (l : List Co) (m : Ms) (h : m.err = 0) (hf : m.fuel ≤ F) : Gd d (casesM R env t ns l m) (casesM R' env t ns l (m.up d)) m :=
  (hR _ _ m h hf).bind (fun v m1 h1 hf1 => by
    cases v with
    | tag n w => exact gd_arms hT hR env l t n w ns 0 0 m1 h1 (by omega)
    | _ => exact .stuck h1) fun v m1 => by
    try dsimp only
    split
    · exact tr_arms hT env l t _ _ ns 0 0 m1
    · exact tr_end
omit hT in
theorem gd_apply (vs : List Vl) (m : Ms) (h : m.err = 0) (hf : m.fuel ≤ F) : Gd d (applyM R vs m) (applyM R' vs (m.up d)) m := by
  unfold applyM
  split
  · exact hR _ _ _ h hf
  · exact .stuck h
omit hT hR in
theorem gd_tuple (k : Int) (t a x : Vl) (m : Ms) (h : m.err = 0) : Gd d (tupleM k t a x m) (tupleM k t a x (m.up d)) m := by
  unfold tupleM
  cases t with
  | tup l =>
    cases a with
    | int n =>
      try dsimp only
      repeat' split
      all_goals first | exact .done h | exact .stuck h
    | _ => exact .stuck h
  | _ => exact .stuck h
omit hT hR in
theorem gd_arith (s : Str) (a b : Int) (m : Ms) (h : m.err = 0) : Gd d (arithM s a b m) (arithM s a b (m.up d)) m := by
  unfold arithM
  repeat' split
  all_goals first | exact .done h | exact .stuck h | exact .fin h (by decide) (by decide)
omit hT hR in
theorem gd_op (s : Str) (a b : Vl) (m : Ms) (h : m.err = 0) : Gd d (opM s a b m) (opM s a b (m.up d)) m := by
  cases a with
  | text x =>
    cases b with
    | text y =>
      unfold opM
      try dsimp only
      repeat' split
      all_goals first | exact .done h | exact .stuck h | exact .fin h (by decide) (by decide)
    | int n =>
      unfold opM
      try dsimp only
      by_cases hs : s = [35]
      · rw [if_pos hs, if_pos hs]
        generalize (if n < 0 then none else x[n.toNat]?) = o
        cases o with
        | none => exact .fin h (by decide) (by decide)
        | some c => exact .done h
      · rw [if_neg hs, if_neg hs]; exact .stuck h
    | _ => exact .stuck h
  | int x =>
    cases b with
    | int y => exact gd_arith s x y m h
    | _ => exact .stuck h
  | _ => cases b <;> exact .stuck h
omit hT hR in
theorem gd_read (m : Ms) (h : m.err = 0) : Gd d (readM m) (readM (m.up d)) m := by
  unfold readM
  show Gd d _ (match m.inp with
    | [] => endM 9 3 (m.up d)
    | s :: r => if s.length > 2000 then endM 9 2 { (m.up d) with inp := r } else done (Vl.text s) { (m.up d) with inp := r }) m
  cases m.inp with
  | nil => exact .fin h (by decide) (by decide)
  | cons s r =>
    try dsimp only
    by_cases hl : s.length > 2000
    · rw [if_pos hl, if_pos hl]
      exact Gd.on (m2 := { m with inp := r }) (.fin h (by decide) (by decide)) (Nat.le_refl _)
    · rw [if_neg hl, if_neg hl]
      exact Gd.on (m2 := { m with inp := r }) (.done h) (Nat.le_refl _)
omit hT in
theorem gd_do (k : Int) (s : Str) (vs : List Vl) (m : Ms) (h : m.err = 0) (hf : m.fuel ≤ F) : Gd d (doM R k s vs m) (doM R' k s vs (m.up d)) m := by
  unfold doM
  by_cases h5 : k = 5
  · rw [if_pos h5, if_pos h5]; exact gd_apply hR vs m h hf
  rw [if_neg h5, if_neg h5]
  by_cases h8 : k = 8
  · rw [if_pos h8, if_pos h8]; exact .done h
  rw [if_neg h8, if_neg h8]
  by_cases h9 : k = 9 ∨ k = 11
  · rw [if_pos h9, if_pos h9]
    split
    · exact gd_tuple _ _ _ _ _ h
    · exact .stuck h
  rw [if_neg h9, if_neg h9]
  by_cases h10 : k = 10 ∨ k = 12
  · rw [if_pos h10, if_pos h10]
    split
    · exact gd_tuple _ _ _ _ _ h
    · exact .stuck h
  rw [if_neg h10, if_neg h10]
  by_cases h13 : k = 13
  · rw [if_pos h13, if_pos h13]
    split
    · exact .done h
    · exact .stuck h
  rw [if_neg h13, if_neg h13]
  by_cases h16 : k = 16
  · rw [if_pos h16, if_pos h16]
    split
    · exact gd_op _ _ _ _ h
    · exact .stuck h
  rw [if_neg h16, if_neg h16]
  by_cases h17 : k = 17
  · rw [if_pos h17, if_pos h17]
    split
    · rename_i v
      exact Gd.on (m2 := { m with st := m.st ++ [v] }) (.done h) (Nat.le_refl _)
    · exact .stuck h
  rw [if_neg h17, if_neg h17]
  by_cases h18 : k = 18
  · rw [if_pos h18, if_pos h18]
    split
    · exact .done h
    · exact .stuck h
  rw [if_neg h18, if_neg h18]
  by_cases h19 : k = 19
  · rw [if_pos h19, if_pos h19]
    split
    · rename_i i v
      exact Gd.on (m2 := { m with st := m.st.set i v }) (.done h) (Nat.le_refl _)
    · exact .stuck h
  rw [if_neg h19, if_neg h19]
  by_cases h20 : k = 20
  · rw [if_pos h20, if_pos h20]
    split
    · rename_i x
      exact Gd.on (m2 := { m with tr := m.tr ++ [x] }) (.done h) (Nat.le_refl _)
    · exact .stuck h
  rw [if_neg h20, if_neg h20]
  by_cases h21 : k = 21
  · rw [if_pos h21, if_pos h21]
    split
    · exact .done h
    · exact .stuck h
  rw [if_neg h21, if_neg h21]
  by_cases h22 : k = 22
  · rw [if_pos h22, if_pos h22]; exact gd_read m h
  rw [if_neg h22, if_neg h22]
  exact .stuck h
theorem gd_step (e : Co) (env : En) (m : Ms) (h : m.err = 0) (hf : m.fuel ≤ F) : Gd d (stepM R e env m) (stepM R' e env (m.up d)) m := by
  cases e with
  | mk k n s t ns l =>
  rw [stepM_mk, stepM_mk]
  by_cases hp : partsC k l.length ns.length (decide (t ≠ [])) ≠ l.length
  · rw [if_pos hp, if_pos hp]; exact .stuck h
  rw [if_neg hp, if_neg hp]
  by_cases h1 : k = 1
  · rw [if_pos h1, if_pos h1]; exact .done h
  rw [if_neg h1, if_neg h1]
  by_cases h2 : k = 2
  · rw [if_pos h2, if_pos h2]; exact .done h
  rw [if_neg h2, if_neg h2]
  by_cases h3 : k = 3
  · rw [if_pos h3, if_pos h3]
    split
    · exact .done h
    · exact .stuck h
  rw [if_neg h3, if_neg h3]
  by_cases h4 : k = 4
  · rw [if_pos h4, if_pos h4]; exact .done h
  rw [if_neg h4, if_neg h4]
  by_cases h6 : k = 6
  · rw [if_pos h6, if_pos h6]
    exact (hR _ _ _ h hf).bind (fun v m1 h1 hf1 => hR _ _ _ h1 (by omega)) fun v m1 => hT _ _ _
  rw [if_neg h6, if_neg h6]
  by_cases h7 : k = 7
  · rw [if_pos h7, if_pos h7]; exact hR _ _ _ h hf
  rw [if_neg h7, if_neg h7]
  by_cases h15 : k = 15
  · rw [if_pos h15, if_pos h15]; exact gd_choose hT hR _ _ _ _ _ h hf
  rw [if_neg h15, if_neg h15]
  by_cases h14 : k = 14
  · rw [if_pos h14, if_pos h14]; exact gd_cases hT hR _ _ _ _ _ h hf
  rw [if_neg h14, if_neg h14]
  exact (gd_all hT hR _ _ _ h hf).bind (fun vs m1 h1 hf1 => gd_do hR _ _ _ _ h1 (by omega)) fun vs m1 => tr_do hT _ _ _ _
end
theorem ev_more (d : Nat) : ∀ (g g' : Nat) (e : Co) (env : En) (m : Ms), m.err = 0 → m.fuel < g → m.fuel + d < g' → Gd d (evM g e env m) (evM g' e env (m.up d)) m
  | 0, g', e, env, m, h, hf, hf' => by omega
  | g + 1, 0, e, env, m, h, hf, hf' => by omega
  | g + 1, g' + 1, e, env, m, h, hf, hf' => by
    rw [evM, evM]
    by_cases h0 : m.fuel = 0
    · rw [if_pos h0]
      unfold endM
      rw [if_pos h]
      refine ⟨⟨fun _ => (by decide : (8 : Int) ≠ 0), fun _ => rfl⟩, Nat.le_refl _, fun he => absurd rfl he, fun _ => ?_⟩
      have := tr_ev (g' + 1) e env (m.up d)
      rw [evM] at this
      exact this
    · rw [if_neg h0, if_neg (show ¬ (m.up d).fuel = 0 by show ¬ m.fuel + d = 0; omega)]
      have hs := gd_step (d := d) (F := m.fuel - 1) (R := evM g) (R' := evM g') (tr_ev g') (fun e env m1 h1 hf1 => ev_more d g g' e env m1 h1 (by omega) (by omega)) e env { m with fuel := m.fuel - 1 } h (Nat.le_refl _)
      have hu : ({ (m.up d) with fuel := (m.up d).fuel - 1 } : Ms) = ({ m with fuel := m.fuel - 1 } : Ms).up d := by
        show (⟨m.inp, m.fuel + d - 1, m.err, m.fault, m.tr, m.st⟩ : Ms) = ⟨m.inp, m.fuel - 1 + d, m.err, m.fault, m.tr, m.st⟩
        rw [show m.fuel + d - 1 = m.fuel - 1 + d by omega]
      rw [hu]
      exact hs.on (Nat.sub_le _ _)
end Go.Proofs.YtbifjffjibnjjaaDoor

/-
  Core expressions, plainly: values stay as great as they may be; references point into the store. (Own work.)
-/
set_option linter.unusedVariables false
set_option linter.unusedSimpArgs false
namespace Go.Proofs.YtbifjffjibnjjaaDoor
open Go Go.Abs

/-- An expression that is not too great, of numbers that are ones. -/
def okC (L : Nat) (e : Co) : Prop := csz e ≤ L ∧ (encC e).fits
theorem okC.mono {L L' : Nat} {e : Co} (h : okC L e) (k : L ≤ L') : okC L' e := ⟨Nat.le_trans h.1 k, h.2⟩
mutual
def okV (n L : Nat) : Vl → Prop
  | .int n => inR .i64 n
  | .text s => s.length ≤ L
  | .fn _ _ _ part env => okC L part ∧ okE n L env
  | .tup l => l.length ≤ L ∧ okVs n L l
  | .tag _ v => okV n L v
  | .ref k => k < n
def okVs (n L : Nat) : List Vl → Prop
  | [] => True
  | v :: l => okV n L v ∧ okVs n L l
def okE (n L : Nat) : En → Prop
  | .nil => True
  | .cons _ v e => okV n L v ∧ okE n L e
end
theorem okVs_iff {n L : Nat} : ∀ {l : List Vl}, okVs n L l ↔ ∀ v ∈ l, okV n L v
  | [] => by simp [okVs]
  | v :: l => by simp [okVs, okVs_iff (l := l)]
mutual
theorem okV.mono {n L n' L' : Nat} (hn : n ≤ n') (hL : L ≤ L') : ∀ {v : Vl}, okV n L v → okV n' L' v
  | .int _, h => h
  | .text s, h => Nat.le_trans h hL
  | .fn _ _ _ part env, h => ⟨h.1.mono hL, okE.mono hn hL h.2⟩
  | .tup l, h => ⟨Nat.le_trans h.1 hL, okVs.mono hn hL h.2⟩
  | .tag _ v, h => okV.mono (v := v) hn hL h
  | .ref k, h => Nat.lt_of_lt_of_le h hn
theorem okVs.mono {n L n' L' : Nat} (hn : n ≤ n') (hL : L ≤ L') : ∀ {l : List Vl}, okVs n L l → okVs n' L' l
  | [], h => trivial
  | v :: l, h => ⟨okV.mono hn hL h.1, okVs.mono hn hL h.2⟩
theorem okE.mono {n L n' L' : Nat} (hn : n ≤ n') (hL : L ≤ L') : ∀ {e : En}, okE n L e → okE n' L' e
  | .nil, h => trivial
  | .cons _ v e, h => ⟨okV.mono hn hL h.1, okE.mono hn hL h.2⟩
end
structure okM (L : Nat) (m : Ms) : Prop where
  st : ∀ v ∈ m.st, okV m.st.length L v
  tr : m.tr.length ≤ L
theorem okM.mono {L L' : Nat} {m : Ms} (h : okM L m) (hL : L ≤ L') : okM L' m := ⟨fun v hv => (h.st v hv).mono (Nat.le_refl _) hL, Nat.le_trans h.tr hL⟩
/-- What comes of something, with so much to spare. -/
structure Okr {α : Type} (P : Nat → Nat → α → Prop) (c L : Nat) (m : Ms) (r : Rs α) : Prop where
  fuel : r.m.fuel ≤ m.fuel
  st : m.st.length ≤ r.m.st.length
  ok : okM (L + c + (m.fuel - r.m.fuel)) r.m
  v : ∀ v, r.v = some v → P r.m.st.length (L + c + (m.fuel - r.m.fuel)) v
theorem Okr.more {α : Type} {P : Nat → Nat → α → Prop} {c c' L : Nat} {m : Ms} {r : Rs α} (hP : ∀ n L L' a, L ≤ L' → P n L a → P n L' a) (h : Okr P c L m r) (hc : c ≤ c') : Okr P c' L m r :=
  ⟨h.fuel, h.st, h.ok.mono (by omega), fun v hv => hP _ _ _ _ (by omega) (h.v v hv)⟩
theorem okV_L : ∀ n L L' (a : Vl), L ≤ L' → okV n L a → okV n L' a := fun n L L' a h k => k.mono (Nat.le_refl _) h
theorem okVs_L : ∀ n L L' (a : List Vl), L ≤ L' → okVs n L a → okVs n L' a := fun n L L' a h k => k.mono (Nat.le_refl _) h
theorem Okr.bind {α β : Type} {P : Nat → Nat → α → Prop} {Q : Nat → Nat → β → Prop} {c L : Nat} {m : Ms} {r : Rs α} {k : α → Ms → Rs β} (hQ : ∀ n L L' a, L ≤ L' → Q n L a → Q n L' a) (h : Okr P 0 L m r)
    (hk : ∀ a m1, m1.fuel ≤ m.fuel → m.st.length ≤ m1.st.length → okM (L + (m.fuel - m1.fuel)) m1 → P m1.st.length (L + (m.fuel - m1.fuel)) a → Okr Q c (L + (m.fuel - m1.fuel)) m1 (k a m1)) : Okr Q c L m (r.bind k) := by
  obtain ⟨v, m1⟩ := r
  cases v with
  | none => exact ⟨h.fuel, h.st, h.ok.mono (by dsimp only [Rs.bind]; omega), fun v hv => by cases hv⟩
  | some a =>
    have h1 := h.fuel
    have h2 := hk a m1 h.fuel h.st (h.ok.mono (by dsimp only; omega)) (by simpa using h.v a rfl)
    have h3 := h2.fuel
    dsimp only at h1
    refine ⟨Nat.le_trans h2.fuel h.fuel, Nat.le_trans h.st h2.st, h2.ok.mono (by dsimp only [Rs.bind]; omega), fun v hv => hQ _ _ _ _ ?_ (h2.v v hv)⟩
    dsimp only [Rs.bind]
    omega
section
variable {α : Type} {P : Nat → Nat → α → Prop} {c L : Nat} {m : Ms}
theorem Okr.fin {e f : Int} (h : okM L m) : Okr P c L m (endM e f m) := by
  unfold endM
  split
  · exact ⟨Nat.le_refl _, Nat.le_refl _, ⟨(h.mono (by omega)).st, (h.mono (by omega)).tr⟩, fun v hv => by cases hv⟩
  · exact ⟨Nat.le_refl _, Nat.le_refl _, h.mono (by omega), fun v hv => by cases hv⟩
theorem Okr.stuck (h : okM L m) : Okr P c L m (stuckM m) := .fin h
theorem Okr.done {a : α} (h : okM L m) (hP : P m.st.length (L + c) a) : Okr P c L m (done a m) :=
  ⟨Nat.le_refl _, Nat.le_refl _, h.mono (by omega), fun v hv => by cases hv; simpa [Go.Proofs.YtbifjffjibnjjaaDoor.done] using hP⟩
end
theorem prt_csz : ∀ (l : List Co) (i : Nat), csz (prt l i) ≤ 6 + cszL l
  | [], i => by simp [prt, zCo, csz, cszL, nsz]
  | x :: l, 0 => by simp [prt, cszL]; omega
  | x :: l, i + 1 => by
    have := prt_csz l i
    simp only [prt, cszL, List.getElem?_cons_succ] at this ⊢
    omega
theorem okC.prt {L : Nat} {k n : Int} {s t : Str} {ns : List Str} {l : List Co} (h : okC L (.mk k n s t ns l)) (i : Nat) : okC L (prt l i) := by
  obtain ⟨h1, h2⟩ := h
  have := prt_csz l i
  simp only [csz] at h1
  refine ⟨by omega, ?_⟩
  rw [encC_mk] at h2
  simp only [V.fits, V.fitsL] at h2
  have hl := V.fitsL_iff.1 h2.2.2.2.2.2.1.2
  unfold Go.Proofs.YtbifjffjibnjjaaDoor.prt
  cases hg : l[i]? with
  | none =>
    simp only [Option.getD_none, zCo]
    rw [encC_mk]
    simp only [V.fits, V.fitsL, List.map_nil, List.length_nil]
    exact ⟨by decide, by decide, by decide, by decide, by decide, by decide, trivial⟩
  | some x => exact hl _ (List.mem_map.2 ⟨x, List.mem_of_getElem? hg, rfl⟩)
theorem okC.mem {L : Nat} {k n : Int} {s t : Str} {ns : List Str} {l : List Co} (h : okC L (.mk k n s t ns l)) {x : Co} (hx : x ∈ l) : okC L x := by
  obtain ⟨i, hi⟩ := List.mem_iff_getElem?.1 hx
  have := h.prt i
  unfold Go.Proofs.YtbifjffjibnjjaaDoor.prt at this
  rw [hi] at this
  exact this
theorem okC.num {L : Nat} {k n : Int} {s t : Str} {ns : List Str} {l : List Co} (h : okC L (.mk k n s t ns l)) : inR .i64 n ∧ s.length ≤ L ∧ l.length ≤ L := by
  obtain ⟨h1, h2⟩ := h
  rw [encC_mk] at h2
  simp only [V.fits, V.fitsL] at h2
  simp only [csz] at h1
  have := cszL_len l
  exact ⟨h2.2.1, by omega, by omega⟩
theorem zVl_ok {n L : Nat} : okV n L zVl := by
  show inR .i64 0
  decide
theorem look_ok {n L : Nat} {s : Str} {v : Vl} : ∀ {e : En}, okE n L e → lookE e s = some v → okV n L v
  | .nil, h, hv => by cases hv
  | .cons x w e, h, hv => by
    simp only [lookE] at hv
    split at hv
    · cases hv; exact h.1
    · exact look_ok h.2 hv
/-- What an evaluator must come to. -/
def OkR (R : Rec) (L F : Nat) : Prop := ∀ (e : Co) (env : En) (m : Ms) (L' : Nat), L ≤ L' → okC L' e → okE m.st.length L' env → okM L' m → m.fuel ≤ F → Okr okV 0 L' m (R e env m)
section
variable {R : Rec} {L0 F : Nat} (hR : OkR R L0 F) (h0 : 2000 ≤ L0)
include hR
theorem ok_all (env : En) : ∀ (l : List Co) (m : Ms) (L : Nat), L0 ≤ L → (∀ x ∈ l, okC L x) → okE m.st.length L env → okM L m → m.fuel ≤ F → Okr (fun n L vs => okVs n L vs ∧ vs.length = l.length) 0 L m (allM R env l m)
  | [], m, L, hL, hl, he, hm, hf => .done hm ⟨trivial, rfl⟩
  | x :: l, m, L, hL, hl, he, hm, hf => by
    refine (hR x env m L hL (hl x (by simp)) he hm hf).bind (fun n L L' a h k => ⟨okVs_L n L L' a h k.1, k.2⟩) fun v m1 hf1 hs1 hm1 hv => ?_
    have h2 := ok_all env l m1 (L + (m.fuel - m1.fuel)) (by omega) (fun y hy => (hl y (by simp [hy])).mono (by omega)) (he.mono hs1 (by omega)) hm1 (by omega)
    exact h2.bind (fun n L L' a h k => ⟨okVs_L n L L' a h k.1, k.2⟩) fun vs m2 hf2 hs2 hm2 hvs => .done hm2 ⟨⟨hv.mono hs2 (by omega), hvs.1⟩, by simp [hvs.2]⟩
theorem ok_choose (env : En) (a b c : Co) (m : Ms) (L : Nat) (hL : L0 ≤ L) (ha : okC L a) (hb : okC L b) (hc : okC L c) (he : okE m.st.length L env) (hm : okM L m) (hf : m.fuel ≤ F) : Okr okV 0 L m (chooseM R env a b c m) := by
  refine (hR a env m L hL ha he hm hf).bind okV_L fun v m1 hf1 hs1 hm1 hv => ?_
  split
  · split
    · exact hR b env m1 _ (by omega) (hb.mono (by omega)) (he.mono hs1 (by omega)) hm1 (by omega)
    · exact hR c env m1 _ (by omega) (hc.mono (by omega)) (he.mono hs1 (by omega)) hm1 (by omega)
  · exact .stuck hm1
theorem ok_arms (env : En) (l : List Co) (t : Str) (n : Int) (w : Vl) : ∀ (ns : List Str) (i : Nat) (below : Int) (m : Ms) (L : Nat), L0 ≤ L → (∀ i, okC L (prt l i)) → okE m.st.length L env → okV m.st.length L w → okM L m → m.fuel ≤ F → Okr okV 0 L m (armsM R env l t n w ns i below m)
  | [], i, below, m, L, hL, hl, he, hw, hm, hf => by
    unfold armsM
    split
    · exact .stuck hm
    · exact hR _ _ m L hL (hl _) ⟨hw, he⟩ hm hf
  | x :: ns, i, below, m, L, hL, hl, he, hw, hm, hf => by
    unfold armsM
    refine (hR _ env m L hL (hl _) he hm hf).bind okV_L fun v m1 hf1 hs1 hm1 hv => ?_
    split
    · split
      · exact hR _ _ m1 _ (by omega) ((hl _).mono (by omega)) ⟨hw.mono hs1 (by omega), he.mono hs1 (by omega)⟩ hm1 (by omega)
      · exact ok_arms env l t n w ns _ _ m1 _ (by omega) (fun i => (hl i).mono (by omega)) (he.mono hs1 (by omega)) (hw.mono hs1 (by omega)) hm1 (by omega)
    · exact .stuck hm1
theorem ok_cases (env : En) (t : Str) (ns : List Str) (l : List Co) (m : Ms) (L : Nat) (hL : L0 ≤ L) (hl : ∀ i, okC L (prt l i)) (he : okE m.st.length L env) (hm : okM L m) (hf : m.fuel ≤ F) : Okr okV 0 L m (casesM R env t ns l m) := by
  refine (hR _ env m L hL (hl _) he hm hf).bind okV_L fun v m1 hf1 hs1 hm1 hv => ?_
  split
  · exact ok_arms hR env l t _ _ ns 0 0 m1 _ (by omega) (fun i => (hl i).mono (by omega)) (he.mono hs1 (by omega)) hv hm1 (by omega)
  · exact .stuck hm1
theorem ok_apply (vs : List Vl) (m : Ms) (L : Nat) (hL : L0 ≤ L) (hv : okVs m.st.length L vs) (hm : okM L m) (hf : m.fuel ≤ F) : Okr okV 0 L m (applyM R vs m) := by
  unfold applyM
  split
  · rename_i rc self param part env v _
    obtain ⟨⟨h1, h2⟩, h3, _⟩ := hv
    refine hR _ _ m L hL h1 ⟨h3, ?_⟩ hm hf
    split
    · exact ⟨⟨h1, h2⟩, h2⟩
    · exact h2
  · exact .stuck hm
omit hR in
theorem ok_tuple (k : Int) (t a x : Vl) (m : Ms) (L : Nat) (ht : okV m.st.length L t) (hx : okV m.st.length L x) (hm : okM L m) : Okr okV 1 L m (tupleM k t a x m) := by
  unfold tupleM
  split
  · rename_i l n
    obtain ⟨h1, h2⟩ := ht
    have h2' := okVs_iff.1 h2
    have hm1 := fun (v : Vl) (h : okV m.st.length L v) => h.mono (n' := m.st.length) (L' := L + 1) (Nat.le_refl _) (by omega)
    have ht2 : ∀ i, ∀ v ∈ l.take i, okV m.st.length (L + 1) v := fun i v hv => hm1 v (h2' v (List.mem_of_mem_take hv))
    have hd2 : ∀ i, ∀ v ∈ l.drop i, okV m.st.length (L + 1) v := fun i v hv => hm1 v (h2' v (List.mem_of_mem_drop hv))
    split
    · exact .stuck hm
    · split
      · refine .done hm ?_
        cases hg : l[n.toNat]? with
        | none => exact hm1 _ hx
        | some v => exact hm1 _ (h2' v (List.mem_of_getElem? hg))
      · split
        · refine .done hm ⟨?_, okVs_iff.2 fun v hv => ?_⟩
          · simp only [List.length_append, List.length_take, List.length_drop]; omega
          · rcases List.mem_append.1 hv with hv | hv
            · exact ht2 _ v hv
            · exact hd2 _ v hv
        · have hins : ∀ i j, i ≤ j → okV m.st.length (L + 1) (.tup (l.take i ++ x :: l.drop j)) := fun i j hij => by
            refine ⟨?_, okVs_iff.2 fun v hv => ?_⟩
            · simp only [List.length_append, List.length_cons, List.length_take, List.length_drop]; omega
            · rcases List.mem_append.1 hv with hv | hv
              · exact ht2 _ v hv
              · rcases List.mem_cons.1 hv with rfl | hv
                · exact hm1 _ hx
                · exact hd2 _ v hv
          split
          · exact .done hm (hins _ _ (Nat.le_refl _))
          · exact .done hm (hins _ _ (Nat.le_succ _))
  · exact .stuck hm
omit hR in
theorem flagC_ok (b : Bool) : inR .i64 (flagC b) := by cases b <;> decide
omit hR in
theorem ok_arith (s : Str) (a b : Int) (m : Ms) (L : Nat) (hm : okM L m) : Okr okV 1 L m (arithM s a b m) := by
  unfold arithM
  repeat' split
  all_goals first | exact .done hm (inR_wrap _ _) | exact .stuck hm | exact .fin hm | exact .done hm (flagC_ok _)
omit hR in
theorem u8_ok (c : UInt8) : inR .i64 (c.toNat : Int) := by
  have := c.toNat_lt
  have h1 : IntKind.i64.min = -9223372036854775808 := by decide
  have h2 : IntKind.i64.max = 9223372036854775807 := by decide
  unfold inR
  rw [h1, h2]
  omega
omit hR in
include h0 in
theorem ok_op (s : Str) (a b : Vl) (m : Ms) (L : Nat) (hL : L0 ≤ L) (hm : okM L m) : Okr okV 1 L m (opM s a b m) := by
  unfold opM
  split
  · rename_i x y
    split
    · split
      · exact .fin hm
      · refine .done hm ?_
        show (x ++ y).length ≤ _
        rw [List.length_append]
        omega
    · exact .stuck hm
  · split
    · generalize (if _ < (0 : Int) then none else _) = o
      cases o with
      | none => exact .fin hm
      | some c => exact .done hm (u8_ok c)
    · exact .stuck hm
  · exact ok_arith _ _ _ m L hm
  · exact .stuck hm
omit hR in
include h0 in
theorem ok_read (m : Ms) (L : Nat) (hL : L0 ≤ L) (hm : okM L m) : Okr okV 1 L m (readM m) := by
  unfold readM
  split
  · exact .fin hm
  · rename_i s r hi
    have hm2 : okM L { m with inp := r } := ⟨hm.st, hm.tr⟩
    split
    · have := Okr.fin (α := Vl) (P := okV) (c := 1) (e := 9) (f := 2) hm2
      exact ⟨this.fuel, this.st, this.ok, this.v⟩
    · have := Okr.done (P := okV) (c := 1) (a := .text s) hm2 (by show s.length ≤ _; omega)
      exact ⟨this.fuel, this.st, this.ok, this.v⟩
include h0 in
theorem ok_do (k : Int) (s : Str) (vs : List Vl) (m : Ms) (L : Nat) (hL : L0 ≤ L) (hv : okVs m.st.length L vs) (hl : vs.length ≤ L) (hm : okM L m) (hf : m.fuel ≤ F) : Okr okV 1 L m (doM R k s vs m) := by
  have hm1 := fun (v : Vl) (h : okV m.st.length L v) => h.mono (n' := m.st.length) (L' := L + 1) (Nat.le_refl _) (by omega)
  unfold doM
  by_cases h : k = 5
  · rw [if_pos h]
    exact (ok_apply hR vs m L hL hv hm hf).more okV_L (by omega)
  rw [if_neg h]
  clear h
  by_cases h : k = 8
  · rw [if_pos h]
    exact .done hm ⟨by omega, hv.mono (Nat.le_refl _) (by omega)⟩
  rw [if_neg h]
  clear h
  by_cases h : k = 9 ∨ k = 11
  · rw [if_pos h]
    split
    · exact ok_tuple _ _ _ _ m L hv.1 zVl_ok hm
    · exact .stuck hm
  rw [if_neg h]
  clear h
  by_cases h : k = 10 ∨ k = 12
  · rw [if_pos h]
    split
    · exact ok_tuple _ _ _ _ m L hv.2.2.1 hv.1 hm
    · exact .stuck hm
  rw [if_neg h]
  clear h
  by_cases h : k = 13
  · rw [if_pos h]
    split
    · exact .done hm (hm1 _ hv.1)
    · exact .stuck hm
  rw [if_neg h]
  clear h
  by_cases h : k = 16
  · rw [if_pos h]
    split
    · exact ok_op h0 _ _ _ m L hL hm
    · exact .stuck hm
  rw [if_neg h]
  clear h
  by_cases h : k = 17
  · rw [if_pos h]
    split
    · rename_i v
      refine ⟨Nat.le_refl _, by simp [done], ⟨fun w hw => ?_, ?_⟩, fun w hw => ?_⟩
      · simp only [done] at hw ⊢
        rcases List.mem_append.1 hw with hw | hw
        · exact (hm.st w hw).mono (by simp) (by omega)
        · simp only [List.mem_singleton] at hw
          subst hw
          exact hv.1.mono (by simp) (by omega)
      · have := hm.tr
        simp only [done]
        omega
      · simp only [done, Option.some.injEq] at hw
        subst hw
        simp [done, okV]
    · exact .stuck hm
  rw [if_neg h]
  clear h
  by_cases h : k = 18
  · rw [if_pos h]
    split
    · rename_i i
      refine .done hm ?_
      cases hg : m.st[i]? with
      | none => exact zVl_ok
      | some v => exact hm1 _ (hm.st v (List.mem_of_getElem? hg))
    · exact .stuck hm
  rw [if_neg h]
  clear h
  by_cases h : k = 19
  · rw [if_pos h]
    split
    · rename_i i v
      refine ⟨Nat.le_refl _, by simp [done], ⟨fun w hw => ?_, ?_⟩, fun w hw => ?_⟩
      · simp only [done] at hw ⊢
        rw [List.length_set]
        rcases List.mem_or_eq_of_mem_set hw with hw | rfl
        · exact (hm.st w hw).mono (Nat.le_refl _) (by omega)
        · exact hv.2.1.mono (Nat.le_refl _) (by omega)
      · have := hm.tr
        simp only [done]
        omega
      · simp only [done, Option.some.injEq] at hw
        subst hw
        exact ⟨by simp, trivial⟩
    · exact .stuck hm
  rw [if_neg h]
  clear h
  by_cases h : k = 20
  · rw [if_pos h]
    split
    · rename_i x
      refine ⟨Nat.le_refl _, Nat.le_refl _, ⟨fun w hw => (hm.st w hw).mono (Nat.le_refl _) (by omega), ?_⟩, fun w hw => ?_⟩
      · have := hm.tr
        simp only [done, List.length_append, List.length_singleton]
        omega
      · simp only [done, Option.some.injEq] at hw
        subst hw
        exact ⟨by simp, trivial⟩
    · exact .stuck hm
  rw [if_neg h]
  clear h
  by_cases h : k = 21
  · rw [if_pos h]
    split
    · rename_i n
      refine .done hm ?_
      show (Lib.itoa n).length ≤ _
      have := Lib.itoa_length_le n hv.1.1 hv.1.2
      omega
    · exact .stuck hm
  rw [if_neg h]
  clear h
  by_cases h : k = 22
  · rw [if_pos h]
    exact ok_read h0 m L hL hm
  rw [if_neg h]
  clear h
  exact .stuck hm
include h0 in
theorem ok_step (e : Co) (env : En) (m : Ms) (L : Nat) (hL : L0 ≤ L) (hc : okC L e) (he : okE m.st.length L env) (hm : okM L m) (hf : m.fuel ≤ F) : Okr okV 1 L m (stepM R e env m) := by
  have w0 := fun {r : Rs Vl} (h : Okr okV 0 L m r) => h.more (c' := 1) okV_L (by omega)
  cases e with
  | mk k n s t ns l =>
  obtain ⟨hn, hs, hl⟩ := hc.num
  rw [stepM_mk]
  by_cases h : partsC k l.length ns.length (decide (t ≠ [])) ≠ l.length
  · rw [if_pos h]
    exact .stuck hm
  rw [if_neg h]
  clear h
  by_cases h : k = 1
  · rw [if_pos h]
    exact .done hm hn
  rw [if_neg h]
  clear h
  by_cases h : k = 2
  · rw [if_pos h]
    exact .done hm (Nat.le_succ_of_le hs)
  rw [if_neg h]
  clear h
  by_cases h : k = 3
  · rw [if_pos h]
    split
    · rename_i v hv
      exact .done hm ((look_ok he hv).mono (Nat.le_refl _) (by omega))
    · exact .stuck hm
  rw [if_neg h]
  clear h
  by_cases h : k = 4
  · rw [if_pos h]
    exact .done hm ⟨(hc.prt 0).mono (by omega), he.mono (Nat.le_refl _) (by omega)⟩
  rw [if_neg h]
  clear h
  by_cases h : k = 6
  · rw [if_pos h]
    refine w0 ?_
    refine (hR _ env m L hL (hc.prt 0) he hm hf).bind okV_L fun v m1 hf1 hs1 hm1 hv => ?_
    exact hR _ _ m1 _ (by omega) ((hc.prt 1).mono (by omega)) ⟨hv, he.mono hs1 (by omega)⟩ hm1 (by omega)
  rw [if_neg h]
  clear h
  by_cases h : k = 7
  · rw [if_pos h]
    exact w0 (hR _ _ m L hL (hc.prt 1) ⟨⟨hc.prt 0, he⟩, he⟩ hm hf)
  rw [if_neg h]
  clear h
  by_cases h : k = 15
  · rw [if_pos h]
    exact w0 (ok_choose hR env _ _ _ m L hL (hc.prt 0) (hc.prt 1) (hc.prt 2) he hm hf)
  rw [if_neg h]
  clear h
  by_cases h : k = 14
  · rw [if_pos h]
    exact w0 (ok_cases hR env t ns l m L hL hc.prt he hm hf)
  rw [if_neg h]
  clear h
  refine (ok_all hR env l m L hL (fun x hx => hc.mem hx) he hm hf).bind okV_L fun vs m1 hf1 hs1 hm1 hv => ?_
  exact ok_do hR h0 k s vs m1 _ (by omega) hv.1 (by omega) hm1 (by omega)
end
theorem ok_ev (L0 : Nat) (h0 : 2000 ≤ L0) : ∀ (g F : Nat), OkR (evM g) L0 F
  | 0, F => fun e env m L hL hc he hm hf => ⟨Nat.le_refl _, Nat.le_refl _, hm.mono (by omega), fun v hv => by cases hv⟩
  | g + 1, F => fun e env m L hL hc he hm hf => by
    rw [evM]
    by_cases hz : m.fuel = 0
    · rw [if_pos hz]
      exact .fin hm
    · rw [if_neg hz]
      have h := ok_step (ok_ev L0 h0 g F) h0 e env { m with fuel := m.fuel - 1 } L hL hc he ⟨hm.st, hm.tr⟩ (by dsimp only; omega)
      have h1 := h.fuel
      dsimp only at h1
      have e1 : L + 1 + (m.fuel - 1 - (stepM (evM g) e env { m with fuel := m.fuel - 1 }).m.fuel) = L + 0 + (m.fuel - (stepM (evM g) e env { m with fuel := m.fuel - 1 }).m.fuel) := by omega
      exact ⟨by omega, h.st, e1 ▸ h.ok, e1 ▸ h.v⟩
end Go.Proofs.YtbifjffjibnjjaaDoor

/-
  Core expressions, walked: what values and machines stand for; the small functions. (Own work.)
-/
set_option linter.unusedVariables false
set_option linter.unusedSimpArgs false
set_option maxHeartbeats 1000000
namespace Go.Proofs.YtbifjffjibnjjaaDoor
open Go Go.Abs

def coV : Co → List V
  | .mk k n s t ns l => [.int .i64 k, .int .i64 n, .str s, .str t, .sl none false (ns.map .str), .sl (some 6) false (l.map encC)]
theorem encC_coV (e : Co) : encC e = .agg (coV e) := by cases e; rw [encC_mk]; rfl
theorem list6 {α : Type} : ∀ {l : List α}, l.length = 6 → ∃ a b c d e f, l = [a, b, c, d, e, f]
  | [a, b, c, d, e, f], _ => ⟨a, b, c, d, e, f, rfl⟩
mutual
def celW (φ : Nat → Nat) : Vl → List V
  | .int n => [.int .i64 1, .int .i64 n, .str [], .snil, .pnil, .pnil]
  | .text s => [.int .i64 2, .int .i64 0, .str s, .snil, .pnil, .pnil]
  | .fn rc self param part env => [.int .i64 3, .int .i64 0, .str [], .snil, .box (some 10) (.agg ([.bool rc, .str self, .str param] ++ coV part ++ [encN φ env])) 0, .pnil]
  | .tup l => [.int .i64 4, .int .i64 0, .str [], .sl (some 6) false (encWs φ l), .pnil, .pnil]
  | .tag n v => [.int .i64 5, .int .i64 n, .str [], .sl (some 6) false [.agg (celW φ v)], .pnil, .pnil]
  | .ref k => [.int .i64 6, .int .i64 0, .str [], .snil, .pnil, .adr (φ k) 0]
def encWs (φ : Nat → Nat) : List Vl → List V
  | [] => []
  | v :: l => .agg (celW φ v) :: encWs φ l
def encN (φ : Nat → Nat) : En → V
  | .nil => .pnil
  | .cons x v e => .box (some 8) (.agg (.str x :: (celW φ v ++ [encN φ e]))) 0
end
def encW (φ : Nat → Nat) (v : Vl) : V := .agg (celW φ v)
theorem encWs_eq {φ : Nat → Nat} : ∀ l, encWs φ l = l.map (encW φ)
  | [] => by simp [encWs]
  | v :: l => by simp [encWs, encWs_eq l, encW]
theorem celW_len {φ : Nat → Nat} (v : Vl) : (celW φ v).length = 6 := by cases v <;> simp [celW]
theorem celW_one {φ : Nat → Nat} (v : Vl) : ∀ c ∈ celW φ v, c.one = true := by cases v <;> simp [celW, V.one]
theorem encW_shape {φ : Nat → Nat} (v : Vl) : (encW φ v).shape = some 6 := by simp [encW, V.shape, celW_len]
mutual
theorem celW_ext {φ φ' : Nat → Nat} {n L : Nat} (h : ∀ k, k < n → φ' k = φ k) : ∀ {v : Vl}, okV n L v → celW φ' v = celW φ v
  | .int n, _ => by simp [celW]
  | .text s, _ => by simp [celW]
  | .fn rc self param part env, k => by simp [celW, encN_ext h k.2]
  | .tup l, k => by simp [celW, encWs_ext h k.2]
  | .tag n v, k => by simp only [celW]; rw [celW_ext (v := v) h k]
  | .ref i, k => by simp only [celW]; rw [h i k]
theorem encWs_ext {φ φ' : Nat → Nat} {n L : Nat} (h : ∀ k, k < n → φ' k = φ k) : ∀ {l : List Vl}, okVs n L l → encWs φ' l = encWs φ l
  | [], _ => by simp [encWs]
  | v :: l, k => by simp only [encWs]; rw [celW_ext h k.1, encWs_ext h k.2]
theorem encN_ext {φ φ' : Nat → Nat} {n L : Nat} (h : ∀ k, k < n → φ' k = φ k) : ∀ {e : En}, okE n L e → encN φ' e = encN φ e
  | .nil, _ => by simp [encN]
  | .cons x v e, k => by simp only [encN]; rw [celW_ext h k.1, encN_ext h k.2]
end
theorem encW_ext {φ φ' : Nat → Nat} {n L : Nat} {v : Vl} (h : ∀ k, k < n → φ' k = φ k) (k : okV n L v) : encW φ' v = encW φ v := by unfold encW; rw [celW_ext h k]
attribute [irreducible] celW encWs encN
def zW : V := .agg [.int .i64 0, .int .i64 0, .str [], .snil, .pnil, .pnil]
def resW (φ : Nat → Nat) : Option Vl → D
  | some v => .tup [.v (encW φ v), .v (.bool true)]
  | none => .tup [.v zW, .v (.bool false)]
/-- The machine. -/
def machOb (tt : Nat) (m : Ms) : Ob := .cells [.v (vS m.inp), .v (.int .i64 m.fuel), .v (.int .i64 m.err), .v (.int .i64 m.fault), .v (.str []), .tsl tt none (m.tr.map .str)]
structure Sto (mo tt : Nat) (φ ψ : Nat → Nat) (m : Ms) (σ : Sg) : Prop where
  mach : σ.objs[mo]? = some (machOb tt m)
  tok : σ.toks[tt]? = some m.tr.length
  st : ∀ (k : Nat) v, m.st[k]? = some v → ∃ rest, σ.objs[ψ k]? = some (.known (φ k) ((celW φ v).map .v ++ rest))
  inj : ∀ i j, i < m.st.length → j < m.st.length → ψ i = ψ j → i = j
theorem Sto.lt {mo tt : Nat} {φ ψ : Nat → Nat} {m : Ms} {σ : Sg} (h : Sto mo tt φ ψ m σ) {k : Nat} (hk : k < m.st.length) : ψ k < σ.objs.length := by
  obtain ⟨rest, hr⟩ := h.st k m.st[k] (List.getElem?_eq_getElem hk)
  exact (List.getElem?_eq_some_iff.1 hr).1
theorem Sto.mlt {mo tt : Nat} {φ ψ : Nat → Nat} {m : Ms} {σ : Sg} (h : Sto mo tt φ ψ m σ) : mo < σ.objs.length := (List.getElem?_eq_some_iff.1 h.mach).1
theorem Sto.ne {mo tt : Nat} {φ ψ : Nat → Nat} {m : Ms} {σ : Sg} (h : Sto mo tt φ ψ m σ) {k o : Nat} {cs : List D} (hk : k < m.st.length) (ho : σ.objs[o]? = some (.cells cs)) : ψ k ≠ o := by
  rintro rfl
  obtain ⟨rest, hr⟩ := h.st k m.st[k] (List.getElem?_eq_getElem hk)
  rw [ho] at hr
  cases hr
/-- The same in a greater memory. -/
theorem Sto.mono {mo tt : Nat} {φ ψ : Nat → Nat} {m : Ms} {σ τ : Sg} (h : Sto mo tt φ ψ m σ) (ho : ∀ i, i < σ.objs.length → τ.objs[i]? = σ.objs[i]?) (ht : τ.toks[tt]? = σ.toks[tt]?) : Sto mo tt φ ψ m τ := by
  refine ⟨(ho _ h.mlt).trans h.mach, ht.trans h.tok, fun k v hk => ?_, h.inj⟩
  obtain ⟨rest, hr⟩ := h.st k v hk
  exact ⟨rest, (ho _ (h.lt (List.getElem?_eq_some_iff.1 hk).1)).trans hr⟩
theorem Sto.add {mo tt : Nat} {φ ψ : Nat → Nat} {m : Ms} {σ : Sg} (h : Sto mo tt φ ψ m σ) (xs : List Ob) : Sto mo tt φ ψ m ⟨σ.objs ++ xs, σ.toks⟩ :=
  h.mono (fun i hi => List.getElem?_append_left hi) rfl
/-- What may have changed. -/
structure Aft (mo tt : Nat) (φ ψ : Nat → Nat) (m : Ms) (σ : Sg) (φ' ψ' : Nat → Nat) (m' : Ms) (σ' : Sg) : Prop where
  sto : Sto mo tt φ' ψ' m' σ'
  fe : ∀ k, k < m.st.length → φ' k = φ k
  pe : ∀ k, k < m.st.length → ψ' k = ψ k
  new : ∀ k, m.st.length ≤ k → k < m'.st.length → σ.objs.length ≤ ψ' k
  objs : σ.objs.length ≤ σ'.objs.length
  keep : ∀ i, i < σ.objs.length → i ≠ mo → (∀ k, k < m.st.length → ψ k ≠ i) → σ'.objs[i]? = σ.objs[i]?
  toks : σ.toks.length ≤ σ'.toks.length
  ktok : ∀ t, t < σ.toks.length → t ≠ tt → σ'.toks[t]? = σ.toks[t]?
section
variable {mo tt : Nat} {φ ψ φ' ψ' φ'' ψ'' : Nat → Nat} {m m' m'' : Ms} {σ σ' σ'' : Sg}
theorem Aft.refl (h : Sto mo tt φ ψ m σ) : Aft mo tt φ ψ m σ φ ψ m σ :=
  ⟨h, fun _ _ => rfl, fun _ _ => rfl, fun k h1 h2 => by omega, Nat.le_refl _, fun _ _ _ _ => rfl, Nat.le_refl _, fun _ _ _ => rfl⟩
theorem Aft.trans (h : Aft mo tt φ ψ m σ φ' ψ' m' σ') (g : Aft mo tt φ' ψ' m' σ' φ'' ψ'' m'' σ'') (hs : m.st.length ≤ m'.st.length) : Aft mo tt φ ψ m σ φ'' ψ'' m'' σ'' := by
  refine ⟨g.sto, fun k hk => (g.fe k (by omega)).trans (h.fe k hk), fun k hk => (g.pe k (by omega)).trans (h.pe k hk), fun k h1 h2 => ?_, Nat.le_trans h.objs g.objs, fun i hi hm hk => ?_, Nat.le_trans h.toks g.toks, fun t h1 h2 => (g.ktok t (Nat.lt_of_lt_of_le h1 h.toks) h2).trans (h.ktok t h1 h2)⟩
  · by_cases hk : k < m'.st.length
    · rw [g.pe k hk]; exact h.new k h1 hk
    · exact Nat.le_trans h.objs (g.new k (by omega) h2)
  · rw [g.keep i (Nat.lt_of_lt_of_le hi h.objs) hm fun k hk2 => ?_]
    · exact h.keep i hi hm hk
    · by_cases hk1 : k < m.st.length
      · rw [h.pe k hk1]; exact hk k hk1
      · have := h.new k (by omega) hk2
        omega
/-- More objects. -/
theorem Aft.add (h : Aft mo tt φ ψ m σ φ' ψ' m' σ') (xs : List Ob) : Aft mo tt φ ψ m σ φ' ψ' m' ⟨σ'.objs ++ xs, σ'.toks⟩ :=
  ⟨h.sto.add xs, h.fe, h.pe, h.new, by simp only [List.length_append]; exact Nat.le_trans h.objs (Nat.le_add_right _ _), fun i hi hm hk => by
    rw [List.getElem?_append_left (Nat.lt_of_lt_of_le hi h.objs)]; exact h.keep i hi hm hk, h.toks, h.ktok⟩
/-- From where own objects were not there. -/
theorem Aft.back {xs : List Ob} (h : Aft mo tt φ ψ m ⟨σ.objs ++ xs, σ.toks⟩ φ' ψ' m' σ') (hS : Sto mo tt φ ψ m σ) : Aft mo tt φ ψ m σ φ' ψ' m' σ' :=
  ⟨h.sto, h.fe, h.pe, fun k h1 h2 => Nat.le_trans (by simp) (h.new k h1 h2), Nat.le_trans (by simp) h.objs, fun i hi hm hk => by
    rw [h.keep i (by simp only [List.length_append]; omega) hm hk]; exact List.getElem?_append_left hi, h.toks, h.ktok⟩
/-- An own object is set. -/
theorem Aft.put (h : Aft mo tt φ ψ m σ φ' ψ' m' σ') {o : Nat} {cs : List D} (ob : Ob) (hb : σ.objs.length ≤ o) (ho : σ'.objs[o]? = some (.cells cs)) (hm : mo ≠ o) : Aft mo tt φ ψ m σ φ' ψ' m' ⟨σ'.objs.set o ob, σ'.toks⟩ := by
  refine ⟨⟨?_, h.sto.tok, fun k v hk => ?_, h.sto.inj⟩, h.fe, h.pe, h.new, by simpa using h.objs, fun i hi hmi hk => ?_, h.toks, h.ktok⟩
  · rw [List.getElem?_set_ne (Ne.symm hm)]; exact h.sto.mach
  · obtain ⟨rest, hr⟩ := h.sto.st k v hk
    exact ⟨rest, by rw [List.getElem?_set_ne (Ne.symm (h.sto.ne (List.getElem?_eq_some_iff.1 hk).1 ho))]; exact hr⟩
  · show (σ'.objs.set o ob)[i]? = _
    rw [List.getElem?_set_ne (by omega)]; exact h.keep i hi hmi hk
/-- An own object after a call. -/
theorem Aft.loc {xs : List Ob} (h : Aft mo tt φ ψ m ⟨σ.objs ++ xs, σ.toks⟩ φ' ψ' m' σ') (hS : Sto mo tt φ ψ m σ) {j : Nat} {ob : Ob} (hj : xs[j]? = some ob) : σ'.objs[σ.objs.length + j]? = some ob := by
  have hl := (List.getElem?_eq_some_iff.1 hj).1
  rw [h.keep _ (by simp only [List.length_append]; omega) (by have := hS.mlt; omega) fun k hk => by have := hS.lt hk; omega]
  rw [List.getElem?_append_right (by omega), Nat.add_sub_cancel_left, hj]
end
/-- What a part of the machine comes to. -/
def Outc (mo tt : Nat) (φ ψ : Nat → Nat) (m : Ms) (σ : Sg) (rs : Rs Vl) (r : D) (σ' : Sg) : Prop := ∃ φ' ψ', r = resW φ' rs.v ∧ Aft mo tt φ ψ m σ φ' ψ' rs.m σ'

/-- The machine's own cells are set. -/
theorem Sto.setM {mo tt : Nat} {φ ψ : Nat → Nat} {m m' : Ms} {σ : Sg} (h : Sto mo tt φ ψ m σ) (hst : m'.st = m.st) (htr : m'.tr = m.tr) : Aft mo tt φ ψ m σ φ ψ m' ⟨σ.objs.set mo (machOb tt m'), σ.toks⟩ := by
  refine ⟨⟨?_, by rw [htr]; exact h.tok, fun k v hk => ?_, by rw [hst]; exact h.inj⟩, fun _ _ => rfl, fun _ _ => rfl, fun k h1 h2 => by rw [hst] at h2; omega, by simp, fun i hi hm hk => ?_, Nat.le_refl _, fun _ _ _ => rfl⟩
  · rw [List.getElem?_set_self h.mlt]
  · rw [hst] at hk
    obtain ⟨rest, hr⟩ := h.st k v hk
    exact ⟨rest, by rw [List.getElem?_set_ne (Ne.symm (h.ne (List.getElem?_eq_some_iff.1 hk).1 h.mach))]; exact hr⟩
  · show (σ.objs.set mo _)[i]? = _
    rw [List.getElem?_set_ne (Ne.symm hm)]

theorem k_End {mo tt : Nat} {φ ψ : Nat → Nat} {m : Ms} {e f : Int} {σ : Sg} (h : Sto mo tt φ ψ m σ) : ACalls Tryd.prog 48 [.ptr mo 0, .v (.int .i64 e), .v (.int .i64 f)] σ (Outc mo tt φ ψ m σ (endM e f m)) := by
  have hm := h.mach
  have hl := h.mlt
  unfold machOb at hm
  refine acalls_fit Tryd.func48 (by kernel_rfl) c48 rfl (by simp [a48]) fun hf => ?_
  clear hf
  simp -implicitDefEqProofs (maxSteps := 2000000) (disch := omega) [-getElem?_pos, a48, List.getElem?_append_left, List.set_append_left, hm, hl]
  refine .mk (fun he => ?_) fun he => ?_
  · simp -implicitDefEqProofs (maxSteps := 2000000) (disch := omega) [-getElem?_pos, List.getElem?_append_left, List.set_append_left, hm, hl, List.getElem?_set_self, List.set_set]
    refine ⟨_, _, WeakR.refl _ _ _, φ, ψ, ?_, ?_⟩
    · simp [endM, he, resW, zW]
    · have := (h.setM (m' := (endM (α := Vl) e f m).m) (by simp [endM, he]) (by simp [endM, he])).add [Ob.cells [D.v (V.int IntKind.i64 0), D.v (V.int IntKind.i64 0), D.v (V.str []), D.v V.snil, D.v V.pnil, D.v V.pnil]]
      simpa [endM, he, machOb] using this
  · simp -implicitDefEqProofs (maxSteps := 2000000) (disch := omega) [-getElem?_pos, List.getElem?_append_left, List.set_append_left, hm, hl, List.getElem?_set_self, List.set_set]
    refine ⟨_, _, WeakR.refl _ _ _, φ, ψ, ?_, ?_⟩
    · simp [endM, he, resW, zW]
    · have := (Aft.refl h).add [Ob.cells [D.v (V.int IntKind.i64 0), D.v (V.int IntKind.i64 0), D.v (V.str []), D.v V.snil, D.v V.pnil, D.v V.pnil]]
      simpa [endM, he] using this
theorem endM_v {α : Type} {e f : Int} {m : Ms} : (endM (α := α) e f m).v = none := rfl
theorem k_Stuck {mo tt : Nat} {φ ψ : Nat → Nat} {m : Ms} {σ : Sg} (h : Sto mo tt φ ψ m σ) : ACalls Tryd.prog 50 [.ptr mo 0] σ (Outc mo tt φ ψ m σ (stuckM m)) := by
  refine acalls_fit Tryd.func50 (by kernel_rfl) c50 rfl (by simp [a50]) fun hf => ?_
  clear hf
  simp -implicitDefEqProofs (maxSteps := 2000000) (disch := omega) [-getElem?_pos, a50]
  refine (k_End (h.add _)).mono fun r σ2 ⟨φ2, ψ2, hr, hA⟩ => ?_
  rw [endM_v] at hr
  subst hr
  have h0 : σ2.objs[σ.objs.length]? = some _ := hA.loc h (j := 0) rfl
  have hl := (List.getElem?_eq_some_iff.1 h0).1
  have hml := h.mlt
  unfold resW zW
  simp -implicitDefEqProofs (maxSteps := 2000000) (disch := omega) [-getElem?_pos, h0, hl, List.getElem?_set_self]
  refine ⟨_, _, WeakR.refl _ _ _, φ2, ψ2, rfl, ?_⟩
  exact (hA.back h).put _ (by omega) h0 (by omega)
theorem k_PartsC {k n : Int} {s t : Str} {ns : List Str} {l : List Co} {σ : Sg} (hn : ns.length ≤ 4000001) : ACalls Tryd.prog 49 [.v (encC (.mk k n s t ns l))] σ fun r σ' => r = .v (.int .i64 (partsC k l.length ns.length (decide (t ≠ [])))) ∧ σ' = σ := by
  rw [encC_mk]
  refine acalls_fit Tryd.func49 (by kernel_rfl) c49 rfl (by simp [a49]) fun hf => ?_
  clear hf
  simp -implicitDefEqProofs (maxSteps := 2000000) (disch := omega) [-getElem?_pos, a49]
  refine .mk (fun h => ?_) fun h => ?_
  · subst h
    simp -implicitDefEqProofs (maxSteps := 2000000) (disch := omega) [-getElem?_pos]
    exact .fin _ ⟨by simp [partsC], rfl⟩ (.refl _)
  simp -implicitDefEqProofs (maxSteps := 2000000) (disch := omega) [-getElem?_pos]
  refine .mk (fun h => ?_) fun h => ?_
  · subst h
    simp -implicitDefEqProofs (maxSteps := 2000000) (disch := omega) [-getElem?_pos]
    exact .fin _ ⟨by simp [partsC], rfl⟩ (.refl _)
  simp -implicitDefEqProofs (maxSteps := 2000000) (disch := omega) [-getElem?_pos]
  refine .mk (fun h => ?_) fun h => ?_
  · subst h
    simp -implicitDefEqProofs (maxSteps := 2000000) (disch := omega) [-getElem?_pos]
    exact .fin _ ⟨by simp [partsC], rfl⟩ (.refl _)
  simp -implicitDefEqProofs (maxSteps := 2000000) (disch := omega) [-getElem?_pos]
  refine .mk (fun h => ?_) fun h => ?_
  · subst h
    simp -implicitDefEqProofs (maxSteps := 2000000) (disch := omega) [-getElem?_pos]
    exact .fin _ ⟨by simp [partsC], rfl⟩ (.refl _)
  simp -implicitDefEqProofs (maxSteps := 2000000) (disch := omega) [-getElem?_pos]
  refine .mk (fun h => ?_) fun h => ?_
  · subst h
    simp -implicitDefEqProofs (maxSteps := 2000000) (disch := omega) [-getElem?_pos]
    exact .fin _ ⟨by simp [partsC], rfl⟩ (.refl _)
  simp -implicitDefEqProofs (maxSteps := 2000000) (disch := omega) [-getElem?_pos]
  refine .mk (fun h => ?_) fun h => ?_
  · subst h
    simp -implicitDefEqProofs (maxSteps := 2000000) (disch := omega) [-getElem?_pos]
    exact .fin _ ⟨by simp [partsC], rfl⟩ (.refl _)
  simp -implicitDefEqProofs (maxSteps := 2000000) (disch := omega) [-getElem?_pos]
  refine .mk (fun h => ?_) fun h => ?_
  · subst h
    simp -implicitDefEqProofs (maxSteps := 2000000) (disch := omega) [-getElem?_pos]
    exact .fin _ ⟨by simp [partsC], rfl⟩ (.refl _)
  simp -implicitDefEqProofs (maxSteps := 2000000) (disch := omega) [-getElem?_pos]
  refine .mk (fun h => ?_) fun h => ?_
  · subst h
    simp -implicitDefEqProofs (maxSteps := 2000000) (disch := omega) [-getElem?_pos]
    exact .fin _ ⟨by simp [partsC], rfl⟩ (.refl _)
  simp -implicitDefEqProofs (maxSteps := 2000000) (disch := omega) [-getElem?_pos]
  refine .mk (fun h => ?_) fun h => ?_
  · subst h
    simp -implicitDefEqProofs (maxSteps := 2000000) (disch := omega) [-getElem?_pos]
    exact .fin _ ⟨by simp [partsC], rfl⟩ (.refl _)
  simp -implicitDefEqProofs (maxSteps := 2000000) (disch := omega) [-getElem?_pos]
  refine .mk (fun h => ?_) fun h => ?_
  · subst h
    simp -implicitDefEqProofs (maxSteps := 2000000) (disch := omega) [-getElem?_pos]
    exact .fin _ ⟨by simp [partsC], rfl⟩ (.refl _)
  simp -implicitDefEqProofs (maxSteps := 2000000) (disch := omega) [-getElem?_pos]
  refine .mk (fun h => ?_) fun h => ?_
  · subst h
    simp -implicitDefEqProofs (maxSteps := 2000000) (disch := omega) [-getElem?_pos]
    exact .fin _ ⟨by simp [partsC], rfl⟩ (.refl _)
  simp -implicitDefEqProofs (maxSteps := 2000000) (disch := omega) [-getElem?_pos]
  refine .mk (fun h => ?_) fun h => ?_
  · subst h
    simp -implicitDefEqProofs (maxSteps := 2000000) (disch := omega) [-getElem?_pos]
    exact .fin _ ⟨by simp [partsC], rfl⟩ (.refl _)
  simp -implicitDefEqProofs (maxSteps := 2000000) (disch := omega) [-getElem?_pos]
  refine .mk (fun h => ?_) fun h => ?_
  · subst h
    simp -implicitDefEqProofs (maxSteps := 2000000) (disch := omega) [-getElem?_pos]
    exact .fin _ ⟨by simp [partsC], rfl⟩ (.refl _)
  simp -implicitDefEqProofs (maxSteps := 2000000) (disch := omega) [-getElem?_pos]
  refine .mk (fun h => ?_) fun h => ?_
  · subst h
    simp -implicitDefEqProofs (maxSteps := 2000000) (disch := omega) [-getElem?_pos]
    exact .fin _ ⟨by simp [partsC], rfl⟩ (.refl _)
  simp -implicitDefEqProofs (maxSteps := 2000000) (disch := omega) [-getElem?_pos]
  refine .mk (fun h => ?_) fun h => ?_
  · subst h
    simp -implicitDefEqProofs (maxSteps := 2000000) (disch := omega) [-getElem?_pos]
    exact .fin _ ⟨by simp [partsC], rfl⟩ (.refl _)
  simp -implicitDefEqProofs (maxSteps := 2000000) (disch := omega) [-getElem?_pos]
  refine .mk (fun h => ?_) fun h => ?_
  · subst h
    simp -implicitDefEqProofs (maxSteps := 2000000) (disch := omega) [-getElem?_pos]
    exact .fin _ ⟨by simp [partsC], rfl⟩ (.refl _)
  simp -implicitDefEqProofs (maxSteps := 2000000) (disch := omega) [-getElem?_pos]
  refine .mk (fun h => ?_) fun h => ?_
  · subst h
    simp -implicitDefEqProofs (maxSteps := 2000000) (disch := omega) [-getElem?_pos]
    exact .fin _ ⟨by simp [partsC], rfl⟩ (.refl _)
  simp -implicitDefEqProofs (maxSteps := 2000000) (disch := omega) [-getElem?_pos]
  refine .mk (fun h => ?_) fun h => ?_
  · subst h
    simp -implicitDefEqProofs (maxSteps := 2000000) (disch := omega) [-getElem?_pos]
    exact .fin _ ⟨by simp [partsC], rfl⟩ (.refl _)
  simp -implicitDefEqProofs (maxSteps := 2000000) (disch := omega) [-getElem?_pos]
  refine .mk (fun h => ?_) fun h => ?_
  · subst h
    simp -implicitDefEqProofs (maxSteps := 2000000) (disch := omega) [-getElem?_pos]
    exact .fin _ ⟨by simp [partsC], rfl⟩ (.refl _)
  simp -implicitDefEqProofs (maxSteps := 2000000) (disch := omega) [-getElem?_pos]
  refine .mk (fun h => ?_) fun h => ?_
  · subst h
    simp -implicitDefEqProofs (maxSteps := 2000000) (disch := omega) [-getElem?_pos]
    exact .fin _ ⟨by simp [partsC], rfl⟩ (.refl _)
  simp -implicitDefEqProofs (maxSteps := 2000000) (disch := omega) [-getElem?_pos]
  refine .mk (fun h => ?_) fun h => ?_
  · subst h
    simp -implicitDefEqProofs (maxSteps := 2000000) (disch := omega) [-getElem?_pos]
    exact .fin _ ⟨by simp [partsC], rfl⟩ (.refl _)
  simp -implicitDefEqProofs (maxSteps := 2000000) (disch := omega) [-getElem?_pos]
  refine .mk (fun h => ?_) fun h => ?_
  · subst h
    simp -implicitDefEqProofs (maxSteps := 2000000) (disch := omega) [-getElem?_pos]
    refine .mk (fun h2 => ?_) fun h2 => ?_
    · subst h2
      simp -implicitDefEqProofs (maxSteps := 2000000) (disch := omega) [-getElem?_pos]
      exact .fin _ ⟨by simp [partsC], rfl⟩ (.refl _)
    · simp -implicitDefEqProofs (maxSteps := 2000000) (disch := omega) [-getElem?_pos]
      exact .fin _ ⟨by simp [partsC, h2], rfl⟩ (.refl _)
  simp -implicitDefEqProofs (maxSteps := 2000000) (disch := omega) [-getElem?_pos]
  refine .fin _ ⟨?_, rfl⟩ (.refl _)
  unfold partsC
  repeat rw [if_neg (by omega)]
theorem k_Flag {b : Bool} {σ : Sg} : ACalls Tryd.prog 103 [.v (.bool b)] σ fun r σ' => r = .v (.int .i64 (flagC b)) ∧ σ' = σ := by
  refine acalls_fit Tryd.func103 (by kernel_rfl) c103 rfl (by simp [a103]) fun hf => ?_
  clear hf
  cases b with
  | true =>
    simp -implicitDefEqProofs (maxSteps := 2000000) (disch := omega) [-getElem?_pos, a103]
    exact .fin _ ⟨rfl, rfl⟩ (.refl _)
  | false =>
    simp -implicitDefEqProofs (maxSteps := 2000000) (disch := omega) [-getElem?_pos, a103]
    exact .fin _ ⟨rfl, rfl⟩ (.refl _)
def kindW : Vl → Int
  | .int _ => 1
  | .text _ => 2
  | .fn .. => 3
  | .tup _ => 4
  | .tag .. => 5
  | .ref _ => 6
theorem celW_kind {φ : Nat → Nat} (v : Vl) : ∃ b c d e f, celW φ v = [.int .i64 (kindW v), b, c, d, e, f] := by
  cases v <;> (simp only [celW, kindW]; exact ⟨_, _, _, _, _, rfl⟩)
def areW : List Vl → List Int → Bool
  | v :: l, k :: ks => kindW v == k && areW l ks
  | _, [] => true
  | [], _ => false
theorem k_Are {φ : Nat → Nat} {l : List Vl} {ks : List Int} {f : Bool} {xs : List V} {σ : Sg} (hx : xs = l.map (encW φ)) (hl : ks.length ≤ l.length) (hk : ks.length ≤ 100) : ACalls Tryd.prog 83 [.v (.sl (some 6) f xs), .v (.sl none true (ks.map (.int .i64)))] σ fun r σ' => r = .v (.bool (areW l ks)) ∧ σ' = σ := by
  subst hx
  refine acalls_fit Tryd.func83 (by kernel_rfl) c83 rfl (by simp [a83]) fun hf => ?_
  clear hf
  simp -implicitDefEqProofs (maxSteps := 2000000) (disch := omega) [-getElem?_pos, a83]
  refine W_loop (α := Nat) 0 (fun i => ks.length - i) (fun i => ⟨[(0, .v (.sl (some 6) f (l.map (encW φ)))), (7, .v (.sl none true (ks.map (.int .i64)))), (8, .v (.int .i64 ks.length)), (9, .v (.int .i64 i))], σ⟩) (fun i => i ≤ ks.length ∧ areW l ks = areW (l.drop i) (ks.drop i)) (.eq (by simp)) ⟨by simp, by simp⟩ fun i ⟨hi, he⟩ => ?_
  simp -implicitDefEqProofs (maxSteps := 2000000) (disch := omega) [-getElem?_pos]
  refine .mk (fun h => ?_) fun h => ?_
  · simp -implicitDefEqProofs (maxSteps := 2000000) (disch := omega) [-getElem?_pos]
    refine ⟨by omega, fun k hk => ?_⟩
    refine ⟨by omega, fun x hx => ?_⟩
    obtain ⟨b, c, d, e, g, hw⟩ := celW_kind (φ := φ) x
    rw [drop_cons hk, drop_cons hx] at he
    have hx2 : encW φ x = .agg [.int .i64 (kindW x), b, c, d, e, g] := by unfold encW; rw [hw]
    rw [hx2]
    simp -implicitDefEqProofs (maxSteps := 2000000) (disch := omega) [-getElem?_pos]
    refine .mk (fun hq => ?_) fun hq => ?_
    · simp -implicitDefEqProofs (maxSteps := 2000000) (disch := omega) [-getElem?_pos]
      refine ⟨i + 1, ⟨by omega, ?_⟩, by show ks.length - (i + 1) < ks.length - i; omega, .eq (by simp)⟩
      rw [he]
      simp [areW, hq]
    · simp -implicitDefEqProofs (maxSteps := 2000000) (disch := omega) [-getElem?_pos]
      refine .fin _ ⟨?_, rfl⟩ (.refl _)
      rw [he]
      simp [areW, hq]
  · simp -implicitDefEqProofs (maxSteps := 2000000) (disch := omega) [-getElem?_pos]
    have hz : ks.drop i = [] := List.drop_eq_nil_of_le (by omega)
    rw [hz] at he
    refine .fin _ ⟨?_, rfl⟩ (.refl _)
    rw [he]
    cases l.drop i <;> rfl
end Go.Proofs.YtbifjffjibnjjaaDoor

/-
  Core expressions, walked: operators. (Own work.)
-/
set_option linter.unusedVariables false
set_option linter.unusedSimpArgs false
set_option maxHeartbeats 1000000
namespace Go.Proofs.YtbifjffjibnjjaaDoor
open Go Go.Abs

theorem opM_stuck {s : Str} {a b : Vl} {m : Ms} (h1 : ¬ (kindW a = 2 ∧ kindW b = 2)) (h2 : ¬ (kindW a = 2 ∧ kindW b = 1)) (h3 : ¬ (kindW a = 1 ∧ kindW b = 1)) : opM s a b m = stuckM m := by
  cases a <;> cases b <;> first | rfl | (simp [kindW] at h1 h2 h3)
theorem arith_stuck {s : Str} {a b : Vl} {m : Ms} (h : kindW a = 2 ∧ kindW b = 2) (hs : s ≠ [94]) : opM s a b m = stuckM m := by
  cases a <;> cases b <;> simp [kindW] at h
  simp [opM, hs]
theorem index_stuck {s : Str} {a b : Vl} {m : Ms} (h : kindW a = 2 ∧ kindW b = 1) (hs : s ≠ [35]) : opM s a b m = stuckM m := by
  cases a <;> cases b <;> simp [kindW] at h
  simp [opM, hs]
theorem kind2 {v : Vl} (h : kindW v = 2) : ∃ s, v = .text s := by cases v <;> simp [kindW] at h; exact ⟨_, rfl⟩
theorem kind1 {v : Vl} (h : kindW v = 1) : ∃ n, v = .int n := by cases v <;> simp [kindW] at h; exact ⟨_, rfl⟩
theorem areW2 {a b : Vl} {x y : Int} : areW [a, b] [x, y] = decide (kindW a = x ∧ kindW b = y) := by
  simp only [areW, Bool.and_true]
  by_cases h1 : kindW a = x <;> by_cases h2 : kindW b = y <;> simp [h1, h2]
theorem one6 {a b c d e f : V} (h : ∀ x ∈ [a, b, c, d, e, f], x.one = true) : a.one = true ∧ b.one = true ∧ c.one = true ∧ d.one = true ∧ e.one = true ∧ f.one = true :=
  ⟨h a (by simp), h b (by simp), h c (by simp), h d (by simp), h e (by simp), h f (by simp)⟩
theorem and_of {x y a b : Int} (h : ¬ (¬ x = a ∨ ¬ y = b)) : x = a ∧ y = b := ⟨Decidable.byContradiction fun e => h (.inl e), Decidable.byContradiction fun e => h (.inr e)⟩
theorem not_and_of {x y a b : Int} (h : ¬ x = a ∨ ¬ y = b) : ¬ (x = a ∧ y = b) := fun e => h.elim (fun k => k e.1) fun k => k e.2
theorem k_Op {mo tt : Nat} {φ ψ : Nat → Nat} {m : Ms} {s : Str} {a b : Vl} {n L : Nat} {σ : Sg} (h : Sto mo tt φ ψ m σ) (ha : okV n L a) (hb : okV n L b) (hL : L ≤ 1000000000) : ACalls Tryd.prog 84 [.ptr mo 0, .v (.str s), .v (encW φ a), .v (encW φ b)] σ (Outc mo tt φ ψ m σ (opM s a b m)) := by
  have hml := h.mlt
  obtain ⟨a0, a1, a2, a3, a4, a5, hca⟩ := list6 (celW_len (φ := φ) a)
  obtain ⟨b0, b1, b2, b3, b4, b5, hcb⟩ := list6 (celW_len (φ := φ) b)
  have hea : encW φ a = .agg [a0, a1, a2, a3, a4, a5] := by unfold encW; rw [hca]
  have heb : encW φ b = .agg [b0, b1, b2, b3, b4, b5] := by unfold encW; rw [hcb]
  have hx : [V.agg [a0, a1, a2, a3, a4, a5], V.agg [b0, b1, b2, b3, b4, b5]] = [a, b].map (encW φ) := by simp [hea, heb]
  have k1 := fun (x y : Int) (f : Bool) (σ : Sg) => k_Are (ks := [x, y]) (f := f) (σ := σ) hx (by simp) (by simp)
  simp only [areW2, List.map_cons, List.map_nil] at k1
  rw [hea, heb]
  refine acalls_fit Tryd.func84 (by kernel_rfl) c84 rfl (by simp [a84]) fun hf => ?_
  clear hf
  simp -implicitDefEqProofs (maxSteps := 2000000) (disch := omega) [-getElem?_pos, a84]
  have o1 := one6 (hca ▸ celW_one (φ := φ) a)
  have o2 := one6 (hcb ▸ celW_one (φ := φ) b)
  refine ⟨⟨o1, o2⟩, ?_⟩
  refine .mk (fun hs => ?_) fun hs => ?_
  · subst hs
    simp -implicitDefEqProofs (maxSteps := 2000000) (disch := omega) [-getElem?_pos]
    refine (k1 2 2 _ _).then fun r hr => ?_
    subst hr
    simp -implicitDefEqProofs (maxSteps := 2000000) (disch := omega) [-getElem?_pos]
    refine .mk (fun hq => ?_) fun hq => ?_
    · obtain ⟨x, rfl⟩ := kind2 hq.1
      obtain ⟨y, rfl⟩ := kind2 hq.2
      simp only [celW] at hca hcb
      cases hca
      cases hcb
      simp only [okV] at ha hb
      simp -implicitDefEqProofs (maxSteps := 2000000) (disch := omega) [-getElem?_pos]
      refine .mk (fun hq2 => ?_) fun hq2 => ?_
      · have he : opM [94] (.text x) (.text y) m = endM 9 2 m := by
          have : x.length + y.length > 2000 := by omega
          simp [opM, this]
        rw [he]
        simp -implicitDefEqProofs (maxSteps := 2000000) (disch := omega) [-getElem?_pos]
        refine (k_End (h.add _)).mono fun r σ2 ⟨φ2, ψ2, hr, hA⟩ => ?_
        replace hr : r = .tup [.v zW, .v (.bool false)] := hr
        subst hr
        have h0 : σ2.objs[σ.objs.length + 2]? = some _ := hA.loc h (j := 2) rfl
        have hl := (List.getElem?_eq_some_iff.1 h0).1
        unfold zW
        simp -implicitDefEqProofs (maxSteps := 2000000) (disch := omega) [-getElem?_pos, h0, hl, List.getElem?_set_self]
        exact ⟨_, _, WeakR.refl _ _ _, φ2, ψ2, rfl, (hA.back h).put _ (by omega) h0 (by omega)⟩

      · have he : opM [94] (.text x) (.text y) m = done (.text (x ++ y)) m := by
          have : ¬ x.length + y.length > 2000 := by omega
          simp [opM, this]
        rw [he]
        simp -implicitDefEqProofs (maxSteps := 2000000) (disch := omega) [-getElem?_pos]
        refine ⟨by omega, ?_⟩
        exact ⟨_, _, WeakR.refl _ _ _, φ, ψ, by simp [done, resW, encW, celW], (Aft.refl h).add _⟩
    · simp -implicitDefEqProofs (maxSteps := 2000000) (disch := omega) [-getElem?_pos]
      refine (k1 1 1 _ _).then fun r hr => ?_
      subst hr
      simp -implicitDefEqProofs (maxSteps := 2000000) (disch := omega) [-getElem?_pos]
      refine .mk (fun hq3 => ?_) fun hq3 => ?_
      · replace hq3 := not_and_of hq3
        have he : opM [94] a b m = stuckM m := by
          by_cases h4 : kindW a = 2 ∧ kindW b = 1
          · exact index_stuck h4 (by simp)
          · exact opM_stuck hq h4 hq3
        rw [he]
        simp -implicitDefEqProofs (maxSteps := 2000000) (disch := omega) [-getElem?_pos]
        refine (k_Stuck (h.add _)).mono fun r σ2 ⟨φ2, ψ2, hr, hA⟩ => ?_
        replace hr : r = .tup [.v zW, .v (.bool false)] := hr
        subst hr
        have h0 : σ2.objs[σ.objs.length + 2]? = some _ := hA.loc h (j := 2) rfl
        have hl := (List.getElem?_eq_some_iff.1 h0).1
        unfold zW
        simp -implicitDefEqProofs (maxSteps := 2000000) (disch := omega) [-getElem?_pos, h0, hl, List.getElem?_set_self]
        exact ⟨_, _, WeakR.refl _ _ _, φ2, ψ2, rfl, (hA.back h).put _ (by omega) h0 (by omega)⟩

      · replace hq3 := and_of hq3
        obtain ⟨x, rfl⟩ := kind1 hq3.1
        obtain ⟨y, rfl⟩ := kind1 hq3.2
        have he : opM [94] (.int x) (.int y) m = stuckM m := by simp [opM, arithM]
        rw [he]
        simp -implicitDefEqProofs (maxSteps := 2000000) (disch := omega) [-getElem?_pos]
        refine (k_Stuck (h.add _)).mono fun r σ2 ⟨φ2, ψ2, hr, hA⟩ => ?_
        replace hr : r = .tup [.v zW, .v (.bool false)] := hr
        subst hr
        have h0 : σ2.objs[σ.objs.length + 2]? = some _ := hA.loc h (j := 2) rfl
        have hl := (List.getElem?_eq_some_iff.1 h0).1
        unfold zW
        simp -implicitDefEqProofs (maxSteps := 2000000) (disch := omega) [-getElem?_pos, h0, hl, List.getElem?_set_self]
        exact ⟨_, _, WeakR.refl _ _ _, φ2, ψ2, rfl, (hA.back h).put _ (by omega) h0 (by omega)⟩

  · simp -implicitDefEqProofs (maxSteps := 2000000) (disch := omega) [-getElem?_pos]
    refine .mk (fun hs2 => ?_) fun hs2 => ?_
    · subst hs2
      simp -implicitDefEqProofs (maxSteps := 2000000) (disch := omega) [-getElem?_pos]
      refine (k1 2 1 _ _).then fun r hr => ?_
      subst hr
      simp -implicitDefEqProofs (maxSteps := 2000000) (disch := omega) [-getElem?_pos]
      refine .mk (fun hq => ?_) fun hq => ?_
      · obtain ⟨x, rfl⟩ := kind2 hq.1
        obtain ⟨y, rfl⟩ := kind1 hq.2
        simp only [celW] at hca hcb
        cases hca
        cases hcb
        simp only [okV] at ha hb
        simp -implicitDefEqProofs (maxSteps := 2000000) (disch := omega) [-getElem?_pos]
        refine .mk (fun hy => ?_) fun hy => ?_
        · simp -implicitDefEqProofs (maxSteps := 2000000) (disch := omega) [-getElem?_pos]
          refine .mk (fun hy2 => ?_) fun hy2 => ?_
          · have he : opM [35] (.text x) (.int y) m = endM 9 2 m := by
              have h1 : ¬ y < 0 := by omega
              have h2 : x[y.toNat]? = none := List.getElem?_eq_none (by omega)
              simp [opM, h1, h2]
            rw [he]
            simp -implicitDefEqProofs (maxSteps := 2000000) (disch := omega) [-getElem?_pos]
            refine (k_End (h.add _)).mono fun r σ2 ⟨φ2, ψ2, hr, hA⟩ => ?_
            replace hr : r = .tup [.v zW, .v (.bool false)] := hr
            subst hr
            have h0 : σ2.objs[σ.objs.length + 2]? = some _ := hA.loc h (j := 2) rfl
            have hl := (List.getElem?_eq_some_iff.1 h0).1
            unfold zW
            simp -implicitDefEqProofs (maxSteps := 2000000) (disch := omega) [-getElem?_pos, h0, hl, List.getElem?_set_self]
            exact ⟨_, _, WeakR.refl _ _ _, φ2, ψ2, rfl, (hA.back h).put _ (by omega) h0 (by omega)⟩

          · obtain ⟨c, hc⟩ : ∃ c, x[y.toNat]? = some c := ⟨_, List.getElem?_eq_getElem (by omega)⟩
            have he : opM [35] (.text x) (.int y) m = done (.int c.toNat) m := by
              have h1 : ¬ y < 0 := by omega
              simp [opM, h1, hc]
            rw [he]
            simp -implicitDefEqProofs (maxSteps := 2000000) (disch := omega) [-getElem?_pos, hc]
            refine ⟨by omega, by omega, ?_⟩
            have hcl := c.toNat_lt
            rw [wrap_i64 (by omega) (by omega)]
            exact ⟨_, _, WeakR.refl _ _ _, φ, ψ, by simp [done, resW, encW, celW], (Aft.refl h).add _⟩
        · have he : opM [35] (.text x) (.int y) m = endM 9 2 m := by
            have : y < 0 := by omega
            simp [opM, this]
          rw [he]
          simp -implicitDefEqProofs (maxSteps := 2000000) (disch := omega) [-getElem?_pos]
          refine (k_End (h.add _)).mono fun r σ2 ⟨φ2, ψ2, hr, hA⟩ => ?_
          replace hr : r = .tup [.v zW, .v (.bool false)] := hr
          subst hr
          have h0 : σ2.objs[σ.objs.length + 2]? = some _ := hA.loc h (j := 2) rfl
          have hl := (List.getElem?_eq_some_iff.1 h0).1
          unfold zW
          simp -implicitDefEqProofs (maxSteps := 2000000) (disch := omega) [-getElem?_pos, h0, hl, List.getElem?_set_self]
          exact ⟨_, _, WeakR.refl _ _ _, φ2, ψ2, rfl, (hA.back h).put _ (by omega) h0 (by omega)⟩

      · simp -implicitDefEqProofs (maxSteps := 2000000) (disch := omega) [-getElem?_pos]
        refine (k1 1 1 _ _).then fun r hr => ?_
        subst hr
        simp -implicitDefEqProofs (maxSteps := 2000000) (disch := omega) [-getElem?_pos]
        refine .mk (fun hq3 => ?_) fun hq3 => ?_
        · replace hq3 := not_and_of hq3
          have he : opM [35] a b m = stuckM m := by
            by_cases h4 : kindW a = 2 ∧ kindW b = 2
            · exact arith_stuck h4 (by simp)
            · exact opM_stuck h4 hq hq3
          rw [he]
          simp -implicitDefEqProofs (maxSteps := 2000000) (disch := omega) [-getElem?_pos]
          refine (k_Stuck (h.add _)).mono fun r σ2 ⟨φ2, ψ2, hr, hA⟩ => ?_
          replace hr : r = .tup [.v zW, .v (.bool false)] := hr
          subst hr
          have h0 : σ2.objs[σ.objs.length + 2]? = some _ := hA.loc h (j := 2) rfl
          have hl := (List.getElem?_eq_some_iff.1 h0).1
          unfold zW
          simp -implicitDefEqProofs (maxSteps := 2000000) (disch := omega) [-getElem?_pos, h0, hl, List.getElem?_set_self]
          exact ⟨_, _, WeakR.refl _ _ _, φ2, ψ2, rfl, (hA.back h).put _ (by omega) h0 (by omega)⟩

        · replace hq3 := and_of hq3
          obtain ⟨x, rfl⟩ := kind1 hq3.1
          obtain ⟨y, rfl⟩ := kind1 hq3.2
          have he : opM [35] (.int x) (.int y) m = stuckM m := by simp [opM, arithM]
          rw [he]
          simp -implicitDefEqProofs (maxSteps := 2000000) (disch := omega) [-getElem?_pos]
          refine (k_Stuck (h.add _)).mono fun r σ2 ⟨φ2, ψ2, hr, hA⟩ => ?_
          replace hr : r = .tup [.v zW, .v (.bool false)] := hr
          subst hr
          have h0 : σ2.objs[σ.objs.length + 2]? = some _ := hA.loc h (j := 2) rfl
          have hl := (List.getElem?_eq_some_iff.1 h0).1
          unfold zW
          simp -implicitDefEqProofs (maxSteps := 2000000) (disch := omega) [-getElem?_pos, h0, hl, List.getElem?_set_self]
          exact ⟨_, _, WeakR.refl _ _ _, φ2, ψ2, rfl, (hA.back h).put _ (by omega) h0 (by omega)⟩

    · simp -implicitDefEqProofs (maxSteps := 2000000) (disch := omega) [-getElem?_pos]
      refine (k1 1 1 _ _).then fun r hr => ?_
      subst hr
      simp -implicitDefEqProofs (maxSteps := 2000000) (disch := omega) [-getElem?_pos]
      refine .mk (fun hq3 => ?_) fun hq3 => ?_
      · replace hq3 := not_and_of hq3
        have he : opM s a b m = stuckM m := by
          by_cases h4 : kindW a = 2 ∧ kindW b = 2
          · exact arith_stuck h4 hs
          · by_cases h5 : kindW a = 2 ∧ kindW b = 1
            · exact index_stuck h5 hs2
            · exact opM_stuck h4 h5 hq3
        rw [he]
        simp -implicitDefEqProofs (maxSteps := 2000000) (disch := omega) [-getElem?_pos]
        refine (k_Stuck (h.add _)).mono fun r σ2 ⟨φ2, ψ2, hr, hA⟩ => ?_
        replace hr : r = .tup [.v zW, .v (.bool false)] := hr
        subst hr
        have h0 : σ2.objs[σ.objs.length + 2]? = some _ := hA.loc h (j := 2) rfl
        have hl := (List.getElem?_eq_some_iff.1 h0).1
        unfold zW
        simp -implicitDefEqProofs (maxSteps := 2000000) (disch := omega) [-getElem?_pos, h0, hl, List.getElem?_set_self]
        exact ⟨_, _, WeakR.refl _ _ _, φ2, ψ2, rfl, (hA.back h).put _ (by omega) h0 (by omega)⟩

      · replace hq3 := and_of hq3
        obtain ⟨x, rfl⟩ := kind1 hq3.1
        obtain ⟨y, rfl⟩ := kind1 hq3.2
        simp only [celW] at hca hcb
        cases hca
        cases hcb
        have he : opM s (.int x) (.int y) m = arithM s x y m := rfl
        rw [he]
        simp -implicitDefEqProofs (maxSteps := 2000000) (disch := omega) [-getElem?_pos]
        refine .mk (fun g0 => ?_) fun g0 => ?_
        · subst g0
          simp -implicitDefEqProofs (maxSteps := 2000000) (disch := omega) [-getElem?_pos]
          have he : arithM [43] x y m = done (.int (IntKind.i64.wrap (x + y))) m := by simp [arithM]
          rw [he]
          exact ⟨_, _, WeakR.refl _ _ _, φ, ψ, by simp [done, resW, encW, celW], (Aft.refl h).add _⟩
        simp -implicitDefEqProofs (maxSteps := 2000000) (disch := omega) [-getElem?_pos]
        refine .mk (fun g1 => ?_) fun g1 => ?_
        · subst g1
          simp -implicitDefEqProofs (maxSteps := 2000000) (disch := omega) [-getElem?_pos]
          have he : arithM [45] x y m = done (.int (IntKind.i64.wrap (x - y))) m := by simp [arithM]
          rw [he]
          exact ⟨_, _, WeakR.refl _ _ _, φ, ψ, by simp [done, resW, encW, celW], (Aft.refl h).add _⟩
        simp -implicitDefEqProofs (maxSteps := 2000000) (disch := omega) [-getElem?_pos]
        refine .mk (fun g2 => ?_) fun g2 => ?_
        · subst g2
          simp -implicitDefEqProofs (maxSteps := 2000000) (disch := omega) [-getElem?_pos]
          have he : arithM [42] x y m = done (.int (IntKind.i64.wrap (x * y))) m := by simp [arithM]
          rw [he]
          exact ⟨_, _, WeakR.refl _ _ _, φ, ψ, by simp [done, resW, encW, celW], (Aft.refl h).add _⟩
        simp -implicitDefEqProofs (maxSteps := 2000000) (disch := omega) [-getElem?_pos]
        refine .mk (fun g3 => ?_) fun g3 => ?_
        · subst g3
          simp -implicitDefEqProofs (maxSteps := 2000000) (disch := omega) [-getElem?_pos]
          refine .mk (fun hz => ?_) fun hz => ?_
          · have he : arithM [47] x y m = endM 9 1 m := by simp [arithM, hz]
            rw [he]
            simp -implicitDefEqProofs (maxSteps := 2000000) (disch := omega) [-getElem?_pos]
            refine (k_End (h.add _)).mono fun r σ2 ⟨φ2, ψ2, hr, hA⟩ => ?_
            replace hr : r = .tup [.v zW, .v (.bool false)] := hr
            subst hr
            have h0 : σ2.objs[σ.objs.length + 2]? = some _ := hA.loc h (j := 2) rfl
            have hl := (List.getElem?_eq_some_iff.1 h0).1
            unfold zW
            simp -implicitDefEqProofs (maxSteps := 2000000) (disch := omega) [-getElem?_pos, h0, hl, List.getElem?_set_self]
            exact ⟨_, _, WeakR.refl _ _ _, φ2, ψ2, rfl, (hA.back h).put _ (by omega) h0 (by omega)⟩

          · have he : arithM [47] x y m = done (.int (IntKind.i64.wrap (x.tdiv y))) m := by simp [arithM, hz]
            rw [he]
            simp -implicitDefEqProofs (maxSteps := 2000000) (disch := omega) [-getElem?_pos]
            refine ⟨hz, ?_⟩
            exact ⟨_, _, WeakR.refl _ _ _, φ, ψ, by simp [done, resW, encW, celW], (Aft.refl h).add _⟩
        simp -implicitDefEqProofs (maxSteps := 2000000) (disch := omega) [-getElem?_pos]
        refine .mk (fun g4 => ?_) fun g4 => ?_
        · subst g4
          simp -implicitDefEqProofs (maxSteps := 2000000) (disch := omega) [-getElem?_pos]
          refine k_Flag.then fun r hr => ?_
          subst hr
          simp -implicitDefEqProofs (maxSteps := 2000000) (disch := omega) [-getElem?_pos]
          have he : arithM [60] x y m = done (.int (flagC (decide (x < y)))) m := by simp [arithM]
          rw [he]
          exact ⟨_, _, WeakR.refl _ _ _, φ, ψ, by simp [done, resW, encW, celW], (Aft.refl h).add _⟩
        simp -implicitDefEqProofs (maxSteps := 2000000) (disch := omega) [-getElem?_pos]
        refine .mk (fun g5 => ?_) fun g5 => ?_
        · subst g5
          simp -implicitDefEqProofs (maxSteps := 2000000) (disch := omega) [-getElem?_pos]
          refine k_Flag.then fun r hr => ?_
          subst hr
          simp -implicitDefEqProofs (maxSteps := 2000000) (disch := omega) [-getElem?_pos]
          have he : arithM [61, 61] x y m = done (.int (flagC (x == y))) m := by simp [arithM]
          rw [he]
          exact ⟨_, _, WeakR.refl _ _ _, φ, ψ, by simp [done, resW, encW, celW], (Aft.refl h).add _⟩
        simp -implicitDefEqProofs (maxSteps := 2000000) (disch := omega) [-getElem?_pos]
        have he2 : arithM s x y m = stuckM m := by simp [arithM, g0, g1, g2, g3, g4, g5]
        rw [he2]
        refine (k_Stuck (h.add _)).mono fun r σ2 ⟨φ2, ψ2, hr, hA⟩ => ?_
        replace hr : r = .tup [.v zW, .v (.bool false)] := hr
        subst hr
        have h0 : σ2.objs[σ.objs.length + 2]? = some _ := hA.loc h (j := 2) rfl
        have hl := (List.getElem?_eq_some_iff.1 h0).1
        unfold zW
        simp -implicitDefEqProofs (maxSteps := 2000000) (disch := omega) [-getElem?_pos, h0, hl, List.getElem?_set_self]
        exact ⟨_, _, WeakR.refl _ _ _, φ2, ψ2, rfl, (hA.back h).put _ (by omega) h0 (by omega)⟩

end Go.Proofs.YtbifjffjibnjjaaDoor
