/-
  From what arguments are read as to the values of the small language; a law's row from its contract. (Own work; by template.)
-/
import Derived.Test.YtbifjffjibnjjaaDoorAbsU
import Derived.Test.YtbifjffjibnjjaaDoorRows
import Derived.WideKeyArgs
import Derived.WalkKit
import Derived.ProofKit
import Derived.OpenShut
import Derived.JoinedCond
set_option linter.unusedVariables false
set_option linter.unusedSimpArgs false
namespace Go.Abs
open Go Go.ChangeShapes Go.WideShapes Go.RowKit

mutual
def V.bulk : V → Nat
  | .str s => s.length + 1
  | .sl _ _ xs => V.bulkL xs + 1
  | .agg cs => V.bulkL cs
  | _ => 1
def V.bulkL : List V → Nat
  | [] => 0
  | x :: xs => x.bulk + V.bulkL xs
end
theorem V.bulkL_append (a b : List V) : V.bulkL (a ++ b) = V.bulkL a + V.bulkL b := by
  induction a with
  | nil => simp [V.bulkL]
  | cons x a ih => simp [V.bulkL, ih, Nat.add_assoc]
theorem V.bulk_cells (x : V) : V.bulkL x.cells = x.bulk := by cases x <;> simp [V.cells, V.bulk, V.bulkL]

/-- The cells that may stand for a value of a type. -/
inductive Ty (P : Program) : TypeId → List V → Prop where
  | bool (t : TypeId) (h : P.underlying t = some .bool) (b : Bool) : Ty P t [.bool b]
  | int (t : TypeId) (k : IntKind) (h : P.underlying t = some (.int k)) (n : Int) (hn : inR k n) : Ty P t [.int k n]
  | str (t : TypeId) (h : P.underlying t = some .string) (s : List UInt8) (hs : s.length ≤ maxLen) : Ty P t [.str s]
  | sl (t e : TypeId) (sh : Sh) (h : P.underlying t = some (.slice e)) (hsh : tsh P e = some sh) (xs : List V) (hl : xs.length ≤ maxLen) (hs : ∀ x ∈ xs, x.shape = sh) (hx : ∀ x ∈ xs, Ty P e x.cells) : Ty P t [.sl sh false xs]
  | struct (t : TypeId) (fs : Array Field) (h : P.underlying t = some (.struct fs)) (parts : List (List V)) (hl : parts.length = fs.size) (hf : ∀ (i : Nat) f p, fs[i]? = some f → parts[i]? = some p → Ty P f.type p) : Ty P t parts.flatten

/-- Fields that lie one behind the other. -/
def laidFs (P : Program) : Nat → List Field → Nat → Bool
  | off, [], n => off == n
  | off, f :: fs, n => f.offset == off && laidFs P (off + P.cellsOf f.type) fs n

/-- Types of plain data, that lead to no others. -/
def plainSet (P : Program) (T : List TypeId) : Bool := T.all fun t => match P.underlying t with
  | some .bool => true
  | some (.int _) => true
  | some .string => true
  | some (.slice e) => T.contains e && (match tsh P e with | some sh => decide (0 < shn sh) && decide (shn sh = P.cellsOf e) | none => false)
  | some (.struct fs) => fs.toList.all (fun f => T.contains f.type) && laidFs P 0 fs.toList (P.cellsOf t)
  | _ => false

theorem inR_of_wf {k : IntKind} {n : Int} (h : (Lit.int k n).wf = true) : inR k n := by simpa [Lit.wf, inR] using h

theorem bulkAll_append {H : Type} (a b : List (DataW H)) : Go.Proofs.YtbifjffjibnjjaaDoor.Rows.uptoBulkAll (a ++ b) = Go.Proofs.YtbifjffjibnjjaaDoor.Rows.uptoBulkAll a + Go.Proofs.YtbifjffjibnjjaaDoor.Rows.uptoBulkAll b := by
  induction a with
  | nil => simp [Go.Proofs.YtbifjffjibnjjaaDoor.Rows.uptoBulkAll]
  | cons x a ih => simp [Go.Proofs.YtbifjffjibnjjaaDoor.Rows.uptoBulkAll, ih, Nat.add_assoc]

section
variable {H : Type} {enc : TypeId × Value → H} {P : Program} {w : World} {sp : Nat → Bool} {held : Bool}

/-- What is read, in cells. -/
structure Cs (P : Program) (w : World) (t : TypeId) (cs : List Value) (d : DataW H) (vs : List V) : Prop where
  ty : Ty P t vs
  len : vs.length = cs.length
  one : ∀ c ∈ vs, c.one = true
  rep : ∀ (i : Nat) c u, vs[i]? = some c → cs[i]? = some u → RepV w (fun b _ => b < w.heap.size) c u
  bulk : V.bulkL vs ≤ Go.Proofs.YtbifjffjibnjjaaDoor.Rows.uptoBulk d

theorem cs_one {t : TypeId} {u : Value} {d : DataW H} {x : V} (h : Ty P t [x]) (h1 : x.one = true) (hr : RepV w (fun b _ => b < w.heap.size) x u) (hb : x.bulk ≤ Go.Proofs.YtbifjffjibnjjaaDoor.Rows.uptoBulk d) : Cs P w t [u] d [x] :=
  ⟨h, rfl, by simpa using h1, fun i c v hc hv => by
    cases i with
    | zero => simp at hc hv; subst hc hv; exact hr
    | succ i => simp at hc, by simpa [V.bulkL] using hb⟩

theorem mapM_some_get' {α β : Type} {f : α → Option β} : ∀ {l : List α} {r : List β}, l.mapM f = some r → ∀ (i : Nat) a, l[i]? = some a → ∃ b, f a = some b ∧ r[i]? = some b
  | [], r, h, i, a, hi => by simp at hi
  | x :: l, r, h, i, a, hi => by
    simp only [List.mapM_cons, Option.pure_def, Option.bind_eq_bind, Option.bind_eq_some_iff] at h
    obtain ⟨b, hb, rs, hrs, he⟩ := h
    cases he
    cases i with
    | zero => simp at hi; subst hi; exact ⟨b, hb, rfl⟩
    | succ i => simpa using mapM_some_get' hrs i a (by simpa using hi)

theorem cs_fields {n : Nat} {cs : List Value} {all : List TypeId} (ih : ∀ (t : TypeId) (cs : List Value) (x : DataW H × List MemPlace), t ∈ all → DataW.trod enc P w 0 sp held n t cs = some x → ∃ vs, Cs P w t cs x.1 vs) :
    ∀ (fs : List Field) (off : Nat) (xs : List (DataW H × List MemPlace)), (∀ f ∈ fs, f.type ∈ all) → laidFs P off fs cs.length = true → xs.length = fs.length →
      (∀ (i : Nat) (f : Field), fs[i]? = some f → DataW.trod enc P w 0 sp held n f.type ((cs.drop f.offset).take (P.cellsOf f.type)) = xs[i]?) →
      ∃ parts : List (List V), parts.length = fs.length ∧ (∀ (i : Nat) f p, fs[i]? = some f → parts[i]? = some p → Ty P f.type p) ∧ off ≤ cs.length ∧ parts.flatten.length = cs.length - off ∧ (∀ c ∈ parts.flatten, c.one = true) ∧
        (∀ (i : Nat) c u, parts.flatten[i]? = some c → cs[off + i]? = some u → RepV w (fun b _ => b < w.heap.size) c u) ∧ V.bulkL parts.flatten ≤ Go.Proofs.YtbifjffjibnjjaaDoor.Rows.uptoBulkAll (xs.map (·.1))
  | [], off, xs, _, hl, hx, _ => by
    have hx0 : xs = [] := List.eq_nil_of_length_eq_zero hx
    subst hx0
    have : off = cs.length := by simpa [laidFs] using hl
    exact ⟨[], rfl, by simp, by omega, by simp [this], by simp, by simp, by simp [V.bulkL, Go.Proofs.YtbifjffjibnjjaaDoor.Rows.uptoBulkAll]⟩
  | f :: fs, off, [], _, _, hx, _ => by simp at hx
  | f :: fs, off, x :: xs, hT, hl, hx, hr => by
    simp only [laidFs, Bool.and_eq_true, beq_iff_eq] at hl
    obtain ⟨ho, hl⟩ := hl
    obtain ⟨parts, p1, p2, p3, p4, p5, p6, p7⟩ := cs_fields ih fs _ xs (fun g hg => hT g (by simp [hg])) hl (by simpa using hx) fun i g hg => by simpa using hr (i + 1) g (by simpa using hg)
    obtain ⟨vs, hvs⟩ := ih f.type _ x (hT f (by simp)) (by simpa using hr 0 f rfl)
    have hlen : vs.length = P.cellsOf f.type := by
      have := hvs.len
      rw [ho] at this
      simp at this
      omega
    refine ⟨vs :: parts, by simp [p1], fun i g p hg hp => ?_, by omega, by simp [p4, hlen]; omega, fun c hc => ?_, fun i c u hc hu => ?_, ?_⟩
    · cases i with
      | zero => simp at hg hp; subst hg hp; exact hvs.ty
      | succ i => exact p2 i g p (by simpa using hg) (by simpa using hp)
    · simp only [List.flatten_cons, List.mem_append] at hc
      rcases hc with hc | hc
      · exact hvs.one c hc
      · exact p5 c hc
    · simp only [List.flatten_cons] at hc
      rcases Nat.lt_or_ge i vs.length with hlt | hge
      · rw [List.getElem?_append_left hlt] at hc
        refine hvs.rep i c u hc ?_
        rw [ho, List.getElem?_take, if_pos (by omega), List.getElem?_drop]
        exact hu
      · rw [List.getElem?_append_right hge] at hc
        refine p6 (i - vs.length) c u hc ?_
        rw [hlen] at hge ⊢
        rw [show off + P.cellsOf f.type + (i - P.cellsOf f.type) = off + i by omega]
        exact hu
    · simp only [List.flatten_cons, V.bulkL_append, List.map_cons, Go.Proofs.YtbifjffjibnjjaaDoor.Rows.uptoBulkAll]
      have := hvs.bulk
      omega

theorem cells?_get {w : World} {a : Addr} {n : Nat} {cs : List Value} (h : w.cells? 0 a n = some cs) : cs.length = n ∧ ∀ i, i < n → ∃ u, cs[i]? = some u ∧ w.cell? (a.add i) = some u := by
  unfold World.cells? at h
  rw [if_pos (Nat.zero_le _)] at h
  have hl : cs.length = n := by simpa using mapM_some_length h
  refine ⟨hl, fun i hi => ?_⟩
  obtain ⟨u, h1, h2⟩ := mapM_some_get' h i i (List.getElem?_range hi)
  exact ⟨u, h2, h1⟩

theorem cell?_lt {w : World} {a : Addr} {u : Value} (h : w.cell? a = some u) : a.block < w.heap.size ∧ a.spot = none := by
  unfold World.cell? at h
  split at h
  · rename_i hb
    split at h
    · cases h
    · rename_i hs
      refine ⟨(Array.getElem?_eq_some_iff.1 hb).1, ?_⟩
      cases hsp : a.spot with
      | none => rfl
      | some s => rw [hsp] at hs; simp at hs
  · cases h

theorem choose_list {Q : Nat → V → Prop} : ∀ (n : Nat), (∀ i, i < n → ∃ x, Q i x) → ∃ xs : List V, xs.length = n ∧ ∀ (i : Nat) x, xs[i]? = some x → Q i x
  | 0, _ => ⟨[], rfl, by simp⟩
  | n + 1, h => by
    obtain ⟨xs, h1, h2⟩ := choose_list n fun i hi => h i (by omega)
    obtain ⟨x, hx⟩ := h n (by omega)
    refine ⟨xs ++ [x], by simp [h1], fun i y hy => ?_⟩
    rcases Nat.lt_or_ge i xs.length with hlt | hge
    · rw [List.getElem?_append_left hlt] at hy
      exact h2 i y hy
    · rw [List.getElem?_append_right hge] at hy
      have h3 := (List.getElem?_eq_some_iff.1 hy).1
      simp at h3
      have h4 : i = n := by omega
      have h5 : i - xs.length = 0 := by omega
      rw [h5] at hy
      simp at hy
      subst hy h4
      exact hx

theorem addr_eta {a : Addr} (h : a.spot = none) : a = ⟨a.block, a.off, none⟩ := by
  cases a
  simp only at h
  subst h
  rfl

theorem cs_of_trod {T : List TypeId} (hT : plainSet P T = true) : ∀ (n : Nat) (t : TypeId) (cs : List Value) (x : DataW H × List MemPlace), t ∈ T → DataW.trod enc P w 0 (fun _ => true) held n t cs = some x → ∃ vs, Cs P w t cs x.1 vs
  | 0, t, cs, x, _, h => by simp [DataW.trod] at h
  | n + 1, t, cs, x, ht, h => by
    have hp := List.all_eq_true.1 hT t ht
    split at hp
    · rename_i hu
      obtain ⟨b, rfl, rfl⟩ := DataW.trod_bool hu h
      exact ⟨[.bool b], cs_one (.bool t hu b) rfl (.bool b) (by simp [V.bulk, Go.Proofs.YtbifjffjibnjjaaDoor.Rows.uptoBulk])⟩
    · rename_i k hu
      obtain ⟨z, rfl, rfl, hw⟩ := DataW.trod_int hu h
      exact ⟨[.int k z], cs_one (.int t k hu z (inR_of_wf hw)) rfl (.int k z (inR_of_wf hw)) (by simp [V.bulk, Go.Proofs.YtbifjffjibnjjaaDoor.Rows.uptoBulk])⟩
    · rename_i hu
      obtain ⟨s, rfl, rfl, hw⟩ := DataW.trod_string hu h
      have hw' : s.data.toList.length ≤ maxLen := hw
      refine ⟨[.str s.data.toList], cs_one (.str t hu _ hw') rfl ?_ (by simp [V.bulk, Go.Proofs.YtbifjffjibnjjaaDoor.Rows.uptoBulk])⟩
      have := RepV.str (w := w) (F := fun b _ => b < w.heap.size) s.data.toList hw'
      simpa using this
    · rename_i e hu
      simp only [Bool.and_eq_true, List.contains_iff_mem] at hp
      obtain ⟨he, hp⟩ := hp
      split at hp
      · rename_i sh hsh
        simp only [Bool.and_eq_true, decide_eq_true_eq] at hp
        obtain ⟨h0, hc⟩ := hp
        rcases DataW.trod_slice hu h with ⟨rfl, rfl⟩ | ⟨a, len, cap, elems, rest, n', hn, rfl, rfl, _, hl, hm, hlen, hel, hsp, _⟩
        · refine ⟨[.sl sh false []], cs_one (.sl t e sh hu hsh [] (Nat.zero_le _) (by simp) (by simp)) rfl (.slNil sh false none) (by simp [V.bulk, V.bulkL, Go.Proofs.YtbifjffjibnjjaaDoor.Rows.uptoBulk])⟩
        · cases hn
          have ih := cs_of_trod hT n
          -- the elements, one by one
          have elem : ∀ i, i < len → ∃ x : V, x.shape = sh ∧ Ty P e x.cells ∧ (∀ c ∈ x.cells, c.one = true) ∧ (∃ y, elems[i]? = some y ∧ x.bulk ≤ Go.Proofs.YtbifjffjibnjjaaDoor.Rows.uptoBulk y.1) ∧
              ∀ j, j < shn sh → ∃ c u, x.cells[j]? = some c ∧ w.cell? ⟨a.block, a.off + (i * shn sh + j), none⟩ = some u ∧ a.spot = none ∧ a.block < w.heap.size ∧ RepV w (fun b _ => b < w.heap.size) c u := by
            intro i hi
            have h1 := hel i hi
            obtain ⟨y, hy⟩ : ∃ y, elems[i]? = some y := ⟨_, List.getElem?_eq_getElem (by omega)⟩
            rw [hy, Option.bind_eq_some_iff] at h1
            obtain ⟨cs', hcs', hrd⟩ := h1
            obtain ⟨vs, hvs⟩ := ih e cs' y he hrd
            obtain ⟨hcl, hcc⟩ := cells?_get hcs'
            have hvl : vs.length = shn sh := by rw [hvs.len, hcl, hc]
            have fin : ∀ x : V, x.cells = vs → x.shape = sh → ∃ x : V, x.shape = sh ∧ Ty P e x.cells ∧ (∀ c ∈ x.cells, c.one = true) ∧ (∃ y, elems[i]? = some y ∧ x.bulk ≤ Go.Proofs.YtbifjffjibnjjaaDoor.Rows.uptoBulk y.1) ∧
                ∀ j, j < shn sh → ∃ c u, x.cells[j]? = some c ∧ w.cell? ⟨a.block, a.off + (i * shn sh + j), none⟩ = some u ∧ a.spot = none ∧ a.block < w.heap.size ∧ RepV w (fun b _ => b < w.heap.size) c u := by
              intro x hx hxs
              refine ⟨x, hxs, hx ▸ hvs.ty, hx ▸ hvs.one, ⟨y, hy, by rw [← V.bulk_cells, hx]; exact hvs.bulk⟩, fun j hj => ?_⟩
              obtain ⟨u, hu1, hu2⟩ := hcc j (by omega)
              obtain ⟨c, hcj⟩ : ∃ c, vs[j]? = some c := ⟨_, List.getElem?_eq_getElem (by omega)⟩
              have hlt := cell?_lt hu2
              have hspot : a.spot = none := by
                have h2 := hlt.2
                unfold Addr.add at h2
                by_cases hj0 : j = 0
                · subst hj0
                  rw [if_pos rfl] at h2
                  by_cases hi0 : i * P.cellsOf e = 0
                  · rw [if_pos hi0] at h2; exact h2
                  · -- the first cell of all
                    have hi1 : 0 < i := Nat.pos_of_ne_zero fun h => hi0 (by rw [h, Nat.zero_mul])
                    have h3 := hel 0 (by omega)
                    obtain ⟨y0, hy0⟩ : ∃ y, elems[0]? = some y := ⟨_, List.getElem?_eq_getElem (by omega)⟩
                    rw [hy0, Option.bind_eq_some_iff] at h3
                    obtain ⟨cs0, hcs0, _⟩ := h3
                    obtain ⟨u0, _, hu0⟩ := (cells?_get hcs0).2 0 (by omega)
                    have := (cell?_lt hu0).2
                    simpa [Addr.add] using this
                · have h3 := hel 0 (by omega)
                  obtain ⟨y0, hy0⟩ : ∃ y, elems[0]? = some y := ⟨_, List.getElem?_eq_getElem (by omega)⟩
                  rw [hy0, Option.bind_eq_some_iff] at h3
                  obtain ⟨cs0, hcs0, _⟩ := h3
                  obtain ⟨u0, _, hu0⟩ := (cells?_get hcs0).2 0 (by omega)
                  have := (cell?_lt hu0).2
                  simpa [Addr.add] using this
              have ha : (a.add (i * P.cellsOf e)).add j = ⟨a.block, a.off + (i * shn sh + j), none⟩ := by
                rw [← hc]
                cases a with
                | mk b o s =>
                  simp only at hspot
                  subst hspot
                  simp only [Addr.add]
                  split <;> split <;> simp_all <;> omega
              rw [ha] at hu2
              exact ⟨c, u, by rw [hx]; exact hcj, hu2, hspot, (cell?_lt hu2).1, hvs.rep j c u hcj hu1⟩
            cases sh with
            | none =>
              match vs, hvl, hvs with
              | [c], _, hvs =>
                have h1 := hvs.one c (by simp)
                exact fin c (by cases c <;> first | rfl | simp [V.one] at h1) (by cases c <;> first | rfl | simp [V.one] at h1)
            | some k => exact fin (.agg vs) rfl (by simp [V.shape]; exact hvl)
          obtain ⟨xs, hxl, hxs⟩ := choose_list len elem
          have hmemx : ∀ x ∈ xs, ∃ i, i < len ∧ xs[i]? = some x := fun x hx => by
            obtain ⟨i, hi⟩ := List.mem_iff_getElem?.1 hx
            exact ⟨i, by rw [← hxl]; exact (List.getElem?_eq_some_iff.1 hi).1, hi⟩
          have hshape : ∀ x ∈ xs, x.shape = sh := fun x hx => by obtain ⟨i, _, hi⟩ := hmemx x hx; exact (hxs i x hi).1
          have hone : ∀ c ∈ V.flat xs, c.one = true := fun c hc => by
            obtain ⟨x, hx, hcx⟩ := List.mem_flatMap.1 hc
            obtain ⟨i, _, hi⟩ := hmemx x hx
            exact (hxs i x hi).2.2.1 c hcx
          have hty : Ty P t [.sl sh false xs] := .sl t e sh hu hsh xs (by omega) hshape fun x hx => by obtain ⟨i, _, hi⟩ := hmemx x hx; exact (hxs i x hi).2.1
          have hbulk : V.bulkL xs ≤ Go.Proofs.YtbifjffjibnjjaaDoor.Rows.uptoBulkAll (elems.map (·.1)) := by
            have key : ∀ (xs : List V) (es : List (DataW H × List MemPlace)), xs.length = es.length → (∀ (i : Nat) x, xs[i]? = some x → ∃ y, es[i]? = some y ∧ x.bulk ≤ Go.Proofs.YtbifjffjibnjjaaDoor.Rows.uptoBulk y.1) → V.bulkL xs ≤ Go.Proofs.YtbifjffjibnjjaaDoor.Rows.uptoBulkAll (es.map (·.1)) := by
              intro xs
              induction xs with
              | nil => intro es _ _; simp [V.bulkL]
              | cons x xs ih3 =>
                intro es hl hh
                cases es with
                | nil => simp at hl
                | cons y es =>
                  have h1 := ih3 es (by simpa using hl) fun i x hx => by simpa using hh (i + 1) x (by simpa using hx)
                  obtain ⟨y', hy', hb⟩ := hh 0 x rfl
                  simp at hy'
                  subst hy'
                  simp only [V.bulkL, List.map_cons, Go.Proofs.YtbifjffjibnjjaaDoor.Rows.uptoBulkAll]
                  omega
            exact key xs elems (by omega) fun i x hx => (hxs i x hx).2.2.2.1
          refine ⟨[.sl sh false xs], cs_one hty rfl ?_ ?_⟩
          · by_cases hx0 : xs = []
            · subst hx0
              have hl0 : len = 0 := by simpa using hxl.symm
              subst hl0
              by_cases hc0 : cap = 0
              · subst hc0; exact .slNil sh false (some a)
              · -- room to spare: its first cell is read too
                obtain ⟨hr1, hr2⟩ := hsp rfl
                have h3 := hr2 0 (by omega)
                obtain ⟨y0, hy0⟩ : ∃ y, rest[0]? = some y := ⟨_, List.getElem?_eq_getElem (by omega)⟩
                rw [hy0, Option.bind_eq_some_iff] at h3
                obtain ⟨cs0, hcs0, _⟩ := h3
                obtain ⟨u0, _, hu0⟩ := (cells?_get hcs0).2 0 (by omega)
                have hspot := (cell?_lt hu0).2
                simp only [Nat.zero_add, Nat.zero_mul, Addr.add, if_true] at hspot
                have ha : a = ⟨a.block, a.off, none⟩ := addr_eta hspot
                rw [ha]
                exact .sl sh false [] a.block a.off cap (fun _ => undef) (by simp) (by simp [V.flat]) (by simp) hm (by simp) (by simp) (by simp [V.flat])
            · have hpos : 0 < xs.length := List.length_pos_iff.2 hx0
              obtain ⟨x0, hx0'⟩ : ∃ x, xs[0]? = some x := ⟨_, List.getElem?_eq_getElem hpos⟩
              obtain ⟨_, _, _, _, hspot, _, _⟩ := (hxs 0 x0 hx0').2.2.2.2 0 h0
              have ha : a = ⟨a.block, a.off, none⟩ := addr_eta hspot
              rw [ha, ← hxl]
              have hcell : ∀ k, k < xs.length * shn sh → ∃ c u, (V.flat xs)[k]? = some c ∧ w.cell? ⟨a.block, a.off + k, none⟩ = some u ∧ a.block < w.heap.size ∧ RepV w (fun b _ => b < w.heap.size) c u := by
                intro k hk
                have hi : k / shn sh < xs.length := Nat.div_lt_of_lt_mul (by rw [Nat.mul_comm]; exact hk)
                have hj : k % shn sh < shn sh := Nat.mod_lt _ h0
                obtain ⟨x, hx⟩ : ∃ x, xs[k / shn sh]? = some x := ⟨_, List.getElem?_eq_getElem hi⟩
                obtain ⟨c, u, h1, h2, _, h4, h5⟩ := (hxs _ x hx).2.2.2.2 _ hj
                have hk' : k / shn sh * shn sh + k % shn sh = k := Nat.div_add_mod' k (shn sh)
                rw [hk'] at h2
                refine ⟨c, u, ?_, h2, h4, h5⟩
                have hfl : ∀ (l : List V) (i j : Nat) (x : V), (∀ x ∈ l, x.shape = sh) → l[i]? = some x → j < shn sh → (V.flat l)[i * shn sh + j]? = x.cells[j]? := by
                  intro l
                  induction l with
                  | nil => intro i j x _ h; simp at h
                  | cons y l ih4 =>
                    intro i j x hs h hj
                    have hyl : y.cells.length = shn sh := by rw [V.cells_length, hs y (by simp)]
                    simp only [V.flat, List.flatMap_cons]
                    cases i with
                    | zero => simp at h; subst h; rw [Nat.zero_mul, Nat.zero_add, List.getElem?_append_left (by omega)]
                    | succ i =>
                      rw [List.getElem?_append_right (by rw [hyl, Nat.add_mul]; omega), hyl, show (i + 1) * shn sh + j - shn sh = i * shn sh + j by rw [Nat.add_mul]; omega]
                      exact ih4 i j x (fun z hz => hs z (by simp [hz])) (by simpa using h) hj
                rw [← hk', hfl xs _ _ x hshape hx hj, h1]
              refine .sl sh false xs a.block a.off cap (fun k => (w.cell? ⟨a.block, a.off + k, none⟩).getD undef) hshape hone (by omega) hm (by simp) (fun k hk => ?_) fun k c hk => ?_
              · obtain ⟨c, u, _, h2, h3, _⟩ := hcell k hk
                rw [h2]
                exact ⟨rfl, h3⟩
              · have hlt : k < xs.length * shn sh := by rw [← V.flat_length hshape]; exact (List.getElem?_eq_some_iff.1 hk).1
                obtain ⟨c', u, h1, h2, _, h4⟩ := hcell k hlt
                rw [hk] at h1
                cases h1
                rw [h2]
                exact h4
          · simp only [V.bulk, Go.Proofs.YtbifjffjibnjjaaDoor.Rows.uptoBulk]
            omega
      · cases hp
    · rename_i fs hu
      simp only [Bool.and_eq_true, List.all_eq_true, List.contains_iff_mem] at hp
      obtain ⟨xs, n', hn, rfl, hlen, hxl, hx⟩ := DataW.trod_struct hu h
      cases hn
      obtain ⟨parts, p1, p2, p3, p4, p5, p6, p7⟩ := cs_fields (cs_of_trod hT n) fs.toList 0 xs hp.1 (by rw [hlen]; exact hp.2) (by simpa using hxl) fun i f hf => hx i f (by simpa using hf)
      exact ⟨parts.flatten, .struct t fs hu parts (by simpa using p1) (fun i f p hf hp' => p2 i f p (by simpa using hf) hp'), by simpa using p4, p5, fun i c u hc hu' => p6 i c u hc (by simpa using hu'), by
        simp only [Go.Proofs.YtbifjffjibnjjaaDoor.Rows.uptoBulk]; omega⟩
    · cases hp
end

/-! ### What a type tells of its cells -/
section
variable {P : Program} {t : TypeId} {cs : List V}
theorem Ty.bool_inv (hu : P.underlying t = some .bool) (h : Ty P t cs) : ∃ b, cs = [.bool b] := by
  cases h with
  | bool _ _ b => exact ⟨b, rfl⟩
  | int _ k h => rw [hu] at h; cases h
  | str _ h => rw [hu] at h; cases h
  | sl _ e sh h => rw [hu] at h; cases h
  | struct _ fs h => rw [hu] at h; cases h
theorem Ty.int_inv {k : IntKind} (hu : P.underlying t = some (.int k)) (h : Ty P t cs) : ∃ n, cs = [.int k n] ∧ inR k n := by
  cases h with
  | bool _ h b => rw [hu] at h; cases h
  | int _ k h n hn => rw [hu] at h; cases h; exact ⟨n, rfl, hn⟩
  | str _ h => rw [hu] at h; cases h
  | sl _ e sh h => rw [hu] at h; cases h
  | struct _ fs h => rw [hu] at h; cases h
theorem Ty.str_inv (hu : P.underlying t = some .string) (h : Ty P t cs) : ∃ s, cs = [.str s] ∧ s.length ≤ maxLen := by
  cases h with
  | bool _ h b => rw [hu] at h; cases h
  | int _ k h n hn => rw [hu] at h; cases h
  | str _ h s hs => exact ⟨s, rfl, hs⟩
  | sl _ e sh h => rw [hu] at h; cases h
  | struct _ fs h => rw [hu] at h; cases h
theorem Ty.sl_inv {e : TypeId} {sh : Sh} (hu : P.underlying t = some (.slice e)) (hsh : tsh P e = some sh) (h : Ty P t cs) : ∃ xs, cs = [.sl sh false xs] ∧ xs.length ≤ maxLen ∧ ∀ x ∈ xs, x.shape = sh ∧ Ty P e x.cells := by
  cases h with
  | bool _ h b => rw [hu] at h; cases h
  | int _ k h n hn => rw [hu] at h; cases h
  | str _ h s hs => rw [hu] at h; cases h
  | sl _ e sh h hsh' xs hl hs hx => rw [hu] at h; cases h; rw [hsh] at hsh'; cases hsh'; exact ⟨xs, rfl, hl, fun x hx' => ⟨hs x hx', hx x hx'⟩⟩
  | struct _ fs h => rw [hu] at h; cases h
theorem Ty.struct_inv {fs : Array Field} (hu : P.underlying t = some (.struct fs)) (h : Ty P t cs) : ∃ parts : List (List V), cs = parts.flatten ∧ parts.length = fs.size ∧ ∀ (i : Nat) f p, fs[i]? = some f → parts[i]? = some p → Ty P f.type p := by
  cases h with
  | bool _ h b => rw [hu] at h; cases h
  | int _ k h n hn => rw [hu] at h; cases h
  | str _ h s hs => rw [hu] at h; cases h
  | sl _ e sh h => rw [hu] at h; cases h
  | struct _ fs h parts hl hf => rw [hu] at h; cases h; exact ⟨parts, rfl, hl, hf⟩
end

/-- A list of values that all stand for data of a kind is the data's list. -/
theorem list_of_all {α : Type} {enc : α → V} : ∀ {xs : List V}, (∀ x ∈ xs, ∃ a, x = enc a) → ∃ l : List α, xs = l.map enc
  | [], _ => ⟨[], rfl⟩
  | x :: xs, h => by
    obtain ⟨a, ha⟩ := h x (by simp)
    obtain ⟨l, hl⟩ := list_of_all (enc := enc) (xs := xs) fun y hy => h y (by simp [hy])
    exact ⟨a :: l, by rw [ha, hl]; rfl⟩

/-! ### A law -/

/-- What stands for an argument of a type. -/
structure Arg (P : Program) (t : TypeId) (x : V) : Prop where
  ty : Ty P t x.cells
  sh : tsh P t = some x.shape

def TyAll (P : Program) : List TypeId → List (List V) → Prop
  | [], [] => True
  | t :: ts, p :: ps => Ty P t p ∧ TyAll P ts ps
  | _, _ => False

section
variable {P : Program} {t : TypeId} {x : V}
theorem Arg.one (hs : tsh P t = some none) (h : Arg P t x) : x.cells = [x] := by
  have h1 := h.sh
  rw [hs] at h1
  exact (shape_none (Option.some.inj h1).symm).1
theorem Arg.int {k : IntKind} (hu : P.underlying t = some (.int k)) (hs : tsh P t = some none) (h : Arg P t x) : ∃ n, x = .int k n ∧ inR k n := by
  have h1 := h.ty
  rw [h.one hs] at h1
  obtain ⟨n, e, hn⟩ := h1.int_inv hu
  exact ⟨n, (List.cons.inj e).1, hn⟩
theorem Arg.bool (hu : P.underlying t = some .bool) (hs : tsh P t = some none) (h : Arg P t x) : ∃ b, x = .bool b := by
  have h1 := h.ty
  rw [h.one hs] at h1
  obtain ⟨n, e⟩ := h1.bool_inv hu
  exact ⟨n, (List.cons.inj e).1⟩
theorem Arg.str (hu : P.underlying t = some .string) (hs : tsh P t = some none) (h : Arg P t x) : ∃ s, x = .str s ∧ s.length ≤ maxLen := by
  have h1 := h.ty
  rw [h.one hs] at h1
  obtain ⟨n, e, hn⟩ := h1.str_inv hu
  exact ⟨n, (List.cons.inj e).1, hn⟩
theorem Arg.sl {e : TypeId} {sh : Sh} (hu : P.underlying t = some (.slice e)) (hs : tsh P t = some none) (he : tsh P e = some sh) (h : Arg P t x) : ∃ xs, x = .sl sh false xs ∧ xs.length ≤ maxLen ∧ ∀ y ∈ xs, Arg P e y := by
  have h1 := h.ty
  rw [h.one hs] at h1
  obtain ⟨xs, e1, hn, hx⟩ := h1.sl_inv hu he
  exact ⟨xs, (List.cons.inj e1).1, hn, fun y hy => ⟨(hx y hy).2, by rw [he, (hx y hy).1]⟩⟩
theorem Arg.struct {fs : Array Field} {n : Nat} {ts : List TypeId} (hu : P.underlying t = some (.struct fs)) (hts : fs.toList.map (·.type) = ts) (hs : tsh P t = some (some n)) (h : Arg P t x) : ∃ parts : List (List V), x = .agg parts.flatten ∧ TyAll P ts parts := by
  have h1 := h.sh
  rw [hs] at h1
  obtain ⟨cs, rfl, _⟩ := agg_of_shape (Option.some.inj h1).symm
  obtain ⟨parts, e1, e2, e3⟩ := h.ty.struct_inv hu
  refine ⟨parts, by rw [← e1]; rfl, ?_⟩
  have key : ∀ (l : List Field) (ps : List (List V)), ps.length = l.length → (∀ (i : Nat) f p, l[i]? = some f → ps[i]? = some p → Ty P f.type p) → TyAll P (l.map (·.type)) ps := by
    intro l
    induction l with
    | nil => intro ps hl _; rw [List.eq_nil_of_length_eq_zero hl]; trivial
    | cons f l ih =>
      intro ps hl hp
      cases ps with
      | nil => simp at hl
      | cons p ps => exact ⟨hp 0 f p rfl rfl, ih ps (by simpa using hl) fun i g q h1 h2 => hp (i + 1) g q (by simpa using h1) (by simpa using h2)⟩
  rw [← hts]
  exact key fs.toList parts (by simpa using e2) fun i f p h1 h2 => e3 i f p (by simpa using h1) h2
end

theorem Arg.bytes {P : Program} {t e : TypeId} {x : V} (hu : P.underlying t = some (.slice e)) (hs : tsh P t = some none) (he : P.underlying e = some (.int .u8)) (hse : tsh P e = some none) (h : Arg P t x) : ∃ bs, x = .sl none false (bytesV bs) ∧ bs.length ≤ maxLen := by
  obtain ⟨xs, rfl, hl, hx⟩ := h.sl hu hs hse
  obtain ⟨bs, hb⟩ := list_of_all (enc := fun b : UInt8 => V.int .u8 b.toNat) (xs := xs) fun y hy => by
    obtain ⟨n, rfl, hn⟩ := (hx y hy).int he hse
    simp at hn
    refine ⟨UInt8.ofNat n.toNat, ?_⟩
    have : (UInt8.ofNat n.toNat).toNat = n.toNat := by simp; omega
    rw [this]
    congr 1
    omega
  subst hb
  exact ⟨bs, rfl, by simpa using hl⟩

def Args (P : Program) : List TypeId → List V → Prop
  | [], [] => True
  | t :: ts, x :: xs => Arg P t x ∧ Args P ts xs
  | _, _ => False

section
variable {H : Type} {enc : TypeId × Value → H} {P : Program} {w : World}

theorem arg_of {T : List TypeId} (hT : plainSet P T = true) {t : TypeId} {v : Value} {d : DataW H} {ps : List MemPlace} {base : Nat} (ht : t ∈ T) (hsh : (tsh P t).isSome = true) (hval : Value.okWide P w .any base t v)
    (h : DataW.Trod enc P w 0 (fun _ => true) true t v d ps) : ∃ x, Arg P t x ∧ RepV w (fun b _ => b < w.heap.size) x v ∧ x.bulk ≤ Go.Proofs.YtbifjffjibnjjaaDoor.Rows.uptoBulk d := by
  obtain ⟨n, hn⟩ := h
  obtain ⟨vs, hvs⟩ := cs_of_trod hT n t _ _ ht hn
  obtain ⟨sh, hsh⟩ := Option.isSome_iff_exists.1 hsh
  obtain ⟨i, d', hi, hu, hq, hsz⟩ := tsh_spec hsh
  have hp := List.all_eq_true.1 hT t ht
  have scal : (∀ cs, v ≠ .agg cs) → d'.isRow = false → ∃ x, Arg P t x ∧ RepV w (fun b _ => b < w.heap.size) x v ∧ x.bulk ≤ Go.Proofs.YtbifjffjibnjjaaDoor.Rows.uptoBulk d := by
    intro hv hr
    have hc : v.cells.toList = [v] := by cases v <;> first | rfl | exact absurd rfl (hv _)
    have hlen := hvs.len
    rw [hc] at hlen
    match vs, hlen, hvs with
    | [x], _, hvs =>
      have h1 := hvs.one x (by simp)
      have hxc : x.cells = [x] := by cases x <;> first | rfl | simp [V.one] at h1
      have hxs : x.shape = none := by cases x <;> first | rfl | simp [V.one] at h1
      have hshn : sh = none := by
        cases sh with
        | none => rfl
        | some k => rw [hq.1] at hr; cases hr
      refine ⟨x, ⟨hxc ▸ hvs.ty, by rw [hxs, hsh, hshn]⟩, hvs.rep 0 x v rfl (by rw [hc]; rfl), ?_⟩
      have := hvs.bulk
      simpa [V.bulkL] using this
  have nagg : (∀ fs, P.underlying t ≠ some (.struct fs)) → (∀ n e, P.underlying t ≠ some (.array n e)) → (∀ ms, P.underlying t ≠ some (.interface ms)) → (∀ k e, P.underlying t ≠ some (.map k e)) → ∀ cs, v ≠ .agg cs := by
    rintro h1 h2 h3 h4 cs rfl
    unfold Value.okWide at hval
    rw [hu] at hval h1 h2 h3 h4
    cases d' <;> simp [Cell.okWide, Cell.ok, hu] at hval h1 h2 h3 h4
  split at hp
  · rename_i hu'
    have e : d' = .bool := by rw [hu] at hu'; exact Option.some.inj hu'
    subst e
    exact scal (nagg (by simp [hu]) (by simp [hu]) (by simp [hu]) (by simp [hu])) rfl
  · rename_i k hu'
    have e : d' = .int k := by rw [hu] at hu'; exact Option.some.inj hu'
    subst e
    exact scal (nagg (by simp [hu]) (by simp [hu]) (by simp [hu]) (by simp [hu])) rfl
  · rename_i hu'
    have e : d' = .string := by rw [hu] at hu'; exact Option.some.inj hu'
    subst e
    exact scal (nagg (by simp [hu]) (by simp [hu]) (by simp [hu]) (by simp [hu])) rfl
  · rename_i e0 hu'
    have e : d' = .slice e0 := by rw [hu] at hu'; exact Option.some.inj hu'
    subst e
    exact scal (nagg (by simp [hu]) (by simp [hu]) (by simp [hu]) (by simp [hu])) rfl
  · rename_i fs hu'
    have e : d' = .struct fs := by rw [hu] at hu'; exact Option.some.inj hu'
    subst e
    unfold Value.okWide at hval
    rw [hu] at hval
    obtain ⟨cs, rfl, hcs, _⟩ := hval
    have hshn : sh = some cs.size := by
      cases sh with
      | none => dsimp only at hq; simp [TypeDesc.isRow] at hq
      | some k =>
        rw [← hq.2, hcs]
        simp [Program.cellsOf, hi]
    refine ⟨.agg vs, ⟨hvs.ty, by rw [hsh, hshn]; simp only [V.shape]; rw [hvs.len]; simp [Value.cells]⟩, ?_, ?_⟩
    · have := RepV.agg (w := w) (F := fun b _ => b < w.heap.size) vs cs.toList (by simpa [Value.cells] using hvs.len) hvs.one (fun i c u hc hu => hvs.rep i c u hc (by simpa [Value.cells] using hu))
      simpa using this
    · have := hvs.bulk
      simpa [V.bulk] using this
  · cases hp

theorem args_of {T : List TypeId} (hT : plainSet P T = true) {base : Nat} : ∀ {ts : List TypeId} {vs : List Value} {ds : List (DataW H)} {ps : List MemPlace}, (∀ t ∈ ts, t ∈ T ∧ (tsh P t).isSome = true) →
    (∀ (j : Nat) t v, ts[j]? = some t → vs[j]? = some v → Value.okWide P w .any base t v) → DataW.TrodAll enc P w 0 (fun _ => true) true ts vs ds ps →
    ∃ xs : List V, Args P ts xs ∧ xs.length = vs.length ∧ (∀ (i : Nat) x v, xs[i]? = some x → vs[i]? = some v → RepV w (fun b _ => b < w.heap.size) x v) ∧ V.bulkL xs ≤ Go.Proofs.YtbifjffjibnjjaaDoor.Rows.uptoBulkAll ds
  | [], [], [], _, _, _, _ => ⟨[], trivial, rfl, by simp, by simp [V.bulkL]⟩
  | t :: ts, v :: vs, d :: ds, _, hm, hval, ⟨p, q, h1, h2, _⟩ => by
    obtain ⟨xs, e1, e2, e3, e4⟩ := args_of hT (fun t ht => hm t (by simp [ht])) (fun j t v h3 h4 => hval (j + 1) t v (by simpa using h3) (by simpa using h4)) h2
    obtain ⟨x, f1, f2, f3⟩ := arg_of hT (hm t (by simp)).1 (hm t (by simp)).2 (hval 0 t v rfl rfl) h1
    refine ⟨x :: xs, ⟨f1, e1⟩, by simp [e2], fun i y u hy hu => ?_, by simp only [V.bulkL, Go.Proofs.YtbifjffjibnjjaaDoor.Rows.uptoBulkAll]; omega⟩
    cases i with
    | zero => simp at hy hu; subst hy hu; exact f2
    | succ i => exact e3 i y u (by simpa using hy) (by simpa using hu)

theorem trodAll_stays (hl : laidOutB P = true) {w' : World} {sp' : Nat → Bool} : ∀ {ts : List TypeId} {vs : List Value} {ds : List (DataW H)} {ps : List MemPlace}, (∀ t ∈ ts, P.readableRec t = true ∧ t < P.types.size) →
    (∀ p ∈ ps, w.sameAt w' p) → (∀ p ∈ ps, sp' p.block = true) → DataW.TrodAll enc P w 0 (fun _ => true) true ts vs ds ps → DataW.TrodAll enc P w' 0 sp' true ts vs ds ps
  | [], [], [], _, _, _, _, h => h
  | t :: ts, v :: vs, d :: ds, _, hr, hs, hb, ⟨p, q, h1, h2, e⟩ => by
    subst e
    exact ⟨p, q, Go.WideElems.Trod_stays hl (hr t (by simp)).1 (hr t (by simp)).2 h1 (fun x hx => hs x (by simp [hx])) (fun x hx => hb x (by simp [hx])),
      trodAll_stays hl (fun t ht => hr t (by simp [ht])) (fun x hx => hs x (by simp [hx])) (fun x hx => hb x (by simp [hx])) h2, rfl⟩

theorem trodAll_len {sp : Nat → Bool} {held : Bool} : ∀ {ts : List TypeId} {vs : List Value} {ds : List (DataW H)} {ps : List MemPlace}, DataW.TrodAll enc P w 0 sp held ts vs ds ps → ds.length = ts.length
  | [], [], [], _, _ => rfl
  | _ :: _, _ :: _, _ :: _, _, ⟨_, _, _, h, _⟩ => by simp [trodAll_len h]

/-- A law's row, out of its contract. -/
theorem law_calls {T : List TypeId} (hT : plainSet P T = true) (hl : laidOutB P = true) {f : Nat} {fn : Func} (htsB : (fn.params.toList.all fun t => T.contains t && (tsh P t).isSome && P.readableRec t && decide (t < P.types.size)) = true) {rt : TypeId} (hrt : fn.resultTypes = #[rt])
    (hb : P.underlying rt = some .bool) {W : World} {base : Nat} {args : Array Value} {ds gs : List (DataW H)} {before : List MemPlace}
    (hval : ∀ (j : Nat) t v, fn.params[j]? = some t → args[j]? = some v → Value.okWide P W .any base t v) (s : ChangeSpec) (hsv : s.vars = []) (hW : DataW.Whole enc P fn.params.toList s.vars false W args.toList ds gs before)
    (hs : ∀ ds : List (DataW H), ds.length = fn.params.toList.length → s.fn H ds = { results := [.lit (.bool true)], args := ds })
    (hA : ∀ xs : List V, Args P fn.params.toList xs → V.bulkL xs ≤ Go.Proofs.YtbifjffjibnjjaaDoor.Rows.uptoBulkAll (ds ++ gs) → ACalls P f (xs.map .v) ⟨[], []⟩ fun r _ => r = .v (.bool true)) (hG : ∀ p ∈ globs, ∃ cs ty fr, W.heap[p.1]? = some (.cells cs ty fr) ∧ p.2 cs := by simp [globs]) :
    Calls P f args W fun e W' => ∃ v, e = .returned v ∧ s.post enc P fn false true false false W args v W' := by
  have hts : ∀ t ∈ fn.params.toList, (t ∈ T ∧ (tsh P t).isSome = true) ∧ P.readableRec t = true ∧ t < P.types.size := by
    intro t ht
    have := List.all_eq_true.1 htsB t ht
    simp only [Bool.and_eq_true, List.contains_iff_mem, decide_eq_true_eq] at this
    exact ⟨this.1.1, this.1.2, this.2⟩
  have hW' := hW
  obtain ⟨p, q, hta, htv, hps, hz, _⟩ := hW
  rw [hsv] at htv
  obtain ⟨rfl, rfl⟩ := trodVars_none htv
  have hs : ([] : List (DataW H)) = [] → s.fn H (ds ++ []) = { results := [.lit (.bool true)], args := ds } := fun _ => by
    rw [List.append_nil]
    exact hs ds (trodAll_len hta)
  obtain ⟨xs, e1, e2, e3, e4⟩ := args_of hT (fun t ht => (hts t ht).1) (fun j t v h1 h2 => hval j t v (by simpa using h1) (by simpa using h2)) hta
  have hI : Inv ⟨[], []⟩ ⟨[], []⟩ W := ⟨rfl, rfl, by simp [Gh.blocks, Gh.ownb, Gh.objb], by simp, by simp, by simp, fun p hp => ⟨hG p hp, by simp [Gh.blocks, Gh.ownb, Gh.objb]⟩⟩
  have hrun := (hA xs e1 (by simpa using e4)).2 ⟨[], []⟩ W args.toList hI (by simp [e2]) fun i d u hd hu => by
    simp only [List.getElem?_map] at hd
    cases hx : xs[i]? with
    | none => rw [hx] at hd; cases hd
    | some x =>
      rw [hx] at hd
      cases hd
      exact .v x u ((e3 i x u hx hu).mono ⟨fun b off h => ⟨rfl, h, by rintro (h | ⟨tk, h, _⟩) <;> cases h⟩, fun _ _ => rfl⟩)
  have hargs : args.toList.toArray = args := by simp
  rw [hargs] at hrun
  refine hrun.mono ?_
  rintro e W' ⟨v, r, σ', m', rfl, rfl, _, hX, hR⟩
  have hv := hR.bool_inv
  subst hv
  have hheap : ∀ b, b < W.heap.size → W'.heap[b]? = W.heap[b]? := fun b hb => (hX.blocks b hb (by simp [Gh.blocks, Gh.ownb, Gh.objb])).1
  have hlt : ∀ x ∈ p, x.block < W.heap.size := fun x hx => DataW.TrodAll.lt hta x hx
  have hsame : ∀ x ∈ p, W.sameAt W' x := by
    intro x hx
    have hb := hheap x.block (hlt x hx)
    cases x with
    | cell b off => exact cell?_of_heap hb
    | map b => exact hb
  refine ⟨_, rfl, ds, [], before, [], p, [], hW', ?_, ?_, ?_, ?_, fun h => by cases h⟩
  · rw [hs rfl, hrt]
    exact trodAll_cons_mk (shut_bool hb _) trodAll_mk0
  · rw [hs rfl]
    exact trodAll_stays hl (fun t ht => (hts t ht).2) hsame (fun x hx => by simpa using hlt x hx) hta
  · rw [hs rfl, hsv]
    exact (rfl : ([] : List MemPlace) = [])
  · refine ⟨hX.os, hX.output, fun i hi => ?_⟩
    rw [hheap i hi]
    cases W.heap[i]? with
    | none => trivial
    | some o => cases o <;> simp
end

end Go.Abs
