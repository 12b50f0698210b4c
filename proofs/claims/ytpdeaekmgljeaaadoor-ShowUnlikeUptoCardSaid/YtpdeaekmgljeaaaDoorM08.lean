/-
  From what arguments are read as to the values of the small language; a law's row from its contract. (Own work; by template.)
-/
import Derived.Test.YtpdeaekmgljeaaaDoorM07
import Derived.Test.YtpdeaekmgljeaaaDoorRows
import Derived.WideKeyArgs
import Derived.WalkKit
import Derived.ProofKit
import Derived.OpenShut
import Derived.JoinedCond
import Derived.Test.YtpdeaekmgljeaaaDoorCards
import Derived.Test.YtpdeaekmgljeaaaDoorTie
import Derived.Deep.DeepHandedRow
import Derived.Lib.LaidTab
import Derived.LaidHandle
import Derived.LaidLaws
import Derived.Shelf.Strconv.ParseIntPublic10
import Derived.Test.YtpdeaekmgljeaaaDoorChecked
set_option linter.unusedVariables false
set_option linter.unusedSimpArgs false
namespace Go.Abs
open Go Go.ChangeShapes Go.WideShapes Go.RowKit

mutual
def V.bulk : V → Nat
  | .str s => s.length + 1
  | .sl _ _ xs => V.bulkL xs + 1
  | .agg cs => V.bulkL cs
  | _ => 1
def V.bulkL : List V → Nat
  | [] => 0
  | x :: xs => x.bulk + V.bulkL xs
end
theorem V.bulkL_append (a b : List V) : V.bulkL (a ++ b) = V.bulkL a + V.bulkL b := by
  induction a with
  | nil => simp [V.bulkL]
  | cons x a ih => simp [V.bulkL, ih, Nat.add_assoc]
theorem V.bulk_cells (x : V) : V.bulkL x.cells = x.bulk := by cases x <;> simp [V.cells, V.bulk, V.bulkL]

/-- The cells that may stand for a value of a type. -/
inductive Ty (P : Program) : TypeId → List V → Prop where
  | bool (t : TypeId) (h : P.underlying t = some .bool) (b : Bool) : Ty P t [.bool b]
  | int (t : TypeId) (k : IntKind) (h : P.underlying t = some (.int k)) (n : Int) (hn : inR k n) : Ty P t [.int k n]
  | str (t : TypeId) (h : P.underlying t = some .string) (s : List UInt8) (hs : s.length ≤ maxLen) : Ty P t [.str s]
  | sl (t e : TypeId) (sh : Sh) (h : P.underlying t = some (.slice e)) (hsh : tsh P e = some sh) (xs : List V) (hl : xs.length ≤ maxLen) (hs : ∀ x ∈ xs, x.shape = sh) (hx : ∀ x ∈ xs, Ty P e x.cells) : Ty P t [.sl sh false xs]
  | struct (t : TypeId) (fs : Array Field) (h : P.underlying t = some (.struct fs)) (parts : List (List V)) (hl : parts.length = fs.size) (hf : ∀ (i : Nat) f p, fs[i]? = some f → parts[i]? = some p → Ty P f.type p) : Ty P t parts.flatten

/-- Fields that lie one behind the other. -/
def laidFs (P : Program) : Nat → List Field → Nat → Bool
  | off, [], n => off == n
  | off, f :: fs, n => f.offset == off && laidFs P (off + P.cellsOf f.type) fs n

/-- Types of plain data, that lead to no others. -/
def plainSet (P : Program) (T : List TypeId) : Bool := T.all fun t => match P.underlying t with
  | some .bool => true
  | some (.int _) => true
  | some .string => true
  | some (.slice e) => T.contains e && (match tsh P e with | some sh => decide (0 < shn sh) && decide (shn sh = P.cellsOf e) | none => false)
  | some (.struct fs) => fs.toList.all (fun f => T.contains f.type) && laidFs P 0 fs.toList (P.cellsOf t)
  | _ => false

theorem inR_of_wf {k : IntKind} {n : Int} (h : (Lit.int k n).wf = true) : inR k n := by simpa [Lit.wf, inR] using h

theorem bulkAll_append {H : Type} (a b : List (DataW H)) : Go.Proofs.YtpdeaekmgljeaaaDoor.Rows.uptoBulkAll (a ++ b) = Go.Proofs.YtpdeaekmgljeaaaDoor.Rows.uptoBulkAll a + Go.Proofs.YtpdeaekmgljeaaaDoor.Rows.uptoBulkAll b := by
  induction a with
  | nil => simp [Go.Proofs.YtpdeaekmgljeaaaDoor.Rows.uptoBulkAll]
  | cons x a ih => simp [Go.Proofs.YtpdeaekmgljeaaaDoor.Rows.uptoBulkAll, ih, Nat.add_assoc]

section
variable {H : Type} {enc : TypeId × Value → H} {P : Program} {w : World} {sp : Nat → Bool} {held : Bool}

/-- What is read, in cells. -/
structure Cs (P : Program) (w : World) (t : TypeId) (cs : List Value) (d : DataW H) (vs : List V) : Prop where
  ty : Ty P t vs
  len : vs.length = cs.length
  one : ∀ c ∈ vs, c.one = true
  rep : ∀ (i : Nat) c u, vs[i]? = some c → cs[i]? = some u → RepV w (fun b _ => b < w.heap.size) c u
  bulk : V.bulkL vs ≤ Go.Proofs.YtpdeaekmgljeaaaDoor.Rows.uptoBulk d

theorem cs_one {t : TypeId} {u : Value} {d : DataW H} {x : V} (h : Ty P t [x]) (h1 : x.one = true) (hr : RepV w (fun b _ => b < w.heap.size) x u) (hb : x.bulk ≤ Go.Proofs.YtpdeaekmgljeaaaDoor.Rows.uptoBulk d) : Cs P w t [u] d [x] :=
  ⟨h, rfl, by simpa using h1, fun i c v hc hv => by
    cases i with
    | zero => simp at hc hv; subst hc hv; exact hr
    | succ i => simp at hc, by simpa [V.bulkL] using hb⟩

theorem mapM_some_get' {α β : Type} {f : α → Option β} : ∀ {l : List α} {r : List β}, l.mapM f = some r → ∀ (i : Nat) a, l[i]? = some a → ∃ b, f a = some b ∧ r[i]? = some b
  | [], r, h, i, a, hi => by simp at hi
  | x :: l, r, h, i, a, hi => by
    simp only [List.mapM_cons, Option.pure_def, Option.bind_eq_bind, Option.bind_eq_some_iff] at h
    obtain ⟨b, hb, rs, hrs, he⟩ := h
    cases he
    cases i with
    | zero => simp at hi; subst hi; exact ⟨b, hb, rfl⟩
    | succ i => simpa using mapM_some_get' hrs i a (by simpa using hi)

theorem cs_fields {n : Nat} {cs : List Value} {all : List TypeId} (ih : ∀ (t : TypeId) (cs : List Value) (x : DataW H × List MemPlace), t ∈ all → DataW.trod enc P w 0 sp held n t cs = some x → ∃ vs, Cs P w t cs x.1 vs) :
    ∀ (fs : List Field) (off : Nat) (xs : List (DataW H × List MemPlace)), (∀ f ∈ fs, f.type ∈ all) → laidFs P off fs cs.length = true → xs.length = fs.length →
      (∀ (i : Nat) (f : Field), fs[i]? = some f → DataW.trod enc P w 0 sp held n f.type ((cs.drop f.offset).take (P.cellsOf f.type)) = xs[i]?) →
      ∃ parts : List (List V), parts.length = fs.length ∧ (∀ (i : Nat) f p, fs[i]? = some f → parts[i]? = some p → Ty P f.type p) ∧ off ≤ cs.length ∧ parts.flatten.length = cs.length - off ∧ (∀ c ∈ parts.flatten, c.one = true) ∧
        (∀ (i : Nat) c u, parts.flatten[i]? = some c → cs[off + i]? = some u → RepV w (fun b _ => b < w.heap.size) c u) ∧ V.bulkL parts.flatten ≤ Go.Proofs.YtpdeaekmgljeaaaDoor.Rows.uptoBulkAll (xs.map (·.1))
  | [], off, xs, _, hl, hx, _ => by
    have hx0 : xs = [] := List.eq_nil_of_length_eq_zero hx
    subst hx0
    have : off = cs.length := by simpa [laidFs] using hl
    exact ⟨[], rfl, by simp, by omega, by simp [this], by simp, by simp, by simp [V.bulkL, Go.Proofs.YtpdeaekmgljeaaaDoor.Rows.uptoBulkAll]⟩
  | f :: fs, off, [], _, _, hx, _ => by simp at hx
  | f :: fs, off, x :: xs, hT, hl, hx, hr => by
    simp only [laidFs, Bool.and_eq_true, beq_iff_eq] at hl
    obtain ⟨ho, hl⟩ := hl
    obtain ⟨parts, p1, p2, p3, p4, p5, p6, p7⟩ := cs_fields ih fs _ xs (fun g hg => hT g (by simp [hg])) hl (by simpa using hx) fun i g hg => by simpa using hr (i + 1) g (by simpa using hg)
    obtain ⟨vs, hvs⟩ := ih f.type _ x (hT f (by simp)) (by simpa using hr 0 f rfl)
    have hlen : vs.length = P.cellsOf f.type := by
      have := hvs.len
      rw [ho] at this
      simp at this
      omega
    refine ⟨vs :: parts, by simp [p1], fun i g p hg hp => ?_, by omega, by simp [p4, hlen]; omega, fun c hc => ?_, fun i c u hc hu => ?_, ?_⟩
    · cases i with
      | zero => simp at hg hp; subst hg hp; exact hvs.ty
      | succ i => exact p2 i g p (by simpa using hg) (by simpa using hp)
    · simp only [List.flatten_cons, List.mem_append] at hc
      rcases hc with hc | hc
      · exact hvs.one c hc
      · exact p5 c hc
    · simp only [List.flatten_cons] at hc
      rcases Nat.lt_or_ge i vs.length with hlt | hge
      · rw [List.getElem?_append_left hlt] at hc
        refine hvs.rep i c u hc ?_
        rw [ho, List.getElem?_take, if_pos (by omega), List.getElem?_drop]
        exact hu
      · rw [List.getElem?_append_right hge] at hc
        refine p6 (i - vs.length) c u hc ?_
        rw [hlen] at hge ⊢
        rw [show off + P.cellsOf f.type + (i - P.cellsOf f.type) = off + i by omega]
        exact hu
    · simp only [List.flatten_cons, V.bulkL_append, List.map_cons, Go.Proofs.YtpdeaekmgljeaaaDoor.Rows.uptoBulkAll]
      have := hvs.bulk
      omega

theorem cells?_get {w : World} {a : Addr} {n : Nat} {cs : List Value} (h : w.cells? 0 a n = some cs) : cs.length = n ∧ ∀ i, i < n → ∃ u, cs[i]? = some u ∧ w.cell? (a.add i) = some u := by
  unfold World.cells? at h
  rw [if_pos (Nat.zero_le _)] at h
  have hl : cs.length = n := by simpa using mapM_some_length h
  refine ⟨hl, fun i hi => ?_⟩
  obtain ⟨u, h1, h2⟩ := mapM_some_get' h i i (List.getElem?_range hi)
  exact ⟨u, h2, h1⟩

theorem cell?_lt {w : World} {a : Addr} {u : Value} (h : w.cell? a = some u) : a.block < w.heap.size ∧ a.spot = none := by
  unfold World.cell? at h
  split at h
  · rename_i hb
    split at h
    · cases h
    · rename_i hs
      refine ⟨(Array.getElem?_eq_some_iff.1 hb).1, ?_⟩
      cases hsp : a.spot with
      | none => rfl
      | some s => rw [hsp] at hs; simp at hs
  · cases h

theorem choose_list {Q : Nat → V → Prop} : ∀ (n : Nat), (∀ i, i < n → ∃ x, Q i x) → ∃ xs : List V, xs.length = n ∧ ∀ (i : Nat) x, xs[i]? = some x → Q i x
  | 0, _ => ⟨[], rfl, by simp⟩
  | n + 1, h => by
    obtain ⟨xs, h1, h2⟩ := choose_list n fun i hi => h i (by omega)
    obtain ⟨x, hx⟩ := h n (by omega)
    refine ⟨xs ++ [x], by simp [h1], fun i y hy => ?_⟩
    rcases Nat.lt_or_ge i xs.length with hlt | hge
    · rw [List.getElem?_append_left hlt] at hy
      exact h2 i y hy
    · rw [List.getElem?_append_right hge] at hy
      have h3 := (List.getElem?_eq_some_iff.1 hy).1
      simp at h3
      have h4 : i = n := by omega
      have h5 : i - xs.length = 0 := by omega
      rw [h5] at hy
      simp at hy
      subst hy h4
      exact hx

theorem addr_eta {a : Addr} (h : a.spot = none) : a = ⟨a.block, a.off, none⟩ := by
  cases a
  simp only at h
  subst h
  rfl

theorem cs_of_trod {T : List TypeId} (hT : plainSet P T = true) : ∀ (n : Nat) (t : TypeId) (cs : List Value) (x : DataW H × List MemPlace), t ∈ T → DataW.trod enc P w 0 (fun _ => true) held n t cs = some x → ∃ vs, Cs P w t cs x.1 vs
  | 0, t, cs, x, _, h => by simp [DataW.trod] at h
  | n + 1, t, cs, x, ht, h => by
    have hp := List.all_eq_true.1 hT t ht
    split at hp
    · rename_i hu
      obtain ⟨b, rfl, rfl⟩ := DataW.trod_bool hu h
      exact ⟨[.bool b], cs_one (.bool t hu b) rfl (.bool b) (by simp [V.bulk, Go.Proofs.YtpdeaekmgljeaaaDoor.Rows.uptoBulk])⟩
    · rename_i k hu
      obtain ⟨z, rfl, rfl, hw⟩ := DataW.trod_int hu h
      exact ⟨[.int k z], cs_one (.int t k hu z (inR_of_wf hw)) rfl (.int k z (inR_of_wf hw)) (by simp [V.bulk, Go.Proofs.YtpdeaekmgljeaaaDoor.Rows.uptoBulk])⟩
    · rename_i hu
      obtain ⟨s, rfl, rfl, hw⟩ := DataW.trod_string hu h
      have hw' : s.data.toList.length ≤ maxLen := hw
      refine ⟨[.str s.data.toList], cs_one (.str t hu _ hw') rfl ?_ (by simp [V.bulk, Go.Proofs.YtpdeaekmgljeaaaDoor.Rows.uptoBulk])⟩
      have := RepV.str (w := w) (F := fun b _ => b < w.heap.size) s.data.toList hw'
      simpa using this
    · rename_i e hu
      simp only [Bool.and_eq_true, List.contains_iff_mem] at hp
      obtain ⟨he, hp⟩ := hp
      split at hp
      · rename_i sh hsh
        simp only [Bool.and_eq_true, decide_eq_true_eq] at hp
        obtain ⟨h0, hc⟩ := hp
        rcases DataW.trod_slice hu h with ⟨rfl, rfl⟩ | ⟨a, len, cap, elems, rest, n', hn, rfl, rfl, _, hl, hm, hlen, hel, hsp, _⟩
        · refine ⟨[.sl sh false []], cs_one (.sl t e sh hu hsh [] (Nat.zero_le _) (by simp) (by simp)) rfl (.slNil sh false none) (by simp [V.bulk, V.bulkL, Go.Proofs.YtpdeaekmgljeaaaDoor.Rows.uptoBulk])⟩
        · cases hn
          have ih := cs_of_trod hT n
          -- the elements, one by one
          have elem : ∀ i, i < len → ∃ x : V, x.shape = sh ∧ Ty P e x.cells ∧ (∀ c ∈ x.cells, c.one = true) ∧ (∃ y, elems[i]? = some y ∧ x.bulk ≤ Go.Proofs.YtpdeaekmgljeaaaDoor.Rows.uptoBulk y.1) ∧
              ∀ j, j < shn sh → ∃ c u, x.cells[j]? = some c ∧ w.cell? ⟨a.block, a.off + (i * shn sh + j), none⟩ = some u ∧ a.spot = none ∧ a.block < w.heap.size ∧ RepV w (fun b _ => b < w.heap.size) c u := by
            intro i hi
            have h1 := hel i hi
            obtain ⟨y, hy⟩ : ∃ y, elems[i]? = some y := ⟨_, List.getElem?_eq_getElem (by omega)⟩
            rw [hy, Option.bind_eq_some_iff] at h1
            obtain ⟨cs', hcs', hrd⟩ := h1
            obtain ⟨vs, hvs⟩ := ih e cs' y he hrd
            obtain ⟨hcl, hcc⟩ := cells?_get hcs'
            have hvl : vs.length = shn sh := by rw [hvs.len, hcl, hc]
            have fin : ∀ x : V, x.cells = vs → x.shape = sh → ∃ x : V, x.shape = sh ∧ Ty P e x.cells ∧ (∀ c ∈ x.cells, c.one = true) ∧ (∃ y, elems[i]? = some y ∧ x.bulk ≤ Go.Proofs.YtpdeaekmgljeaaaDoor.Rows.uptoBulk y.1) ∧
                ∀ j, j < shn sh → ∃ c u, x.cells[j]? = some c ∧ w.cell? ⟨a.block, a.off + (i * shn sh + j), none⟩ = some u ∧ a.spot = none ∧ a.block < w.heap.size ∧ RepV w (fun b _ => b < w.heap.size) c u := by
              intro x hx hxs
              refine ⟨x, hxs, hx ▸ hvs.ty, hx ▸ hvs.one, ⟨y, hy, by rw [← V.bulk_cells, hx]; exact hvs.bulk⟩, fun j hj => ?_⟩
              obtain ⟨u, hu1, hu2⟩ := hcc j (by omega)
              obtain ⟨c, hcj⟩ : ∃ c, vs[j]? = some c := ⟨_, List.getElem?_eq_getElem (by omega)⟩
              have hlt := cell?_lt hu2
              have hspot : a.spot = none := by
                have h2 := hlt.2
                unfold Addr.add at h2
                by_cases hj0 : j = 0
                · subst hj0
                  rw [if_pos rfl] at h2
                  by_cases hi0 : i * P.cellsOf e = 0
                  · rw [if_pos hi0] at h2; exact h2
                  · -- the first cell of all
                    have hi1 : 0 < i := Nat.pos_of_ne_zero fun h => hi0 (by rw [h, Nat.zero_mul])
                    have h3 := hel 0 (by omega)
                    obtain ⟨y0, hy0⟩ : ∃ y, elems[0]? = some y := ⟨_, List.getElem?_eq_getElem (by omega)⟩
                    rw [hy0, Option.bind_eq_some_iff] at h3
                    obtain ⟨cs0, hcs0, _⟩ := h3
                    obtain ⟨u0, _, hu0⟩ := (cells?_get hcs0).2 0 (by omega)
                    have := (cell?_lt hu0).2
                    simpa [Addr.add] using this
                · have h3 := hel 0 (by omega)
                  obtain ⟨y0, hy0⟩ : ∃ y, elems[0]? = some y := ⟨_, List.getElem?_eq_getElem (by omega)⟩
                  rw [hy0, Option.bind_eq_some_iff] at h3
                  obtain ⟨cs0, hcs0, _⟩ := h3
                  obtain ⟨u0, _, hu0⟩ := (cells?_get hcs0).2 0 (by omega)
                  have := (cell?_lt hu0).2
                  simpa [Addr.add] using this
              have ha : (a.add (i * P.cellsOf e)).add j = ⟨a.block, a.off + (i * shn sh + j), none⟩ := by
                rw [← hc]
                cases a with
                | mk b o s =>
                  simp only at hspot
                  subst hspot
                  simp only [Addr.add]
                  split <;> split <;> simp_all <;> omega
              rw [ha] at hu2
              exact ⟨c, u, by rw [hx]; exact hcj, hu2, hspot, (cell?_lt hu2).1, hvs.rep j c u hcj hu1⟩
            cases sh with
            | none =>
              match vs, hvl, hvs with
              | [c], _, hvs =>
                have h1 := hvs.one c (by simp)
                exact fin c (by cases c <;> first | rfl | simp [V.one] at h1) (by cases c <;> first | rfl | simp [V.one] at h1)
            | some k => exact fin (.agg vs) rfl (by simp [V.shape]; exact hvl)
          obtain ⟨xs, hxl, hxs⟩ := choose_list len elem
          have hmemx : ∀ x ∈ xs, ∃ i, i < len ∧ xs[i]? = some x := fun x hx => by
            obtain ⟨i, hi⟩ := List.mem_iff_getElem?.1 hx
            exact ⟨i, by rw [← hxl]; exact (List.getElem?_eq_some_iff.1 hi).1, hi⟩
          have hshape : ∀ x ∈ xs, x.shape = sh := fun x hx => by obtain ⟨i, _, hi⟩ := hmemx x hx; exact (hxs i x hi).1
          have hone : ∀ c ∈ V.flat xs, c.one = true := fun c hc => by
            obtain ⟨x, hx, hcx⟩ := List.mem_flatMap.1 hc
            obtain ⟨i, _, hi⟩ := hmemx x hx
            exact (hxs i x hi).2.2.1 c hcx
          have hty : Ty P t [.sl sh false xs] := .sl t e sh hu hsh xs (by omega) hshape fun x hx => by obtain ⟨i, _, hi⟩ := hmemx x hx; exact (hxs i x hi).2.1
          have hbulk : V.bulkL xs ≤ Go.Proofs.YtpdeaekmgljeaaaDoor.Rows.uptoBulkAll (elems.map (·.1)) := by
            have key : ∀ (xs : List V) (es : List (DataW H × List MemPlace)), xs.length = es.length → (∀ (i : Nat) x, xs[i]? = some x → ∃ y, es[i]? = some y ∧ x.bulk ≤ Go.Proofs.YtpdeaekmgljeaaaDoor.Rows.uptoBulk y.1) → V.bulkL xs ≤ Go.Proofs.YtpdeaekmgljeaaaDoor.Rows.uptoBulkAll (es.map (·.1)) := by
              intro xs
              induction xs with
              | nil => intro es _ _; simp [V.bulkL]
              | cons x xs ih3 =>
                intro es hl hh
                cases es with
                | nil => simp at hl
                | cons y es =>
                  have h1 := ih3 es (by simpa using hl) fun i x hx => by simpa using hh (i + 1) x (by simpa using hx)
                  obtain ⟨y', hy', hb⟩ := hh 0 x rfl
                  simp at hy'
                  subst hy'
                  simp only [V.bulkL, List.map_cons, Go.Proofs.YtpdeaekmgljeaaaDoor.Rows.uptoBulkAll]
                  omega
            exact key xs elems (by omega) fun i x hx => (hxs i x hx).2.2.2.1
          refine ⟨[.sl sh false xs], cs_one hty rfl ?_ ?_⟩
          · by_cases hx0 : xs = []
            · subst hx0
              have hl0 : len = 0 := by simpa using hxl.symm
              subst hl0
              by_cases hc0 : cap = 0
              · subst hc0; exact .slNil sh false (some a)
              · -- room to spare: its first cell is read too
                obtain ⟨hr1, hr2⟩ := hsp rfl
                have h3 := hr2 0 (by omega)
                obtain ⟨y0, hy0⟩ : ∃ y, rest[0]? = some y := ⟨_, List.getElem?_eq_getElem (by omega)⟩
                rw [hy0, Option.bind_eq_some_iff] at h3
                obtain ⟨cs0, hcs0, _⟩ := h3
                obtain ⟨u0, _, hu0⟩ := (cells?_get hcs0).2 0 (by omega)
                have hspot := (cell?_lt hu0).2
                simp only [Nat.zero_add, Nat.zero_mul, Addr.add, if_true] at hspot
                have ha : a = ⟨a.block, a.off, none⟩ := addr_eta hspot
                rw [ha]
                exact .sl sh false [] a.block a.off cap (fun _ => undef) (by simp) (by simp [V.flat]) (by simp) hm (by simp) (by simp) (by simp [V.flat])
            · have hpos : 0 < xs.length := List.length_pos_iff.2 hx0
              obtain ⟨x0, hx0'⟩ : ∃ x, xs[0]? = some x := ⟨_, List.getElem?_eq_getElem hpos⟩
              obtain ⟨_, _, _, _, hspot, _, _⟩ := (hxs 0 x0 hx0').2.2.2.2 0 h0
              have ha : a = ⟨a.block, a.off, none⟩ := addr_eta hspot
              rw [ha, ← hxl]
              have hcell : ∀ k, k < xs.length * shn sh → ∃ c u, (V.flat xs)[k]? = some c ∧ w.cell? ⟨a.block, a.off + k, none⟩ = some u ∧ a.block < w.heap.size ∧ RepV w (fun b _ => b < w.heap.size) c u := by
                intro k hk
                have hi : k / shn sh < xs.length := Nat.div_lt_of_lt_mul (by rw [Nat.mul_comm]; exact hk)
                have hj : k % shn sh < shn sh := Nat.mod_lt _ h0
                obtain ⟨x, hx⟩ : ∃ x, xs[k / shn sh]? = some x := ⟨_, List.getElem?_eq_getElem hi⟩
                obtain ⟨c, u, h1, h2, _, h4, h5⟩ := (hxs _ x hx).2.2.2.2 _ hj
                have hk' : k / shn sh * shn sh + k % shn sh = k := Nat.div_add_mod' k (shn sh)
                rw [hk'] at h2
                refine ⟨c, u, ?_, h2, h4, h5⟩
                have hfl : ∀ (l : List V) (i j : Nat) (x : V), (∀ x ∈ l, x.shape = sh) → l[i]? = some x → j < shn sh → (V.flat l)[i * shn sh + j]? = x.cells[j]? := by
                  intro l
                  induction l with
                  | nil => intro i j x _ h; simp at h
                  | cons y l ih4 =>
                    intro i j x hs h hj
                    have hyl : y.cells.length = shn sh := by rw [V.cells_length, hs y (by simp)]
                    simp only [V.flat, List.flatMap_cons]
                    cases i with
                    | zero => simp at h; subst h; rw [Nat.zero_mul, Nat.zero_add, List.getElem?_append_left (by omega)]
                    | succ i =>
                      rw [List.getElem?_append_right (by rw [hyl, Nat.add_mul]; omega), hyl, show (i + 1) * shn sh + j - shn sh = i * shn sh + j by rw [Nat.add_mul]; omega]
                      exact ih4 i j x (fun z hz => hs z (by simp [hz])) (by simpa using h) hj
                rw [← hk', hfl xs _ _ x hshape hx hj, h1]
              refine .sl sh false xs a.block a.off cap (fun k => (w.cell? ⟨a.block, a.off + k, none⟩).getD undef) hshape hone (by omega) hm (by simp) (fun k hk => ?_) fun k c hk => ?_
              · obtain ⟨c, u, _, h2, h3, _⟩ := hcell k hk
                rw [h2]
                exact ⟨rfl, h3⟩
              · have hlt : k < xs.length * shn sh := by rw [← V.flat_length hshape]; exact (List.getElem?_eq_some_iff.1 hk).1
                obtain ⟨c', u, h1, h2, _, h4⟩ := hcell k hlt
                rw [hk] at h1
                cases h1
                rw [h2]
                exact h4
          · simp only [V.bulk, Go.Proofs.YtpdeaekmgljeaaaDoor.Rows.uptoBulk]
            omega
      · cases hp
    · rename_i fs hu
      simp only [Bool.and_eq_true, List.all_eq_true, List.contains_iff_mem] at hp
      obtain ⟨xs, n', hn, rfl, hlen, hxl, hx⟩ := DataW.trod_struct hu h
      cases hn
      obtain ⟨parts, p1, p2, p3, p4, p5, p6, p7⟩ := cs_fields (cs_of_trod hT n) fs.toList 0 xs hp.1 (by rw [hlen]; exact hp.2) (by simpa using hxl) fun i f hf => hx i f (by simpa using hf)
      exact ⟨parts.flatten, .struct t fs hu parts (by simpa using p1) (fun i f p hf hp' => p2 i f p (by simpa using hf) hp'), by simpa using p4, p5, fun i c u hc hu' => p6 i c u hc (by simpa using hu'), by
        simp only [Go.Proofs.YtpdeaekmgljeaaaDoor.Rows.uptoBulk]; omega⟩
    · cases hp
end

/-! ### What a type tells of its cells -/
section
variable {P : Program} {t : TypeId} {cs : List V}
theorem Ty.bool_inv (hu : P.underlying t = some .bool) (h : Ty P t cs) : ∃ b, cs = [.bool b] := by
  cases h with
  | bool _ _ b => exact ⟨b, rfl⟩
  | int _ k h => rw [hu] at h; cases h
  | str _ h => rw [hu] at h; cases h
  | sl _ e sh h => rw [hu] at h; cases h
  | struct _ fs h => rw [hu] at h; cases h
theorem Ty.int_inv {k : IntKind} (hu : P.underlying t = some (.int k)) (h : Ty P t cs) : ∃ n, cs = [.int k n] ∧ inR k n := by
  cases h with
  | bool _ h b => rw [hu] at h; cases h
  | int _ k h n hn => rw [hu] at h; cases h; exact ⟨n, rfl, hn⟩
  | str _ h => rw [hu] at h; cases h
  | sl _ e sh h => rw [hu] at h; cases h
  | struct _ fs h => rw [hu] at h; cases h
theorem Ty.str_inv (hu : P.underlying t = some .string) (h : Ty P t cs) : ∃ s, cs = [.str s] ∧ s.length ≤ maxLen := by
  cases h with
  | bool _ h b => rw [hu] at h; cases h
  | int _ k h n hn => rw [hu] at h; cases h
  | str _ h s hs => exact ⟨s, rfl, hs⟩
  | sl _ e sh h => rw [hu] at h; cases h
  | struct _ fs h => rw [hu] at h; cases h
theorem Ty.sl_inv {e : TypeId} {sh : Sh} (hu : P.underlying t = some (.slice e)) (hsh : tsh P e = some sh) (h : Ty P t cs) : ∃ xs, cs = [.sl sh false xs] ∧ xs.length ≤ maxLen ∧ ∀ x ∈ xs, x.shape = sh ∧ Ty P e x.cells := by
  cases h with
  | bool _ h b => rw [hu] at h; cases h
  | int _ k h n hn => rw [hu] at h; cases h
  | str _ h s hs => rw [hu] at h; cases h
  | sl _ e sh h hsh' xs hl hs hx => rw [hu] at h; cases h; rw [hsh] at hsh'; cases hsh'; exact ⟨xs, rfl, hl, fun x hx' => ⟨hs x hx', hx x hx'⟩⟩
  | struct _ fs h => rw [hu] at h; cases h
theorem Ty.struct_inv {fs : Array Field} (hu : P.underlying t = some (.struct fs)) (h : Ty P t cs) : ∃ parts : List (List V), cs = parts.flatten ∧ parts.length = fs.size ∧ ∀ (i : Nat) f p, fs[i]? = some f → parts[i]? = some p → Ty P f.type p := by
  cases h with
  | bool _ h b => rw [hu] at h; cases h
  | int _ k h n hn => rw [hu] at h; cases h
  | str _ h s hs => rw [hu] at h; cases h
  | sl _ e sh h => rw [hu] at h; cases h
  | struct _ fs h parts hl hf => rw [hu] at h; cases h; exact ⟨parts, rfl, hl, hf⟩
end

/-- A list of values that all stand for data of a kind is the data's list. -/
theorem list_of_all {α : Type} {enc : α → V} : ∀ {xs : List V}, (∀ x ∈ xs, ∃ a, x = enc a) → ∃ l : List α, xs = l.map enc
  | [], _ => ⟨[], rfl⟩
  | x :: xs, h => by
    obtain ⟨a, ha⟩ := h x (by simp)
    obtain ⟨l, hl⟩ := list_of_all (enc := enc) (xs := xs) fun y hy => h y (by simp [hy])
    exact ⟨a :: l, by rw [ha, hl]; rfl⟩

/-! ### A law -/

/-- What stands for an argument of a type. -/
structure Arg (P : Program) (t : TypeId) (x : V) : Prop where
  ty : Ty P t x.cells
  sh : tsh P t = some x.shape

def TyAll (P : Program) : List TypeId → List (List V) → Prop
  | [], [] => True
  | t :: ts, p :: ps => Ty P t p ∧ TyAll P ts ps
  | _, _ => False

section
variable {P : Program} {t : TypeId} {x : V}
theorem Arg.one (hs : tsh P t = some none) (h : Arg P t x) : x.cells = [x] := by
  have h1 := h.sh
  rw [hs] at h1
  exact (shape_none (Option.some.inj h1).symm).1
theorem Arg.int {k : IntKind} (hu : P.underlying t = some (.int k)) (hs : tsh P t = some none) (h : Arg P t x) : ∃ n, x = .int k n ∧ inR k n := by
  have h1 := h.ty
  rw [h.one hs] at h1
  obtain ⟨n, e, hn⟩ := h1.int_inv hu
  exact ⟨n, (List.cons.inj e).1, hn⟩
theorem Arg.bool (hu : P.underlying t = some .bool) (hs : tsh P t = some none) (h : Arg P t x) : ∃ b, x = .bool b := by
  have h1 := h.ty
  rw [h.one hs] at h1
  obtain ⟨n, e⟩ := h1.bool_inv hu
  exact ⟨n, (List.cons.inj e).1⟩
theorem Arg.str (hu : P.underlying t = some .string) (hs : tsh P t = some none) (h : Arg P t x) : ∃ s, x = .str s ∧ s.length ≤ maxLen := by
  have h1 := h.ty
  rw [h.one hs] at h1
  obtain ⟨n, e, hn⟩ := h1.str_inv hu
  exact ⟨n, (List.cons.inj e).1, hn⟩
theorem Arg.sl {e : TypeId} {sh : Sh} (hu : P.underlying t = some (.slice e)) (hs : tsh P t = some none) (he : tsh P e = some sh) (h : Arg P t x) : ∃ xs, x = .sl sh false xs ∧ xs.length ≤ maxLen ∧ ∀ y ∈ xs, Arg P e y := by
  have h1 := h.ty
  rw [h.one hs] at h1
  obtain ⟨xs, e1, hn, hx⟩ := h1.sl_inv hu he
  exact ⟨xs, (List.cons.inj e1).1, hn, fun y hy => ⟨(hx y hy).2, by rw [he, (hx y hy).1]⟩⟩
theorem Arg.struct {fs : Array Field} {n : Nat} {ts : List TypeId} (hu : P.underlying t = some (.struct fs)) (hts : fs.toList.map (·.type) = ts) (hs : tsh P t = some (some n)) (h : Arg P t x) : ∃ parts : List (List V), x = .agg parts.flatten ∧ TyAll P ts parts := by
  have h1 := h.sh
  rw [hs] at h1
  obtain ⟨cs, rfl, _⟩ := agg_of_shape (Option.some.inj h1).symm
  obtain ⟨parts, e1, e2, e3⟩ := h.ty.struct_inv hu
  refine ⟨parts, by rw [← e1]; rfl, ?_⟩
  have key : ∀ (l : List Field) (ps : List (List V)), ps.length = l.length → (∀ (i : Nat) f p, l[i]? = some f → ps[i]? = some p → Ty P f.type p) → TyAll P (l.map (·.type)) ps := by
    intro l
    induction l with
    | nil => intro ps hl _; rw [List.eq_nil_of_length_eq_zero hl]; trivial
    | cons f l ih =>
      intro ps hl hp
      cases ps with
      | nil => simp at hl
      | cons p ps => exact ⟨hp 0 f p rfl rfl, ih ps (by simpa using hl) fun i g q h1 h2 => hp (i + 1) g q (by simpa using h1) (by simpa using h2)⟩
  rw [← hts]
  exact key fs.toList parts (by simpa using e2) fun i f p h1 h2 => e3 i f p (by simpa using h1) h2
end

theorem Arg.bytes {P : Program} {t e : TypeId} {x : V} (hu : P.underlying t = some (.slice e)) (hs : tsh P t = some none) (he : P.underlying e = some (.int .u8)) (hse : tsh P e = some none) (h : Arg P t x) : ∃ bs, x = .sl none false (bytesV bs) ∧ bs.length ≤ maxLen := by
  obtain ⟨xs, rfl, hl, hx⟩ := h.sl hu hs hse
  obtain ⟨bs, hb⟩ := list_of_all (enc := fun b : UInt8 => V.int .u8 b.toNat) (xs := xs) fun y hy => by
    obtain ⟨n, rfl, hn⟩ := (hx y hy).int he hse
    simp at hn
    refine ⟨UInt8.ofNat n.toNat, ?_⟩
    have : (UInt8.ofNat n.toNat).toNat = n.toNat := by simp; omega
    rw [this]
    congr 1
    omega
  subst hb
  exact ⟨bs, rfl, by simpa using hl⟩

def Args (P : Program) : List TypeId → List V → Prop
  | [], [] => True
  | t :: ts, x :: xs => Arg P t x ∧ Args P ts xs
  | _, _ => False

section
variable {H : Type} {enc : TypeId × Value → H} {P : Program} {w : World}

theorem arg_of {T : List TypeId} (hT : plainSet P T = true) {t : TypeId} {v : Value} {d : DataW H} {ps : List MemPlace} {base : Nat} (ht : t ∈ T) (hsh : (tsh P t).isSome = true) (hval : Value.okWide P w .any base t v)
    (h : DataW.Trod enc P w 0 (fun _ => true) true t v d ps) : ∃ x, Arg P t x ∧ RepV w (fun b _ => b < w.heap.size) x v ∧ x.bulk ≤ Go.Proofs.YtpdeaekmgljeaaaDoor.Rows.uptoBulk d := by
  obtain ⟨n, hn⟩ := h
  obtain ⟨vs, hvs⟩ := cs_of_trod hT n t _ _ ht hn
  obtain ⟨sh, hsh⟩ := Option.isSome_iff_exists.1 hsh
  obtain ⟨i, d', hi, hu, hq, hsz⟩ := tsh_spec hsh
  have hp := List.all_eq_true.1 hT t ht
  have scal : (∀ cs, v ≠ .agg cs) → d'.isRow = false → ∃ x, Arg P t x ∧ RepV w (fun b _ => b < w.heap.size) x v ∧ x.bulk ≤ Go.Proofs.YtpdeaekmgljeaaaDoor.Rows.uptoBulk d := by
    intro hv hr
    have hc : v.cells.toList = [v] := by cases v <;> first | rfl | exact absurd rfl (hv _)
    have hlen := hvs.len
    rw [hc] at hlen
    match vs, hlen, hvs with
    | [x], _, hvs =>
      have h1 := hvs.one x (by simp)
      have hxc : x.cells = [x] := by cases x <;> first | rfl | simp [V.one] at h1
      have hxs : x.shape = none := by cases x <;> first | rfl | simp [V.one] at h1
      have hshn : sh = none := by
        cases sh with
        | none => rfl
        | some k => rw [hq.1] at hr; cases hr
      refine ⟨x, ⟨hxc ▸ hvs.ty, by rw [hxs, hsh, hshn]⟩, hvs.rep 0 x v rfl (by rw [hc]; rfl), ?_⟩
      have := hvs.bulk
      simpa [V.bulkL] using this
  have nagg : (∀ fs, P.underlying t ≠ some (.struct fs)) → (∀ n e, P.underlying t ≠ some (.array n e)) → (∀ ms, P.underlying t ≠ some (.interface ms)) → (∀ k e, P.underlying t ≠ some (.map k e)) → ∀ cs, v ≠ .agg cs := by
    rintro h1 h2 h3 h4 cs rfl
    unfold Value.okWide at hval
    rw [hu] at hval h1 h2 h3 h4
    cases d' <;> simp [Cell.okWide, Cell.ok, hu] at hval h1 h2 h3 h4
  split at hp
  · rename_i hu'
    have e : d' = .bool := by rw [hu] at hu'; exact Option.some.inj hu'
    subst e
    exact scal (nagg (by simp [hu]) (by simp [hu]) (by simp [hu]) (by simp [hu])) rfl
  · rename_i k hu'
    have e : d' = .int k := by rw [hu] at hu'; exact Option.some.inj hu'
    subst e
    exact scal (nagg (by simp [hu]) (by simp [hu]) (by simp [hu]) (by simp [hu])) rfl
  · rename_i hu'
    have e : d' = .string := by rw [hu] at hu'; exact Option.some.inj hu'
    subst e
    exact scal (nagg (by simp [hu]) (by simp [hu]) (by simp [hu]) (by simp [hu])) rfl
  · rename_i e0 hu'
    have e : d' = .slice e0 := by rw [hu] at hu'; exact Option.some.inj hu'
    subst e
    exact scal (nagg (by simp [hu]) (by simp [hu]) (by simp [hu]) (by simp [hu])) rfl
  · rename_i fs hu'
    have e : d' = .struct fs := by rw [hu] at hu'; exact Option.some.inj hu'
    subst e
    unfold Value.okWide at hval
    rw [hu] at hval
    obtain ⟨cs, rfl, hcs, _⟩ := hval
    have hshn : sh = some cs.size := by
      cases sh with
      | none => dsimp only at hq; simp [TypeDesc.isRow] at hq
      | some k =>
        rw [← hq.2, hcs]
        simp [Program.cellsOf, hi]
    refine ⟨.agg vs, ⟨hvs.ty, by rw [hsh, hshn]; simp only [V.shape]; rw [hvs.len]; simp [Value.cells]⟩, ?_, ?_⟩
    · have := RepV.agg (w := w) (F := fun b _ => b < w.heap.size) vs cs.toList (by simpa [Value.cells] using hvs.len) hvs.one (fun i c u hc hu => hvs.rep i c u hc (by simpa [Value.cells] using hu))
      simpa using this
    · have := hvs.bulk
      simpa [V.bulk] using this
  · cases hp

theorem args_of {T : List TypeId} (hT : plainSet P T = true) {base : Nat} : ∀ {ts : List TypeId} {vs : List Value} {ds : List (DataW H)} {ps : List MemPlace}, (∀ t ∈ ts, t ∈ T ∧ (tsh P t).isSome = true) →
    (∀ (j : Nat) t v, ts[j]? = some t → vs[j]? = some v → Value.okWide P w .any base t v) → DataW.TrodAll enc P w 0 (fun _ => true) true ts vs ds ps →
    ∃ xs : List V, Args P ts xs ∧ xs.length = vs.length ∧ (∀ (i : Nat) x v, xs[i]? = some x → vs[i]? = some v → RepV w (fun b _ => b < w.heap.size) x v) ∧ V.bulkL xs ≤ Go.Proofs.YtpdeaekmgljeaaaDoor.Rows.uptoBulkAll ds
  | [], [], [], _, _, _, _ => ⟨[], trivial, rfl, by simp, by simp [V.bulkL]⟩
  | t :: ts, v :: vs, d :: ds, _, hm, hval, ⟨p, q, h1, h2, _⟩ => by
    obtain ⟨xs, e1, e2, e3, e4⟩ := args_of hT (fun t ht => hm t (by simp [ht])) (fun j t v h3 h4 => hval (j + 1) t v (by simpa using h3) (by simpa using h4)) h2
    obtain ⟨x, f1, f2, f3⟩ := arg_of hT (hm t (by simp)).1 (hm t (by simp)).2 (hval 0 t v rfl rfl) h1
    refine ⟨x :: xs, ⟨f1, e1⟩, by simp [e2], fun i y u hy hu => ?_, by simp only [V.bulkL, Go.Proofs.YtpdeaekmgljeaaaDoor.Rows.uptoBulkAll]; omega⟩
    cases i with
    | zero => simp at hy hu; subst hy hu; exact f2
    | succ i => exact e3 i y u (by simpa using hy) (by simpa using hu)

theorem trodAll_stays (hl : laidOutB P = true) {w' : World} {sp' : Nat → Bool} : ∀ {ts : List TypeId} {vs : List Value} {ds : List (DataW H)} {ps : List MemPlace}, (∀ t ∈ ts, P.readableRec t = true ∧ t < P.types.size) →
    (∀ p ∈ ps, w.sameAt w' p) → (∀ p ∈ ps, sp' p.block = true) → DataW.TrodAll enc P w 0 (fun _ => true) true ts vs ds ps → DataW.TrodAll enc P w' 0 sp' true ts vs ds ps
  | [], [], [], _, _, _, _, h => h
  | t :: ts, v :: vs, d :: ds, _, hr, hs, hb, ⟨p, q, h1, h2, e⟩ => by
    subst e
    exact ⟨p, q, Go.WideElems.Trod_stays hl (hr t (by simp)).1 (hr t (by simp)).2 h1 (fun x hx => hs x (by simp [hx])) (fun x hx => hb x (by simp [hx])),
      trodAll_stays hl (fun t ht => hr t (by simp [ht])) (fun x hx => hs x (by simp [hx])) (fun x hx => hb x (by simp [hx])) h2, rfl⟩

theorem trodAll_len {sp : Nat → Bool} {held : Bool} : ∀ {ts : List TypeId} {vs : List Value} {ds : List (DataW H)} {ps : List MemPlace}, DataW.TrodAll enc P w 0 sp held ts vs ds ps → ds.length = ts.length
  | [], [], [], _, _ => rfl
  | _ :: _, _ :: _, _ :: _, _, ⟨_, _, _, h, _⟩ => by simp [trodAll_len h]

/-- A law's row, out of its contract. -/
theorem law_calls {T : List TypeId} (hT : plainSet P T = true) (hl : laidOutB P = true) {f : Nat} {fn : Func} (htsB : (fn.params.toList.all fun t => T.contains t && (tsh P t).isSome && P.readableRec t && decide (t < P.types.size)) = true) {rt : TypeId} (hrt : fn.resultTypes = #[rt])
    (hb : P.underlying rt = some .bool) {W : World} {base : Nat} {args : Array Value} {ds gs : List (DataW H)} {before : List MemPlace}
    (hval : ∀ (j : Nat) t v, fn.params[j]? = some t → args[j]? = some v → Value.okWide P W .any base t v) (s : ChangeSpec) (hsv : s.vars = []) (hW : DataW.Whole enc P fn.params.toList s.vars false W args.toList ds gs before)
    (hs : ∀ ds : List (DataW H), ds.length = fn.params.toList.length → s.fn H ds = { results := [.lit (.bool true)], args := ds })
    (hA : ∀ xs : List V, Args P fn.params.toList xs → V.bulkL xs ≤ Go.Proofs.YtpdeaekmgljeaaaDoor.Rows.uptoBulkAll (ds ++ gs) → ACalls P f (xs.map .v) ⟨[], []⟩ fun r _ => r = .v (.bool true)) (hG : ∀ p ∈ globs, ∃ cs ty fr, W.heap[p.1]? = some (.cells cs ty fr) ∧ p.2 cs := by simp [globs]) :
    Calls P f args W fun e W' => ∃ v, e = .returned v ∧ s.post enc P fn false true false false W args v W' := by
  have hts : ∀ t ∈ fn.params.toList, (t ∈ T ∧ (tsh P t).isSome = true) ∧ P.readableRec t = true ∧ t < P.types.size := by
    intro t ht
    have := List.all_eq_true.1 htsB t ht
    simp only [Bool.and_eq_true, List.contains_iff_mem, decide_eq_true_eq] at this
    exact ⟨this.1.1, this.1.2, this.2⟩
  have hW' := hW
  obtain ⟨p, q, hta, htv, hps, hz, _⟩ := hW
  rw [hsv] at htv
  obtain ⟨rfl, rfl⟩ := trodVars_none htv
  have hs : ([] : List (DataW H)) = [] → s.fn H (ds ++ []) = { results := [.lit (.bool true)], args := ds } := fun _ => by
    rw [List.append_nil]
    exact hs ds (trodAll_len hta)
  obtain ⟨xs, e1, e2, e3, e4⟩ := args_of hT (fun t ht => (hts t ht).1) (fun j t v h1 h2 => hval j t v (by simpa using h1) (by simpa using h2)) hta
  have hI : Inv ⟨[], []⟩ ⟨[], []⟩ W := ⟨rfl, rfl, by simp [Gh.blocks, Gh.ownb, Gh.objb], by simp, by simp, by simp, fun p hp => ⟨hG p hp, by simp [Gh.blocks, Gh.ownb, Gh.objb]⟩⟩
  have hrun := (hA xs e1 (by simpa using e4)).2 ⟨[], []⟩ W args.toList hI (by simp [e2]) fun i d u hd hu => by
    simp only [List.getElem?_map] at hd
    cases hx : xs[i]? with
    | none => rw [hx] at hd; cases hd
    | some x =>
      rw [hx] at hd
      cases hd
      exact .v x u ((e3 i x u hx hu).mono fun b off h => ⟨rfl, h, by rintro (h | ⟨tk, h, _⟩) <;> cases h⟩)
  have hargs : args.toList.toArray = args := by simp
  rw [hargs] at hrun
  refine hrun.mono ?_
  rintro e W' ⟨v, r, σ', m', rfl, rfl, _, hX, hR⟩
  have hv := hR.bool_inv
  subst hv
  have hheap : ∀ b, b < W.heap.size → W'.heap[b]? = W.heap[b]? := fun b hb => (hX.blocks b hb (by simp [Gh.blocks, Gh.ownb, Gh.objb])).1
  have hlt : ∀ x ∈ p, x.block < W.heap.size := fun x hx => DataW.TrodAll.lt hta x hx
  have hsame : ∀ x ∈ p, W.sameAt W' x := by
    intro x hx
    have hb := hheap x.block (hlt x hx)
    cases x with
    | cell b off => exact cell?_of_heap hb
    | map b => exact hb
  refine ⟨_, rfl, ds, [], before, [], p, [], hW', ?_, ?_, ?_, ?_, fun h => by cases h⟩
  · rw [hs rfl, hrt]
    exact trodAll_cons_mk (shut_bool hb _) trodAll_mk0
  · rw [hs rfl]
    exact trodAll_stays hl (fun t ht => (hts t ht).2) hsame (fun x hx => by simpa using hlt x hx) hta
  · rw [hs rfl, hsv]
    exact (rfl : ([] : List MemPlace) = [])
  · refine ⟨hX.os, hX.output, fun i hi => ?_⟩
    rw [hheap i hi]
    cases W.heap[i]? with
    | none => trivial
    | some o => cases o <;> simp
end

end Go.Abs

/-
  Expressions: what they stand for; how great they are. (Own work.)
-/
set_option linter.unusedVariables false
set_option linter.unusedSimpArgs false
namespace Go.Proofs.YtpdeaekmgljeaaaDoor
open Go Go.Abs

/-- An expression: kind, place, number, texts, labels, names, parts. -/
inductive Ex where
  | mk (k p n : Int) (s t : Str) (ls ns : List Str) (l : List Ex)

mutual
def encE : Ex → V
  | .mk k p n s t ls ns l => .agg [.int .i64 k, .int .i64 p, .int .i64 n, .str s, .str t, .sl none false (ls.map .str), .sl none false (ns.map .str), .sl (some 8) false (encEs l)]
def encEs : List Ex → List V
  | [] => []
  | x :: l => encE x :: encEs l
end
theorem encEs_eq : ∀ l, encEs l = l.map encE
  | [] => by simp [encEs]
  | x :: l => by simp [encEs, encEs_eq l]
theorem encE_mk {k p n : Int} {s t : Str} {ls ns : List Str} {l : List Ex} : encE (.mk k p n s t ls ns l) = .agg [.int .i64 k, .int .i64 p, .int .i64 n, .str s, .str t, .sl none false (ls.map .str), .sl none false (ns.map .str), .sl (some 8) false (l.map encE)] := by
  rw [encE, encEs_eq]
theorem encE_shape (e : Ex) : (encE e).shape = some 8 := by
  cases e
  rw [encE_mk]
  rfl
attribute [irreducible] encE

theorem Ex.ind {P : Ex → Prop} (h : ∀ k p n s t ls ns l, (∀ x ∈ l, P x) → P (.mk k p n s t ls ns l)) (e : Ex) : P e := by
  refine Ex.rec (motive_1 := P) (motive_2 := fun l => ∀ x ∈ l, P x) (fun k p n s t ls ns l ih => h k p n s t ls ns l ih) (by simp) (fun x l h1 h2 y hy => ?_) e
  rcases List.mem_cons.1 hy with rfl | hy
  · exact h1
  · exact h2 y hy

/-- How great: with all texts. -/
def nsz : List Str → Nat
  | [] => 0
  | x :: l => x.length + 1 + nsz l
mutual
def csz : Ex → Nat
  | .mk _ _ _ s t ls ns l => 8 + s.length + t.length + nsz ls + nsz ns + cszL l
def cszL : List Ex → Nat
  | [] => 0
  | x :: l => csz x + cszL l
end
theorem bulk_strs : ∀ ns : List Str, V.bulkL (ns.map .str) = nsz ns
  | [] => rfl
  | x :: l => by simp [V.bulkL, V.bulk, nsz, bulk_strs l]
theorem bulk_ex (e : Ex) : (encE e).bulk = csz e := by
  refine Ex.ind (P := fun e => (encE e).bulk = csz e) (fun k p n s t ls ns l ih => ?_) e
  have hl : V.bulkL (l.map encE) = cszL l := by
    clear e
    induction l with
    | nil => rfl
    | cons x l ih2 => simp only [List.map_cons, V.bulkL, cszL]; rw [ih x (by simp), ih2 fun y hy => ih y (by simp [hy])]
  rw [encE_mk]
  simp only [V.bulk, V.bulkL, csz, bulk_strs, hl]
  omega
theorem nsz_get {l : List Str} {i : Nat} {x : Str} (h : l[i]? = some x) : nsz (l.take (i + 1)) = nsz (l.take i) + (x.length + 1) := by
  induction l generalizing i with
  | nil => simp at h
  | cons y l ih =>
    cases i with
    | zero => simp at h; subst h; simp [nsz]
    | succ i => have := ih (by simpa using h); simp only [List.take_succ_cons, nsz] at *; omega
theorem cszL_get {l : List Ex} {i : Nat} {x : Ex} (h : l[i]? = some x) : cszL (l.take (i + 1)) = cszL (l.take i) + csz x := by
  induction l generalizing i with
  | nil => simp at h
  | cons y l ih =>
    cases i with
    | zero => simp at h; subst h; simp [cszL]
    | succ i => have := ih (by simpa using h); simp only [List.take_succ_cons, cszL] at *; omega
theorem nsz_take (l : List Str) (i : Nat) : nsz (l.take i) ≤ nsz l := by
  induction l generalizing i with
  | nil => simp
  | cons y l ih =>
    cases i with
    | zero => simp [nsz]
    | succ i => have := ih i; simp only [List.take_succ_cons, nsz]; omega
theorem cszL_take (l : List Ex) (i : Nat) : cszL (l.take i) ≤ cszL l := by
  induction l generalizing i with
  | nil => simp
  | cons y l ih =>
    cases i with
    | zero => simp [cszL]
    | succ i => have := ih i; simp only [List.take_succ_cons, cszL]; omega
theorem nsz_len (l : List Str) : l.length ≤ nsz l := by
  induction l with
  | nil => simp
  | cons y l ih => simp only [nsz, List.length_cons]; omega
theorem csz_pos (e : Ex) : 8 ≤ csz e := by cases e; simp only [csz]; omega
theorem cszL_len (l : List Ex) : 8 * l.length ≤ cszL l := by
  induction l with
  | nil => simp
  | cons y l ih => have := csz_pos y; simp only [cszL, List.length_cons]; omega
theorem cszL_mem {l : List Ex} {x : Ex} (h : x ∈ l) : csz x ≤ cszL l := by
  induction l with
  | nil => cases h
  | cons y l ih =>
    simp only [cszL]
    rcases List.mem_cons.1 h with rfl | h
    · omega
    · have := ih h; omega

structure KSt where
  i : Nat
  m : Int
def obE : Ex → Ob
  | .mk k p n s t ls ns l => .cells [.v (.int .i64 k), .v (.int .i64 p), .v (.int .i64 n), .v (.str s), .v (.str t), .v (.sl none false (ls.map .str)), .v (.sl none false (ns.map .str)), .v (.sl (some 8) false (l.map encE))]
theorem obE_mk {k p n : Int} {s t : Str} {ls ns : List Str} {l : List Ex} : obE (.mk k p n s t ls ns l) = .cells [.v (.int .i64 k), .v (.int .i64 p), .v (.int .i64 n), .v (.str s), .v (.str t), .v (.sl none false (ls.map .str)), .v (.sl none false (ns.map .str)), .v (.sl (some 8) false (l.map encE))] := rfl
theorem k_Count (e : Ex) : ∀ {m : Int} {σ : Sg}, csz e ≤ 1048576 → -2000000 ≤ m → m ≤ 2000000 → ACalls Tryd.prog 8 [.v (encE e), .v (.int .i64 m)] σ fun r σ' => (∃ m' : Int, m - csz e ≤ m' ∧ m' ≤ m ∧ r = .v (.int .i64 m')) ∧ σ' = σ := by
  refine Ex.ind (P := fun e => ∀ {m : Int} {σ : Sg}, csz e ≤ 1048576 → -2000000 ≤ m → m ≤ 2000000 → ACalls Tryd.prog 8 [.v (encE e), .v (.int .i64 m)] σ fun r σ' => (∃ m' : Int, m - csz e ≤ m' ∧ m' ≤ m ∧ r = .v (.int .i64 m')) ∧ σ' = σ) (fun k p n s t ls ns l ih => ?_) e
  intro m σ he h1 h2
  simp only [csz] at he ⊢
  have hnl := nsz_len ns
  have hnl2 := nsz_len ls
  have hll := cszL_len l
  rw [encE_mk]
  refine acalls_fit Tryd.func8 (by kernel_rfl) c8 rfl (by simp [a8]) fun hf => ?_
  clear hf
  simp -implicitDefEqProofs (maxSteps := 2000000) (disch := omega) [-getElem?_pos, a8]
  obtain ⟨os, hos⟩ : ∃ os, os = σ.objs ++ [Ob.cells [.v (.int .i64 k), .v (.int .i64 p), .v (.int .i64 n), .v (.str s), .v (.str t), .v (.sl none false (ls.map .str)), .v (.sl none false (ns.map .str)), .v (.sl (some 8) false (l.map encE))]] := ⟨_, rfl⟩
  have ho : os[σ.objs.length]? = some (Ob.cells [.v (.int .i64 k), .v (.int .i64 p), .v (.int .i64 n), .v (.str s), .v (.str t), .v (.sl none false (ls.map .str)), .v (.sl none false (ns.map .str)), .v (.sl (some 8) false (l.map encE))]) := by rw [hos]; simp
  refine W_loop (α := KSt) ⟨0, m - 1 - s.length - t.length⟩ (fun x => ls.length - x.i) (fun x => ⟨[(2, .ptr σ.objs.length 0), (1, .v (.int .i64 x.m)), (5, .v (.int .i64 x.i))], ⟨os, σ.toks⟩⟩)
    (fun x => x.i ≤ ls.length ∧ x.m = m - 1 - s.length - t.length - nsz (ls.take x.i)) (.eq2 (by simp [hos]) (by simp)) ⟨by simp, by simp [nsz]⟩ fun ⟨i, m1⟩ ⟨hi, hm⟩ => ?_
  dsimp only at hi hm ⊢
  have hnt := nsz_take ls i
  simp -implicitDefEqProofs (maxSteps := 2000000) (disch := omega) [-getElem?_pos, ho]
  refine .mk (fun h => ?_) fun h => ?_
  · simp -implicitDefEqProofs (maxSteps := 2000000) (disch := omega) [-getElem?_pos, ho]
    refine ⟨by omega, ?_⟩
    intro x hx
    have hx1 := nsz_get hx
    have hx2 := nsz_take ls (i + 1)
    simp -implicitDefEqProofs (maxSteps := 2000000) (disch := omega) [-getElem?_pos, ho]
    refine ⟨⟨i + 1, m1 - 1 - x.length⟩, ⟨by dsimp only; omega, by dsimp only; omega⟩, by dsimp only; omega, .eq (by simp)⟩
  rw [List.take_of_length_le (by omega)] at hm
  clear hnt
  have hnt2 := nsz_take ns
  simp -implicitDefEqProofs (maxSteps := 2000000) (disch := omega) [-getElem?_pos, ho]
  refine W_loop (α := KSt) ⟨0, m1⟩ (fun x => ns.length - x.i) (fun x => ⟨[(2, .ptr σ.objs.length 0), (1, .v (.int .i64 x.m)), (6, .v (.int .i64 x.i))], ⟨os, σ.toks⟩⟩)
    (fun x => x.i ≤ ns.length ∧ x.m = m1 - nsz (ns.take x.i)) (.eq (by simp)) ⟨by simp, by simp [nsz]⟩ fun ⟨i, m2⟩ ⟨hi, hm4⟩ => ?_
  dsimp only at hi hm4 ⊢
  have hnt := nsz_take ns i
  simp -implicitDefEqProofs (maxSteps := 2000000) (disch := omega) [-getElem?_pos, ho]
  refine .mk (fun h => ?_) fun h => ?_
  · simp -implicitDefEqProofs (maxSteps := 2000000) (disch := omega) [-getElem?_pos, ho]
    refine ⟨by omega, ?_⟩
    intro x hx
    have hx1 := nsz_get hx
    have hx2 := nsz_take ns (i + 1)
    simp -implicitDefEqProofs (maxSteps := 2000000) (disch := omega) [-getElem?_pos, ho]
    refine ⟨⟨i + 1, m2 - 1 - x.length⟩, ⟨by dsimp only; omega, by dsimp only; omega⟩, by dsimp only; omega, .eq (by simp)⟩
  rw [List.take_of_length_le (by omega)] at hm4
  clear hnt
  simp -implicitDefEqProofs (maxSteps := 2000000) (disch := omega) [-getElem?_pos, ho]
  refine W_loop (α := KSt) ⟨0, m2⟩ (fun x => l.length - x.i) (fun x => ⟨[(2, .ptr σ.objs.length 0), (1, .v (.int .i64 x.m)), (7, .v (.int .i64 x.i))], ⟨os, σ.toks⟩⟩)
    (fun x => x.i ≤ l.length ∧ x.m ≤ m2 ∧ m2 - cszL (l.take x.i) ≤ x.m) (.eq (by simp)) ⟨by simp, by simp, by simp [cszL]⟩ fun ⟨i, m3⟩ ⟨hi, hm2, hm3⟩ => ?_
  dsimp only at hi hm2 hm3 ⊢
  have hlt := cszL_take l i
  simp -implicitDefEqProofs (maxSteps := 2000000) (disch := omega) [-getElem?_pos, ho]
  refine .mk (fun h => ?_) fun h => ?_
  · simp -implicitDefEqProofs (maxSteps := 2000000) (disch := omega) [-getElem?_pos, ho]
    refine .mk (fun h3 => ?_) fun h3 => ?_
    · simp -implicitDefEqProofs (maxSteps := 2000000) (disch := omega) [-getElem?_pos, ho]
      refine ⟨by omega, ?_⟩
      intro x hx
      have hx1 := cszL_get hx
      have hx2 := cszL_take l (i + 1)
      refine (ih x (List.mem_of_getElem? hx) (by omega) (by omega) (by omega)).then fun r hr => ?_
      obtain ⟨m', h5, h6, rfl⟩ := hr
      simp -implicitDefEqProofs (maxSteps := 2000000) (disch := omega) [-getElem?_pos, ho]
      refine ⟨⟨i + 1, m'⟩, ⟨by dsimp only; omega, by dsimp only; omega, by dsimp only; omega⟩, by dsimp only; omega, .eq (by simp)⟩
    · simp -implicitDefEqProofs (maxSteps := 2000000) (disch := omega) [-getElem?_pos, ho]
      subst hos
      exact .fin _ ⟨⟨m3, by omega, by omega, rfl⟩, rfl⟩ (.refl _)
  · simp -implicitDefEqProofs (maxSteps := 2000000) (disch := omega) [-getElem?_pos, ho]
    subst hos
    exact .fin _ ⟨⟨m3, by omega, by omega, rfl⟩, rfl⟩ (.refl _)

/-- Some truth. -/
def isB (r : D) : Prop := ∃ b, r = .v (.bool b)
theorem k_Few {e : Ex} {σ : Sg} (he : csz e ≤ 1048576) : ACalls Tryd.prog 5 [.v (encE e)] σ fun r σ' => isB r ∧ σ' = σ := by
  have hc := fun σ => k_Count e (m := 20000) (σ := σ) he (by omega) (by omega)
  cases e with
  | mk k p n s t ls ns l =>
  rw [encE_mk] at hc ⊢
  refine acalls_fit Tryd.func5 (by kernel_rfl) c5 rfl (by simp [a5]) fun hf => ?_
  clear hf
  simp -implicitDefEqProofs (maxSteps := 2000000) (disch := omega) [-getElem?_pos, a5]
  refine (hc _).then fun r hr => ?_
  obtain ⟨m', h5, h6, rfl⟩ := hr
  simp -implicitDefEqProofs (maxSteps := 2000000) (disch := omega) [-getElem?_pos]
  exact .fin _ ⟨⟨_, rfl⟩, rfl⟩ (.refl _)

end Go.Proofs.YtpdeaekmgljeaaaDoor

/-
  Layers 5 and 6: arguments; what the laid variables give, and a world in which they are laid. (Own work.)
-/
set_option linter.unusedVariables false
set_option linter.unusedSimpArgs false
namespace Go.Proofs.YtpdeaekmgljeaaaDoor
open Go Go.Abs

namespace synS
theorem strs_of {x : V} (h : Arg Tryd.prog 22 x) : ∃ l : List Str, x = vS l := by
  obtain ⟨xs, rfl, _, hx⟩ := h.sl (e := 9) (sh := none) (by kernel_rfl) (by kernel_rfl) (by kernel_rfl)
  obtain ⟨l, rfl⟩ := list_of_all (enc := V.str) fun y hy => by
    obtain ⟨n, rfl, _⟩ := (hx y hy).str (by kernel_rfl) (by kernel_rfl)
    exact ⟨n, rfl⟩
  exact ⟨l, rfl⟩
theorem sl_arg {P : Program} {t e : TypeId} {sh : Sh} {cs : List V} (hu : P.underlying t = some (.slice e)) (hs : tsh P t = some none) (he : tsh P e = some sh) (h : Ty P t cs) : ∃ x, cs = [x] ∧ Arg P t x := by
  obtain ⟨xs, rfl, _, _⟩ := h.sl_inv hu he
  exact ⟨_, rfl, h, hs⟩
theorem bulk_mem {y : V} : ∀ {xs : List V}, y ∈ xs → y.bulk ≤ V.bulkL xs
  | x :: xs, h => by
    simp only [V.bulkL]
    rcases List.mem_cons.1 h with rfl | h
    · omega
    · have := bulk_mem h; omega
theorem expr_of : ∀ (n : Nat) {x : V}, x.bulk ≤ n → Arg Tryd.prog 25 x → ∃ t : Ex, x = encE t
  | 0, x, hn, h => by
    obtain ⟨parts, rfl, hp⟩ := h.struct (t := 25) (fs := Tryd.prog.fieldsOf 25) (n := 8) (ts := [3, 3, 2, 9, 9, 22, 22, 23]) (by kernel_rfl) (by kernel_rfl) (by kernel_rfl)
    match parts, hp with
    | [p, q, r, s, t, u, v, w], ⟨h1, h2, h3, h4, h5, h6, h7, h8, _⟩ =>
      obtain ⟨a, rfl, _⟩ := h1.int_inv (k := .i64) (by kernel_rfl)
      simp [V.bulk, V.bulkL] at hn
  | n + 1, x, hn, h => by
    obtain ⟨parts, rfl, hp⟩ := h.struct (t := 25) (fs := Tryd.prog.fieldsOf 25) (n := 8) (ts := [3, 3, 2, 9, 9, 22, 22, 23]) (by kernel_rfl) (by kernel_rfl) (by kernel_rfl)
    match parts, hp with
    | [p, q, r, s, t, u, v, w], ⟨h1, h2, h3, h4, h5, h6, h7, h8, _⟩ =>
      obtain ⟨a, rfl, _⟩ := h1.int_inv (k := .i64) (by kernel_rfl)
      obtain ⟨a2, rfl, _⟩ := h2.int_inv (k := .i64) (by kernel_rfl)
      obtain ⟨b, rfl, _⟩ := h3.int_inv (k := .i64) (by kernel_rfl)
      obtain ⟨c, rfl, _⟩ := h4.str_inv (by kernel_rfl)
      obtain ⟨d, rfl, _⟩ := h5.str_inv (by kernel_rfl)
      obtain ⟨y0, rfl, hy0⟩ := sl_arg (e := 9) (sh := none) (by kernel_rfl) (by kernel_rfl) (by kernel_rfl) h6
      obtain ⟨ls, rfl⟩ := strs_of hy0
      obtain ⟨y1, rfl, hy1⟩ := sl_arg (e := 9) (sh := none) (by kernel_rfl) (by kernel_rfl) (by kernel_rfl) h7
      obtain ⟨ns, rfl⟩ := strs_of hy1
      obtain ⟨y2, rfl, hy2⟩ := sl_arg (e := 25) (sh := some 8) (by kernel_rfl) (by kernel_rfl) (by kernel_rfl) h8
      obtain ⟨xs, rfl, _, hx⟩ := hy2.sl (e := 25) (sh := some 8) (by kernel_rfl) (by kernel_rfl) (by kernel_rfl)
      simp [V.bulk, V.bulkL] at hn
      obtain ⟨l, rfl⟩ := list_of_all (enc := encE) fun y hy => expr_of n (by have := bulk_mem hy; omega) (hx y hy)
      exact ⟨.mk a a2 b c d ls ns l, by rw [encE_mk]; rfl⟩
def p10T : List Int := (List.range 20).map fun i => ((10 ^ i : Nat) : Int)
theorem own : ownKnob Tryd.prog.godebug = none := by kernel_rfl
theorem laidOut : laidOutB Tryd.prog = true := by kernel_rfl
theorem gErr : (Tryd.prog.globals[5]?).map (·.type) = some 29 := by kernel_rfl
theorem errI : ∃ ms, Tryd.prog.underlying 29 = some (.interface ms) := ⟨_, Tryd.underlying29⟩
theorem hcells {W : World} {g : Nat} {name : String} {cs : Array Value} (hn : Tryd.prog.globalNamed name = some g) (h : W.var? Tryd.prog name = some cs) : ∃ ty fr, W.heap[g]? = some (.cells cs ty fr) := by
  unfold World.var? at h
  rw [hn] at h
  simp only [Option.bind_some] at h
  cases hx : W.heap[g]? with
  | none => rw [hx] at h; cases h
  | some ob =>
    rw [hx] at h
    cases ob with
    | cells cs' ty fr =>
      have h' : some cs' = some cs := h
      cases h'
      exact ⟨ty, fr, rfl⟩
    | _ => cases h
theorem glob_of {W : World} (h : laidMet Tryd.prog Rows.showUnlikeUptoRow.laid W) : ∀ p ∈ globs, ∃ cs ty fr, W.heap[p.1]? = some (.cells cs ty fr) ∧ p.2 cs := by
  have h' : laidMet Tryd.prog [("math/bits.deBruijn32tab", Rows.laid_math_bits_deBruijn32tab), ("math/bits.deBruijn64tab", Rows.laid_math_bits_deBruijn64tab), ("internal/strconv.uint64pow10", Lib.tabData .u64 p10T), ("strconv.ErrRange", Rows.laid_strconv_ErrRange), ("strconv.ErrSyntax", Rows.laid_strconv_ErrSyntax)] W := h
  obtain ⟨ps, hv, _⟩ := h'
  obtain ⟨_, _, _, _, _, _, _, _, _, _, hv, _⟩ := hv
  obtain ⟨_, _, _, _, _, _, _, _, _, _, hv, _⟩ := hv
  obtain ⟨g1, t1, cs1, fuel1, p1, q1, hg1, ht1, hvar1, hd1, hv, _⟩ := hv
  obtain ⟨g2, t2, cs2, fuel2, p2, q2, hg2, ht2, hvar2, hd2, _, _⟩ := hv
  obtain rfl := Option.some.inj ((show (Tryd.prog.globals[0]?).map (·.type) = some 79 by kernel_rfl).symm.trans ((Option.some.inj ((show Tryd.prog.globalNamed "internal/strconv.uint64pow10" = some 0 by kernel_rfl).symm.trans hg1)) ▸ ht1))
  obtain rfl := Option.some.inj ((show Tryd.prog.globalNamed "strconv.ErrRange" = some 5 by kernel_rfl).symm.trans hg2)
  obtain rfl := Option.some.inj (gErr.symm.trans ht2)
  obtain ⟨ms, hms⟩ := errI
  obtain ⟨_, te, pe, hcs2, _, _⟩ := iface_of_trod hms hd2
  have hcs2' : cs2 = #[.iface te pe] := Array.eq_one_of_toList hcs2
  subst hcs2'
  have ht := Lib.cells_of_tab (t := 79) (e := 58) (n := 20) (by kernel_rfl) (by kernel_rfl) (by kernel_rfl) (by kernel_rfl) hd1
  obtain ⟨ty1, fr1, h1⟩ := hcells (g := 0) (by kernel_rfl) hvar1
  obtain ⟨ty2, fr2, h2⟩ := hcells (g := 5) (by kernel_rfl) hvar2
  intro p hp
  simp only [globs, List.mem_cons, List.not_mem_nil, or_false] at hp
  rcases hp with rfl | rfl
  · exact ⟨_, _, _, h1, Array.toList_inj.1 (ht.trans (by kernel_rfl))⟩
  · exact ⟨_, _, _, h2, _, _, rfl⟩
def cellsTo (cs : Array Value) : Obj → Obj
  | .cells _ t frozen => .cells cs t frozen
  | o => o
noncomputable def low : Nat := (World.holding Tryd.prog default ⟨#[], #[], []⟩).heap.size
/-- A world in which the listed variables are laid. -/
noncomputable def laidWorld (os : Os) : World :=
  { World.holding Tryd.prog os ⟨#[.cells #[.string ⟨#[118, 97, 108, 117, 101, 32, 111, 117, 116, 32, 111, 102, 32, 114, 97, 110, 103, 101]⟩] 122, .cells #[.string ⟨#[105, 110, 118, 97, 108, 105, 100, 32, 115, 121, 110, 116, 97, 120]⟩] 122], #[], []⟩ with heap := (((((World.holding Tryd.prog os ⟨#[.cells #[.string ⟨#[118, 97, 108, 117, 101, 32, 111, 117, 116, 32, 111, 102, 32, 114, 97, 110, 103, 101]⟩] 122, .cells #[.string ⟨#[105, 110, 118, 97, 108, 105, 100, 32, 115, 121, 110, 116, 97, 120]⟩] 122], #[], []⟩).heap.modify 0 (cellsTo #[.int .u64 1, .int .u64 10, .int .u64 100, .int .u64 1000, .int .u64 10000, .int .u64 100000, .int .u64 1000000, .int .u64 10000000, .int .u64 100000000, .int .u64 1000000000, .int .u64 10000000000, .int .u64 100000000000, .int .u64 1000000000000, .int .u64 10000000000000, .int .u64 100000000000000, .int .u64 1000000000000000, .int .u64 10000000000000000, .int .u64 100000000000000000, .int .u64 1000000000000000000, .int .u64 10000000000000000000])).modify 4 (cellsTo #[.iface 120 (.pointer (some ⟨low + 1, 0, none⟩))])).modify 5 (cellsTo #[.iface 120 (.pointer (some ⟨low, 0, none⟩))])).modify 2 (cellsTo #[.int .u8 0, .int .u8 1, .int .u8 28, .int .u8 2, .int .u8 29, .int .u8 14, .int .u8 24, .int .u8 3, .int .u8 30, .int .u8 22, .int .u8 20, .int .u8 15, .int .u8 25, .int .u8 17, .int .u8 4, .int .u8 8, .int .u8 31, .int .u8 27, .int .u8 13, .int .u8 23, .int .u8 21, .int .u8 19, .int .u8 16, .int .u8 7, .int .u8 26, .int .u8 12, .int .u8 18, .int .u8 6, .int .u8 11, .int .u8 5, .int .u8 10, .int .u8 9])).modify 3 (cellsTo #[.int .u8 0, .int .u8 1, .int .u8 56, .int .u8 2, .int .u8 57, .int .u8 49, .int .u8 28, .int .u8 3, .int .u8 61, .int .u8 58, .int .u8 42, .int .u8 50, .int .u8 38, .int .u8 29, .int .u8 17, .int .u8 4, .int .u8 62, .int .u8 47, .int .u8 59, .int .u8 36, .int .u8 45, .int .u8 43, .int .u8 51, .int .u8 22, .int .u8 53, .int .u8 39, .int .u8 33, .int .u8 30, .int .u8 24, .int .u8 18, .int .u8 12, .int .u8 5, .int .u8 63, .int .u8 55, .int .u8 48, .int .u8 27, .int .u8 60, .int .u8 41, .int .u8 37, .int .u8 16, .int .u8 46, .int .u8 35, .int .u8 44, .int .u8 21, .int .u8 52, .int .u8 32, .int .u8 23, .int .u8 11, .int .u8 54, .int .u8 26, .int .u8 40, .int .u8 15, .int .u8 34, .int .u8 20, .int .u8 31, .int .u8 10, .int .u8 25, .int .u8 14, .int .u8 19, .int .u8 9, .int .u8 13, .int .u8 8, .int .u8 7, .int .u8 6]) }
end synS
end Go.Proofs.YtpdeaekmgljeaaaDoor

/-
  Expressions: how many nodes; how deep. (Own work.)
-/
set_option linter.unusedVariables false
set_option linter.unusedSimpArgs false
namespace Go.Proofs.YtpdeaekmgljeaaaDoor
open Go Go.Abs

mutual
def nds : Ex → Nat
  | .mk _ _ _ _ _ _ _ l => 1 + ndsL l
def ndsL : List Ex → Nat
  | [] => 0
  | x :: l => nds x + ndsL l
end
theorem ndsL_get {l : List Ex} {i : Nat} {x : Ex} (h : l[i]? = some x) : ndsL (l.take (i + 1)) = ndsL (l.take i) + nds x := by
  induction l generalizing i with
  | nil => simp at h
  | cons y l ih =>
    cases i with
    | zero => simp at h; subst h; simp [ndsL]
    | succ i => have := ih (by simpa using h); simp only [List.take_succ_cons, ndsL] at *; omega
theorem ndsL_take (l : List Ex) (i : Nat) : ndsL (l.take i) ≤ ndsL l := by
  induction l generalizing i with
  | nil => simp
  | cons y l ih =>
    cases i with
    | zero => simp [ndsL]
    | succ i => have := ih i; simp only [List.take_succ_cons, ndsL]; omega
theorem nds_le (e : Ex) : nds e ≤ csz e := by
  refine Ex.ind (P := fun e => nds e ≤ csz e) (fun k p n s t ls ns l ih => ?_) e
  have hl : ndsL l ≤ cszL l := by
    clear e
    induction l with
    | nil => simp [ndsL]
    | cons x l ih2 => have h1 := ih x (by simp); have h2 := ih2 fun y hy => ih y (by simp [hy]); simp only [ndsL, cszL]; omega
  simp only [nds, csz]
  omega
theorem k_Nodes (e : Ex) : ∀ {σ : Sg}, csz e ≤ 1048576 → ACalls Tryd.prog 13 [.v (encE e)] σ fun r σ' => r = .v (.int .i64 (nds e)) ∧ σ' = σ := by
  refine Ex.ind (P := fun e => ∀ {σ : Sg}, csz e ≤ 1048576 → ACalls Tryd.prog 13 [.v (encE e)] σ fun r σ' => r = .v (.int .i64 (nds e)) ∧ σ' = σ) (fun k p n s t ls ns l ih => ?_) e
  intro σ he
  have hn := nds_le (.mk k p n s t ls ns l)
  simp only [csz, nds] at he hn ⊢
  rw [encE_mk]
  refine acalls_fit Tryd.func13 (by kernel_rfl) c13 rfl (by simp [a13]) fun hf => ?_
  clear hf
  simp -implicitDefEqProofs (maxSteps := 2000000) (disch := omega) [-getElem?_pos, a13]
  refine W_loop (α := Nat) 0 (fun i => l.length - i) (fun i => ⟨[(1, .ptr σ.objs.length 0), (3, .v (.int .i64 (1 + ndsL (l.take i) : Nat))), (7, .v (.sl (some 8) false (l.map encE))), (8, .v (.int .i64 l.length)), (9, .v (.int .i64 i))], ⟨σ.objs ++ [obE (.mk k p n s t ls ns l)], σ.toks⟩⟩)
    (fun i => i ≤ l.length) (.eq2 (by simp [obE_mk]) (by simp [ndsL])) (by omega) fun i hi => ?_
  have hnt := ndsL_take l i
  simp -implicitDefEqProofs (maxSteps := 2000000) (disch := omega) [-getElem?_pos]
  refine .mk (fun h => ?_) fun h => ?_
  · simp -implicitDefEqProofs (maxSteps := 2000000) (disch := omega) [-getElem?_pos]
    refine ⟨by omega, ?_⟩
    intro x hx
    have hx1 := cszL_mem (List.mem_of_getElem? hx)
    have hx2 := ndsL_get hx
    have hx3 := ndsL_take l (i + 1)
    have hcall := fun σ => ih x (List.mem_of_getElem? hx) (σ := σ) (by omega)
    have hll := cszL_len l
    cases x with
    | mk k2 p2 n2 s2 t2 ls2 ns2 l2 =>
    rw [encE_mk] at hcall ⊢
    simp -implicitDefEqProofs (maxSteps := 2000000) (disch := omega) [-getElem?_pos]
    refine (hcall _).then fun r hr => ?_
    subst hr
    generalize Ex.mk k2 p2 n2 s2 t2 ls2 ns2 l2 = x at *
    simp -implicitDefEqProofs (maxSteps := 2000000) (disch := omega) [-getElem?_pos]
    refine ⟨i + 1, by omega, by dsimp only; omega, .dropX (ys := [obE (.mk k p n s t ls ns l)]) (xs := [_]) rfl rfl (by simp) (by simp [obE_mk]) (by simp [hx2]; omega) (by simp)⟩
  · rw [List.take_of_length_le (by omega)]
    simp -implicitDefEqProofs (maxSteps := 2000000) (disch := omega) [-getElem?_pos]
    exact .fin _ ⟨by simp, rfl⟩ (.refl _)

mutual
def dep : Ex → Nat
  | .mk _ _ _ _ _ _ _ l => depL l + 1
def depL : List Ex → Nat
  | [] => 0
  | x :: l => max (dep x) (depL l)
end
theorem depL_get {l : List Ex} {i : Nat} {x : Ex} (h : l[i]? = some x) : depL (l.take (i + 1)) = max (depL (l.take i)) (dep x) := by
  induction l generalizing i with
  | nil => simp at h
  | cons y l ih =>
    cases i with
    | zero => simp at h; subst h; simp [depL]
    | succ i => have := ih (by simpa using h); simp only [List.take_succ_cons, depL] at *; omega
theorem dep_le (e : Ex) : dep e ≤ csz e := by
  refine Ex.ind (P := fun e => dep e ≤ csz e) (fun k p n s t ls ns l ih => ?_) e
  have hl : depL l ≤ cszL l := by
    clear e
    induction l with
    | nil => simp [depL]
    | cons x l ih2 => have h1 := ih x (by simp); have h2 := ih2 fun y hy => ih y (by simp [hy]); simp only [depL, cszL]; omega
  simp only [dep, csz]
  omega
theorem depL_mem {l : List Ex} {x : Ex} (h : x ∈ l) : dep x ≤ depL l := by
  induction l with
  | nil => cases h
  | cons y l ih =>
    simp only [depL]
    rcases List.mem_cons.1 h with rfl | h
    · omega
    · have := ih h; omega
theorem depL_take (l : List Ex) (i : Nat) : depL (l.take i) ≤ depL l := by
  induction l generalizing i with
  | nil => simp
  | cons y l ih =>
    cases i with
    | zero => simp [depL]
    | succ i => have := ih i; simp only [List.take_succ_cons, depL]; omega
theorem k_Depth (e : Ex) : ∀ {σ : Sg}, csz e ≤ 1048576 → ACalls Tryd.prog 12 [.v (encE e)] σ fun r σ' => r = .v (.int .i64 (dep e)) ∧ σ' = σ := by
  refine Ex.ind (P := fun e => ∀ {σ : Sg}, csz e ≤ 1048576 → ACalls Tryd.prog 12 [.v (encE e)] σ fun r σ' => r = .v (.int .i64 (dep e)) ∧ σ' = σ) (fun k p n s t ls ns l ih => ?_) e
  intro σ he
  have hn := dep_le (.mk k p n s t ls ns l)
  simp only [csz, dep] at he hn ⊢
  rw [encE_mk]
  refine acalls_fit Tryd.func12 (by kernel_rfl) c12 rfl (by simp [a12]) fun hf => ?_
  clear hf
  simp -implicitDefEqProofs (maxSteps := 2000000) (disch := omega) [-getElem?_pos, a12]
  refine W_loop (α := Nat) 0 (fun i => l.length - i) (fun i => ⟨[(1, .ptr σ.objs.length 0), (3, .v (.int .i64 (depL (l.take i) : Nat))), (7, .v (.sl (some 8) false (l.map encE))), (8, .v (.int .i64 l.length)), (9, .v (.int .i64 i))], ⟨σ.objs ++ [obE (.mk k p n s t ls ns l)], σ.toks⟩⟩)
    (fun i => i ≤ l.length) (.eq2 (by simp [obE_mk]) (by simp [depL])) (by omega) fun i hi => ?_
  have hnt := depL_take l i
  simp -implicitDefEqProofs (maxSteps := 2000000) (disch := omega) [-getElem?_pos]
  refine .mk (fun h => ?_) fun h => ?_
  · simp -implicitDefEqProofs (maxSteps := 2000000) (disch := omega) [-getElem?_pos]
    refine ⟨by omega, ?_⟩
    intro x hx
    have hx1 := cszL_mem (List.mem_of_getElem? hx)
    have hx2 := depL_get hx
    have hx3 := depL_take l (i + 1)
    have hcall := fun σ => ih x (List.mem_of_getElem? hx) (σ := σ) (by omega)
    have hll := cszL_len l
    cases x with
    | mk k2 p2 n2 s2 t2 ls2 ns2 l2 =>
    rw [encE_mk] at hcall ⊢
    simp -implicitDefEqProofs (maxSteps := 2000000) (disch := omega) [-getElem?_pos]
    refine (hcall _).then fun r hr => ?_
    subst hr
    generalize Ex.mk k2 p2 n2 s2 t2 ls2 ns2 l2 = x at *
    simp -implicitDefEqProofs (maxSteps := 2000000) (disch := omega) [-getElem?_pos]
    refine ⟨i + 1, by omega, by dsimp only; omega, .dropX (ys := [obE (.mk k p n s t ls ns l)]) (xs := [_]) rfl rfl (by simp) (by simp [obE_mk]) (by simp [hx2]; omega) (by simp)⟩
  · rw [List.take_of_length_le (by omega)]
    simp -implicitDefEqProofs (maxSteps := 2000000) (disch := omega) [-getElem?_pos]
    exact .fin _ ⟨by simp, rfl⟩ (.refl _)

end Go.Proofs.YtpdeaekmgljeaaaDoor

/-
  Lexer: texts. (Own work.)
-/
set_option linter.unusedVariables false
set_option linter.unusedSimpArgs false
namespace Go.Proofs.YtpdeaekmgljeaaaDoor
open Go Go.Abs

@[reducible] def spotO (at_ : Int) (c : Int) : Ob := .cells [.v (.int .i64 at_), .v (.int .i64 c)]
theorem k_SpotAt {i c : Int} {σ : Sg} : ACalls Tryd.prog 60 [.v (.int .i64 i), .v (.int .i64 c)] σ fun r σ' => r = .iface 104 (.ptr σ.objs.length 0) ∧ σ' = ⟨σ.objs ++ [spotO i c], σ.toks⟩ := by
  refine acalls_fit Tryd.func60 (by kernel_rfl) c60 rfl (by simp [a60]) fun hf => ?_
  clear hf
  simp -implicitDefEqProofs (maxSteps := 2000000) (disch := omega) [-getElem?_pos, a60]
  exact ⟨_, _, WeakR.refl _ _ _, rfl, rfl⟩
inductive TR where
  | ok (s : Str) (to : Nat)
  | bad (q : Nat)
/-- What a text stands for, from behind its quote on. -/
def textL : Str → Nat → Str → TR
  | [], k, _ => .bad k
  | c :: r, k, out =>
    if c.toNat = 34 then .ok out (k + 1) else if plaB c = false then .bad k
    else if c.toNat = 92 then (match r with
      | [] => .bad (k + 1)
      | d :: r' => if d.toNat = 110 then textL r' (k + 2) (out ++ [10]) else if d.toNat = 34 ∨ d.toNat = 92 then textL r' (k + 2) (out ++ [d]) else .bad (k + 1))
    else textL r (k + 1) (out ++ [c])
theorem textL_q {c : UInt8} {r : Str} {k : Nat} {out : Str} (h : c.toNat = 34) : textL (c :: r) k out = .ok out (k + 1) := by cases r <;> simp [textL, h]
theorem textL_odd {c : UInt8} {r : Str} {k : Nat} {out : Str} (h : ¬ c.toNat = 34) (h2 : plaB c = false) : textL (c :: r) k out = .bad k := by cases r <;> simp [textL, h, h2]
theorem textL_esc0 {c : UInt8} {k : Nat} {out : Str} (h3 : c.toNat = 92) (h2 : plaB c = true) : textL [c] k out = .bad (k + 1) := by simp [textL, h2, h3]
theorem textL_escn {c d : UInt8} {r : Str} {k : Nat} {out : Str} (h3 : c.toNat = 92) (h2 : plaB c = true) (h : d.toNat = 110) : textL (c :: d :: r) k out = textL r (k + 2) (out ++ [10]) := by simp [textL, h2, h3, h]
theorem textL_escd {c d : UInt8} {r : Str} {k : Nat} {out : Str} (h3 : c.toNat = 92) (h2 : plaB c = true) (h : ¬ d.toNat = 110) (h4 : d.toNat = 34 ∨ d.toNat = 92) : textL (c :: d :: r) k out = textL r (k + 2) (out ++ [d]) := by simp [textL, h2, h3, h, h4]
theorem textL_esco {c d : UInt8} {r : Str} {k : Nat} {out : Str} (h3 : c.toNat = 92) (h2 : plaB c = true) (h : ¬ d.toNat = 110) (h4 : ¬ d.toNat = 34) (h5 : ¬ d.toNat = 92) : textL (c :: d :: r) k out = .bad (k + 1) := by simp [textL, h2, h3, h, h4, h5]
theorem textL_plain {c : UInt8} {r : Str} {k : Nat} {out : Str} (h : ¬ c.toNat = 34) (h2 : plaB c = true) (h3 : ¬ c.toNat = 92) : textL (c :: r) k out = textL r (k + 1) (out ++ [c]) := by cases r <;> simp [textL, h, h2, h3]
def TextPost (σ : Sg) (p : Nat) (b : Str) (t : TR) (r : D) (σ' : Sg) : Prop := match t with
  | .ok s to => r = .tup [.v (.str s), .v .inil] ∧ σ' = ⟨σ.objs.set p (cut b to), σ.toks⟩
  | .bad q => r = .tup [.v (.str []), .iface 104 (.ptr σ.objs.length 0)] ∧ σ' = ⟨σ.objs.set p (cut b q) ++ [spotO q 2], σ.toks⟩
theorem set_same {σ : Sg} {p : Nat} {ob : Ob} (hp : σ.objs[p]? = some ob) : σ.objs.set p ob = σ.objs := by
  have hpl := (List.getElem?_eq_some_iff.1 hp).1
  apply List.ext_getElem?
  intro j
  by_cases e : p = j
  · subst e
    rw [List.getElem?_set_self hpl]
    exact hp.symm
  · rw [List.getElem?_set_ne e]
theorem low_spot {σ : Sg} {p n k : Nat} {b : Str} {q j : Nat} {c : Int} : ∀ ob ∈ σ.objs.set p (cut b q) ++ [spotO j c], ob ∈ σ.objs ∨ ob.low n k := fun ob h => by
  rcases List.mem_append.1 h with h | h
  · exact low_set (by simp [cut]) ob h
  · rw [List.mem_singleton] at h
    subst h
    exact .inr (by simp)
structure TSt where
  k : Nat
  out : Str
theorem k_Text {b : Str} {i p : Nat} {σ : Sg} (hp : σ.objs[p]? = some (cut b i)) (hi : i ≤ b.length) (hb : b.length ≤ 1048576) : ACalls Tryd.prog 68 [.ptr p 0] σ (TextPost σ p b (textL (b.drop i) i [])) := by
  have hpl := (List.getElem?_eq_some_iff.1 hp).1
  have hset := set_same hp
  have cp := fun c σ => k_Plain (c := c) (σ := σ)
  unfold vB at cp
  refine acalls_fit Tryd.func68 (by kernel_rfl) c68 rfl (by simp [a68]) fun hf => ?_
  clear hf
  simp -implicitDefEqProofs (maxSteps := 2000000) (disch := omega) [-getElem?_pos, a68]
  refine W_loop (α := TSt) ⟨i, []⟩ (fun x => b.length - x.k) (fun x => ⟨[(0, .ptr p 0), (4, .tsl σ.toks.length none (bytesV x.out))], ⟨σ.objs.set p (cut b x.k), σ.toks ++ [x.out.length]⟩⟩)
    (fun x => x.k ≤ b.length ∧ x.out.length ≤ x.k ∧ textL (b.drop i) i [] = textL (b.drop x.k) x.k x.out) (.trans (b := ⟨[(0, .ptr p 0), (4, .tsl σ.toks.length none (bytesV []))], _⟩) (.tok (i := 4) (sh := none) (by simp) (by simp)) (.eq2 (by rw [hset]; rfl) (by simp))) ⟨hi, by simp, rfl⟩ fun ⟨k, out⟩ ⟨hk, hol, he⟩ => ?_
  dsimp only at hk hol he ⊢
  simp -implicitDefEqProofs (maxSteps := 2000000) (disch := omega) [-getElem?_pos, hpl]
  refine .mk (fun h => ?_) fun h => ?_
  · simp -implicitDefEqProofs (maxSteps := 2000000) (disch := omega) [-getElem?_pos, hpl]
    refine ⟨by omega, fun c hc => ?_⟩
    rw [drop_cons hc] at he
    have hcp := fun σ => cp c σ
    refine .mk (fun h34 => ?_) fun h34 => ?_
    · have he2 : textL (b.drop i) i [] = .ok out (k + 1) := he.trans (textL_q (by omega))
      rw [he2]
      simp -implicitDefEqProofs (maxSteps := 2000000) (disch := omega) [-getElem?_pos, hpl]
      exact .finS _ ⟨σ.objs.set p (cut b (k + 1)), σ.toks⟩ ⟨rfl, rfl⟩ (.refl _) (low_set (by simp [cut])) (by simp) (by simp [cut]) (by simp) (by simp) (by simp)
    have h34' : ¬ c.toNat = 34 := by omega
    simp -implicitDefEqProofs (maxSteps := 2000000) (disch := omega) [-getElem?_pos, h34]
    refine (hcp _).then fun r hr => ?_
    subst hr
    cases hpc : plaB c with
    | false =>
      have he2 : textL (b.drop i) i [] = .bad k := he.trans (textL_odd h34' hpc)
      rw [he2]
      simp -implicitDefEqProofs (maxSteps := 2000000) (disch := omega) [-getElem?_pos, hpl]
      refine (k_SpotAt (i := k) (c := 2)).mono fun r σ' hr => ?_
      obtain ⟨rfl, rfl⟩ := hr
      simp -implicitDefEqProofs (maxSteps := 2000000) (disch := omega) [-getElem?_pos, hpl]
      exact .finS _ ⟨σ.objs.set p (cut b k) ++ [spotO (k : Nat) 2], σ.toks⟩ ⟨rfl, rfl⟩ (.refl _) low_spot (by simp) (by simp [cut]) (by simp) (by simp) (by simp)
    | true =>
      simp -implicitDefEqProofs (maxSteps := 2000000) (disch := omega) [-getElem?_pos, hpl]
      refine .mk (fun h92 => ?_) fun h92 => ?_
      rotate_left
      · have h92' : ¬ c.toNat = 92 := by omega
        rw [textL_plain h34' hpc h92'] at he
        simp -implicitDefEqProofs (maxSteps := 2000000) (disch := omega) [-getElem?_pos, hpl]
        exact ⟨by omega, ⟨k + 1, out ++ [c]⟩, ⟨by show k + 1 ≤ b.length; omega, by simp; omega, he⟩, by show b.length - (k + 1) < b.length - k; omega, .eq2 (by simp [cut]) (by simp)⟩
      have h92' : c.toNat = 92 := by omega
      simp -implicitDefEqProofs (maxSteps := 2000000) (disch := omega) [-getElem?_pos, hpl]
      refine .mk (fun hl => ?_) fun hl => ?_
      · have hk1 : k + 1 = b.length := by omega
        rw [show b.drop (k + 1) = [] from List.drop_eq_nil_of_le (by omega), textL_esc0 h92' hpc] at he
        rw [he]
        simp -implicitDefEqProofs (maxSteps := 2000000) (disch := omega) [-getElem?_pos, hpl]
        refine (k_SpotAt (i := (k : Int) + 1) (c := 2)).mono fun r σ' hr => ?_
        obtain ⟨rfl, rfl⟩ := hr
        simp -implicitDefEqProofs (maxSteps := 2000000) (disch := omega) [-getElem?_pos, hpl]
        exact .finS _ ⟨σ.objs.set p (cut b (k + 1)) ++ [spotO ((k + 1 : Nat) : Int) 2], σ.toks⟩ ⟨rfl, rfl⟩ (.refl _) low_spot (by simp) (by simp [cut]) (by simp) (by simp) (by simp)
      · simp -implicitDefEqProofs (maxSteps := 2000000) (disch := omega) [-getElem?_pos, hpl]
        have e12 : (k : Int) + 1 + 1 = (k : Int) + 2 := by omega
        have b10 : bytesV out ++ [V.int .u8 10] = bytesV (out ++ [10]) := by simp [bytesV]
        refine ⟨by omega, by omega, fun d hd => ?_⟩
        rw [drop_cons hd] at he
        refine .mk (fun h110 => ?_) fun h110 => ?_
        · rw [textL_escn h92' hpc (by omega)] at he
          simp -implicitDefEqProofs (maxSteps := 2000000) (disch := omega) [-getElem?_pos, hpl]
          exact ⟨by omega, ⟨k + 2, out ++ [10]⟩, ⟨by show k + 2 ≤ b.length; omega, by simp; omega, he⟩, by show b.length - (k + 2) < b.length - k; omega, .eq2 (by simp [cut, e12]) (by simp [b10])⟩
        have h110' : ¬ d.toNat = 110 := by omega
        simp -implicitDefEqProofs (maxSteps := 2000000) (disch := omega) [-getElem?_pos, hpl]
        refine .mk (fun h34 => ?_) fun h34 => ?_
        · rw [textL_escd h92' hpc h110' (.inl (by omega))] at he
          simp -implicitDefEqProofs (maxSteps := 2000000) (disch := omega) [-getElem?_pos, hpl, h34]
          exact ⟨by omega, ⟨k + 2, out ++ [d]⟩, ⟨by show k + 2 ≤ b.length; omega, by simp; omega, he⟩, by show b.length - (k + 2) < b.length - k; omega, .eq2 (by simp [cut, e12]) (by simp [bytesV]; omega)⟩
        simp -implicitDefEqProofs (maxSteps := 2000000) (disch := omega) [-getElem?_pos, hpl, h34]
        refine .mk (fun h92 => ?_) fun h92 => ?_
        · rw [textL_escd h92' hpc h110' (.inr (by omega))] at he
          simp -implicitDefEqProofs (maxSteps := 2000000) (disch := omega) [-getElem?_pos, hpl, h92]
          exact ⟨by omega, ⟨k + 2, out ++ [d]⟩, ⟨by show k + 2 ≤ b.length; omega, by simp; omega, he⟩, by show b.length - (k + 2) < b.length - k; omega, .eq2 (by simp [cut, e12]) (by simp [bytesV]; omega)⟩
        rw [textL_esco h92' hpc h110' (by omega) (by omega)] at he
        rw [he]
        simp -implicitDefEqProofs (maxSteps := 2000000) (disch := omega) [-getElem?_pos, hpl, h92]
        refine (k_SpotAt (i := (k : Int) + 1) (c := 2)).mono fun r σ' hr => ?_
        obtain ⟨rfl, rfl⟩ := hr
        simp -implicitDefEqProofs (maxSteps := 2000000) (disch := omega) [-getElem?_pos, hpl]
        exact .finS _ ⟨σ.objs.set p (cut b (k + 1)) ++ [spotO ((k + 1 : Nat) : Int) 2], σ.toks⟩ ⟨rfl, rfl⟩ (.refl _) low_spot (by simp) (by simp [cut]) (by simp) (by simp) (by simp)
  · rw [show b.drop k = [] from List.drop_eq_nil_of_le (by omega)] at he
    have he2 : textL (b.drop i) i [] = .bad k := he
    rw [he2]
    simp -implicitDefEqProofs (maxSteps := 2000000) (disch := omega) [-getElem?_pos, hpl]
    refine (k_SpotAt (i := k) (c := 2)).mono fun r σ' hr => ?_
    obtain ⟨rfl, rfl⟩ := hr
    simp -implicitDefEqProofs (maxSteps := 2000000) (disch := omega) [-getElem?_pos, hpl]
    exact .finS _ ⟨σ.objs.set p (cut b k) ++ [spotO (k : Nat) 2], σ.toks⟩ ⟨rfl, rfl⟩ (.refl _) low_spot (by simp) (by simp [cut]) (by simp) (by simp) (by simp)
end Go.Proofs.YtpdeaekmgljeaaaDoor

/-
  Lexer: the reference's texts. (Own work.)
-/
set_option linter.unusedVariables false
set_option linter.unusedSimpArgs false
namespace Go.Proofs.YtpdeaekmgljeaaaDoor
open Go Go.Abs

theorem conv1 {sh : Sh} {f : Bool} {c : UInt8} {K : V → Prop} : WConv .ofBytes (.v (.sl sh f [.int .u8 c.toNat])) K = K (.str [c]) := by
  have h := WConv_ofBytes (sh := sh) (f := f) (s := [c]) (K := K)
  rw [show bytesV [c] = [V.int .u8 c.toNat] from rfl] at h
  rw [h]
  apply propext
  constructor
  · rintro ⟨s, hs, hk⟩
    rw [← bytesV_inj (s := [c]) (t := s) hs] at hk
    exact hk
  · exact fun hk => ⟨[c], rfl, hk⟩
theorem conv10 {sh : Sh} {f : Bool} {K : V → Prop} : WConv .ofBytes (.v (.sl sh f [.int .u8 10])) K = K (.str [10]) := conv1 (c := 10)
theorem conv34 {sh : Sh} {f : Bool} {K : V → Prop} : WConv .ofBytes (.v (.sl sh f [.int .u8 34])) K = K (.str [34]) := conv1 (c := 34)
theorem conv92 {sh : Sh} {f : Bool} {K : V → Prop} : WConv .ofBytes (.v (.sl sh f [.int .u8 92])) K = K (.str [92]) := conv1 (c := 92)
def RTextPost (σ : Sg) (t : TR) (r : D) (σ' : Sg) : Prop := (match t with
  | .ok s to => r = .tup [.v (.str s), .v (.int .i64 to), .v (.int .i64 (-1))]
  | .bad q => r = .tup [.v (.str []), .v (.int .i64 q), .v (.int .i64 q)]) ∧ σ' = σ
end Go.Proofs.YtpdeaekmgljeaaaDoor

/-
  strconv.ParseInt, laid at this program: written by the kit's tool lay-plain.mjs, in plain words.
-/
namespace Go.Proofs.YtpdeaekmgljeaaaDoor
open Go.Shelf
def pintLays_ren : Go.Shelf.Ren := ⟨fun | 174 => 67 | 247 => 70 | 245 => 71 | 287 => 74 | 279 => 75 | 280 => 76 | 281 => 77 | 282 => 78 | 321 => 80 | 322 => 81 | 316 => 82 | 171 => 84 | 205 => 83 | 243 => 85 | 246 => 24 | 283 => 35 | 284 => 36 | 285 => 37 | 286 => 38 | 129 => 47 | 317 => 46 | 318 => 48 | 319 => 49 | 320 => 50 | 337 => 58 | 338 => 59 | n => n, fun | 9 => 9 | 3 => 3 | 2 => 2 | 75 => 29 | 85 => 99 | 4 => 4 | 167 => 109 | 5 => 5 | 53 => 58 | 175 => 110 | 46 => 83 | 168 => 112 | 37 => 42 | 0 => 0 | 210 => 118 | 21 => 21 | 127 => 63 | 145 => 122 | 143 => 120 | 171 => 57 | 173 => 61 | 212 => 79 | 51 => 80 | 20 => 20 | 213 => 81 | 232 => 102 | 233 => 103 | 80 => 50 | n => n, fun | 15 => 4 | 16 => 5 | 17 => 0 | 18 => 2 | 19 => 3 | n => n⟩
theorem pintLays : Go.Proofs.LaysC.n174 Tryd.prog pintLays_ren := {
  mixed := by kernel_rfl
  f129 := Tryd.func47.trans (congrArg some (by kernel_rfl))
  f171 := Tryd.func84.trans (congrArg some (by kernel_rfl))
  f174 := Tryd.func67.trans (congrArg some (by kernel_rfl))
  f205 := Tryd.func83.trans (congrArg some (by kernel_rfl))
  f243 := Tryd.func85.trans (congrArg some (by kernel_rfl))
  f245 := Tryd.func71.trans (congrArg some (by kernel_rfl))
  f246 := Tryd.func24.trans (congrArg some (by kernel_rfl))
  f247 := Tryd.func70.trans (congrArg some (by kernel_rfl))
  f279 := Tryd.func75.trans (congrArg some (by kernel_rfl))
  f280 := Tryd.func76.trans (congrArg some (by kernel_rfl))
  f281 := Tryd.func77.trans (congrArg some (by kernel_rfl))
  f282 := Tryd.func78.trans (congrArg some (by kernel_rfl))
  f283 := Tryd.func35.trans (congrArg some (by kernel_rfl))
  f284 := Tryd.func36.trans (congrArg some (by kernel_rfl))
  f285 := Tryd.func37.trans (congrArg some (by kernel_rfl))
  f286 := Tryd.func38.trans (congrArg some (by kernel_rfl))
  f287 := Tryd.func74.trans (congrArg some (by kernel_rfl))
  f316 := Tryd.func82.trans (congrArg some (by kernel_rfl))
  f317 := Tryd.func46.trans (congrArg some (by kernel_rfl))
  f318 := Tryd.func48.trans (congrArg some (by kernel_rfl))
  f319 := Tryd.func49.trans (congrArg some (by kernel_rfl))
  f320 := Tryd.func50.trans (congrArg some (by kernel_rfl))
  f321 := Tryd.func80.trans (congrArg some (by kernel_rfl))
  f322 := Tryd.func81.trans (congrArg some (by kernel_rfl))
  f337 := Tryd.func58.trans (congrArg some (by kernel_rfl))
  f338 := Tryd.func59.trans (congrArg some (by kernel_rfl))
  t0 := Tryd.underlying0
  a0 := Tryd.isAgg0
  z0 := Tryd.sizeOf0
  v0 := Tryd.zeroValue0
  t2 := Tryd.underlying2
  a2 := Tryd.isAgg2
  z2 := Tryd.sizeOf2
  v2 := Tryd.zeroValue2
  t3 := Tryd.underlying3
  a3 := Tryd.isAgg3
  z3 := Tryd.sizeOf3
  v3 := Tryd.zeroValue3
  t4 := Tryd.underlying4
  a4 := Tryd.isAgg4
  z4 := Tryd.sizeOf4
  v4 := Tryd.zeroValue4
  t5 := Tryd.underlying5
  a5 := Tryd.isAgg5
  z5 := Tryd.sizeOf5
  v5 := Tryd.zeroValue5
  t9 := Tryd.underlying9
  a9 := Tryd.isAgg9
  z9 := Tryd.sizeOf9
  v9 := Tryd.zeroValue9
  t20 := Tryd.underlying20
  a20 := Tryd.isAgg20
  z20 := Tryd.sizeOf20
  v20 := Tryd.zeroValue20
  t21 := Tryd.underlying21
  a21 := Tryd.isAgg21
  z21 := Tryd.sizeOf21
  v21 := Tryd.zeroValue21
  t37 := Tryd.underlying42
  a37 := Tryd.isAgg42
  z37 := Tryd.sizeOf42
  v37 := Tryd.zeroValue42
  t46 := Tryd.underlying83
  a46 := Tryd.isAgg83
  z46 := Tryd.sizeOf83
  v46 := Tryd.zeroValue83
  t51 := Tryd.underlying80
  a51 := Tryd.isAgg80
  z51 := Tryd.sizeOf80
  v51 := Tryd.zeroValue80
  t53 := Tryd.underlying58
  a53 := Tryd.isAgg58
  z53 := Tryd.sizeOf58
  v53 := Tryd.zeroValue58
  t75 := Tryd.underlying29
  a75 := Tryd.isAgg29
  z75 := Tryd.sizeOf29
  v75 := Tryd.zeroValue29
  t85 := Tryd.underlying99
  a85 := Tryd.isAgg99
  z85 := Tryd.sizeOf99
  v85 := Tryd.zeroValue99
  t127 := Tryd.underlying63
  a127 := Tryd.isAgg63
  z127 := Tryd.sizeOf63
  v127 := Tryd.zeroValue63
  t143 := Tryd.underlying120
  a143 := Tryd.isAgg120
  z143 := Tryd.sizeOf120
  v143 := Tryd.zeroValue120
  t145 := Tryd.underlying122
  a145 := Tryd.isAgg122
  z145 := Tryd.sizeOf122
  v145 := Tryd.zeroValue122
  t167 := Tryd.underlying109
  a167 := Tryd.isAgg109
  z167 := Tryd.sizeOf109
  v167 := Tryd.zeroValue109
  t168 := Tryd.underlying112
  a168 := Tryd.isAgg112
  z168 := Tryd.sizeOf112
  v168 := Tryd.zeroValue112
  t171 := Tryd.underlying57
  a171 := Tryd.isAgg57
  z171 := Tryd.sizeOf57
  v171 := Tryd.zeroValue57
  t173 := Tryd.underlying61
  a173 := Tryd.isAgg61
  z173 := Tryd.sizeOf61
  v173 := Tryd.zeroValue61
  t175 := Tryd.underlying110
  a175 := Tryd.isAgg110
  z175 := Tryd.sizeOf110
  v175 := Tryd.zeroValue110
  t210 := Tryd.underlying118
  a210 := Tryd.isAgg118
  z210 := Tryd.sizeOf118
  v210 := Tryd.zeroValue118
  t212 := Tryd.underlying79
  a212 := Tryd.isAgg79
  z212 := Tryd.sizeOf79
  v212 := Tryd.zeroValue79
  t213 := Tryd.underlying81
  a213 := Tryd.isAgg81
  z213 := Tryd.sizeOf81
  t232 := Tryd.underlying102
  a232 := Tryd.isAgg102
  z232 := Tryd.sizeOf102
  v232 := Tryd.zeroValue102
  t233 := Tryd.underlying103
  a233 := Tryd.isAgg103
  z233 := Tryd.sizeOf103
  v233 := Tryd.zeroValue103
  g15 := by kernel_rfl
  g16 := by kernel_rfl
  g17 := by kernel_rfl
  g18 := by kernel_rfl
  g19 := by kernel_rfl
  t80 := Tryd.underlying50
  a80 := Tryd.isAgg50
  z80 := Tryd.sizeOf50
  v80 := Tryd.zeroValue50
  i0 := by kernel_rfl
  i2 := by kernel_rfl
  i3 := by kernel_rfl
  i4 := by kernel_rfl
  i5 := by kernel_rfl
  i9 := by kernel_rfl
  i20 := by kernel_rfl
  i21 := by kernel_rfl
  i37 := by kernel_rfl
  i46 := by kernel_rfl
  i51 := by kernel_rfl
  i53 := by kernel_rfl
  i75 := by kernel_rfl
  i80 := by kernel_rfl
  i85 := by kernel_rfl
  i127 := by kernel_rfl
  i143 := by kernel_rfl
  i145 := by kernel_rfl
  i167 := by kernel_rfl
  i168 := by kernel_rfl
  i171 := by kernel_rfl
  i173 := by kernel_rfl
  i175 := by kernel_rfl
  i210 := by kernel_rfl
  i212 := by kernel_rfl
  i232 := by kernel_rfl
  i233 := by kernel_rfl
  m15 := by kernel_rfl
  m16 := by kernel_rfl
  m17 := by kernel_rfl
  m18 := by kernel_rfl
  m19 := by kernel_rfl
  c0 := by kernel_rfl
  c2 := by kernel_rfl
  c3 := by kernel_rfl
  c4 := by kernel_rfl
  c5 := by kernel_rfl
  c9 := by kernel_rfl
  c20 := by kernel_rfl
  c21 := by kernel_rfl
  c37 := by kernel_rfl
  c46 := by kernel_rfl
  c51 := by kernel_rfl
  c53 := by kernel_rfl
  c75 := by kernel_rfl
  c80 := by kernel_rfl
  c85 := by kernel_rfl
  c127 := by kernel_rfl
  c143 := by kernel_rfl
  c145 := by kernel_rfl
  c167 := by kernel_rfl
  c168 := by kernel_rfl
  c171 := by kernel_rfl
  c173 := by kernel_rfl
  c175 := by kernel_rfl
  c210 := by kernel_rfl
  c212 := by kernel_rfl
  c213 := by kernel_rfl
  c232 := by kernel_rfl
  c233 := by kernel_rfl }
end Go.Proofs.YtpdeaekmgljeaaaDoor

/-
  Lexer: numbers. (Own work.)
-/
set_option linter.unusedVariables false
set_option linter.unusedSimpArgs false
namespace Go.Proofs.YtpdeaekmgljeaaaDoor
open Go Go.Abs Go.RowKit

theorem Inv.below {σ : Sg} {m : Gh} {w w' : World} (h : Go.Abs.Inv σ m w) (b : Below w.heap.size w w') : Go.Abs.Inv σ m w' ∧ Ext m w m w' := by
  have e : Ext m w m w' := by
    refine ⟨b.os, b.tape, b.output, b.size, fun _ _ h => .inl h, fun _ tk h => ⟨tk, h, rfl, Nat.le_refl _, fun _ => rfl⟩, fun c off f => ⟨cell?_of_heap (b.block c f.1), f.2⟩, fun c hc hn => ⟨b.block c hc, hn⟩⟩
  refine ⟨⟨h.lobj, h.ltok, h.nodup, fun o ob c ho hc => (h.ob o ob c ho hc).mono e (b.block c (h.lt_obj (Gh.mem_objb.2 (List.mem_of_getElem? hc)))), h.gone, fun tk htk => ?_, h.glob.mono e⟩, e⟩
  obtain ⟨h1, h2, h3, h4⟩ := h.tk tk htk
  refine ⟨h1, h2, h3, fun c hc => ?_⟩
  obtain ⟨us, ty, h5, h6⟩ := h4 c hc
  exact ⟨us, ty, (b.block c (Array.getElem?_eq_some_iff.1 h5).1).trans h5, h6⟩
/-- What digits spell. -/
def numV : Str → Nat → Nat
  | [], n => n
  | c :: r, n => numV r (n * 10 + (c.toNat - 48))
theorem numV_nil (n : Nat) : numV [] n = n := rfl
theorem numV_cons (c : UInt8) (r : Str) (n : Nat) : numV (c :: r) n = numV r (n * 10 + (c.toNat - 48)) := rfl
theorem numV_ge : ∀ (s : Str) (n : Nat), n ≤ numV s n
  | [], n => by rw [numV_nil]; exact Nat.le_refl _
  | c :: r, n => by
    have := numV_ge r (n * 10 + (c.toNat - 48))
    rw [numV_cons]
    omega
theorem pu_ok {M : Nat} (hM : M < 18446744073709551620) : ∀ (s : Str) (n : Nat), (∀ c ∈ s, digB c = true) → numV s n ≤ M → Lib.parseUintM M n s = .ok (numV s n)
  | [], n, _, _ => rfl
  | c :: r, n, h, hle => by
    have hc := h c (by simp)
    simp only [digB, Bool.and_eq_true, decide_eq_true_eq] at hc
    have hg := numV_ge r (n * 10 + (c.toNat - 48))
    rw [numV_cons] at hle ⊢
    have h1 : ¬ 1844674407370955162 ≤ n := by omega
    have h2 : ¬ M < n * 10 + (c.toNat - 48) := by omega
    rw [Lib.parseUintM, if_pos hc, if_neg h1, if_neg h2]
    exact pu_ok hM r _ (fun x hx => h x (by simp [hx])) hle
theorem pu_range {M : Nat} (hM : M < 18446744073709551620) : ∀ (s : Str) (n : Nat), (∀ c ∈ s, digB c = true) → n ≤ M → ¬ numV s n ≤ M → Lib.parseUintM M n s = .range
  | [], n, _, hn, hle => absurd hn hle
  | c :: r, n, h, hn, hle => by
    have hc := h c (by simp)
    simp only [digB, Bool.and_eq_true, decide_eq_true_eq] at hc
    rw [numV_cons] at hle
    rw [Lib.parseUintM, if_pos hc]
    by_cases h1 : 1844674407370955162 ≤ n
    · rw [if_pos h1]
    · rw [if_neg h1]
      by_cases h2 : M < n * 10 + (c.toNat - 48)
      · rw [if_pos h2]
      · rw [if_neg h2]
        exact pu_range hM r _ (fun x hx => h x (by simp [hx])) (by omega) hle
theorem pi_eq {s : Str} (h : ∀ c ∈ s, digB c = true) (hne : s ≠ []) : Lib.parseIntB 64 s = if numV s 0 ≤ 9223372036854775807 then .ok (numV s 0 : Nat) else .range := by
  cases s with
  | nil => exact absurd rfl hne
  | cons c r =>
    have hc := h c (by simp)
    simp only [digB, Bool.and_eq_true, decide_eq_true_eq] at hc
    have h43 : ¬ (c.toNat = 43 ∨ c.toNat = 45) := by omega
    have h45 : ¬ c.toNat = 45 := by omega
    have hM : (2 ^ 64 - 1 : Nat) < 18446744073709551620 := by decide
    simp only [Lib.parseIntB]
    rw [if_neg h43]
    unfold Lib.parseUintB
    rw [if_neg (by simp)]
    generalize hN : numV (c :: r) 0 = N
    by_cases h1 : N ≤ 2 ^ 64 - 1
    · rw [pu_ok hM (c :: r) 0 h (by rw [hN]; exact h1), hN]
      dsimp only
      by_cases h2 : N ≤ 9223372036854775807
      · rw [if_pos h2, if_neg (by omega), if_neg (by omega), if_neg h45]
      · rw [if_neg h2, if_pos ⟨h45, by omega⟩]
    · rw [pu_range hM (c :: r) 0 h (Nat.zero_le _) (by rw [hN]; exact h1), if_neg (by omega)]
theorem k_PInt {s : Str} {σ : Sg} (h : ∀ c ∈ s, digB c = true) (hne : s ≠ []) (hl : s.length ≤ 1048576) : ACalls Tryd.prog 67 [.v (.str s), .v (.int .i64 10), .v (.int .i64 64)] σ fun r σ' =>
    ((numV s 0 ≤ 9223372036854775807 → r = .tup [.v (.int .i64 (numV s 0 : Nat)), .v .inil]) ∧ (¬ numV s 0 ≤ 9223372036854775807 → ∃ v t, r = .tup [.v (.int .i64 v), .iface t .junk])) ∧ σ' = σ := by
  have hp := pi_eq h hne
  refine ⟨⟨_, Tryd.func67, by kernel_rfl, by kernel_rfl⟩, fun m w us hI hlen hr => ?_⟩
  match us, hlen with
  | [u1, u2, u3], _ =>
  have g1 := (hr 0 _ _ rfl rfl).v_inv
  have g2 := (hr 1 _ _ rfl rfl).v_inv
  have g3 := (hr 2 _ _ rfl rfl).v_inv
  cases g1 with
  | str _ _ =>
  cases g2 with
  | int _ _ _ =>
  cases g3 with
  | int _ _ _ =>
  by_cases hM : numV s 0 ≤ 9223372036854775807
  · rw [if_pos hM] at hp
    refine (Go.Proofs.Any.strconv_ParseInt_10_at64_ok pintLays ⟨s.toArray⟩ (by simp [ByteArray.size]; omega) _ hp w).mono fun e w' ⟨he, hw⟩ => ?_
    have hB : Below w.heap.size w w' := by
      rcases hw with rfl | ⟨t, rfl⟩
      · exact .refl _ _
      · exact Lib.bytesWorld_below _ _ _
    obtain ⟨hI', hX⟩ := Inv.below hI hB
    refine ⟨_, _, σ, m, he, ⟨⟨fun _ => rfl, fun h => absurd hM h⟩, rfl⟩, hI', hX, .tup _ _ rfl fun i c u h1 h2 => ?_⟩
    match i with
    | 0 => cases h1; cases h2; exact .v _ _ (.int _ _ ⟨by show -9223372036854775808 ≤ ((numV s 0 : Nat) : Int); omega, by show ((numV s 0 : Nat) : Int) ≤ 9223372036854775807; omega⟩)
    | 1 => cases h1; cases h2; exact .v _ _ .inil
    | j + 2 => simp at h1
  · rw [if_neg hM] at hp
    obtain ⟨⟨cs, ty, fr, hh, te, pe, rfl⟩, _⟩ := hI.glob (5, fun cs => ∃ te pe, cs = #[.iface te pe]) (by simp [globs])
    have hv : w.cell? ⟨5, 0, none⟩ = some (.iface te pe) := by rw [cell_of_row w 5 0 _ ty fr hh]; rfl
    refine (Go.Proofs.Any.strconv_ParseInt_10_at64_range pintLays ⟨s.toArray⟩ (by simp [ByteArray.size]; omega) hp _ w hv (.inr ⟨_, _, rfl⟩)).mono fun e w' ⟨N, he, hN, hN2, hB⟩ => ?_
    obtain ⟨hI', hX⟩ := Inv.below hI hB
    refine ⟨_, .tup [.v (.int .i64 (Lib.intSat 64 s)), .iface 112 .junk], σ, m, he, ⟨⟨fun h => absurd h hM, fun _ => ⟨_, _, rfl⟩⟩, rfl⟩, hI', hX, .tup _ _ rfl fun i c u h1 h2 => ?_⟩
    match i with
    | 0 =>
      cases h1; cases h2
      refine .v _ _ (.int _ _ ?_)
      unfold Lib.intSat
      split <;> decide
    | 1 => cases h1; cases h2; exact .iface _ _ _ (.junk _)
    | j + 2 => simp at h1
end Go.Proofs.YtpdeaekmgljeaaaDoor

/-
  Lexer: the next token. (Own work.)
-/
set_option linter.unusedVariables false
set_option linter.unusedSimpArgs false
namespace Go.Proofs.YtpdeaekmgljeaaaDoor
open Go Go.Abs

structure Tk where
  k : Int
  i : Nat
  n : Nat
  s : Str
def encK (t : Tk) : V := .agg [.int .i64 t.k, .int .i64 t.i, .int .i64 t.n, .str t.s]
inductive NR where
  | tok (t : Tk) (to : Nat)
  | bad (q : Nat)
def ldB (c : UInt8) : Bool := lowB c || digB c
def ludB (c : UInt8) : Bool := lowB c || (uppB c || digB c)
def nameN (b : Str) (i : Nat) (k : Int) (q : UInt8 → Bool) : NR := if 20 < (passS q b i).length then .bad i else .tok ⟨k, i, 0, passS q b i⟩ (spanE q b i)
def numN (b : Str) (i : Nat) (c : UInt8) : NR := if 9223372036854775807 < numV (passS digB b i) 0 ∨ (1 < (passS digB b i).length ∧ c.toNat = 48) then .bad i else .tok ⟨4, i, numV (passS digB b i) 0, []⟩ (spanE digB b i)
def textN (i : Nat) : TR → NR
  | .bad q => .bad q
  | .ok s to => if 2000 < s.length then .bad i else .tok ⟨5, i, 0, s⟩ to
def signN (i : Nat) (s : Str) : NR := if s = [] then .bad i else .tok ⟨6, i, 0, s⟩ (i + s.length)
/-- The token that stands there. -/
def oneL (b : Str) (i : Nat) (c : UInt8) : NR :=
  if lowB c = true then nameN b i (if passS ldB b i ∈ wordsL then 2 else 1) ldB
  else if uppB c = true then nameN b i 3 ludB
  else if digB c = true then numN b i c
  else if c.toNat = 34 then textN i (textL (b.drop (i + 1)) (i + 1) [])
  else signN i (signF b i signsL)
@[reducible] def zTok : V := .agg [.int .i64 0, .int .i64 0, .int .i64 0, .str []]
def NextPost (σ : Sg) (p : Nat) (b : Str) (x : NR) (r : D) (σ' : Sg) : Prop := match x with
  | .tok t to => r = .tup [.v (encK t), .v .inil] ∧ σ' = ⟨σ.objs.set p (cut b to), σ.toks⟩
  | .bad q => ∃ o xs ts e, r = .tup [.v zTok, .iface 104 (.ptr (σ.objs.length + o) 0)] ∧ σ' = ⟨σ.objs.set p (cut b e) ++ xs, σ.toks ++ ts⟩ ∧ xs[o]? = some (spotO q 2)
theorem passS_len {q : UInt8 → Bool} {b : Str} {i : Nat} : (passS q b i).length ≤ b.length := by
  unfold passS
  have h1 : ((b.drop i).takeWhile q).length ≤ (b.drop i).length := (List.takeWhile_prefix q).length_le
  rw [List.length_drop] at h1
  omega
theorem passS_all {q : UInt8 → Bool} {b : Str} {i : Nat} : ∀ c ∈ passS q b i, q c = true := by
  unfold passS
  generalize b.drop i = l
  intro c hc
  induction l with
  | nil => simp at hc
  | cons x l ih =>
    cases hx : q x with
    | true =>
      rw [List.takeWhile_cons_of_pos hx] at hc
      rcases List.mem_cons.1 hc with rfl | hc
      · exact hx
      · exact ih hc
    | false => rw [List.takeWhile_cons_of_neg (by simp [hx])] at hc; cases hc
theorem passS_head {q : UInt8 → Bool} {b : Str} {i : Nat} {c : UInt8} (h : b[i]? = some c) (hq : q c = true) : ∃ r, passS q b i = c :: r := by
  unfold passS
  rw [drop_cons h, List.takeWhile_cons_of_pos hq]
  exact ⟨_, rfl⟩
set_option maxHeartbeats 1000000 in
theorem k_Next {b : Str} {i p : Nat} {c : UInt8} {σ : Sg} (hp : σ.objs[p]? = some (cut b i)) (hc : b[i]? = some c) (hb : b.length ≤ 1048576) : ACalls Tryd.prog 57 [.ptr p 0] σ (NextPost σ p b (oneL b i c)) := by
  have hi : i < b.length := (List.getElem?_eq_some_iff.1 hc).1
  have hpl := (List.getElem?_eq_some_iff.1 hp).1
  have gp : ∀ r, (σ.objs ++ r)[p]? = some (cut b i) := fun r => by rw [List.getElem?_append_left hpl]; exact hp
  have cs := fun σ => k_SpotAt (i := i) (c := 2) (σ := σ)
  have cl := fun σ => k_Lower (c := c) (σ := σ)
  have cu := fun σ => k_Upper (c := c) (σ := σ)
  have cd := fun σ => k_Digit (c := c) (σ := σ)
  have p1 := fun r tk => k_Pass (fd := .v (.fn 62)) (q := ldB) (b := b) (i := i) (p := p) (σ := ⟨σ.objs ++ r, tk⟩) (gp r) (by omega) hb (fun c τ => by rw [WCall_fn]; exact k_Next1) (fun n k => trivial)
  have p2 := fun r tk => k_Pass (fd := .v (.fn 66)) (q := ludB) (b := b) (i := i) (p := p) (σ := ⟨σ.objs ++ r, tk⟩) (gp r) (by omega) hb (fun c τ => by rw [WCall_fn]; exact k_Next2) (fun n k => trivial)
  have p3 := fun r tk => k_Pass (fd := .v (.fn 63)) (q := digB) (b := b) (i := i) (p := p) (σ := ⟨σ.objs ++ r, tk⟩) (gp r) (by omega) hb (fun c τ => by rw [WCall_fn]; exact k_Digit) (fun n k => trivial)
  have hsa : ∀ r C, (σ.objs ++ r).set p C = σ.objs.set p C ++ r := fun r C => List.set_append_left _ _ hpl
  simp only [hsa] at p1 p2 p3
  unfold vB at cl cu cd
  obtain ⟨X, hX⟩ : ∃ X, X = oneL b i c := ⟨_, rfl⟩
  rw [← hX]
  unfold oneL at hX
  refine acalls_fit Tryd.func57 (by kernel_rfl) c57 rfl (by simp [a57]) fun hf => ?_
  clear hf
  simp -implicitDefEqProofs (maxSteps := 2000000) (disch := omega) [-getElem?_pos, a57, gp, hp]
  refine (cs _).mono fun r σ' hr => ?_
  obtain ⟨rfl, rfl⟩ := hr
  simp -implicitDefEqProofs (maxSteps := 2000000) (disch := omega) [-getElem?_pos, gp, hi]
  intro c' hc'
  rw [hc] at hc'
  cases hc'
  refine (cl _).then fun r hr => ?_
  subst hr
  cases hlo : lowB c with
  | true =>
    rw [if_pos hlo] at hX
    simp -implicitDefEqProofs (maxSteps := 2000000) (disch := omega) [-getElem?_pos]
    refine (p1 _ _).mono fun r σ' hr => ?_
    obtain ⟨rfl, rfl⟩ := hr
    simp -implicitDefEqProofs (maxSteps := 2000000) (disch := omega) [-getElem?_pos, hpl]
    refine k_Words.then fun r hr => ?_
    subst hr
    simp -implicitDefEqProofs (maxSteps := 2000000) (disch := omega) [-getElem?_pos, hpl]
    refine k_ContainsStr.then fun r hr => ?_
    subst hr
    have hl := passS_len (q := ldB) (b := b) (i := i)
    by_cases hw : passS ldB b i ∈ wordsL
    · rw [if_pos hw] at hX
      simp -implicitDefEqProofs (maxSteps := 2000000) (disch := omega) [-getElem?_pos, hpl, hw]
      refine .mk (fun h20 => ?_) fun h20 => ?_
      · rw [show X = NR.bad i from by rw [hX, nameN, if_pos (by omega)]]
        simp -implicitDefEqProofs (maxSteps := 2000000) (disch := omega) [-getElem?_pos, hpl]
        exact ⟨_, _, WeakR.refl _ _ _, 2, _, [], _, rfl, by simp; rfl, rfl⟩
      · rw [show X = NR.tok ⟨2, i, 0, passS ldB b i⟩ (spanE ldB b i) from by rw [hX, nameN, if_neg (by omega)]]
        simp -implicitDefEqProofs (maxSteps := 2000000) (disch := omega) [-getElem?_pos, hpl]
        exact .finS _ ⟨σ.objs.set p (cut b (spanE ldB b i)), σ.toks⟩ ⟨rfl, rfl⟩ (.refl _) (low_set (by simp [cut])) (by simp [encK]) (by simp) (by simp) (by simp) (by simp)
    · rw [if_neg hw] at hX
      simp -implicitDefEqProofs (maxSteps := 2000000) (disch := omega) [-getElem?_pos, hpl, hw]
      refine .mk (fun h20 => ?_) fun h20 => ?_
      · rw [show X = NR.bad i from by rw [hX, nameN, if_pos (by omega)]]
        simp -implicitDefEqProofs (maxSteps := 2000000) (disch := omega) [-getElem?_pos, hpl]
        exact ⟨_, _, WeakR.refl _ _ _, 2, _, [], _, rfl, by simp; rfl, rfl⟩
      · rw [show X = NR.tok ⟨1, i, 0, passS ldB b i⟩ (spanE ldB b i) from by rw [hX, nameN, if_neg (by omega)]]
        simp -implicitDefEqProofs (maxSteps := 2000000) (disch := omega) [-getElem?_pos, hpl]
        exact .finS _ ⟨σ.objs.set p (cut b (spanE ldB b i)), σ.toks⟩ ⟨rfl, rfl⟩ (.refl _) (low_set (by simp [cut])) (by simp [encK]) (by simp) (by simp) (by simp) (by simp)
  | false =>
    rw [if_neg (by simp [hlo])] at hX
    simp -implicitDefEqProofs (maxSteps := 2000000) (disch := omega) [-getElem?_pos]
    refine (cu _).then fun r hr => ?_
    subst hr
    cases hup : uppB c with
    | true =>
      rw [if_pos hup] at hX
      simp -implicitDefEqProofs (maxSteps := 2000000) (disch := omega) [-getElem?_pos]
      refine (p2 _ _).mono fun r σ' hr => ?_
      obtain ⟨rfl, rfl⟩ := hr
      simp -implicitDefEqProofs (maxSteps := 2000000) (disch := omega) [-getElem?_pos, hpl]
      have hl := passS_len (q := ludB) (b := b) (i := i)
      refine .mk (fun h20 => ?_) fun h20 => ?_
      · rw [show X = NR.bad i from by rw [hX, nameN, if_pos (by omega)]]
        simp -implicitDefEqProofs (maxSteps := 2000000) (disch := omega) [-getElem?_pos, hpl]
        exact ⟨_, _, WeakR.refl _ _ _, 2, _, [], _, rfl, by simp; rfl, rfl⟩
      · rw [show X = NR.tok ⟨3, i, 0, passS ludB b i⟩ (spanE ludB b i) from by rw [hX, nameN, if_neg (by omega)]]
        simp -implicitDefEqProofs (maxSteps := 2000000) (disch := omega) [-getElem?_pos, hpl]
        exact .finS _ ⟨σ.objs.set p (cut b (spanE ludB b i)), σ.toks⟩ ⟨rfl, rfl⟩ (.refl _) (low_set (by simp [cut])) (by simp [encK]) (by simp) (by simp) (by simp) (by simp)
    | false =>
      rw [if_neg (by simp [hup])] at hX
      simp -implicitDefEqProofs (maxSteps := 2000000) (disch := omega) [-getElem?_pos]
      refine (cd _).then fun r hr => ?_
      subst hr
      cases hdi : digB c with
      | true =>
        rw [if_pos hdi] at hX
        simp -implicitDefEqProofs (maxSteps := 2000000) (disch := omega) [-getElem?_pos]
        refine (p3 _ _).mono fun r σ' hr => ?_
        obtain ⟨rfl, rfl⟩ := hr
        simp -implicitDefEqProofs (maxSteps := 2000000) (disch := omega) [-getElem?_pos, hpl]
        have hl := passS_len (q := digB) (b := b) (i := i)
        obtain ⟨rr, hrr⟩ := passS_head hc hdi
        refine (k_PInt (passS_all) (by rw [hrr]; simp) (by omega)).then fun r hr => ?_
        obtain ⟨hr1, hr2⟩ := hr
        by_cases hM : numV (passS digB b i) 0 ≤ 9223372036854775807
        · obtain rfl := hr1 hM
          have hz : (passS digB b i)[0]? = some c := by rw [hrr]; rfl
          simp -implicitDefEqProofs (maxSteps := 2000000) (disch := omega) [-getElem?_pos, hpl]
          refine .mk (fun h1 => ?_) fun h1 => ?_
          · simp -implicitDefEqProofs (maxSteps := 2000000) (disch := omega) [-getElem?_pos, hpl, hz]
            refine ⟨by omega, ?_⟩
            refine .mk (fun h48 => ?_) fun h48 => ?_
            · rw [show X = NR.bad i from by rw [hX, numN, if_pos (.inr ⟨by omega, by omega⟩)]]
              simp -implicitDefEqProofs (maxSteps := 2000000) (disch := omega) [-getElem?_pos, hpl]
              exact ⟨_, _, WeakR.refl _ _ _, 2, _, [], _, rfl, by simp; rfl, rfl⟩
            · rw [show X = NR.tok ⟨4, i, numV (passS digB b i) 0, []⟩ (spanE digB b i) from by rw [hX, numN, if_neg (by omega)]]
              simp -implicitDefEqProofs (maxSteps := 2000000) (disch := omega) [-getElem?_pos, hpl]
              exact .finS _ ⟨σ.objs.set p (cut b (spanE digB b i)), σ.toks⟩ ⟨rfl, rfl⟩ (.refl _) (low_set (by simp [cut])) (by simp [encK]) (by simp) (by simp) (by simp) (by simp)
          · rw [show X = NR.tok ⟨4, i, numV (passS digB b i) 0, []⟩ (spanE digB b i) from by rw [hX, numN, if_neg (by omega)]]
            simp -implicitDefEqProofs (maxSteps := 2000000) (disch := omega) [-getElem?_pos, hpl]
            exact .finS _ ⟨σ.objs.set p (cut b (spanE digB b i)), σ.toks⟩ ⟨rfl, rfl⟩ (.refl _) (low_set (by simp [cut])) (by simp [encK]) (by simp) (by simp) (by simp) (by simp)
        · obtain ⟨v, t, rfl⟩ := hr2 hM
          rw [show X = NR.bad i from by rw [hX, numN, if_pos (.inl (by omega))]]
          simp -implicitDefEqProofs (maxSteps := 2000000) (disch := omega) [-getElem?_pos, hpl]
          exact ⟨_, _, WeakR.refl _ _ _, 2, _, [], _, rfl, by simp; rfl, rfl⟩
      | false =>
        rw [if_neg (by simp [hdi])] at hX
        simp -implicitDefEqProofs (maxSteps := 2000000) (disch := omega) [-getElem?_pos]
        refine .mk (fun h34 => ?_) fun h34 => ?_
        · rw [if_pos (by omega)] at hX
          simp -implicitDefEqProofs (maxSteps := 2000000) (disch := omega) [-getElem?_pos, gp, hpl, hsa]
          refine (k_Text (b := b) (i := i + 1) (p := p) (by dsimp only; exact get_app_set hpl) (by omega) hb).mono fun r σ' hr => ?_
          cases ht : textL (b.drop (i + 1)) (i + 1) [] with
          | ok st to =>
            rw [ht] at hX hr
            obtain ⟨rfl, rfl⟩ := hr
            simp -implicitDefEqProofs (maxSteps := 2000000) (disch := omega) [-getElem?_pos, hpl]
            refine .mk (fun h2 => ?_) fun h2 => ?_
            · rw [show X = NR.bad i from by rw [hX, textN, if_pos (by omega)]]
              simp -implicitDefEqProofs (maxSteps := 2000000) (disch := omega) [-getElem?_pos, hpl]
              exact ⟨_, _, WeakR.refl _ _ _, 2, _, [], _, rfl, by simp; rfl, rfl⟩
            · rw [show X = NR.tok ⟨5, i, 0, st⟩ (to) from by rw [hX, textN, if_neg (by omega)]]
              simp -implicitDefEqProofs (maxSteps := 2000000) (disch := omega) [-getElem?_pos, hpl]
              exact .finS _ ⟨σ.objs.set p (cut b (to)), σ.toks⟩ ⟨rfl, rfl⟩ (.refl _) (low_set (by simp [cut])) (by simp [encK]) (by simp) (by simp) (by simp) (by simp)
          | bad q =>
            rw [ht] at hX hr
            obtain ⟨rfl, rfl⟩ := hr
            rw [show X = NR.bad q from hX]
            simp -implicitDefEqProofs (maxSteps := 2000000) (disch := omega) [-getElem?_pos, hpl]
            exact ⟨_, _, WeakR.refl _ _ _, 3, _, [], _, rfl, by simp; rfl, rfl⟩
        · rw [if_neg (by omega)] at hX
          simp -implicitDefEqProofs (maxSteps := 2000000) (disch := omega) [-getElem?_pos, gp, hpl, hsa]
          have cg := fun r tk => k_Sign (b := b) (i := i) (p := p) (σ := ⟨σ.objs ++ r, tk⟩) (gp r) (by omega) hb
          simp only [hsa] at cg
          refine (cg _ _).mono fun r σ' hr => ?_
          obtain ⟨rfl, rfl⟩ := hr
          generalize signF b i signsL = sg at *
          simp -implicitDefEqProofs (maxSteps := 2000000) (disch := omega) [-getElem?_pos, hpl]
          refine .mk (fun hsg => ?_) fun hsg => ?_
          · rw [show X = NR.bad i from by rw [hX, signN, if_pos hsg]]
            simp -implicitDefEqProofs (maxSteps := 2000000) (disch := omega) [-getElem?_pos, hpl]
            exact ⟨_, _, WeakR.refl _ _ _, 2, _, [], _, rfl, by simp; rfl, rfl⟩
          · rw [show X = NR.tok ⟨6, i, 0, sg⟩ (i + sg.length) from by rw [hX, signN, if_neg hsg]]
            simp -implicitDefEqProofs (maxSteps := 2000000) (disch := omega) [-getElem?_pos, hpl]
            exact .finS _ ⟨σ.objs.set p (cut b (i + sg.length)), σ.toks⟩ ⟨rfl, rfl⟩ (.refl _) (low_set (by simp [cut])) (by simp [encK]) (by simp) (by simp) (by simp) (by simp)
end Go.Proofs.YtpdeaekmgljeaaaDoor

/-
  Lexer: a program cut into tokens. (Own work.)
-/
set_option linter.unusedVariables false
set_option linter.unusedSimpArgs false
namespace Go.Proofs.YtpdeaekmgljeaaaDoor
open Go Go.Abs

theorem encK_shape (t : Tk) : (encK t).shape = some 4 := rfl
theorem span_lt {q : UInt8 → Bool} {b : Str} {i : Nat} {c : UInt8} (h : b[i]? = some c) (hq : q c = true) : i < spanE q b i ∧ spanE q b i ≤ b.length := by
  have hl := (List.getElem?_eq_some_iff.1 h).1
  have h1 := spanE_ge q b (i + 1)
  have h2 := spanE_le (q := q) (b := b) (i := i) (by omega)
  rw [← spanE_hit h hq] at h1
  omega
theorem textL_to : ∀ (n : Nat) (r : Str) (k : Nat) (out s : Str) (to : Nat), r.length ≤ n → textL r k out = .ok s to → k < to ∧ to ≤ k + r.length
  | n, [], k, out, s, to, _, h => by simp [textL] at h
  | 0, c :: r, k, out, s, to, hn, h => by simp at hn
  | n + 1, c :: r, k, out, s, to, hn, h => by
    simp only [List.length_cons] at hn
    by_cases h34 : c.toNat = 34
    · rw [textL_q h34] at h
      cases h
      simp
    · cases hp : plaB c with
      | false => rw [textL_odd h34 hp] at h; cases h
      | true =>
        by_cases h92 : c.toNat = 92
        · cases r with
          | nil => rw [textL_esc0 h92 hp] at h; cases h
          | cons d r =>
            simp only [List.length_cons] at hn
            by_cases h110 : d.toNat = 110
            · rw [textL_escn h92 hp h110] at h
              have := textL_to n r _ _ _ _ (by omega) h
              simp only [List.length_cons]
              omega
            · by_cases hd : d.toNat = 34 ∨ d.toNat = 92
              · rw [textL_escd h92 hp h110 hd] at h
                have := textL_to n r _ _ _ _ (by omega) h
                simp only [List.length_cons]
                omega
              · rw [textL_esco h92 hp h110 (fun h => hd (.inl h)) (fun h => hd (.inr h))] at h
                cases h
        · rw [textL_plain h34 hp h92] at h
          have := textL_to n r _ _ _ _ (by omega) h
          simp only [List.length_cons]
          omega
theorem sign_le {b : Str} {i : Nat} {l : List Str} (hi : i < b.length) (h : signF b i l ≠ []) : i + (signF b i l).length ≤ b.length := by
  unfold signF at h ⊢
  cases hf : l.find? fun s => decide (((b.drop i).take 2).take s.length = s) with
  | none => rw [hf] at h; simp at h
  | some s =>
    have := List.find?_some hf
    simp only [decide_eq_true_eq] at this
    have hl := congrArg List.length this
    simp only [List.length_take, List.length_drop] at hl
    simp only [Option.getD_some]
    omega
theorem oneL_to {b : Str} {i : Nat} {c : UInt8} {t : Tk} {to : Nat} (hc : b[i]? = some c) (h : oneL b i c = .tok t to) : i < to ∧ to ≤ b.length := by
  have hl := (List.getElem?_eq_some_iff.1 hc).1
  unfold oneL at h
  split at h
  · rename_i hlo
    unfold nameN at h
    split at h
    · cases h
    · cases h; exact span_lt hc (by simp [ldB, hlo])
  · split at h
    · rename_i hup
      unfold nameN at h
      split at h
      · cases h
      · cases h; exact span_lt hc (by simp [ludB, hup])
    · split at h
      · rename_i hdi
        unfold numN at h
        split at h
        · cases h
        · cases h; exact span_lt hc hdi
      · split at h
        · cases ht : textL (b.drop (i + 1)) (i + 1) [] with
          | bad q => rw [ht] at h; cases h
          | ok s e =>
            rw [ht] at h
            have h1 := textL_to _ _ _ _ _ _ (Nat.le_refl _) ht
            unfold textN at h
            split at h
            · cases h
            · rename_i heq
              split at h
              · cases h
              · cases h
                cases heq
                rw [List.length_drop] at h1
                omega
        · unfold signN at h
          split at h
          · cases h
          · rename_i hne
            cases h
            have := sign_le hl hne
            have h0 : (signF b i signsL).length ≠ 0 := fun h => hne (List.length_eq_zero_iff.1 h)
            omega
inductive CR where
  | ok (l : List Tk)
  | bad (q : Nat)
  | great
def cutF : Nat → Str → Nat → List Tk → CR
  | 0, _, _, _ => .great
  | f + 1, b, i, acc => match b[spanE blaB b i]? with
    | none => .ok acc
    | some c => match oneL b (spanE blaB b i) c with
      | .tok t to => cutF f b to (acc ++ [t])
      | .bad q => .bad q
/-- The tokens of bytes. -/
def cutL (b : Str) : CR := if 4000 < b.length then .great else cutF (b.length + 1) b 0 []
def CutPost (σ : Sg) (x : CR) (r : D) (σ' : Sg) : Prop := match x with
  | .ok l => r = .tup [.v (.sl (some 4) false (l.map encK)), .v .inil] ∧ σ' = σ
  | .bad q => ∃ o xs ts, r = .tup [.v .snil, .iface 104 (.ptr (σ.objs.length + o) 0)] ∧ σ' = ⟨σ.objs ++ xs, σ.toks ++ ts⟩ ∧ xs[o]? = some (spotO q 2)
  | .great => r = .tup [.v .snil, .v (.iface 33 (.int .i64 6))] ∧ σ' = σ
structure CSt where
  i : Nat
  acc : List Tk
structure CIn (b : Str) (x : CSt) : Prop where
  hi : x.i ≤ b.length
  ha : x.acc.length ≤ x.i
  he : ∃ f, b.length - x.i < f ∧ cutF (b.length + 1) b 0 [] = cutF f b x.i x.acc
theorem k_Cut {b : Str} {σ : Sg} (hb : b.length ≤ 1048576) : ACalls Tryd.prog 45 [.v (vBs b)] σ (CutPost σ (cutL b)) := by
  unfold cutL
  refine acalls_fit Tryd.func45 (by kernel_rfl) c45 rfl (by simp [a45]) fun hf => ?_
  clear hf
  simp -implicitDefEqProofs (maxSteps := 2000000) (disch := omega) [-getElem?_pos, a45]
  refine .mk (fun h => ?_) fun h => ?_
  · rw [if_pos (by omega)]
    simp -implicitDefEqProofs (maxSteps := 2000000) (disch := omega) [-getElem?_pos]
    exact .fin _ ⟨rfl, rfl⟩ (.refl _)
  rw [if_neg (by omega)]
  simp -implicitDefEqProofs (maxSteps := 2000000) (disch := omega) [-getElem?_pos]
  refine W_loop (α := CSt) ⟨0, []⟩ (fun x => b.length - x.i) (fun x => ⟨[(0, .v (vBs b)), (4, .ptr σ.objs.length 0), (5, .tsl σ.toks.length (some 4) (x.acc.map encK))], ⟨σ.objs ++ [cut b x.i], σ.toks ++ [x.acc.length]⟩⟩)
    (fun x => CIn b x) (.trans (b := ⟨[(0, .v (vBs b)), (4, .ptr σ.objs.length 0), (5, .tsl σ.toks.length (some 4) [])], _⟩) (.tok (i := 5) (sh := some 4) (by simp) (by simp)) (.eq2 rfl (by simp))) ⟨Nat.zero_le _, by simp, _, by omega, rfl⟩ fun ⟨i, acc⟩ ⟨hi, ha, f, hf, he⟩ => ?_
  dsimp only at hi ha hf he ⊢
  rw [he]
  obtain ⟨f, rfl⟩ : ∃ f', f = f' + 1 := ⟨f - 1, by omega⟩
  have hpg := k_Pass (fd := .v (.fn 56)) (q := blaB) (b := b) (i := i) (p := σ.objs.length) (σ := ⟨σ.objs ++ [cut b i], σ.toks ++ [acc.length]⟩) (by simp) hi hb (fun c τ => by rw [WCall_fn]; exact k_Blank) (fun n k => trivial)
  have hj := spanE_le (q := blaB) hi
  have hij := spanE_ge blaB b i
  rw [cutF]
  obtain ⟨j, hjd⟩ : ∃ j, spanE blaB b i = j := ⟨_, rfl⟩
  rw [hjd] at hpg hj hij ⊢
  simp -implicitDefEqProofs (maxSteps := 2000000) (disch := omega) [-getElem?_pos]
  refine hpg.mono fun r σ' hr => ?_
  obtain ⟨rfl, rfl⟩ := hr
  simp -implicitDefEqProofs (maxSteps := 2000000) (disch := omega) [-getElem?_pos]
  refine .mk (fun h => ?_) fun h => ?_
  · have hn : b[j]? = none := by rw [List.getElem?_eq_none_iff]; omega
    rw [hn]
    simp -implicitDefEqProofs (maxSteps := 2000000) (disch := omega) [-getElem?_pos, hn]
    exact .fin _ ⟨rfl, rfl⟩ (.tup2 .tsl (.refl _))
  · obtain ⟨c, hc⟩ : ∃ c, b[j]? = some c := ⟨b[j]'(by omega), List.getElem?_eq_getElem _⟩
    rw [hc]
    dsimp only
    simp -implicitDefEqProofs (maxSteps := 2000000) (disch := omega) [-getElem?_pos]
    refine (k_Next (b := b) (i := j) (p := σ.objs.length) (c := c) (σ := ⟨σ.objs ++ [cut b j], σ.toks ++ [acc.length]⟩) (by simp) hc hb).mono fun r σ' hr => ?_
    cases hx : oneL b j c with
    | tok t to =>
      rw [hx] at hr
      obtain ⟨rfl, rfl⟩ := hr
      have ht := oneL_to hc hx
      dsimp only
      have he' : cutF (b.length + 1) b 0 [] = cutF f b to (acc ++ [t]) := by
        rw [he, cutF, hjd, hc]
        dsimp only
        rw [hx]
      simp -implicitDefEqProofs (maxSteps := 2000000) (disch := omega) [-getElem?_pos, encK]
      refine ⟨by omega, ⟨to, acc ++ [t]⟩, ⟨ht.2, by simp; omega, f, by dsimp only; omega, he'⟩, by dsimp only; omega, .dropX (ys := [cut b to]) rfl (by simp) (by simp) (by simp [cut]) (by simp [encK]) (by simp)⟩
    | bad q =>
      rw [hx] at hr
      obtain ⟨o, xs, ts, e, rfl, rfl, hxs⟩ := hr
      dsimp only
      simp -implicitDefEqProofs (maxSteps := 2000000) (disch := omega) [-getElem?_pos]
      refine ⟨_, _, WeakR.refl _ _ _, 1 + o, cut b e :: (xs ++ [.cells [.v (.int .i64 0), .v (.int .i64 0), .v (.int .i64 0), .v (.str [])]]), acc.length :: ts, by rw [Nat.add_assoc], rfl, ?_⟩
      have hl : o < xs.length := (List.getElem?_eq_some_iff.1 hxs).1
      rw [Nat.add_comm, List.getElem?_cons_succ, List.getElem?_append_left hl]
      exact hxs
end Go.Proofs.YtpdeaekmgljeaaaDoor

/-
  Lexer: the reference's tokens. (Own work.)
-/
set_option linter.unusedVariables false
set_option linter.unusedSimpArgs false
namespace Go.Proofs.YtpdeaekmgljeaaaDoor
open Go Go.Abs

def qn (u : Bool) (d : UInt8) : Bool := lowB d || (digB d || (u && uppB d))
theorem qn_ld : qn false = ldB := by funext d; simp [qn, ldB]
theorem qn_lud : qn true = ludB := by funext d; simp only [qn, ludB, Bool.true_and]; rw [Bool.or_comm (digB d)]
theorem low_upp {c : UInt8} (h : lowB c = true) : uppB c = false := by
  simp only [lowB, uppB, Bool.and_eq_true, decide_eq_true_eq, Bool.and_eq_false_iff, decide_eq_false_iff_not] at h ⊢
  omega
theorem oneL_name {b : Str} {i : Nat} {c : UInt8} (h : (lowB c || uppB c) = true) : oneL b i c = nameN b i (if uppB c = true then 3 else if passS (qn (uppB c)) b i ∈ wordsL then 2 else 1) (qn (uppB c)) := by
  unfold oneL
  cases hl : lowB c with
  | true => simp [low_upp hl, qn_ld]
  | false =>
    cases hu : uppB c with
    | true => simp [qn_lud]
    | false => simp [hl, hu] at h
structure NSt where
  k : Nat
  n : Nat
  g : Bool
structure NIn (b : Str) (i : Nat) (x : NSt) : Prop where
  hik : i ≤ x.k
  hk : x.k ≤ b.length
  he : spanE digB b i = spanE digB b x.k
  h0 : x.g = false → x.n ≤ 9223372036854775807 ∧ numV (passS digB b i) 0 = numV (passS digB b x.k) x.n
  h1 : x.g = true → x.n = 0 ∧ 9223372036854775807 < numV (passS digB b i) 0
theorem passS_hit {q : UInt8 → Bool} {b : Str} {i : Nat} {c : UInt8} (h : b[i]? = some c) (hq : q c = true) : passS q b i = c :: passS q b (i + 1) := by
  unfold passS
  rw [drop_cons h, List.takeWhile_cons_of_pos hq]
theorem passS_miss {q : UInt8 → Bool} {b : Str} {i : Nat} {c : UInt8} (h : b[i]? = some c) (hq : q c = false) : passS q b i = [] := by
  unfold passS
  rw [drop_cons h, List.takeWhile_cons_of_neg (by simp [hq])]
theorem passS_end {q : UInt8 → Bool} {b : Str} {i : Nat} (h : b.length ≤ i) : passS q b i = [] := by
  unfold passS
  rw [List.drop_eq_nil_of_le h]
  rfl
theorem wrap_digit {n : Nat} {d : UInt8} (hd : 48 ≤ d.toNat ∧ d.toNat ≤ 57) (hn : n * 10 + (d.toNat - 48) ≤ 9223372036854775807) : IntKind.wrap .u64 (10 * (n : Int) + IntKind.wrap .u64 (IntKind.wrap .u8 ((d.toNat : Int) - 48))) = ((n * 10 + (d.toNat - 48) : Nat) : Int) := by
  have e1 : IntKind.wrap .u8 ((d.toNat : Int) - 48) = (d.toNat : Int) - 48 := wrap_u8 (by omega) (by omega)
  have e2 : IntKind.wrap .u64 ((d.toNat : Int) - 48) = (d.toNat : Int) - 48 := wrap_u64 (by omega) (by omega)
  rw [e1, e2, wrap_u64 (by omega) (by omega)]
  omega
def sgn (x : Str) : Str := (signsL.find? fun s => decide (x.take s.length = s)).getD []
theorem sgn_ones {c : UInt8} {r : Str} : ∀ l : List Str, (∀ s ∈ l, s.length = 1) → (l.find? fun s => decide ((c :: r).take s.length = s)).getD [] = if [c] ∈ l then [c] else []
  | [], _ => rfl
  | s :: l, h => by
    have h1 := h s (.head _)
    rw [List.find?_cons, h1]
    by_cases e : [c] = s
    · rw [show decide ((c :: r).take 1 = s) = true from decide_eq_true (by simpa using e), if_pos (by rw [e]; exact .head _)]
      exact e.symm
    · rw [show decide ((c :: r).take 1 = s) = false from decide_eq_false (by simpa using e)]
      rw [sgn_ones l fun s hs => h s (.tail _ hs)]
      simp [e]
theorem sgn_one {c : UInt8} : sgn [c] = if [c] ∈ onesL then [c] else [] := by
  have h := sgn_ones (c := c) (r := []) onesL (by decide)
  rw [← h]
  unfold sgn
  have k : ∀ x y : UInt8, decide (List.take 2 [c] = [x, y]) = false := fun x y => decide_eq_false (by simp)
  rw [show signsL = [45, 62] :: [61, 61] :: [58, 61] :: onesL from rfl]
  simp only [List.find?_cons, List.length_cons, List.length_nil, Nat.zero_add, Nat.reduceAdd, k]
theorem sgn_two {c e : UInt8} : sgn [c, e] = if [c, e] ∈ [[45, 62], [61, 61], [58, 61]] then [c, e] else if [c] ∈ onesL then [c] else [] := by
  have h := sgn_ones (c := c) (r := [e]) onesL (by decide)
  rw [← h]
  unfold sgn
  rw [show signsL = [45, 62] :: [61, 61] :: [58, 61] :: onesL from rfl]
  simp only [List.find?_cons, List.length_cons, List.length_nil, List.take, List.mem_cons, List.not_mem_nil, or_false]
  by_cases h1 : [c, e] = [45, 62]
  · simp [h1]
  by_cases h2 : [c, e] = [61, 61]
  · simp [h2]
  by_cases h3 : [c, e] = [58, 61]
  · simp [h3]
  simp only [h1, h2, h3, decide_false, or_self, if_false]
def OnePost (σ : Sg) (x : NR) (r : D) (σ' : Sg) : Prop := (match x with
  | .tok t to => r = .tup [.v (encK t), .v (.int .i64 to), .v (.int .i64 (-1))]
  | .bad q => ∃ (t : Tk) (e : Int), r = .tup [.v (encK t), .v (.int .i64 e), .v (.int .i64 q)]) ∧ σ' = σ
end Go.Proofs.YtpdeaekmgljeaaaDoor
