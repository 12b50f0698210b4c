/-
  The model's operations, turned into the small language; that each does what its weakest precondition says: part 6. (Own work; seat-independent.)
-/
import Derived.Test.YtbifjffjibnjjaaDoorAbsG
set_option linter.unusedVariables false
set_option linter.unusedSimpArgs false
namespace Go.Abs
open Go

section
variable {P : Program} {o : Oper}

theorem ok_conv_to {src dst e : TypeId} {x : Operand} {ex : E} (ho : o.op = .convert src dst x) (hx : cE x = some ex) (hs : P.underlying src = some .string) (hd : P.underlying dst = some (.slice e)) (he : P.underlying e = some (.int .u8)) : OpOk P o (.conv .toBytes ex) := by
  refine .of_runs fun σ m w a s K hI hE hW => ?_
  have hr := ev_rep hE hx
  simp only [WOp] at hW
  generalize ev s ex = dx at hW hr
  obtain ⟨l, rfl, hml, hk⟩ : ∃ l, dx = .v (.str l) ∧ l.length ≤ maxLen ∧ K (.v (.sl none false (bytesV l))) σ := by
    unfold WConv at hW
    cases dx with
    | v y =>
      cases y with
      | str l => exact ⟨l, rfl, hW⟩
      | _ => exact hW.elim
    | _ => exact hW.elim
  · have hus := hr.str_inv
    generalize hC : (Question.appendCap l.length 0 e).cut (w.tape w.drawn (.appendCap l.length 0 e)) = C
    have hCge : l.length ≤ C := by rw [← hC]; simp [Question.cut]
    have hCle : C ≤ maxLen := by
      rw [← hC]
      have hlt := Nat.mod_lt (w.tape w.drawn (.appendCap l.length 0 e)) (show 0 < 2 ^ 63 - l.length by simp only [maxLen] at hml; omega)
      simp only [Question.cut, maxLen] at hml ⊢
      omega
    generalize hA : (bytesU l).toArray ++ Array.replicate (C - l.length) (Value.int .u8 0) = arr
    have hsz : arr.size = C := by rw [← hA]; simp [bytesU]; omega
    have hbytes : Array.map (fun b : UInt8 => Value.int .u8 (b.toNat : Int)) l.toArray = (bytesU l).toArray := by simp [bytesU]
    have hshape : (w.drew.alloc (.cells arr e)).shape? w.heap.size = some (e, C) := by
      have := heap_alloc_new w.drew (.cells arr e)
      simp only [World.shape?]
      rw [show w.heap.size = w.drew.heap.size from rfl, this]
      simp [hsz]
    have hrun : (execOp a.eval o).run P w = .ok (.value (.slice (some ⟨w.heap.size, 0, none⟩) l.length C)) ((w.drew.alloc (.cells arr e)).freeze ⟨w.heap.size, C, none⟩ 1) := by
      simp only [execOp, ho, hus, Sem.run_bind, convert, run_underlying hs, run_underlying hd, run_underlying he, Result.andThen_ok, Conv.stringToBytes, run_choose, Question.forced]
      have hs0 : (⟨l.toArray⟩ : ByteArray).size = l.length := by simp [ByteArray.size]
      simp only [hs0, hC, Bool.false_eq_true, if_false, Result.andThen_ok, newRow, Sem.run_bind, run_newObj, Sem.run_pure, hbytes, hA, markStringish, run_shape]
      have hsh : World.shape? { os := w.os, tape := w.tape, drawn := w.drawn + 1, output := w.output, heap := w.heap.push (Obj.cells arr e) } w.heap.size = some (e, C) := hshape
      simp only [hsh, run_freeze, Result.andThen_ok]
      rfl
    have hold : ∀ b, b < w.heap.size → ((w.drew.alloc (.cells arr e)).freeze ⟨w.heap.size, C, none⟩ 1).heap[b]? = w.heap[b]? := by
      intro b hb
      have h1 := heap_alloc_lt w.drew (.cells arr e) hb
      simp only [World.freeze, Nat.one_ne_zero, if_false, Array.getElem?_modify]
      rw [if_neg (by omega)]
      exact h1
    have hsize : w.heap.size < ((w.drew.alloc (.cells arr e)).freeze ⟨w.heap.size, C, none⟩ 1).heap.size := by
      simp [World.freeze]
    have hcell : ∀ j, ((w.drew.alloc (.cells arr e)).freeze ⟨w.heap.size, C, none⟩ 1).cell? ⟨w.heap.size, j, none⟩ = arr[j]? := by
      intro j
      have h1 : (w.drew.alloc (.cells arr e)).heap[w.heap.size]? = some (.cells arr e (0, 0)) := heap_alloc_new w.drew _
      simp only [World.cell?, World.freeze, Nat.one_ne_zero, if_false, Array.getElem?_modify, if_true, h1, Option.map_some]
      rfl
    have e1 : Ext m w m ((w.drew.alloc (.cells arr e)).freeze ⟨w.heap.size, C, none⟩ 1) := by
      refine .of_old ?_ ?_ ?_ (by omega) hold <;> simp [World.freeze] <;> rfl
    refine ⟨_, _, _, m, _, _, hrun, .inl rfl, hk, hI.of_old e1 hold, e1, .v _ _ ?_⟩
    have hbl : (bytesV l).length = l.length := by simp [bytesV]
    have := RepV.sl (w := (w.drew.alloc (.cells arr e)).freeze ⟨w.heap.size, C, none⟩ 1) (F := Fz m ((w.drew.alloc (.cells arr e)).freeze ⟨w.heap.size, C, none⟩ 1)) none false (bytesV l) w.heap.size 0 C (fun j => (bytesU l).getD j undef)
      (bytes_shape l) (by rw [flat_bytes]; exact bytes_one l) (by rw [hbl]; exact hCge) hCle (by simp)
      (fun j hj => by
        rw [hbl] at hj
        simp only [shn, Nat.mul_one] at hj
        refine ⟨?_, hsize, fun hx => by have := hI.lt_block (Gh.mut_block hx); omega⟩
        rw [Nat.zero_add, hcell j, ← hA]
        have hju : j < (bytesU l).length := by simpa [bytesU] using hj
        rw [Array.getElem?_append_left (by simpa using hju)]
        simp [List.getD, hju])
      (fun j c hj => by
        rw [flat_bytes] at hj
        have hju : j < (bytesU l).length := by have := (List.getElem?_eq_some_iff.1 hj).1; simpa [bytesU, bytesV] using this
        refine bytes_rep l j c _ hj ?_
        simp [List.getD, hju])
    rw [hbl] at this
    exact this

/-! Slice expressions -/

theorem run_sliceBound (k : IntKind) (i : Int) (y : Nat) (code : BoundsCode) (w : World) (h0 : 0 ≤ i) (h : i ≤ y) : (Instr.sliceBound (.int k i) y code).run P w = .ok i.toNat w := by
  simp [Instr.sliceBound, asIntOf, h0, h]

theorem asI_inv {m : Gh} {w : World} {d : D} {n : Int} {u : Value} (h : asI d = some n) (r : RepD m w d u) : ∃ k, u = .int k n := by
  unfold asI at h
  split at h
  · cases h; exact ⟨_, r.int_inv⟩
  · cases h

def OptRep (m : Gh) (w : World) : Option D → Option Value → Prop
  | none, none => True
  | some d, some u => RepD m w d u
  | _, _ => False

def roomOf (cap : Nat) : Option Int → Nat
  | none => cap
  | some v => v.toNat

/-- The bounds of a slice expression, as the model finds them. -/
theorem run_sliceBounds' {m : Gh} {w : World} (isSlice : Bool) (len cap : Nat) (hlc : len ≤ cap) {lo hi mx : Option D} {ul uh um : Option Value} (rl : OptRep m w lo ul) (rh : OptRep m w hi uh) (rm : OptRep m w mx um)
    {l h : Int} {q : Option Int} (hb : bounds len lo hi mx = some (l, h, q)) (hmh : mx.isSome = true → hi.isSome = true) (h0 : 0 ≤ l) (hl : l ≤ h) (hh : h ≤ cap) (hq : ∀ v, q = some v → h ≤ v ∧ v ≤ cap) :
    (Instr.sliceBounds isSlice len cap ul uh um).run P w = .ok (l.toNat, h.toNat, roomOf cap q) w := by
  obtain ⟨b1, b2, b3⟩ : loI lo = some l ∧ hiI len hi = some h ∧ mxI mx = some q := by
    unfold bounds at hb
    split at hb
    · cases hb
      exact ⟨‹_›, ‹_›, ‹_›⟩
    · cases hb
  have lov : (ul = none ∧ l = 0) ∨ ∃ k, ul = some (.int k l) := by
    cases lo with
    | none => cases ul with
      | none => simp only [loI, Option.some.injEq] at b1; exact .inl ⟨rfl, b1.symm⟩
      | some u => exact rl.elim
    | some d => cases ul with
      | none => exact rl.elim
      | some u =>
        obtain ⟨k, hk⟩ := asI_inv b1 rl
        exact .inr ⟨k, by rw [hk]⟩
  have hiv : (uh = none ∧ h = len ∧ hi = none) ∨ ∃ k, uh = some (.int k h) := by
    cases hi with
    | none => cases uh with
      | none => simp only [hiI, Option.some.injEq] at b2; exact .inl ⟨rfl, b2.symm, rfl⟩
      | some u => exact rh.elim
    | some d => cases uh with
      | none => exact rh.elim
      | some u =>
        obtain ⟨k, hk⟩ := asI_inv b2 rh
        exact .inr ⟨k, by rw [hk]⟩
  have mxv : (um = none ∧ q = none) ∨ ∃ k v, um = some (.int k v) ∧ q = some v ∧ hi.isSome = true := by
    cases mx with
    | none => cases um with
      | none => simp only [mxI, Option.some.injEq] at b3; exact .inl ⟨rfl, b3.symm⟩
      | some u => exact rm.elim
    | some d => cases um with
      | none => exact rm.elim
      | some u =>
        simp only [mxI] at b3
        split at b3
        · rename_i v hv
          cases b3
          obtain ⟨k, hk⟩ := asI_inv hv rm
          exact .inr ⟨k, v, by rw [hk], rfl, hmh rfl⟩
        · cases b3
  rcases mxv with ⟨rfl, rfl⟩ | ⟨km, v, rfl, rfl, his⟩
  · rcases hiv with ⟨rfl, rfl, _⟩ | ⟨kh, rfl⟩ <;> rcases lov with ⟨rfl, rfl⟩ | ⟨kl, rfl⟩
    · simp [Instr.sliceBounds, roomOf]
    · simp [Instr.sliceBounds, roomOf, run_sliceBound (P := P) kl l len _ w h0 hl]
    · simp [Instr.sliceBounds, roomOf, run_sliceBound (P := P) kh h cap _ w (by omega) (by omega)]
    · simp [Instr.sliceBounds, roomOf, run_sliceBound (P := P) kh h cap _ w (by omega) (by omega), run_sliceBound (P := P) kl l h.toNat _ w h0 (by omega)]
  · obtain ⟨hv1, hv2⟩ := hq v rfl
    rcases hiv with ⟨_, _, hn⟩ | ⟨kh, rfl⟩
    · rw [hn] at his; cases his
    · rcases lov with ⟨rfl, rfl⟩ | ⟨kl, rfl⟩
      · simp [Instr.sliceBounds, roomOf, run_sliceBound (P := P) km v cap _ w (by omega) (by omega), run_sliceBound (P := P) kh h v.toNat _ w (by omega) (by omega)]
      · simp [Instr.sliceBounds, roomOf, run_sliceBound (P := P) km v cap _ w (by omega) (by omega), run_sliceBound (P := P) kh h v.toNat _ w (by omega) (by omega), run_sliceBound (P := P) kl l h.toNat _ w h0 (by omega)]

theorem run_sliceBounds {m : Gh} {w : World} (isSlice : Bool) (len cap : Nat) (hlc : len ≤ cap) {lo hi mx : Option D} {ul uh um : Option Value} (rl : OptRep m w lo ul) (rh : OptRep m w hi uh) (rm : OptRep m w mx um)
    {l h : Int} {q : Option Int} (hb : bounds len lo hi mx = some (l, h, q)) (hmh : mx.isSome = true → hi.isSome = true) (h0 : 0 ≤ l) (hl : l ≤ h) (hh : h ≤ len) (hq : ∀ v, q = some v → h ≤ v ∧ v ≤ len) :
    (Instr.sliceBounds isSlice len cap ul uh um).run P w = .ok (l.toNat, h.toNat, roomOf cap q) w :=
  run_sliceBounds' isSlice len cap hlc rl rh rm hb hmh h0 hl (by omega) fun v hv => by have := hq v hv; omega

end
end Go.Abs
