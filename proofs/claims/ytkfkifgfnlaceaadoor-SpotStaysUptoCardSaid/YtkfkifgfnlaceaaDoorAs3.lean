import Derived.Test.YtkfkifgfnlaceaaDoorAs2
import Derived.Test.YtkfkifgfnlaceaaDoorAbsS
import Derived.Below
set_option linter.unusedVariables false
namespace Go.Proofs.YtkfkifgfnlaceaaDoor
open Go.RowKit Go.Extern.Stop Go.Stop Go.Extern

/-! errors.As at an error that is wrapped again and again. (Own work, after the walk of the hit.) -/
/-- An error: a number; one at a place; or one of a stage. (p: where the place's record lies; k: how often it is wrapped.) -/
inductive RCh (w : World) : Value → Option Addr → Int → Nat → Prop where
  | code (n : Int) : RCh w (.iface 28 (.int .i64 n)) none n 0
  | spot (b : Nat) (n : Int) (h : w.cell? ⟨b, 1, none⟩ = some (.int .i64 n)) : RCh w (.iface 39 (.pointer (some ⟨b, 0, none⟩))) (some ⟨b, 0, none⟩) n 0
  | wrap (b : Nat) (v : Value) (p : Option Addr) (n : Int) (k : Nat) (h : w.cell? ⟨b, 1, none⟩ = some v) (hv : RCh w v p n k) : RCh w (.iface 67 (.pointer (some ⟨b, 0, none⟩))) p n (k + 1)
theorem RCh.mono {w W : World} {e : Value} {p : Option Addr} {n : Int} {k : Nat} (hB : Below w.heap.size w W) (h : RCh w e p n k) : RCh W e p n k := by
  have hc : ∀ (b o : Nat) (v : Value), w.cell? ⟨b, o, none⟩ = some v → W.cell? ⟨b, o, none⟩ = some v := fun b o v hv => by
    have hl : b < w.heap.size := by
      rcases Nat.lt_or_ge b w.heap.size with h | h
      · exact h
      · simp [World.cell?, Array.getElem?_eq_none h] at hv
    rw [← hv]
    simp [World.cell?, hB.block b hl]
  induction h with
  | code n => exact .code n
  | spot b n h => exact .spot b n (hc _ _ _ h)
  | wrap b v p n k h _ ih => exact .wrap b v p n k (hc _ _ _ h) ih
theorem As.typeOf67 (v : Value) (w : World) : (ReflectliteType.typeOf #[.iface 67 v]).run Tryd.prog w = .ok (.iface 99 (.agg #[.pointer (some ⟨14, 67, none⟩)])) w := by kernel_rfl
theorem As.assignable67 (w : World) : (ReflectliteType.relation "AssignableTo" ReflectliteType.assignableTo #[.agg #[.pointer (some ⟨14, 67, none⟩)], .iface 99 (.agg #[.pointer (some ⟨14, 39, none⟩)])]).run Tryd.prog w = .ok (.bool false) w := by kernel_rfl
@[go_sem] theorem As.noAs67 (v : Value) (xT : TypeId) (w : World) : (Instr.typeAssert (.iface 67 v) xT 103 true).run Tryd.prog w = .ok (.tuple #[.nilIface, .bool false]) w := run_typeAssert_lacksB Tryd.underlying103 (by kernel_rfl) (by kernel_rfl) v xT w
@[go_sem] theorem As.unwrap67 (v : Value) (xT : TypeId) (w : World) : (Instr.typeAssert (.iface 67 v) xT 106 true).run Tryd.prog w = .ok (.tuple #[.iface 67 v, .bool true]) w := run_typeAssert_hasB Tryd.underlying106 (by kernel_rfl) v xT w
theorem As.methodUnwrap67 (a : Addr) (w : World) : (Go.method 302 67 (.pointer (some a)) "Unwrap").run Tryd.prog w = .ok (121, .pointer (some a)) w := by kernel_rfl

set_option maxHeartbeats 4000000 in
set_option maxRecDepth 100000 in
theorem as_chain (e0 : Value) (p : Option Addr) (n0 : Int) (k : Nat) (t : Addr) (old : Value) (w : World) (hc0 : RCh w e0 p n0 k) (hg : w.cell? ⟨0, 0, none⟩ = some (.iface 99 (.agg #[.pointer (some ⟨14, 30, none⟩)]))) (ht0 : w.cell? t = some old) (hf0 : w.frozen? t = false) :
    Calls Tryd.prog 18 #[e0, .iface 41 (.pointer (some t))] w fun ev w' => ev = .returned (.bool p.isSome) ∧ ∃ W, Below w.heap.size w W ∧ w' = (match p with
      | none => W
      | some e => W.setCell t (.pointer (some e))) := by
  have h6 := @run_callFunc_extern Tryd.prog 32 _ (fun args => ReflectliteValue.unpack (args.getD 0 (.tuple #[]))) Tryd.func32 (by kernel_rfl) (by kernel_rfl) (by kernel_rfl) (by kernel_rfl)
  have h7 := @run_callFunc_extern Tryd.prog 33 _ (ReflectliteValue.methodAny (ReflectliteValue.valueError "reflectlite.Value.Type" 0) (fun t _ _ _ => ReflectliteType.toType t)) Tryd.func33 (by kernel_rfl) (by kernel_rfl) (by kernel_rfl) (by kernel_rfl)
  have h8 := @run_callFunc_extern Tryd.prog 34 _ (ReflectliteValue.method (ReflectliteValue.valueError "reflectlite.Value.IsNil" 0) ReflectliteValue.isNil) Tryd.func34 (by kernel_rfl) (by kernel_rfl) (by kernel_rfl) (by kernel_rfl)
  have h27 := @run_callFunc_extern Tryd.prog 115 _ (ReflectliteType.abiMethod fun t => do pure (.int .u8 (← Rtype.kind t))) Tryd.func115 (by kernel_rfl) (by kernel_rfl) (by kernel_rfl) (by kernel_rfl)
  have h37 := @run_callFunc_extern Tryd.prog 128 _ (ReflectliteType.method ReflectliteType.elem) Tryd.func128 (by kernel_rfl) (by kernel_rfl) (by kernel_rfl) (by kernel_rfl)
  have h38 := @run_callFunc_extern Tryd.prog 129 _ (ReflectliteType.relation "Implements" ReflectliteType.implements_) Tryd.func129 (by kernel_rfl) (by kernel_rfl) (by kernel_rfl) (by kernel_rfl)
  have h10 := @run_callFunc_extern Tryd.prog 36 _ ReflectliteType.typeOf Tryd.func36 (by kernel_rfl) (by kernel_rfl) (by kernel_rfl) (by kernel_rfl)
  have h35 := @run_callFunc_extern Tryd.prog 126 _ (ReflectliteType.relation "AssignableTo" ReflectliteType.assignableTo) Tryd.func126 (by kernel_rfl) (by kernel_rfl) (by kernel_rfl) (by kernel_rfl)
  have h11 := @run_callFunc_extern Tryd.prog 49 _ (ReflectliteValue.method (ReflectliteValue.valueError "reflectlite.Value.Elem" 0) ReflectliteValue.elem) Tryd.func49 (by kernel_rfl) (by kernel_rfl) (by kernel_rfl) (by kernel_rfl)
  have h12 := @run_callFunc_extern Tryd.prog 50 _ ReflectliteValue.set Tryd.func50 (by kernel_rfl) (by kernel_rfl) (by kernel_rfl) (by kernel_rfl)
  have tO := As.typeOf25
  have tO28 := As.typeOf28
  have tO67 := As.typeOf67
  have mA := As.methodAssignableTo
  have a25 := As.assignable25
  have a28 := As.assignable28
  have a67 := As.assignable67
  have v25 := As.valueOf25
  have f6 := As.valueOf27
  have f7 := As.type27
  have mK := As.methodKind
  have mE := As.methodElem
  have mI := As.methodImplements
  have mU := As.methodUnwrap67
  have k27 := As.kind27
  have k25 := As.kind25
  have e27 := As.elem27
  have i25 := As.implements25
  have n1 := As.noAs28
  have n2 := As.noUnwrap28
  have n3 := As.noUnwraps28
  have n8 := As.isNil27 ⟨w.heap.size, 0, none⟩ t ((w.alloc (.cells #[.pointer (some t)] 41)).alloc (.cells #[.pointer (some ⟨14, 41, none⟩), .pointer (some ⟨w.heap.size, 0, none⟩), .int .u64 150] 73)) (by simp)
  have hlt : 0 < w.heap.size := by
    rcases Nat.eq_zero_or_pos w.heap.size with h0 | h
    · simp [World.cell?, h0] at hg
    · exact h
  have hg2 : ((w.alloc (.cells #[.pointer (some t)] 41)).alloc (.cells #[.pointer (some ⟨14, 41, none⟩), .pointer (some ⟨w.heap.size, 0, none⟩), .int .u64 150] 73)).cell? ⟨0, 0, none⟩ = some (.iface 99 (.agg #[.pointer (some ⟨14, 30, none⟩)])) := by
    rw [World.cell?_alloc_lt _ _ ⟨0, 0, none⟩ (by simp), World.cell?_alloc_lt _ _ ⟨0, 0, none⟩ hlt]; exact hg
  have htl : t.block < w.heap.size := by
    rcases Nat.lt_or_ge t.block w.heap.size with h | h
    · exact h
    · simp [World.cell?, Array.getElem?_eq_none h] at ht0
  obtain ⟨t0, u0, rfl⟩ : ∃ t0 u0, e0 = .iface t0 u0 := by cases hc0 <;> exact ⟨_, _, rfl⟩
  go_enter Tryd.func18, Tryd.ntmps18
  go_wp2
  generalize hW1 : ((w.alloc (Obj.cells #[Value.pointer (some t)] 41)).alloc _).alloc _ = W
  have hB : Below w.heap.size w W := by
    subst hW1
    exact (((Below.refl _ w).alloc (Nat.le_refl _) _).alloc (by simp) _).alloc (by simp; omega) _
  have hWs : W.heap.size = w.heap.size + 3 := by subst hW1; simp
  have htW : W.cell? t = some old := by
    subst hW1
    rw [World.cell?_alloc_lt _ _ t (by simp; omega), World.cell?_alloc_lt _ _ t (by simp; omega), World.cell?_alloc_lt _ _ t htl]; exact ht0
  refine Go.Abs.wp_loop_rank (fun n a w' => w' = W ∧ ∃ e x4 x5 x7 x9 x10 x11 x12 x13 x14 x15 x16 x17 x18 x19 x20 x21 x22 x23 x24 x25 x26 x27 x28 x29 x30 x31 x32 x33 x34 x35 x36 x37 x38 x39 x40 x41 x42 x43 x44 x45 x46 x47 x48 x49 x50 x51 x52 x53 x54 x55 x56 x57 x58 x59 x60 x61, RCh W e p n0 n ∧ a = ⟨#[e, .iface 41 (.pointer (some t)), .agg #[.pointer (some ⟨14, 41, none⟩), .pointer (some ⟨w.heap.size, 0, none⟩), .int .u64 150], .iface 99 (.agg #[.pointer (some ⟨14, 39, none⟩)]), x4, x5, .pointer (some ⟨w.heap.size + 1 + 1, 0, none⟩), x7, .bool false, x9, x10, x11, x12, x13, x14, x15, x16, x17, x18, x19, x20, x21, x22, x23, x24, x25, x26, x27, x28, x29, x30, x31, x32, x33, x34, x35, x36, x37, x38, x39, x40, x41, x42, x43, x44, x45, x46, x47, x48, x49, x50, x51, x52, x53, x54, x55, x56, x57, x58, x59, x60, x61], []⟩) ⟨k, rfl, _, _, _, _, _, _, _, _, _, _, _, _, _, _, _, _, _, _, _, _, _, _, _, _, _, _, _, _, _, _, _, _, _, _, _, _, _, _, _, _, _, _, _, _, _, _, _, _, _, _, _, _, _, _, _, _, _, ?_, rfl⟩ ?_
  · exact hc0.mono hB
  have el := As.elemV27 ⟨w.heap.size, 0, none⟩ t W (by
    subst hW1
    rw [World.cell?_alloc_lt _ _ _ (by simp; omega), World.cell?_alloc_lt _ _ _ (by simp), World.cell?_alloc_at _ _ _ _ (by simp)]; rfl)
  rintro n a w' ⟨rfl, e, x4, x5, x7, x9, x10, x11, x12, x13, x14, x15, x16, x17, x18, x19, x20, x21, x22, x23, x24, x25, x26, x27, x28, x29, x30, x31, x32, x33, x34, x35, x36, x37, x38, x39, x40, x41, x42, x43, x44, x45, x46, x47, x48, x49, x50, x51, x52, x53, x54, x55, x56, x57, x58, x59, x60, x61, hch, rfl⟩
  cases hch with
  | code n =>
    go_wp2
    go_ret
    exact ⟨rfl, hB⟩
  | spot b n h =>
    have hBx : w'.cell? ⟨w.heap.size + 1 + 1, 0, none⟩ = some (.pointer (some ⟨14, 41, none⟩)) := by
      subst hW1
      rw [World.cell?_alloc_at _ _ _ _ (by simp)]; rfl
    have hBy : w'.cell? ⟨w.heap.size + 1 + 1, 1, none⟩ = some (.pointer (some ⟨w.heap.size, 0, none⟩)) := by
      subst hW1
      rw [World.cell?_alloc_at _ _ _ _ (by simp)]; rfl
    have hBz : w'.cell? ⟨w.heap.size + 1 + 1, 2, none⟩ = some (.int .u64 150) := by
      subst hW1
      rw [World.cell?_alloc_at _ _ _ _ (by simp)]; rfl
    have st := As.set25 t ⟨w'.heap.size, 0, none⟩ ⟨b, 0, none⟩ old (w'.alloc (.cells #[.pointer (some ⟨b, 0, none⟩)] 39))
      (by rw [World.cell?_alloc_at _ _ _ _ (by simp)]; rfl)
      (by rw [World.cell?_alloc_lt _ _ t (by omega)]; exact htW)
      (by rw [World.frozen?_alloc_old _ _ t (by omega)]; subst hW1; rw [World.frozen?_alloc_old _ _ t (by simp; omega), World.frozen?_alloc_old _ _ t (by simp; omega), World.frozen?_alloc_old _ _ t (Nat.ne_of_lt htl)]; exact hf0)
    clear hW1
    rw [hWs] at st
    go_wp2
    go_ret
    exact ⟨rfl, _, hB.alloc (by omega) _, rfl⟩
  | wrap b v p n k h hv =>
    obtain ⟨t1, u1, rfl⟩ : ∃ t1 u1, v = .iface t1 u1 := by cases hv <;> exact ⟨_, _, rfl⟩
    go_wp2
    exact ⟨k, by omega, trivial, _, _, _, _, _, _, _, _, _, _, _, _, _, _, _, _, _, _, _, _, _, _, _, _, _, _, _, _, _, _, _, _, _, _, _, _, _, _, _, _, _, _, _, _, _, _, _, _, _, _, _, _, _, _, _, _, _, hv, rfl⟩
end Go.Proofs.YtkfkifgfnlaceaaDoor

