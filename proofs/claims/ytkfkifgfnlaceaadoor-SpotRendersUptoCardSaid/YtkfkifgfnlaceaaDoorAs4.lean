import Derived.Test.YtkfkifgfnlaceaaDoorAs3
import Derived.Test.YtkfkifgfnlaceaaDoorAbsS
import Derived.Below
set_option linter.unusedVariables false
namespace Go.Proofs.YtkfkifgfnlaceaaDoor
open Go.RowKit Go.Extern.Stop Go.Stop Go.Extern

/-! The target a *Code. (Own work.) -/
theorem AsC.valueOf84 (t : Addr) (w : World) : (ReflectliteValue.unpack (.iface 84 (.pointer (some t)))).run Tryd.prog w
    = .ok (.agg #[.pointer (some ⟨14, 84, none⟩), .pointer (some ⟨w.heap.size, 0, none⟩), .int .u64 150]) (w.alloc (.cells #[.pointer (some t)] 84)) := by kernel_rfl
theorem AsC.type84 (a : Addr) (w : World) : (ReflectliteValue.methodAny (ReflectliteValue.valueError "reflectlite.Value.Type" 0) (fun t _ _ _ => ReflectliteType.toType t) #[.agg #[.pointer (some ⟨14, 84, none⟩), .pointer (some a), .int .u64 150]]).run Tryd.prog w = .ok (.iface 99 (.agg #[.pointer (some ⟨14, 84, none⟩)])) w := by kernel_rfl
theorem AsC.kind84 (w : World) : ((ReflectliteType.abiMethod fun t => (fun a : Nat => Value.int IntKind.u8 (a : Int)) <$> Rtype.kind t) #[.pointer (some ⟨14, 84, none⟩)]).run Tryd.prog w = .ok (.int .u8 22) w := by kernel_rfl
theorem AsC.kind28 (w : World) : ((ReflectliteType.abiMethod fun t => (fun a : Nat => Value.int IntKind.u8 (a : Int)) <$> Rtype.kind t) #[.pointer (some ⟨14, 28, none⟩)]).run Tryd.prog w = .ok (.int .u8 2) w := by kernel_rfl
theorem AsC.parts84 (a : Addr) (w : World) : (ReflectliteValue.parts (.agg #[.pointer (some ⟨14, 84, none⟩), .pointer (some a), .int .u64 150])).run Tryd.prog w = .ok (some (84, a, 150)) w := by kernel_rfl
theorem AsC.isNil84 (a p : Addr) (W : World) (ha : W.cell? a = some (.pointer (some p))) :
    (ReflectliteValue.method (ReflectliteValue.valueError "reflectlite.Value.IsNil" 0) ReflectliteValue.isNil #[.agg #[.pointer (some ⟨14, 84, none⟩), .pointer (some a), .int .u64 150]]).run Tryd.prog W = .ok (.bool false) W := by
  rw [rlm]
  simp only [Sem.run_bind, AsC.parts84, Result.andThen]
  simp [ReflectliteValue.isNil, loadVar, isAgg, underlying, Tryd.underlying84, ha, Result.andThen]
theorem AsC.elem84 (w : World) : (ReflectliteType.method ReflectliteType.elem #[.agg #[.pointer (some ⟨14, 84, none⟩)]]).run Tryd.prog w = .ok (.iface 99 (.agg #[.pointer (some ⟨14, 28, none⟩)])) w := by kernel_rfl
theorem AsC.implements28 (w : World) : (ReflectliteType.relation "Implements" ReflectliteType.implements_ #[.agg #[.pointer (some ⟨14, 28, none⟩)], .iface 99 (.agg #[.pointer (some ⟨14, 30, none⟩)])]).run Tryd.prog w = .ok (.bool true) w := by kernel_rfl
theorem AsC.assignable28 (w : World) : (ReflectliteType.relation "AssignableTo" ReflectliteType.assignableTo #[.agg #[.pointer (some ⟨14, 28, none⟩)], .iface 99 (.agg #[.pointer (some ⟨14, 28, none⟩)])]).run Tryd.prog w = .ok (.bool true) w := by kernel_rfl
theorem AsC.assignable39 (w : World) : (ReflectliteType.relation "AssignableTo" ReflectliteType.assignableTo #[.agg #[.pointer (some ⟨14, 39, none⟩)], .iface 99 (.agg #[.pointer (some ⟨14, 28, none⟩)])]).run Tryd.prog w = .ok (.bool false) w := by kernel_rfl
theorem AsC.assignable67 (w : World) : (ReflectliteType.relation "AssignableTo" ReflectliteType.assignableTo #[.agg #[.pointer (some ⟨14, 67, none⟩)], .iface 99 (.agg #[.pointer (some ⟨14, 28, none⟩)])]).run Tryd.prog w = .ok (.bool false) w := by kernel_rfl
theorem AsC.valueOf28 (n : Int) (w : World) : (ReflectliteValue.unpack (.iface 28 (.int .i64 n))).run Tryd.prog w
    = .ok (.agg #[.pointer (some ⟨14, 28, none⟩), .pointer (some ⟨w.heap.size, 0, none⟩), .int .u64 130]) (w.alloc (.cells #[.int .i64 n] 28)) := by kernel_rfl
theorem AsC.elemOf84 (w : World) : (Rtype.elem? 84).run Tryd.prog w = .ok (some 28) w := by kernel_rfl
theorem AsC.mk28 (p : Addr) (w : World) : (ReflectliteValue.mk 28 p ReflectliteValue.flagAddr).run Tryd.prog w = .ok (.agg #[.pointer (some ⟨14, 28, none⟩), .pointer (some p), .int .u64 386]) w := by kernel_rfl
theorem AsC.elemV84 (a p : Addr) (W : World) (ha : W.cell? a = some (.pointer (some p))) :
    (ReflectliteValue.method (ReflectliteValue.valueError "reflectlite.Value.Elem" 0) ReflectliteValue.elem #[.agg #[.pointer (some ⟨14, 84, none⟩), .pointer (some a), .int .u64 150]]).run Tryd.prog W
      = .ok (.agg #[.pointer (some ⟨14, 28, none⟩), .pointer (some p), .int .u64 386]) W := by
  rw [rlm]
  simp only [Sem.run_bind, AsC.parts84, Result.andThen]
  simp [ReflectliteValue.elem, loadVar, isAgg, underlying, Tryd.underlying84, ha, Result.andThen, AsC.elemOf84, AsC.mk28]
theorem AsC.parts28a (a : Addr) (w : World) : (ReflectliteValue.parts (.agg #[.pointer (some ⟨14, 28, none⟩), .pointer (some a), .int .u64 386])).run Tryd.prog w = .ok (some (28, a, 386)) w := by kernel_rfl
theorem AsC.parts28 (a : Addr) (w : World) : (ReflectliteValue.parts (.agg #[.pointer (some ⟨14, 28, none⟩), .pointer (some a), .int .u64 130])).run Tryd.prog w = .ok (some (28, a, 130)) w := by kernel_rfl
theorem AsC.direct28 (w : World) : (Rtype.directlyAssignable 28 28).run Tryd.prog w = .ok true w := by kernel_rfl
theorem AsC.set28 (ta b : Addr) (n : Int) (old : Value) (W : World) (hb : W.cell? b = some (.int .i64 n)) (ht : W.cell? ta = some old) (hf : W.frozen? ta = false) :
    (ReflectliteValue.set #[.agg #[.pointer (some ⟨14, 28, none⟩), .pointer (some ta), .int .u64 386], .agg #[.pointer (some ⟨14, 28, none⟩), .pointer (some b), .int .u64 130]]).run Tryd.prog W
      = .ok (.tuple #[]) (W.setCell ta (.int .i64 n)) := by
  rw [rls]
  simp only [Sem.run_bind, AsC.parts28a, AsC.parts28, Result.andThen]
  simp [ReflectliteValue.flagAddr, loadVar, isAgg, underlying, Tryd.underlying28, hb, Result.andThen, AsC.direct28, storeVar, Value.cells, storeCells, Addr.add]
  rw [run_store Tryd.prog W ta _ _ (by rfl)]
  simp [ht, hf]
@[go_sem] theorem As.noAs39 (v : Value) (xT : TypeId) (w : World) : (Instr.typeAssert (.iface 39 v) xT 103 true).run Tryd.prog w = .ok (.tuple #[.nilIface, .bool false]) w := run_typeAssert_lacksB Tryd.underlying103 (by kernel_rfl) (by kernel_rfl) v xT w
@[go_sem] theorem As.unwrap39 (v : Value) (xT : TypeId) (w : World) : (Instr.typeAssert (.iface 39 v) xT 106 true).run Tryd.prog w = .ok (.tuple #[.iface 39 v, .bool true]) w := run_typeAssert_hasB Tryd.underlying106 (by kernel_rfl) v xT w
theorem As.methodUnwrap39 (a : Addr) (w : World) : (Go.method 302 39 (.pointer (some a)) "Unwrap").run Tryd.prog w = .ok (119, .pointer (some a)) w := by kernel_rfl

set_option maxHeartbeats 4000000 in
set_option maxRecDepth 100000 in
theorem as_chainC (e0 : Value) (p : Option Addr) (n0 : Int) (k : Nat) (t : Addr) (old : Value) (w : World) (hc0 : RCh w e0 p n0 k) (hg : w.cell? ⟨0, 0, none⟩ = some (.iface 99 (.agg #[.pointer (some ⟨14, 30, none⟩)]))) (ht0 : w.cell? t = some old) (hf0 : w.frozen? t = false) :
    Calls Tryd.prog 18 #[e0, .iface 84 (.pointer (some t))] w fun ev w' => ev = .returned (.bool true) ∧ ∃ W, Below w.heap.size w W ∧ w' = W.setCell t (.int .i64 n0) := by
  have h6 := @run_callFunc_extern Tryd.prog 32 _ (fun args => ReflectliteValue.unpack (args.getD 0 (.tuple #[]))) Tryd.func32 (by kernel_rfl) (by kernel_rfl) (by kernel_rfl) (by kernel_rfl)
  have h7 := @run_callFunc_extern Tryd.prog 33 _ (ReflectliteValue.methodAny (ReflectliteValue.valueError "reflectlite.Value.Type" 0) (fun t _ _ _ => ReflectliteType.toType t)) Tryd.func33 (by kernel_rfl) (by kernel_rfl) (by kernel_rfl) (by kernel_rfl)
  have h8 := @run_callFunc_extern Tryd.prog 34 _ (ReflectliteValue.method (ReflectliteValue.valueError "reflectlite.Value.IsNil" 0) ReflectliteValue.isNil) Tryd.func34 (by kernel_rfl) (by kernel_rfl) (by kernel_rfl) (by kernel_rfl)
  have h27 := @run_callFunc_extern Tryd.prog 115 _ (ReflectliteType.abiMethod fun t => do pure (.int .u8 (← Rtype.kind t))) Tryd.func115 (by kernel_rfl) (by kernel_rfl) (by kernel_rfl) (by kernel_rfl)
  have h37 := @run_callFunc_extern Tryd.prog 128 _ (ReflectliteType.method ReflectliteType.elem) Tryd.func128 (by kernel_rfl) (by kernel_rfl) (by kernel_rfl) (by kernel_rfl)
  have h38 := @run_callFunc_extern Tryd.prog 129 _ (ReflectliteType.relation "Implements" ReflectliteType.implements_) Tryd.func129 (by kernel_rfl) (by kernel_rfl) (by kernel_rfl) (by kernel_rfl)
  have h10 := @run_callFunc_extern Tryd.prog 36 _ ReflectliteType.typeOf Tryd.func36 (by kernel_rfl) (by kernel_rfl) (by kernel_rfl) (by kernel_rfl)
  have h35 := @run_callFunc_extern Tryd.prog 126 _ (ReflectliteType.relation "AssignableTo" ReflectliteType.assignableTo) Tryd.func126 (by kernel_rfl) (by kernel_rfl) (by kernel_rfl) (by kernel_rfl)
  have h11 := @run_callFunc_extern Tryd.prog 49 _ (ReflectliteValue.method (ReflectliteValue.valueError "reflectlite.Value.Elem" 0) ReflectliteValue.elem) Tryd.func49 (by kernel_rfl) (by kernel_rfl) (by kernel_rfl) (by kernel_rfl)
  have h12 := @run_callFunc_extern Tryd.prog 50 _ ReflectliteValue.set Tryd.func50 (by kernel_rfl) (by kernel_rfl) (by kernel_rfl) (by kernel_rfl)
  have tO := As.typeOf25
  have tO28 := As.typeOf28
  have tO67 := As.typeOf67
  have mA := As.methodAssignableTo
  have a25 := AsC.assignable39
  have a28 := AsC.assignable28
  have a67 := AsC.assignable67
  have v25 := AsC.valueOf28
  have f6 := AsC.valueOf84
  have f7 := AsC.type84
  have mK := As.methodKind
  have mE := As.methodElem
  have mI := As.methodImplements
  have mU := As.methodUnwrap67
  have mU2 := As.methodUnwrap39
  have k27 := AsC.kind84
  have k25 := AsC.kind28
  have e27 := AsC.elem84
  have i25 := AsC.implements28
  have n8 := AsC.isNil84 ⟨w.heap.size, 0, none⟩ t ((w.alloc (.cells #[.pointer (some t)] 84)).alloc (.cells #[.pointer (some ⟨14, 84, none⟩), .pointer (some ⟨w.heap.size, 0, none⟩), .int .u64 150] 73)) (by simp)
  have hlt : 0 < w.heap.size := by
    rcases Nat.eq_zero_or_pos w.heap.size with h0 | h
    · simp [World.cell?, h0] at hg
    · exact h
  have hg2 : ((w.alloc (.cells #[.pointer (some t)] 84)).alloc (.cells #[.pointer (some ⟨14, 84, none⟩), .pointer (some ⟨w.heap.size, 0, none⟩), .int .u64 150] 73)).cell? ⟨0, 0, none⟩ = some (.iface 99 (.agg #[.pointer (some ⟨14, 30, none⟩)])) := by
    rw [World.cell?_alloc_lt _ _ ⟨0, 0, none⟩ (by simp), World.cell?_alloc_lt _ _ ⟨0, 0, none⟩ hlt]; exact hg
  have htl : t.block < w.heap.size := by
    rcases Nat.lt_or_ge t.block w.heap.size with h | h
    · exact h
    · simp [World.cell?, Array.getElem?_eq_none h] at ht0
  obtain ⟨t0, u0, rfl⟩ : ∃ t0 u0, e0 = .iface t0 u0 := by cases hc0 <;> exact ⟨_, _, rfl⟩
  go_enter Tryd.func18, Tryd.ntmps18
  go_wp2
  generalize hW1 : ((w.alloc (Obj.cells #[Value.pointer (some t)] 84)).alloc _).alloc _ = W
  have hB : Below w.heap.size w W := by
    subst hW1
    exact (((Below.refl _ w).alloc (Nat.le_refl _) _).alloc (by simp) _).alloc (by simp; omega) _
  have hWs : W.heap.size = w.heap.size + 3 := by subst hW1; simp
  have htW : W.cell? t = some old := by
    subst hW1
    rw [World.cell?_alloc_lt _ _ t (by simp; omega), World.cell?_alloc_lt _ _ t (by simp; omega), World.cell?_alloc_lt _ _ t htl]; exact ht0
  refine Go.Abs.wp_loop_rank (fun n a w' => w' = W ∧ ∃ e x4 x5 x7 x9 x10 x11 x12 x13 x14 x15 x16 x17 x18 x19 x20 x21 x22 x23 x24 x25 x26 x27 x28 x29 x30 x31 x32 x33 x34 x35 x36 x37 x38 x39 x40 x41 x42 x43 x44 x45 x46 x47 x48 x49 x50 x51 x52 x53 x54 x55 x56 x57 x58 x59 x60 x61 p' k', RCh W e p' n0 k' ∧ n = 2 * k' + (if p'.isSome then 1 else 0) ∧ a = ⟨#[e, .iface 84 (.pointer (some t)), .agg #[.pointer (some ⟨14, 84, none⟩), .pointer (some ⟨w.heap.size, 0, none⟩), .int .u64 150], .iface 99 (.agg #[.pointer (some ⟨14, 28, none⟩)]), x4, x5, .pointer (some ⟨w.heap.size + 1 + 1, 0, none⟩), x7, .bool false, x9, x10, x11, x12, x13, x14, x15, x16, x17, x18, x19, x20, x21, x22, x23, x24, x25, x26, x27, x28, x29, x30, x31, x32, x33, x34, x35, x36, x37, x38, x39, x40, x41, x42, x43, x44, x45, x46, x47, x48, x49, x50, x51, x52, x53, x54, x55, x56, x57, x58, x59, x60, x61], []⟩) ⟨_, rfl, _, _, _, _, _, _, _, _, _, _, _, _, _, _, _, _, _, _, _, _, _, _, _, _, _, _, _, _, _, _, _, _, _, _, _, _, _, _, _, _, _, _, _, _, _, _, _, _, _, _, _, _, _, _, _, _, _, p, k, hc0.mono hB, rfl, rfl⟩ ?_
  have el := AsC.elemV84 ⟨w.heap.size, 0, none⟩ t W (by
    subst hW1
    rw [World.cell?_alloc_lt _ _ _ (by simp; omega), World.cell?_alloc_lt _ _ _ (by simp), World.cell?_alloc_at _ _ _ _ (by simp)]; rfl)
  rintro n a w' ⟨rfl, e, x4, x5, x7, x9, x10, x11, x12, x13, x14, x15, x16, x17, x18, x19, x20, x21, x22, x23, x24, x25, x26, x27, x28, x29, x30, x31, x32, x33, x34, x35, x36, x37, x38, x39, x40, x41, x42, x43, x44, x45, x46, x47, x48, x49, x50, x51, x52, x53, x54, x55, x56, x57, x58, x59, x60, x61, p', k', hch, hn, rfl⟩
  cases hch with
  | code n =>
    have hBx : w'.cell? ⟨w.heap.size + 1 + 1, 0, none⟩ = some (.pointer (some ⟨14, 84, none⟩)) := by
      subst hW1
      rw [World.cell?_alloc_at _ _ _ _ (by simp)]; rfl
    have hBy : w'.cell? ⟨w.heap.size + 1 + 1, 1, none⟩ = some (.pointer (some ⟨w.heap.size, 0, none⟩)) := by
      subst hW1
      rw [World.cell?_alloc_at _ _ _ _ (by simp)]; rfl
    have hBz : w'.cell? ⟨w.heap.size + 1 + 1, 2, none⟩ = some (.int .u64 150) := by
      subst hW1
      rw [World.cell?_alloc_at _ _ _ _ (by simp)]; rfl
    have st := AsC.set28 t ⟨w'.heap.size, 0, none⟩ n0 old (w'.alloc (.cells #[.int .i64 n0] 28))
      (by rw [World.cell?_alloc_at _ _ _ _ (by simp)]; rfl)
      (by rw [World.cell?_alloc_lt _ _ t (by omega)]; exact htW)
      (by rw [World.frozen?_alloc_old _ _ t (by omega)]; subst hW1; rw [World.frozen?_alloc_old _ _ t (by simp; omega), World.frozen?_alloc_old _ _ t (by simp; omega), World.frozen?_alloc_old _ _ t (Nat.ne_of_lt htl)]; exact hf0)
    clear hW1
    rw [hWs] at st
    go_wp2
    go_ret
    exact ⟨rfl, _, hB.alloc (by omega) _, rfl⟩
  | spot b n h =>
    go_wp2
    exact ⟨0, by rw [hn]; simp, trivial, _, _, _, _, _, _, _, _, _, _, _, _, _, _, _, _, _, _, _, _, _, _, _, _, _, _, _, _, _, _, _, _, _, _, _, _, _, _, _, _, _, _, _, _, _, _, _, _, _, _, _, _, _, _, _, _, _, none, 0, .code _, rfl, rfl⟩
  | wrap b v p n k h hv =>
    obtain ⟨t1, u1, rfl⟩ : ∃ t1 u1, v = .iface t1 u1 := by cases hv <;> exact ⟨_, _, rfl⟩
    go_wp2
    exact ⟨_, by rw [hn]; exact Nat.add_lt_add_right (by omega : 2 * k < 2 * (k + 1)) _, trivial, _, _, _, _, _, _, _, _, _, _, _, _, _, _, _, _, _, _, _, _, _, _, _, _, _, _, _, _, _, _, _, _, _, _, _, _, _, _, _, _, _, _, _, _, _, _, _, _, _, _, _, _, _, _, _, _, _, _, _, hv, rfl, rfl⟩
end Go.Proofs.YtkfkifgfnlaceaaDoor

