import Derived.Test.YtkfkifgfnlaceaaDoorAs
set_option linter.unusedVariables false
namespace Go.Proofs.YtkfkifgfnlaceaaDoor
open Go.RowKit Go.Extern.Stop Go.Stop Go.Extern

/-! errors.As at a Code that is no *Spot: a miss. (Own work, after the walk of the hit.) -/
theorem As.typeOf28 (v : Value) (w : World) : (ReflectliteType.typeOf #[.iface 28 v]).run Tryd.prog w = .ok (.iface 99 (.agg #[.pointer (some ⟨14, 28, none⟩)])) w := by kernel_rfl
theorem As.assignable28 (w : World) : (ReflectliteType.relation "AssignableTo" ReflectliteType.assignableTo #[.agg #[.pointer (some ⟨14, 28, none⟩)], .iface 99 (.agg #[.pointer (some ⟨14, 39, none⟩)])]).run Tryd.prog w = .ok (.bool false) w := by kernel_rfl
@[go_sem] theorem As.noAs28 (v : Value) (xT : TypeId) (w : World) : (Instr.typeAssert (.iface 28 v) xT 103 true).run Tryd.prog w = .ok (.tuple #[.nilIface, .bool false]) w := run_typeAssert_lacksB Tryd.underlying103 (by kernel_rfl) (by kernel_rfl) v xT w
@[go_sem] theorem As.noUnwrap28 (v : Value) (xT : TypeId) (w : World) : (Instr.typeAssert (.iface 28 v) xT 106 true).run Tryd.prog w = .ok (.tuple #[.nilIface, .bool false]) w := run_typeAssert_lacksB Tryd.underlying106 (by kernel_rfl) (by kernel_rfl) v xT w
@[go_sem] theorem As.noUnwraps28 (v : Value) (xT : TypeId) (w : World) : (Instr.typeAssert (.iface 28 v) xT 108 true).run Tryd.prog w = .ok (.tuple #[.nilIface, .bool false]) w := run_typeAssert_lacksB Tryd.underlying108 (by kernel_rfl) (by kernel_rfl) v xT w

set_option maxHeartbeats 4000000 in
theorem as_miss (n : Value) (t : Addr) (old : Value) (w : World) (hg : w.cell? ⟨0, 0, none⟩ = some (.iface 99 (.agg #[.pointer (some ⟨14, 30, none⟩)]))) (ht0 : w.cell? t = some old) :
    Calls Tryd.prog 18 #[.iface 28 n, .iface 41 (.pointer (some t))] w fun ev w' => ev = .returned (.bool false) ∧ w' = (((w.alloc (.cells #[.pointer (some t)] 41)).alloc (.cells #[.pointer (some ⟨14, 41, none⟩), .pointer (some ⟨w.heap.size, 0, none⟩), .int .u64 150] 73)).alloc (.cells #[.pointer (some ⟨14, 41, none⟩), .pointer (some ⟨w.heap.size, 0, none⟩), .int .u64 150] 73)) := by
  have h6 := @run_callFunc_extern Tryd.prog 32 _ (fun args => ReflectliteValue.unpack (args.getD 0 (.tuple #[]))) Tryd.func32 (by kernel_rfl) (by kernel_rfl) (by kernel_rfl) (by kernel_rfl)
  have h7 := @run_callFunc_extern Tryd.prog 33 _ (ReflectliteValue.methodAny (ReflectliteValue.valueError "reflectlite.Value.Type" 0) (fun t _ _ _ => ReflectliteType.toType t)) Tryd.func33 (by kernel_rfl) (by kernel_rfl) (by kernel_rfl) (by kernel_rfl)
  have h8 := @run_callFunc_extern Tryd.prog 34 _ (ReflectliteValue.method (ReflectliteValue.valueError "reflectlite.Value.IsNil" 0) ReflectliteValue.isNil) Tryd.func34 (by kernel_rfl) (by kernel_rfl) (by kernel_rfl) (by kernel_rfl)
  have h27 := @run_callFunc_extern Tryd.prog 115 _ (ReflectliteType.abiMethod fun t => do pure (.int .u8 (← Rtype.kind t))) Tryd.func115 (by kernel_rfl) (by kernel_rfl) (by kernel_rfl) (by kernel_rfl)
  have h37 := @run_callFunc_extern Tryd.prog 128 _ (ReflectliteType.method ReflectliteType.elem) Tryd.func128 (by kernel_rfl) (by kernel_rfl) (by kernel_rfl) (by kernel_rfl)
  have h38 := @run_callFunc_extern Tryd.prog 129 _ (ReflectliteType.relation "Implements" ReflectliteType.implements_) Tryd.func129 (by kernel_rfl) (by kernel_rfl) (by kernel_rfl) (by kernel_rfl)
  have h10 := @run_callFunc_extern Tryd.prog 36 _ ReflectliteType.typeOf Tryd.func36 (by kernel_rfl) (by kernel_rfl) (by kernel_rfl) (by kernel_rfl)
  have h35 := @run_callFunc_extern Tryd.prog 126 _ (ReflectliteType.relation "AssignableTo" ReflectliteType.assignableTo) Tryd.func126 (by kernel_rfl) (by kernel_rfl) (by kernel_rfl) (by kernel_rfl)
  have tO := As.typeOf28
  have mA := As.methodAssignableTo
  have a25 := As.assignable28
  have f6 := As.valueOf27
  have f7 := As.type27
  have mK := As.methodKind
  have mE := As.methodElem
  have mI := As.methodImplements
  have k27 := As.kind27
  have k25 := As.kind25
  have e27 := As.elem27
  have i25 := As.implements25
  have n1 := As.noAs28
  have n2 := As.noUnwrap28
  have n3 := As.noUnwraps28
  have n8 := As.isNil27 ⟨w.heap.size, 0, none⟩ t ((w.alloc (.cells #[.pointer (some t)] 41)).alloc (.cells #[.pointer (some ⟨14, 41, none⟩), .pointer (some ⟨w.heap.size, 0, none⟩), .int .u64 150] 73)) (by simp)
  have hlt : 0 < w.heap.size := by
    rcases Nat.eq_zero_or_pos w.heap.size with h0 | h
    · simp [World.cell?, h0] at hg
    · exact h
  have hg2 : ((w.alloc (.cells #[.pointer (some t)] 41)).alloc (.cells #[.pointer (some ⟨14, 41, none⟩), .pointer (some ⟨w.heap.size, 0, none⟩), .int .u64 150] 73)).cell? ⟨0, 0, none⟩ = some (.iface 99 (.agg #[.pointer (some ⟨14, 30, none⟩)])) := by
    rw [World.cell?_alloc_lt _ _ ⟨0, 0, none⟩ (by simp), World.cell?_alloc_lt _ _ ⟨0, 0, none⟩ hlt]; exact hg
  go_enter Tryd.func18, Tryd.ntmps18
  go_wp2
  refine wp_loop_rounds 1 ?_
  rw [rounds_succ]
  go_wp2
  go_ret
  exact ⟨rfl, rfl⟩
end Go.Proofs.YtkfkifgfnlaceaaDoor
