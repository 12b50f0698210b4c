import Derived.Test.YtkfkifgfnlaceaaDoorAs4
set_option linter.unusedVariables false
namespace Go.Proofs.YtkfkifgfnlaceaaDoor
open Go.RowKit Go.Extern.Stop Go.Stop Go.Extern

/-! errors.Is at a wrapped error's own number. (Own work.) -/
theorem AsI.methodComparable (h : Value) (w : World) : (Go.method 302 99 (.agg #[h]) "Comparable").run Tryd.prog w = .ok (127, .agg #[h]) w := by kernel_rfl
theorem AsI.comparable28 (w : World) : (ReflectliteType.method (fun t => do Rtype.noPackHeld "Comparable" t; (fun a : TypeInfo => Value.bool a.comparable) <$> typeInfo t) #[.agg #[.pointer (some ⟨14, 28, none⟩)]]).run Tryd.prog w = .ok (.bool true) w := by kernel_rfl
@[go_sem] theorem AsI.noIs67 (v : Value) (xT : TypeId) (w : World) : (Instr.typeAssert (.iface 67 v) xT 111 true).run Tryd.prog w = .ok (.tuple #[.nilIface, .bool false]) w := run_typeAssert_lacksB Tryd.underlying111 (by kernel_rfl) (by kernel_rfl) v xT w
@[go_sem] theorem AsI.noIs39 (v : Value) (xT : TypeId) (w : World) : (Instr.typeAssert (.iface 39 v) xT 111 true).run Tryd.prog w = .ok (.tuple #[.nilIface, .bool false]) w := run_typeAssert_lacksB Tryd.underlying111 (by kernel_rfl) (by kernel_rfl) v xT w
theorem AsI.eq28 (n : Int) (w : World) : (binOp .eql 30 (.iface 28 (.int .i64 n)) (.iface 28 (.int .i64 n))).run Tryd.prog w = .ok (.bool true) w := by
  have hi := Tryd.underlying30
  have h28 := Tryd.underlying28
  obtain ⟨i, hi2, hc⟩ : ∃ i, Tryd.prog.info? 28 = some i ∧ i.comparable = true := by
    have h : (Tryd.prog.info? 28).map (·.comparable) = some true := by kernel_rfl
    obtain ⟨i, h1, h2⟩ := Option.map_eq_some_iff.1 h
    exact ⟨i, h1, h2⟩
  have h : ∀ d : Nat, (Op.equalIn (d + 2) 30 (.iface 28 (.int .i64 n)) (.iface 28 (.int .i64 n))).run Tryd.prog w = .ok true w := fun d => by simp [Op.equalIn, run_underlying hi, run_underlying h28, typeInfo, hi2, hc]
  simp only [binOp]
  simp [Op.equal, Op.maxDepth, h 9998]
set_option maxHeartbeats 4000000 in
set_option maxRecDepth 100000 in
theorem is_chain (e0 : Value) (p : Option Addr) (n0 : Int) (k : Nat) (w : World) (hc0 : RCh w e0 p n0 k) :
    Calls Tryd.prog 19 #[e0, .iface 28 (.int .i64 n0)] w fun ev w' => ev = .returned (.bool true) ∧ w' = w := by
  have h10 := @run_callFunc_extern Tryd.prog 36 _ ReflectliteType.typeOf Tryd.func36 (by kernel_rfl) (by kernel_rfl) (by kernel_rfl) (by kernel_rfl)
  have h12 := @run_callFunc_extern Tryd.prog 127 _ (ReflectliteType.method (fun t => do Rtype.noPackHeld "Comparable" t; pure (.bool (← typeInfo t).comparable))) Tryd.func127 (by kernel_rfl) (by kernel_rfl) (by kernel_rfl) (by kernel_rfl)
  have c28 := AsI.comparable28
  have tO28 := As.typeOf28
  have eq28 := AsI.eq28 n0
  have eq39 := fun v w => run_eql_iface_types (P := Tryd.prog) 39 28 v (.int .i64 n0) Tryd.underlying30 (by decide) w
  have eq67 := fun v w => run_eql_iface_types (P := Tryd.prog) 67 28 v (.int .i64 n0) Tryd.underlying30 (by decide) w
  have mC := AsI.methodComparable
  have mU := As.methodUnwrap67
  have mU2 := As.methodUnwrap39
  obtain ⟨t0, u0, rfl⟩ : ∃ t0 u0, e0 = .iface t0 u0 := by cases hc0 <;> exact ⟨_, _, rfl⟩
  go_enter Tryd.func19, Tryd.ntmps19
  go_wp2
  refine Go.Abs.wp_loop_rank (fun n a w' => w' = w ∧ ∃ e x3 x4 x5 x7 x8 x9 x10 x11 x12 x13 x14 x15 x16 x17 x18 x19 x20 x21 x22 x23 x24 x25 x26 x27 x28 x29 x30 x31 x32 x33 x34 x35 x36 x37 x38 x39 x40 x41 x42 x43 x44 x45 x46 x47 x48 x49 x50 x51 x52 x53 p' k', RCh w e p' n0 k' ∧ n = 2 * k' + (if p'.isSome then 1 else 0) ∧ a = ⟨#[e, .iface 28 (.int .i64 n0), .bool true, x3, x4, x5, .bool false, x7, x8, x9, x10, x11, x12, x13, x14, x15, x16, x17, x18, x19, x20, x21, x22, x23, x24, x25, x26, x27, x28, x29, x30, x31, x32, x33, x34, x35, x36, x37, x38, x39, x40, x41, x42, x43, x44, x45, x46, x47, x48, x49, x50, x51, x52, x53], []⟩) ⟨_, rfl, _, _, _, _, _, _, _, _, _, _, _, _, _, _, _, _, _, _, _, _, _, _, _, _, _, _, _, _, _, _, _, _, _, _, _, _, _, _, _, _, _, _, _, _, _, _, _, _, _, _, _, p, k, hc0, rfl, rfl⟩ ?_
  rintro n a w' ⟨rfl, e, x3, x4, x5, x7, x8, x9, x10, x11, x12, x13, x14, x15, x16, x17, x18, x19, x20, x21, x22, x23, x24, x25, x26, x27, x28, x29, x30, x31, x32, x33, x34, x35, x36, x37, x38, x39, x40, x41, x42, x43, x44, x45, x46, x47, x48, x49, x50, x51, x52, x53, p', k', hch, hn, rfl⟩
  cases hch with
  | code n =>
    go_wp2
    go_ret
    exact ⟨rfl, rfl⟩
  | spot b n h =>
    go_wp2
    exact ⟨0, by rw [hn]; simp, trivial, _, _, _, _, _, _, _, _, _, _, _, _, _, _, _, _, _, _, _, _, _, _, _, _, _, _, _, _, _, _, _, _, _, _, _, _, _, _, _, _, _, _, _, _, _, _, _, _, _, _, _, none, 0, .code _, rfl, rfl⟩
  | wrap b v p n k h hv =>
    obtain ⟨t1, u1, rfl⟩ : ∃ t1 u1, v = .iface t1 u1 := by cases hv <;> exact ⟨_, _, rfl⟩
    go_wp2
    exact ⟨_, by rw [hn]; exact Nat.add_lt_add_right (by omega : 2 * k < 2 * (k + 1)) _, trivial, _, _, _, _, _, _, _, _, _, _, _, _, _, _, _, _, _, _, _, _, _, _, _, _, _, _, _, _, _, _, _, _, _, _, _, _, _, _, _, _, _, _, _, _, _, _, _, _, _, _, _, _, _, hv, rfl, rfl⟩
end Go.Proofs.YtkfkifgfnlaceaaDoor
