/-
  The model's operations, turned into the small language; that each does what its weakest precondition says: part 9, comparisons. (Own work; seat-independent.)
-/
import Derived.Test.YtbifjffjibnjjaaDoorAbsJ
set_option linter.unusedVariables false
set_option linter.unusedSimpArgs false
namespace Go.Abs
open Go

def scalTy (P : Program) (t : TypeId) : SK → Bool
  | .int => (match P.underlying t with | some (.int _) => true | _ => false)
  | .bool => (match P.underlying t with | some .bool => true | _ => false)
  | .str => (match P.underlying t with | some .string => true | _ => false)

/-- Are the fields, from place j on, one cell each, in order, of these kinds? -/
def plainFields (P : Program) : Nat → List SK → List Field → Bool
  | _, [], [] => true
  | j, k :: ks, f :: fs => f.offset == j && f.name != "_" && scalTy P f.type k && plainFields P (j + 1) ks fs
  | _, _, _ => false

def EqOk (P : Program) (t : TypeId) : EqK → Prop
  | .bool => P.underlying t = some .bool
  | .ptr => ∃ e, P.underlying t = some (.pointer e)
  | .ifc => ∃ ms, P.underlying t = some (.interface ms)
  | .sl => ∃ e, P.underlying t = some (.slice e)
  | .mp => ∃ k e, P.underlying t = some (.map k e)
  | .fn => ∃ a b c, P.underlying t = some (.func a b c)
  | .struct ks => P.underlying t = some (.struct (P.fieldsOf t)) ∧ P.stoodInHeld t = false ∧ P.eqGuardType P.depth t = false ∧ plainFields P 0 ks (P.fieldsOf t).toList = true
  | .other => True

def isConstOp : Operand → Bool
  | .const _ => true
  | _ => false

section
variable {P : Program} {o : Oper}

theorem run_eqFields {w : World} {F : Nat → Nat → Prop} (d : Nat) {as bs : List V} {us vs : List Value} (hl : as.length = us.length) (hm : bs.length = vs.length)
    (ha : ∀ (i : Nat) c u, as[i]? = some c → us[i]? = some u → RepV w F c u) (hb : ∀ (i : Nat) c u, bs[i]? = some c → vs[i]? = some u → RepV w F c u) :
    ∀ (ks : List SK) (fs : List Field) (j : Nat) (r : Bool), plainFields P j ks fs = true → eqCells ks (as.drop j) (bs.drop j) = some r →
      (Op.eqFields (d + 1) us.toArray vs.toArray fs).run P w = .ok r w
  | [], [], j, r, _, hr => by
    cases hbj : bs.drop j with
    | nil => cases haj : as.drop j with
      | nil => rw [hbj, haj] at hr; simp [eqCells] at hr; subst hr; simp [Op.eqFields]
      | cons a l => rw [haj] at hr; simp [eqCells] at hr
    | cons b l => rw [hbj] at hr; simp [eqCells] at hr
  | [], f :: fs, j, r, hp, _ => by simp [plainFields] at hp
  | k :: ks, [], j, r, hp, _ => by simp [plainFields] at hp
  | k :: ks, f :: fs, j, r, hp, hr => by
    simp only [plainFields, Bool.and_eq_true, beq_iff_eq, bne_iff_ne, ne_eq] at hp
    obtain ⟨⟨⟨hoff, hname⟩, hsc⟩, hrest⟩ := hp
    have hj : j < as.length := by
      rcases Nat.lt_or_ge j as.length with h | h
      · exact h
      · rw [List.drop_eq_nil_of_le h] at hr; cases k <;> simp [eqCells] at hr
    have hjb : j < bs.length := by
      rcases Nat.lt_or_ge j bs.length with h | h
      · exact h
      · rw [List.drop_eq_nil_of_le h] at hr; cases k <;> (cases as.drop j <;> simp [eqCells] at hr)
    obtain ⟨x, hx⟩ : ∃ x, as[j]? = some x := ⟨_, List.getElem?_eq_getElem hj⟩
    obtain ⟨y, hy⟩ : ∃ y, bs[j]? = some y := ⟨_, List.getElem?_eq_getElem hjb⟩
    have hdx : as.drop j = x :: as.drop (j + 1) := by
      rw [List.drop_eq_getElem_cons hj]
      congr 1
      exact Option.some.inj ((List.getElem?_eq_getElem hj).symm.trans hx)
    have hdy : bs.drop j = y :: bs.drop (j + 1) := by
      rw [List.drop_eq_getElem_cons hjb]
      congr 1
      exact Option.some.inj ((List.getElem?_eq_getElem hjb).symm.trans hy)
    obtain ⟨u, hu⟩ : ∃ u, us[j]? = some u := ⟨_, List.getElem?_eq_getElem (by omega)⟩
    obtain ⟨v, hv⟩ : ∃ v, vs[j]? = some v := ⟨_, List.getElem?_eq_getElem (by omega)⟩
    have rx := ha j x u hx hu
    have ry := hb j y v hy hv
    rw [hdx, hdy] at hr
    have hpart : ∀ (ws : List Value) (v : Value), ws[j]? = some v → (part f.type ws.toArray f.offset).run P w = .ok v w := by
      intro ws v hv
      rw [hoff]
      cases k <;> simp only [scalTy] at hsc <;> split at hsc <;> first
        | (rename_i hu; simp [part, isAgg, run_underlying hu, hv]; done)
        | cases hsc
    have hpa := hpart us _ hu
    have hpb := hpart vs _ hv
    have step : ∀ (q : Bool), (match eqCells ks (as.drop (j + 1)) (bs.drop (j + 1)) with | some z => some (q && z) | none => none) = some r → (Op.equalIn (d + 1) f.type u v).run P w = .ok q w →
        (Op.eqFields (d + 1) us.toArray vs.toArray (f :: fs)).run P w = .ok r w := by
      intro q hq heq
      cases hrs : eqCells ks (as.drop (j + 1)) (bs.drop (j + 1)) with
      | none => rw [hrs] at hq; cases hq
      | some rest =>
        rw [hrs] at hq
        have ih := run_eqFields d hl hm ha hb ks fs (j + 1) rest hrest hrs
        simp only [Op.eqFields, ne_eq, hname, not_false_eq_true, if_true, Sem.run_bind, hpa, hpb, Result.andThen_ok, heq]
        have hq' : r = (q && rest) := (Option.some.inj hq).symm
        cases q with
        | true => simpa [hq'] using ih
        | false => simp [hq']
    cases k <;> cases x <;> (try (simp [eqCells] at hr; done)) <;> cases y <;> (try (simp [eqCells] at hr; done))
    · simp only [eqCells] at hr
      split at hr
      · rename_i hkk
        subst hkk
        cases rx; cases ry
        refine step _ hr ?_
        simp only [scalTy] at hsc
        split at hsc
        · rename_i hu; exact run_equalIn_int w d f.type _ _ _ _ hu
        · cases hsc
      · cases hr
    · simp only [eqCells] at hr
      cases rx; cases ry
      refine step _ hr ?_
      simp only [scalTy] at hsc
      split at hsc
      · rename_i hu; exact run_equalIn_bool' w d f.type _ _ hu
      · cases hsc
    · simp only [eqCells] at hr
      cases rx; cases ry
      refine step _ hr ?_
      simp only [scalTy] at hsc
      split at hsc
      · rename_i hu
        rw [run_equalIn_string w d f.type _ _ hu]
        simp [toList_eq_data]
      · cases hsc

theorem eqIn_ptr (w : World) (d : Nat) (t e : TypeId) (hk : P.underlying t = some (.pointer e)) (b : Option Addr) : (Op.equalIn (d + 1) t (.pointer none) (.pointer b)).run P w = .ok b.isNone w := by
  simp [Op.equalIn, run_underlying hk]
theorem eqIn_ptr' (w : World) (d : Nat) (t e : TypeId) (hk : P.underlying t = some (.pointer e)) (b : Addr) : (Op.equalIn (d + 1) t (.pointer (some b)) (.pointer none)).run P w = .ok false w := by
  simp [Op.equalIn, run_underlying hk]
theorem eqIn_nn (w : World) (d : Nat) (t : TypeId) (ms : Array (String × TypeId)) (hk : P.underlying t = some (.interface ms)) : (Op.equalIn (d + 1) t .nilIface .nilIface).run P w = .ok true w := by
  simp [Op.equalIn, run_underlying hk]
theorem eqIn_ni (w : World) (d : Nat) (t : TypeId) (ms : Array (String × TypeId)) (hk : P.underlying t = some (.interface ms)) (u : TypeId) (v : Value) : (Op.equalIn (d + 1) t .nilIface (.iface u v)).run P w = .ok false w := by
  simp [Op.equalIn, run_underlying hk]
theorem eqIn_in (w : World) (d : Nat) (t : TypeId) (ms : Array (String × TypeId)) (hk : P.underlying t = some (.interface ms)) (u : TypeId) (v : Value) : (Op.equalIn (d + 1) t (.iface u v) .nilIface).run P w = .ok false w := by
  simp [Op.equalIn, run_underlying hk]
theorem eqIn_ne (w : World) (d : Nat) (t : TypeId) (ms : Array (String × TypeId)) (hk : P.underlying t = some (.interface ms)) (u u' : TypeId) (v v' : Value) (h : u ≠ u') : (Op.equalIn (d + 1) t (.iface u v) (.iface u' v')).run P w = .ok false w := by
  simp [Op.equalIn, run_underlying hk, h]
theorem eqIn_ii (w : World) (d : Nat) (t : TypeId) (ms : Array (String × TypeId)) (hk : P.underlying t = some (.interface ms)) (u : TypeId) (i : TypeInfo) (hi : P.info? u = some i) (hc : i.comparable = true) (v v' : Value) :
    (Op.equalIn (d + 1) t (.iface u v) (.iface u v')).run P w = (Op.equalIn d u v v').run P w := by
  simp [Op.equalIn, run_underlying hk, typeInfo, hi, hc]
theorem eqIn_mn (w : World) (d : Nat) (t p q : TypeId) (hk : P.underlying t = some (.map p q)) (b : Option Nat) : (Op.equalIn (d + 1) t (.map b) (.map none)).run P w = .ok b.isNone w := by
  cases b <;> simp [Op.equalIn, run_underlying hk]
theorem eqIn_ff (w : World) (d : Nat) (t : TypeId) (p q : Array TypeId) (r : Bool) (hk : P.underlying t = some (.func p q r)) : (Op.equalIn (d + 1) t .nilFunc .nilFunc).run P w = .ok true w := by
  simp [Op.equalIn, run_underlying hk]
theorem eqIn_fn (w : World) (d : Nat) (t : TypeId) (p q : Array TypeId) (r : Bool) (hk : P.underlying t = some (.func p q r)) (f : Fn) (x y : Array Value) : (Op.equalIn (d + 1) t (.func f x y) .nilFunc).run P w = .ok false w := by
  simp [Op.equalIn, run_underlying hk]

theorem run_intCmp_eq {op : BinOp} {t : TypeId} (x y : Operand) {w : World} (k : IntKind) (a b : Int) : (eqGuard op t x y (.int k a) (.int k b)).run P w = .ok () w := by
  cases op <;> simp [eqGuard]

theorem ok_bin {op : BinOp} {t t' : TypeId} {x y : Operand} {ex ey : E} {k : EqK} (ho : o.op = .binOp op t x y t') (hx : cE x = some ex) (hy : cE y = some ey) (hk : EqOk P t k) : OpOk P o (.bin op k (isConstOp x || isConstOp y) ex ey) := by
  refine .of_runs fun σ m w a s K hI hE hW => ?_
  have hr := ev_rep hE hx
  have hry := ev_rep hE hy
  simp only [WOp] at hW
  generalize ev s ex = dx at hW hr
  generalize ev s ey = dy at hW hry
  have fin : ∀ (v : V) (u : Value), (binOp op t (a.eval x) (a.eval y)).run P w = .ok u w → (eqGuard op t x y (a.eval x) (a.eval y)).run P w = .ok () w → RepV w (Fz m w) v u → K (.v v) σ → Runs1 P o σ m w a K := by
    intro v u h1 h2 h3 h4
    exact .still hI (by simp only [execOp, ho, Sem.run_bind, h2, Result.andThen_ok, h1, Sem.run_pure]) h4 (.v _ _ h3)
  unfold WBin at hW
  split at hW
  · -- integers
    rename_i p n q n2
    rw [hr.int_inv, hry.int_inv] at fin
    have hg : (eqGuard op t x y (.int p n) (.int q n2)).run P w = .ok () w := by cases op <;> simp [eqGuard]
    unfold WInt at hW
    cases op <;> dsimp only at hW <;> first
      | exact hW.elim
      | (obtain ⟨rfl, hK⟩ := hW; exact fin _ _ (by simp [binOp, Op.intArith, Op.intBits, Op.intCmp] <;> rfl) hg (by first | exact .bool _ | exact .int _ _ (inR_wrap _ _)) hK)
      | (obtain ⟨rfl, hne, hK⟩ := hW; exact fin _ _ (by simp [binOp, Op.intDiv, hne] <;> rfl) hg (.int _ _ (by first | exact inR_wrap _ _ | exact inR_tmod hr.int_r)) hK)
      | (obtain ⟨hpos, hK⟩ := hW; exact fin _ _ (by simp [binOp, Op.shift, show ¬ (n2 < 0) by omega] <;> rfl) hg (.int _ _ (by first | exact inR_wrap _ _ | exact inR_fdiv _ hr.int_r)) hK)
  · -- texts
    rename_i l l2
    rw [hr.str_inv, hry.str_inv] at fin
    have hg : (eqGuard op t x y (.string ⟨l.toArray⟩) (.string ⟨l2.toArray⟩)).run P w = .ok () w := by cases op <;> simp [eqGuard]
    have e1 : (⟨l.toArray⟩ : ByteArray).toList = l := by rw [toList_eq_data]
    have e2 : (⟨l2.toArray⟩ : ByteArray).toList = l2 := by rw [toList_eq_data]
    unfold WStr at hW
    cases op <;> dsimp only at hW <;> first
      | exact hW.elim
      | (refine fin _ _ ?_ hg (.bool _) hW; simp [binOp, Op.stringOp, e1, e2] <;> rfl)
      | (obtain ⟨hlen, hK⟩ := hW
         refine fin _ _ ?_ hg (.str _ (by simp [maxLen]; omega)) hK
         have hsz : ¬ (((⟨l.toArray⟩ : ByteArray).size + (⟨l2.toArray⟩ : ByteArray).size : Nat) : Int) > IntKind.i64.max := by
           have h1 : (⟨l.toArray⟩ : ByteArray).size = l.length := by simp [ByteArray.size]
           have h2 : (⟨l2.toArray⟩ : ByteArray).size = l2.length := by simp [ByteArray.size]
           rw [h1, h2]
           have : IntKind.i64.max = 9223372036854775807 := by decide
           omega
         simp only [binOp, Op.stringOp, hsz, if_false, Sem.run_pure]
         have hap : (⟨l.toArray⟩ : ByteArray) ++ ⟨l2.toArray⟩ = ⟨(l ++ l2).toArray⟩ := by
           apply ByteArray.ext
           apply Array.ext'
           simp [ByteArray.data_append]
         rw [hap])
  · -- all else
    rename_i hni hns
    generalize hux : a.eval x = u at hr fin
    generalize huy : a.eval y = v at hry fin
    have key : ∀ (B : Bool → Prop), (op = .eql ∧ B = fun b => K (.v (.bool b)) σ) ∨ (op = .neq ∧ B = fun b => K (.v (.bool (!b))) σ) → WEq P k (isConstOp x || isConstOp y) dx dy B → Runs1 P o σ m w a K := by
      intro B hB hW
      have done : ∀ (r : Bool), B r → (Op.equal t u v).run P w = .ok r w → (eqGuard .eql t x y u v).run P w = .ok () w → (eqGuard .neq t x y u v).run P w = .ok () w →
          (binOp .eql t u v).run P w = ((Op.equal t u v).run P w).andThen (fun b w => .ok (.bool b) w) → (binOp .neq t u v).run P w = ((Op.equal t u v).run P w).andThen (fun b w => .ok (.bool (!b)) w) → Runs1 P o σ m w a K := by
        intro r hr h1 h2 h3 h4 h5
        rw [h1] at h4 h5
        rcases hB with ⟨rfl, rfl⟩ | ⟨rfl, rfl⟩
        · exact fin (.bool r) (.bool r) h4 h2 (.bool r) hr
        · exact fin (.bool (!r)) (.bool (!r)) h5 h3 (.bool _) hr
      unfold WEq at hW
      split at hW
      · obtain ⟨rfl, hb⟩ := hW
        have e1 := hr.bool_inv
        have e2 := hry.bool_inv
        subst e1 e2
        exact done _ hb (run_equal_bool w t _ _ hk) (by simp [eqGuard]) (by simp [eqGuard]) (by simp [binOp]) (by simp [binOp])
      · obtain ⟨rfl, hb⟩ := hW
        obtain ⟨e, hk⟩ := hk
        cases hr.v_inv; cases hry.v_inv
        exact done _ hb (eqIn_ptr w 9999 t e hk _) (by simp [eqGuard]) (by simp [eqGuard]) (by simp [binOp]) (by simp [binOp])
      · obtain ⟨rfl, hb⟩ := hW
        obtain ⟨e, hk⟩ := hk
        cases hr.v_inv; cases hry
        exact done _ hb (eqIn_ptr w 9999 t e hk _) (by simp [eqGuard]) (by simp [eqGuard]) (by simp [binOp]) (by simp [binOp])
      · obtain ⟨rfl, hb⟩ := hW
        obtain ⟨e, hk⟩ := hk
        cases hry.v_inv; cases hr
        exact done _ hb (eqIn_ptr' w 9999 t e hk _) (by simp [eqGuard]) (by simp [eqGuard]) (by simp [binOp]) (by simp [binOp])
      · obtain ⟨rfl, hb⟩ := hW
        obtain ⟨e, hk⟩ := hk
        cases hr.v_inv; cases hry
        exact done _ hb (eqIn_ptr w 9999 t e hk _) (by simp [eqGuard]) (by simp [eqGuard]) (by simp [binOp]) (by simp [binOp])
      · obtain ⟨rfl, hb⟩ := hW
        obtain ⟨e, hk⟩ := hk
        cases hry.v_inv; cases hr
        exact done _ hb (eqIn_ptr' w 9999 t e hk _) (by simp [eqGuard]) (by simp [eqGuard]) (by simp [binOp]) (by simp [binOp])
      · obtain ⟨rfl, hb⟩ := hW
        obtain ⟨e, hk⟩ := hk
        cases hr.v_inv; cases hry.v_inv
        exact done _ hb (eqIn_ptr w 9999 t e hk _) (by simp [eqGuard]) (by simp [eqGuard]) (by simp [binOp]) (by simp [binOp])
      · obtain ⟨rfl, hb⟩ := hW
        obtain ⟨e, hk⟩ := hk
        cases hr.v_inv; cases hry.v_inv
        exact done _ hb (eqIn_ptr' w 9999 t e hk _) (by simp [eqGuard]) (by simp [eqGuard]) (by simp [binOp]) (by simp [binOp])
      · obtain ⟨rfl, hb⟩ := hW
        obtain ⟨e, hk⟩ := hk
        cases hr.v_inv; cases hry.v_inv
        exact done _ hb (eqIn_ptr w 9999 t e hk _) (by simp [eqGuard]) (by simp [eqGuard]) (by simp [binOp]) (by simp [binOp])
      · obtain ⟨rfl, hb⟩ := hW
        obtain ⟨e, hk⟩ := hk
        cases hr.v_inv; cases hry.v_inv
        exact done _ hb (eqIn_ptr' w 9999 t e hk _) (by simp [eqGuard]) (by simp [eqGuard]) (by simp [binOp]) (by simp [binOp])
      · obtain ⟨rfl, hc, hb⟩ := hW
        obtain ⟨ms, hk⟩ := hk
        cases hr.v_inv; cases hry.v_inv
        have hcst : isConstOp x = true ∨ isConstOp y = true := by simpa using hc
        have hg : ∀ op, (eqGuard op t x y .nilIface .nilIface).run P w = .ok () w := by
          intro op
          rcases hcst with h | h
          · cases x <;> simp [isConstOp] at h; cases op <;> simp [eqGuard]
          · cases y <;> simp [isConstOp] at h; cases op <;> simp [eqGuard]
        exact done _ hb (eqIn_nn w 9999 t ms hk) (hg _) (hg _) (by simp [binOp]) (by simp [binOp])
      · obtain ⟨rfl, hb⟩ := hW
        obtain ⟨ms, hk⟩ := hk
        cases hr.v_inv; cases hry.v_inv
        exact done _ hb (eqIn_ni w 9999 t ms hk _ _) (by simp [eqGuard]) (by simp [eqGuard]) (by simp [binOp]) (by simp [binOp])
      · obtain ⟨rfl, hb⟩ := hW
        obtain ⟨ms, hk⟩ := hk
        cases hr.v_inv; cases hry.v_inv
        exact done _ hb (eqIn_in w 9999 t ms hk _ _) (by simp [eqGuard]) (by simp [eqGuard]) (by simp [binOp]) (by simp [binOp])
      · obtain ⟨rfl, hb⟩ := hW
        obtain ⟨ms, hk⟩ := hk
        cases hr.v_inv; cases hry
        exact done _ hb (eqIn_ni w 9999 t ms hk _ _) (by simp [eqGuard]) (by simp [eqGuard]) (by simp [binOp]) (by simp [binOp])
      · obtain ⟨rfl, hb⟩ := hW
        obtain ⟨ms, hk⟩ := hk
        cases hry.v_inv; cases hr
        exact done _ hb (eqIn_in w 9999 t ms hk _ _) (by simp [eqGuard]) (by simp [eqGuard]) (by simp [binOp]) (by simp [binOp])
      · rename_i t1 p1 a1 t2 p2 a2 _
        obtain ⟨rfl, hb1, hb2⟩ := hW
        obtain ⟨ms, hk⟩ := hk
        have h1 := hr.v_inv
        have h2 := hry.v_inv
        cases h1 with
        | iface _ _ u1 h1 =>
        cases h2 with
        | iface _ _ u2 h2 =>
        cases h1
        cases h2
        by_cases ht : t1 = t2
        · obtain ⟨rfl, hint, hb⟩ := hb2 ht
          subst ht
          unfold intTy at hint
          split at hint
          · rename_i i k' hi hu'
            refine done _ hb ?_ (by simp [eqGuard]) (by simp [eqGuard]) (by simp [binOp]) (by simp [binOp])
            have e1 := eqIn_ii w 9999 t ms hk t1 i hi hint (.int p1 a1) (.int p1 a2)
            have e2 := run_equalIn_int (P := P) w 9998 t1 p1 k' a1 a2 hu'
            exact e1.trans e2
          · cases hint
        · exact done _ (hb1 ht) (eqIn_ne w 9999 t ms hk _ _ _ _ ht) (by simp [eqGuard]) (by simp [eqGuard]) (by simp [binOp]) (by simp [binOp])
      · obtain ⟨rfl, hb⟩ := hW
        obtain ⟨e, hk⟩ := hk
        cases hr.v_inv; cases hry.v_inv
        exact done _ hb (run_equal_slice_nil w t e none _ _ hk) (by simp [eqGuard]) (by simp [eqGuard]) (by simp [binOp]) (by simp [binOp])
      · obtain ⟨rfl, hb⟩ := hW
        obtain ⟨e, hk⟩ := hk
        obtain ⟨aa, cap, rfl, _, _, _, _, _, hh⟩ := hr.v_inv.sl_inv
        cases hry.v_inv
        have hn : aa.isNone = true → aa.isNone = true := id
        exact done aa.isNone (hb _ fun hne => by rcases hh with ⟨h0, _⟩ | ⟨b, off, us, rfl, _⟩ <;> first | exact absurd h0 hne | rfl) (run_equal_slice_nil w t e aa _ _ hk) (by simp [eqGuard]) (by simp [eqGuard]) (by simp [binOp]) (by simp [binOp])
      · obtain ⟨rfl, hb⟩ := hW
        obtain ⟨e, hk⟩ := hk
        cases hr with
        | tsl tt sh xs aa len cap tk hv _ _ _ _ =>
        obtain ⟨aa', cap', he, _, _, _, _, _, hh⟩ := hv.sl_inv
        cases he
        cases hry.v_inv
        exact done aa.isNone (hb _ fun hne => by rcases hh with ⟨h0, _⟩ | ⟨b, off, us, rfl, _⟩ <;> first | exact absurd h0 hne | rfl) (run_equal_slice_nil w t e aa _ _ hk) (by simp [eqGuard]) (by simp [eqGuard]) (by simp [binOp]) (by simp [binOp])
      · obtain ⟨rfl, hb⟩ := hW
        obtain ⟨e, hk⟩ := hk
        cases hr with
        | msl _ _ _ _ _ aa cap hol hbb hlc hcm hcc =>
        cases hry.v_inv
        exact done aa.isNone (hb _ fun hne => by rcases hbb with ⟨b, rfl, _⟩ | ⟨h0, _⟩ <;> first | rfl | exact absurd h0 hne) (run_equal_slice_nil w t e aa _ _ hk) (by simp [eqGuard]) (by simp [eqGuard]) (by simp [binOp]) (by simp [binOp])
      · obtain ⟨rfl, hb⟩ := hW
        obtain ⟨p, q, hk⟩ := hk
        cases hr.v_inv; cases hry.v_inv
        exact done _ hb (eqIn_mn w 9999 t p q hk none) (by simp [eqGuard]) (by simp [eqGuard]) (by simp [binOp]) (by simp [binOp])
      · obtain ⟨rfl, hb⟩ := hW
        obtain ⟨p, q, hk⟩ := hk
        cases hry.v_inv; cases hr
        exact done _ hb (eqIn_mn w 9999 t p q hk _) (by simp [eqGuard]) (by simp [eqGuard]) (by simp [binOp]) (by simp [binOp])
      · obtain ⟨rfl, hb⟩ := hW
        obtain ⟨p, q, r, hk⟩ := hk
        cases hr.v_inv; cases hry.v_inv
        exact done _ hb (eqIn_ff w 9999 t p q r hk) (by simp [eqGuard]) (by simp [eqGuard]) (by simp [binOp]) (by simp [binOp])
      · obtain ⟨rfl, hb⟩ := hW
        obtain ⟨p, q, r, hk⟩ := hk
        cases hry.v_inv; cases hr
        exact done _ hb (eqIn_fn w 9999 t p q r hk _ _ _) (by simp [eqGuard]) (by simp [eqGuard]) (by simp [binOp]) (by simp [binOp])
      · obtain ⟨rfl, hb⟩ := hW
        obtain ⟨p, q, r, hk⟩ := hk
        cases hry.v_inv; cases hr.v_inv
        exact done _ hb (eqIn_fn w 9999 t p q r hk _ _ _) (by simp [eqGuard]) (by simp [eqGuard]) (by simp [binOp]) (by simp [binOp])
      · rename_i as bs _
        split at hW
        · rename_i ks _
          split at hW
          · rename_i r hr2
            obtain ⟨hk1, hk2, hk3, hk4⟩ := hk
            have h1 := hr.v_inv
            have h2 := hry.v_inv
            cases h1 with
            | agg _ us hl _ hrr =>
            cases h2 with
            | agg _ vs hl2 _ hrr2 =>
            have he := run_eqFields (P := P) (w := w) 9998 hl hl2 hrr hrr2 ks (P.fieldsOf t).toList 0 r hk4 (by simpa using hr2)
            refine done _ hW ?_ (run_eqGuard_agg w .eql t x y _ _ hk3) (run_eqGuard_agg w .neq t x y _ _ hk3) (by simp [binOp]) (by simp [binOp])
            show (Op.equalIn (9999 + 1) t _ _).run P w = _
            rw [run_equalIn_struct w 9999 t _ _ hk1 hk2]
            exact he
          · exact hW.elim
        · exact hW.elim
      · exact hW.elim
    split at hW
    · exact key _ (.inl ⟨rfl, rfl⟩) hW
    · exact key _ (.inr ⟨rfl, rfl⟩) hW
    · exact hW.elim

end
end Go.Abs
