/-
  The model's operations, turned into the small language; that each does what its weakest precondition says: part 10, maps. (Own work; seat-independent.)
-/
import Derived.Test.YtbifjffjibnjjaaDoorAbsK
import Derived.ChangeMaps4
import Derived.WideKeyRuns
import Derived.Maps.RangeRun
set_option linter.unusedVariables false
set_option linter.unusedSimpArgs false
namespace Go.Abs
open Go

/-- An object's block gets another content. -/
def World.setAt (w : World) (b : Nat) (o : Obj) : World := { w with heap := w.heap.setIfInBounds b o }
theorem setAt_other (w : World) {b c : Nat} (o : Obj) (h : c ≠ b) : (World.setAt w b o).heap[c]? = w.heap[c]? := by
  simp only [World.setAt, Array.getElem?_setIfInBounds]
  rw [if_neg (Ne.symm h)]
theorem setAt_same {w : World} {b : Nat} {o0 : Obj} (o : Obj) (h : w.heap[b]? = some o0) : (World.setAt w b o).heap[b]? = some o := by
  have := (Array.getElem?_eq_some_iff.1 h).1
  simp only [World.setAt, Array.getElem?_setIfInBounds, if_true, this]

theorem Ext.setAt {m : Gh} {w : World} {b : Nat} (o : Obj) (hb : b ∈ m.objb) : Ext m w m (World.setAt w b o) := by
  refine ⟨rfl, rfl, rfl, by simp [World.setAt], fun _ _ h => .inl h, fun _ tk h => ⟨tk, h, rfl, Nat.le_refl _, fun _ => rfl⟩, fun c off f => ⟨cell?_of_heap (setAt_other w o ?_), f.2⟩, fun c hc hn => ⟨setAt_other w o ?_, hn⟩⟩
  · rintro rfl; exact f.2 (.inl hb)
  · rintro rfl; exact hn (List.mem_append.2 (.inl hb))

theorem Inv.setAt {σ : Sg} {m : Gh} {w : World} (h : Inv σ m w) {o b : Nat} (hb : m.objs[o]? = some (some b)) (x : Obj) (ob : Ob)
    (r : ObRep m (World.setAt w b x) ob b) : Inv (σ.put o ob) m (World.setAt w b x) := by
  have hmem : b ∈ m.objb := Gh.mem_objb.2 (List.mem_of_getElem? hb)
  have e := Ext.setAt (m := m) (w := w) x hmem
  have nd : m.objb.Nodup := (List.nodup_append.1 h.nodup).1
  refine ⟨by simp [Sg.put, h.lobj], h.ltok, h.nodup, fun i ob' c hi hc => ?_, fun i hi => ?_, fun tk htk => ?_, h.glob.mono e⟩
  · simp only [Sg.put, List.getElem?_set] at hi
    by_cases hio : o = i
    · subst hio
      have hcb : c = b := Option.some.inj (Option.some.inj (hc.symm.trans hb))
      subst hcb
      simp only [if_true] at hi
      split at hi
      · cases hi; exact r
      · cases hi
    · rw [if_neg hio] at hi
      have hcb : c ≠ b := by
        rintro rfl
        exact hio (objb_inj nd hb hc)
      exact (h.ob i ob' c hi hc).mono e (setAt_other w x hcb)
  · have hio : o ≠ i := by
      rintro rfl
      rw [hb] at hi
      cases hi
    simp only [Sg.put, List.getElem?_set]
    rw [if_neg hio]
    exact h.gone i hi
  · obtain ⟨h1, h2, h3, h4⟩ := h.tk tk htk
    refine ⟨h1, h2, h3, fun c hbo => ?_⟩
    have hne : c ≠ b := by
      rintro rfl
      exact (List.nodup_append.1 h.nodup).2.2 c hmem c (Gh.mem_ownb.2 ⟨tk, htk, hbo⟩) rfl
    rw [setAt_other w x hne]
    exact h4 c hbo

def kkTy (P : Program) (t : TypeId) : KK → Prop
  | .int k => P.underlying t = some (.int k)
  | .str => P.underlying t = some .string
  | .pair _ => P.underlying t = some (.struct (P.fieldsOf t)) ∧ P.stoodInHeld t = false ∧ plainFields P 0 [.int, .str] (P.fieldsOf t).toList = true
def kkDesc : KK → TypeDesc
  | .int k => .int k
  | .str => .string
  | .pair _ => .string
def KK.scal : KK → Bool
  | .pair _ => false
  | _ => true
theorem kkTy_desc {P : Program} {t : TypeId} {kk : KK} (hs : kk.scal = true) (h : kkTy P t kk) : P.underlying t = some (kkDesc kk) := by cases kk <;> first | exact h | (simp [KK.scal] at hs)

theorem key_is {w : World} {F : Nat → Nat → Prop} {kk : KK} {x : V} {u : Value} (hs : kk.scal = true) (h : keyOk kk x = true) (r : RepV w F x u) : MapKept.IsKey (kkDesc kk) u := by
  cases kk with
  | pair k => simp [KK.scal] at hs
  | _ => cases r <;> simp [keyOk] at h <;> first | trivial | exact h.symm

theorem key_hit {w : World} {F : Nat → Nat → Prop} {kk : KK} {x y : V} {u : Value} (hs : kk.scal = true) (hx : keyOk kk x = true) (hy : keyOk kk y = true) (r : RepV w F x u) (s : RepV w F y u) : keq x y = true := by
  cases kk with
  | pair k => simp [KK.scal] at hs
  | int k =>
    cases r <;> simp [keyOk] at hx
    cases s <;> simp [keyOk] at hy
    subst hx
    simp [keq]
  | str =>
    cases x with
    | str a =>
      cases y with
      | str b =>
        cases r
        generalize hu : Value.string ⟨a.toArray⟩ = u at s
        cases s
        cases hu
        simp [keq]
      | _ => simp [keyOk] at hy
    | _ => simp [keyOk] at hx
theorem key_same {w : World} {F : Nat → Nat → Prop} {kk : KK} {x y : V} {u v : Value} (hs : kk.scal = true) (hx : keyOk kk x = true) (hy : keyOk kk y = true) (r : RepV w F x u) (s : RepV w F y v) :
    Instr.sameNow (kkDesc kk) u v = some (keq x y) ∧ (keq x y = true → u = v) := by
  cases kk with
  | pair k => simp [KK.scal] at hs
  | int k =>
    cases r <;> simp [keyOk] at hx
    cases s <;> simp [keyOk] at hy
    subst hx hy
    refine ⟨by simp [Instr.sameNow, kkDesc, keq], fun h => ?_⟩
    simp [keq] at h
    rw [h]
  | str =>
    cases r <;> simp [keyOk] at hx
    cases s <;> simp [keyOk] at hy
    rename_i a _ b _
    have e : ((⟨a.toArray⟩ : ByteArray) == ⟨b.toArray⟩) = (a == b) := by
      show (a.toArray == b.toArray) = (a == b)
      simp
    refine ⟨by simp only [Instr.sameNow, kkDesc, keq]; rw [e], fun h => ?_⟩
    simp [keq] at h
    rw [h]

/-- The search among the entries, and what stands for it. -/
theorem find_rep {m : Gh} {w : World} {kk : KK} {x : V} {u : Value} (hs : kk.scal = true) (hx : keyOk kk x = true) (r : RepV w (Fz m w) x u) : ∀ (es : List (V × D)) (ms : List MapEntry) (j : Nat), ms.length = es.length → keysOk kk es = true →
    (∀ (i : Nat) y e, es[i]? = some y → ms[i]? = some e → RepV w (Fz m w) y.1 e.key ∧ RepD m w y.2 e.val) →
    (∃ i y e, es[i]? = some y ∧ ms[i]? = some e ∧ e.key = u ∧ mfind x es = some y.2 ∧ Instr.findNow (kkDesc kk) u ms j = some (some (j + i, e.val)) ∧ ∀ d, mset x d es = es.set i (x, d)) ∨
    (mfind x es = none ∧ Instr.findNow (kkDesc kk) u ms j = some none ∧ (∀ d, mset x d es = es ++ [(x, d)]) ∧ ∀ e ∈ ms, e.key ≠ u)
  | [], [], j, _, _, _ => .inr ⟨rfl, rfl, fun _ => rfl, by simp⟩
  | [], _ :: _, _, h, _, _ => by simp at h
  | _ :: _, [], _, h, _, _ => by simp at h
  | y :: es, e :: ms, j, hl, hk, hr => by
    simp only [keysOk, List.all_cons, Bool.and_eq_true] at hk
    obtain ⟨h1, h2⟩ := hr 0 y e rfl rfl
    obtain ⟨k1, k2⟩ := key_same hs hx hk.1 r h1
    by_cases hq : keq x y.1 = true
    · refine .inl ⟨0, y, e, rfl, rfl, (k2 hq).symm, by simp [mfind, hq], ?_, fun d => by simp [mset, hq]⟩
      simp [Instr.findNow, k1, hq]
    · rw [Bool.not_eq_true] at hq
      rcases find_rep hs hx r es ms (j + 1) (by simpa using hl) hk.2 (fun i y e ha hb => hr (i + 1) y e (by simpa using ha) (by simpa using hb)) with ⟨i, z, f, a1, a2, a3, a4, a5, a6⟩ | ⟨a1, a2, a3, a4⟩
      · refine .inl ⟨i + 1, z, f, by simpa using a1, by simpa using a2, a3, by simp [mfind, hq, a4], ?_, fun d => by simp [mset, hq, a6]⟩
        simp only [Instr.findNow, k1, hq, a5]
        rw [show j + 1 + i = j + (i + 1) by omega]
      · refine .inr ⟨by simp [mfind, hq, a1], by simp [Instr.findNow, k1, hq, a2], fun d => by simp [mset, hq, a3], fun f hf => ?_⟩
        rcases List.mem_cons.1 hf with rfl | hf
        · intro e0
          rw [e0] at h1
          rw [key_hit hs hx hk.1 r h1] at hq
          cases hq
        · exact a4 f hf

/-! Keys that are a number and a text -/
theorem pair_inv {w : World} {F : Nat → Nat → Prop} {k : IntKind} {x : V} {u : Value} (h : keyOk (.pair k) x = true) (r : RepV w F x u) : ∃ (a : Int) (s : List UInt8), x = .agg [.int k a, .str s] ∧ u = .agg #[.int k a, .string ⟨s.toArray⟩] := by
  cases r with
  | agg cs us hl h1 hr =>
    match cs, h with
    | [.int l a, .str s], h =>
      simp [keyOk] at h
      subst h
      match us, hl with
      | [u1, u2], _ =>
        have r1 := hr 0 _ u1 rfl rfl
        have r2 := hr 1 _ u2 rfl rfl
        cases r1
        cases r2
        exact ⟨a, s, rfl, rfl⟩
  | _ => simp [keyOk] at h
theorem pair_cells {w : World} {F : Nat → Nat → Prop} {cs : List V} {us : List Value} (r : RepV w F (.agg cs) (.agg us.toArray)) : ∀ (i : Nat) c u, cs[i]? = some c → us[i]? = some u → RepV w F c u := by
  generalize hu : Value.agg us.toArray = u at r
  cases r with
  | agg _ vs hl _ hr =>
    injection hu with hu
    have := congrArg Array.toList hu
    simp only [List.toList_toArray] at this
    subst this
    exact hr
theorem str_inj {s t : List UInt8} (h : (⟨s.toArray⟩ : ByteArray) = ⟨t.toArray⟩) : s = t := by
  cases h
  rfl
theorem pair_eq {k : IntKind} {a b : Int} {s t : List UInt8} : keq (.agg [.int k a, .str s]) (.agg [.int k b, .str t]) = true ↔ Value.agg #[.int k a, .string ⟨s.toArray⟩] = Value.agg #[.int k b, .string ⟨t.toArray⟩] := by
  simp only [keq, Bool.and_eq_true, beq_iff_eq]
  constructor
  · rintro ⟨rfl, rfl⟩
    rfl
  · intro h
    injection h with h
    have h' := congrArg Array.toList h
    simp only [List.cons.injEq, Value.int.injEq, Value.string.injEq, and_true] at h'
    exact ⟨h'.1.2, str_inj h'.2⟩
section
variable {P : Program}
theorem pair_fields {t : TypeId} (h : plainFields P 0 [.int, .str] (P.fieldsOf t).toList = true) : ∃ f g k, (P.fieldsOf t).toList = [f, g] ∧ f.offset = 0 ∧ g.offset = 1 ∧ f.name ≠ "_" ∧ g.name ≠ "_" ∧ P.underlying f.type = some (.int k) ∧ P.underlying g.type = some .string := by
  generalize (P.fieldsOf t).toList = fs at h
  match fs, h with
  | [], h => simp [plainFields] at h
  | [f], h => simp [plainFields] at h
  | f :: g :: e :: fs, h => simp [plainFields] at h
  | [f, g], h =>
    simp only [plainFields, Bool.and_eq_true, beq_iff_eq, bne_iff_ne, ne_eq, and_true, Nat.zero_add] at h
    obtain ⟨⟨⟨h1, h2⟩, h3⟩, ⟨⟨h4, h5⟩, h6⟩⟩ := h
    simp only [scalTy] at h3 h6
    split at h3
    · rename_i k hk
      split at h6
      · rename_i hg
        exact ⟨f, g, k, rfl, h1, h4, h2, h5, hk, hg⟩
      · cases h6
    · cases h3
theorem check_pair {w : World} {t : TypeId} {k : IntKind} {a : Int} {s : List UInt8} (hk : kkTy P t (.pair k)) (em : Bool) (n : Nat) : (Instr.checkKey em (n + 2) t (.agg #[.int k a, .string ⟨s.toArray⟩])).run P w = .ok () w := by
  obtain ⟨h1, h2, h3⟩ := hk
  obtain ⟨f, g, k', e, o1, o2, n1, n2, u1, u2⟩ := pair_fields h3
  have p1 : (part f.type #[Value.int k a, .string ⟨s.toArray⟩] 0).run P w = .ok (.int k a) w := by simp [part, isAgg, run_underlying u1]
  have p2 : (part g.type #[Value.int k a, .string ⟨s.toArray⟩] 1).run P w = .ok (.string ⟨s.toArray⟩) w := by simp [part, isAgg, run_underlying u2]
  have c1 : (Instr.checkKey em (n + 1) f.type (.int k a)).run P w = .ok () w := by simp [Instr.checkKey, run_underlying u1]
  have c2 : (Instr.checkKey em (n + 1) g.type (.string ⟨s.toArray⟩)).run P w = .ok () w := by simp [Instr.checkKey, run_underlying u2]
  rw [Instr.checkKey]
  simp only [Sem.run_bind, run_underlying h1, Result.andThen_ok]
  rw [← Array.forIn_toList, e]
  simp only [List.forIn_cons, List.forIn_nil, Sem.run_bind, n1, n2, ne_eq, not_false_eq_true, if_true, Result.andThen_ok, o1, o2, p1, p2, c1, c2, Sem.run_pure]
theorem equal_pair {w : World} {F : Nat → Nat → Prop} {t : TypeId} {k : IntKind} {x y : V} {u v : Value} (hk : kkTy P t (.pair k)) (hx : keyOk (.pair k) x = true) (hy : keyOk (.pair k) y = true) (r : RepV w F x u) (q : RepV w F y v) : (Op.equal t u v).run P w = .ok (keq x y) w := by
  obtain ⟨h1, h2, h3⟩ := hk
  obtain ⟨a, s, rfl, rfl⟩ := pair_inv hx r
  obtain ⟨b, s', rfl, rfl⟩ := pair_inv hy q
  have hr := pair_cells r
  have hr2 := pair_cells q
  have he := run_eqFields (P := P) (w := w) 9998 (as := [.int k a, .str s]) (bs := [.int k b, .str s']) (us := [.int k a, .string ⟨s.toArray⟩]) (vs := [.int k b, .string ⟨s'.toArray⟩]) rfl rfl hr hr2 [.int, .str] (P.fieldsOf t).toList 0 (keq (.agg [.int k a, .str s]) (.agg [.int k b, .str s'])) h3 (by simp [eqCells, keq])
  show (Op.equalIn (9999 + 1) t _ _).run P w = _
  rw [run_equalIn_struct w 9999 t _ _ h1 h2]
  exact he
end
/-- The search among the entries whose keys are pairs. -/
theorem find_pair {P : Program} {m : Gh} {w : World} {k : IntKind} {t : TypeId} {x : V} {u : Value} (hk0 : kkTy P t (.pair k)) (hx : keyOk (.pair k) x = true) (r : RepV w (Fz m w) x u) : ∀ (es : List (V × D)) (ms : List MapEntry) (j : Nat), ms.length = es.length → keysOk (.pair k) es = true →
    (∀ (i : Nat) y e, es[i]? = some y → ms[i]? = some e → RepV w (Fz m w) y.1 e.key ∧ RepD m w y.2 e.val) →
    (∃ i y e, es[i]? = some y ∧ ms[i]? = some e ∧ e.key = u ∧ mfind x es = some y.2 ∧ (Instr.findAsking t u ms j).run P w = .ok (some (j + i, e.val)) w ∧ ∀ d, mset x d es = es.set i (x, d)) ∨
    (mfind x es = none ∧ (Instr.findAsking t u ms j).run P w = .ok none w ∧ (∀ d, mset x d es = es ++ [(x, d)]) ∧ ∀ e ∈ ms, e.key ≠ u)
  | [], [], j, _, _, _ => .inr ⟨rfl, by simp [Instr.findAsking], fun _ => rfl, by simp⟩
  | [], _ :: _, _, h, _, _ => by simp at h
  | _ :: _, [], _, h, _, _ => by simp at h
  | y :: es, e :: ms, j, hl, hk, hr => by
    simp only [keysOk, List.all_cons, Bool.and_eq_true] at hk
    obtain ⟨h1, h2⟩ := hr 0 y e rfl rfl
    have k1 := equal_pair hk0 hx hk.1 r h1
    have k2 : keq x y.1 = true ↔ u = e.key := by
      obtain ⟨a, s, e1, e2⟩ := pair_inv hx r
      obtain ⟨b, s', e3, e4⟩ := pair_inv hk.1 h1
      rw [e1, e2, e3, e4]
      exact pair_eq
    by_cases hq : keq x y.1 = true
    · refine .inl ⟨0, y, e, rfl, rfl, (k2.1 hq).symm, by simp [mfind, hq], ?_, fun d => by simp [mset, hq]⟩
      simp [Instr.findAsking, k1, hq]
    · have hne : e.key ≠ u := fun h => hq (k2.2 h.symm)
      rw [Bool.not_eq_true] at hq
      rcases find_pair hk0 hx r es ms (j + 1) (by simpa using hl) hk.2 (fun i y e ha hb => hr (i + 1) y e (by simpa using ha) (by simpa using hb)) with ⟨i, z, f, a1, a2, a3, a4, a5, a6⟩ | ⟨a1, a2, a3, a4⟩
      · refine .inl ⟨i + 1, z, f, by simpa using a1, by simpa using a2, a3, by simp [mfind, hq, a4], ?_, fun d => by simp [mset, hq, a6]⟩
        simp only [Instr.findAsking, Sem.run_bind, k1, hq, Result.andThen_ok, Bool.false_eq_true, if_false, a5]
        rw [show j + 1 + i = j + (i + 1) by omega]
      · refine .inr ⟨by simp [mfind, hq, a1], by simp [Instr.findAsking, k1, hq, a2], fun d => by simp [mset, hq, a3], fun f hf => ?_⟩
        rcases List.mem_cons.1 hf with rfl | hf
        · exact hne
        · exact a4 f hf
section
variable {P : Program}
theorem key_check {w : World} {F : Nat → Nat → Prop} {t : TypeId} {kk : KK} {x : V} {u : Value} (hk : kkTy P t kk) (h : keyOk kk x = true) (r : RepV w F x u) (em : Bool) : (Instr.checkKey em 10000 t u).run P w = .ok () w := by
  cases hs : kk.scal with
  | true => exact MapKept.run_checkKey (P := P) (w := w) (kkTy_desc hs hk) (key_is hs h r) em 9999
  | false =>
    cases kk with
    | pair k =>
      obtain ⟨a, s, rfl, rfl⟩ := pair_inv h r
      exact check_pair hk em 9998
    | _ => cases hs
theorem key_stays {w : World} {F : Nat → Nat → Prop} {kk : KK} {x : V} {u : Value} (h : keyOk kk x = true) (r : RepV w F x u) : (Instr.keyThatStays u u).run P w = .ok u w := by
  cases hs : kk.scal with
  | true => exact MapKept.run_keyThatStays (P := P) (w := w) (key_is hs h r)
  | false =>
    cases kk with
    | pair k =>
      obtain ⟨a, s, rfl, rfl⟩ := pair_inv h r
      have : Instr.sameBits 10000 (.agg #[.int k a, .string ⟨s.toArray⟩]) (.agg #[.int k a, .string ⟨s.toArray⟩]) = true := by
        show Instr.sameBits (9998 + 1 + 1) _ _ = true
        have hb : ((⟨s.toArray⟩ : ByteArray) == ⟨s.toArray⟩) = true := by
          show (s.toArray == s.toArray) = true
          simp
        simp [Instr.sameBits, hb]
      simp [Instr.keyThatStays, this]
    | _ => cases hs
theorem map_find {m : Gh} {w : World} {kk : KK} {t : TypeId} {x : V} {u : Value} (hk0 : kkTy P t kk) (hx : keyOk kk x = true) (r : RepV w (Fz m w) x u) (es : List (V × D)) (ms : List MapEntry) (hl : ms.length = es.length) (hks : keysOk kk es = true)
    (hr : ∀ (i : Nat) y e, es[i]? = some y → ms[i]? = some e → RepV w (Fz m w) y.1 e.key ∧ RepD m w y.2 e.val) :
    (∃ i y e, es[i]? = some y ∧ ms[i]? = some e ∧ e.key = u ∧ mfind x es = some y.2 ∧ (Instr.findKey t u ms).run P w = .ok (some (i, e.val)) w ∧ ∀ d, mset x d es = es.set i (x, d)) ∨
    (mfind x es = none ∧ (Instr.findKey t u ms).run P w = .ok none w ∧ (∀ d, mset x d es = es ++ [(x, d)]) ∧ ∀ e ∈ ms, e.key ≠ u) := by
  cases hs : kk.scal with
  | true =>
    rcases find_rep hs hx r es ms 0 hl hks hr with ⟨i, y, e, a1, a2, a3, a4, a5, a6⟩ | ⟨a1, a2, a3, a4⟩
    · rw [Nat.zero_add] at a5
      exact .inl ⟨i, y, e, a1, a2, a3, a4, MapKept.run_findKey (P := P) (w := w) (kkTy_desc hs hk0) a5, a6⟩
    · exact .inr ⟨a1, MapKept.run_findKey (P := P) (w := w) (kkTy_desc hs hk0) a2, a3, a4⟩
  | false =>
    cases kk with
    | pair k =>
      have hw : (match P.underlying t with | some (.array _ _) | some (.struct _) => true | _ => false) = true := by rw [hk0.1]
      rw [run_findKey_eq w hw]
      rcases find_pair hk0 hx r es ms 0 hl hks hr with ⟨i, y, e, a1, a2, a3, a4, a5, a6⟩ | ⟨a1, a2, a3, a4⟩
      · rw [Nat.zero_add] at a5
        exact .inl ⟨i, y, e, a1, a2, a3, a4, a5, a6⟩
      · exact .inr ⟨a1, a2, a3, a4⟩
    | _ => cases hs
end
section
variable {P : Program} {o : Oper}

theorem ok_mkmap {t : TypeId} (ho : o.op = .makeMap t none) : OpOk P o (.ext .mkmap []) := by
  refine .of_runs fun σ m w a s K hI hE hW => ?_
  simp only [WOp, WX] at hW
  refine ⟨_, _, _, _, _, _, ?_, .inl rfl, hW, hI.add (.map #[] 0) (.map []) ⟨#[], 0, heap_alloc_new w _, rfl, by simp, dense_empty⟩, .add m w _, .map _ w.heap.size (.inl (by simp [Gh.add, ← hI.lobj]))⟩
  simp [execOp, ho, Instr.makeMap]

theorem ok_mput {t kt et : TypeId} {x y z : Operand} {ex ey ez : E} {kk : KK} (ho : o.op = .mapUpdate t x y z ∨ o.op = .insert t x y z) (hx : cE x = some ex) (hy : cE y = some ey) (hz : cE z = some ez) (hu : P.underlying t = some (.map kt et)) (hk : kkTy P kt kk) :
    OpOk P o (.ext (.mput kk) [ex, ey, ez]) := by
  refine .of_runs fun σ m w a s K hI hE hW => ?_
  have rx := ev_rep hE hx
  have ry := ev_rep hE hy
  have rz := ev_rep hE hz
  simp only [WOp, WX, List.map_cons, List.map_nil] at hW
  generalize ev s ex = dx at hW rx
  generalize ev s ey = dy at hW ry
  generalize ev s ez = dz at hW rz
  generalize hux : a.eval x = ux at rx
  generalize huy : a.eval y = uy at ry
  generalize huz : a.eval z = uz at rz
  split at hW
  · rename_i oo k d heq
    simp only [List.cons.injEq, and_true] at heq
    obtain ⟨rfl, rfl, rfl⟩ := heq
    cases rx with
    | map _ b hb =>
    split at hW
    · rename_i es hes
      obtain ⟨h1, h2, h3⟩ := hW
      have hb := hI.live hes (by simp) hb
      obtain ⟨ms, clock, hh, hsz, hrep, hst0⟩ := hI.ob _ _ b hes hb
      have hmem : b ∈ m.objb := Gh.mem_objb.2 (List.mem_of_getElem? hb)
      have hget := MapKept.run_getObj_map (P := P) hh
      have hck := key_check hk h1 ry.v_inv
      have fin : ∀ (ob : Obj), (Instr.mapUpdate t (.map (some b)) uy uz).run P w = .ok () (World.setAt w b ob) → ObRep m (World.setAt w b ob) (.map (mset k dz es)) b → Runs1 P o σ m w a K := by
        intro ob hrun hob
        refine ⟨.skip, undef, _, m, .undef, _, ?_, .inr ⟨rfl, rfl⟩, h3, hI.setAt hb ob _ hob, .setAt ob hmem, .tup [] [] rfl (by simp)⟩
        rcases ho with ho | ho <;> simp only [execOp, ho, hux, huy, huz, Sem.run_bind, hrun, Result.andThen_ok, Sem.run_pure]
      rcases map_find hk h1 ry.v_inv es ms.toList (by simpa using hsz) h2 (fun i y e h4 h5 => hrep i y e h4 (by simpa using h5)) with ⟨i, y, e, a1, a2, a3, a4, a5, a6⟩ | ⟨a1, a2, a3, a4⟩
      · have hfk := a5
        have a2' : ms[i]? = some e := by simpa using a2
        have hst := key_stays (P := P) h1 ry.v_inv
        have hset : ∀ o', (setObj b o').run P w = .ok () (World.setAt w b o') := fun o' => MapKept.run_setObj_map o' hh
        refine fin (.map (ms.modify i fun e => { e with key := uy, val := uz }) clock) ?_ ?_
        · simp [Instr.mapUpdate, run_underlying hu, hget, hck, hfk, a2', a3, hst, hset, Result.andThen]
        · rw [a6]
          refine ⟨_, clock, setAt_same _ hh, by simp [hsz], fun j z f hz hf => ?_, dense_modify hst0 _ _ (fun _ _ => rfl) fun f _ hf => by rw [a2'] at hf; cases hf; exact a3.symm⟩
          have ex := Ext.setAt (m := m) (w := w) (.map (ms.modify i fun e => { e with key := uy, val := uz }) clock) hmem
          rw [List.getElem?_set] at hz
          rw [Array.getElem?_modify] at hf
          by_cases hij : i = j
          · subst hij
            rw [if_pos rfl] at hz hf
            split at hz
            · cases hz
              rw [a2'] at hf
              cases hf
              exact ⟨ry.v_inv.mono ex.fz, rz.mono ex⟩
            · cases hz
          · rw [if_neg hij] at hz hf
            obtain ⟨q1, q2⟩ := hrep j z f hz hf
            exact ⟨q1.mono ex.fz, q2.mono ex⟩
      · have hfk := a2
        have hset : ∀ o', (setObj b o').run P w = .ok () (World.setAt w b o') := fun o' => MapKept.run_setObj_map o' hh
        refine fin (.map (ms.push { key := uy, val := uz, born := clock }) (clock + 1)) ?_ ?_
        · simp [Instr.mapUpdate, run_underlying hu, hget, hck, hfk, hset, Result.andThen]
        · rw [a3]
          refine ⟨_, clock + 1, setAt_same _ hh, by simp [hsz], fun j z f hz hf => ?_, dense_push hst0 a4⟩
          have ex := Ext.setAt (m := m) (w := w) (.map (ms.push { key := uy, val := uz, born := clock }) (clock + 1)) hmem
          rw [Array.getElem?_push] at hf
          by_cases hj : j = ms.size
          · subst hj
            rw [if_pos rfl] at hf
            cases hf
            rw [hsz, List.getElem?_append_right (Nat.le_refl _)] at hz
            simp at hz
            subst hz
            exact ⟨ry.v_inv.mono ex.fz, rz.mono ex⟩
          · rw [if_neg hj] at hf
            have hlt := (Array.getElem?_eq_some_iff.1 hf).1
            rw [List.getElem?_append_left (by omega)] at hz
            obtain ⟨q1, q2⟩ := hrep j z f hz hf
            exact ⟨q1.mono ex.fz, q2.mono ex⟩
    · exact hW.elim
  · exact hW.elim

theorem ok_mget {t kt et : TypeId} {x y : Operand} {ex ey : E} {kk : KK} {ok : Bool} {i : TypeInfo} {zv : Value} {z : V} (ho : o.op = .lookup t x y ok) (hx : cE x = some ex) (hy : cE y = some ey) (hu : P.underlying t = some (.map kt et)) (hk : kkTy P kt kk)
    (hi : P.info? et = some i) (hz : i.zero = some zv) (hzv : cV zv = some z) : OpOk P o (.ext (.mget kk ok z) [ex, ey]) := by
  refine .of_runs fun σ m w a s K hI hE hW => ?_
  have rx := ev_rep hE hx
  have ry := ev_rep hE hy
  simp only [WOp, WX, List.map_cons, List.map_nil] at hW
  generalize ev s ex = dx at hW rx
  generalize ev s ey = dy at hW ry
  generalize hux : a.eval x = ux at rx
  generalize huy : a.eval y = uy at ry
  have hzr : (zeroValue et).run P w = .ok zv w := by simp [zeroValue, typeInfo, hi, hz]
  have key : ∀ (es : List MapEntry) (k : V) (r : Option D) (v : Option Value), dy = .v k → keyOk kk k = true → (Instr.lookup t ux uy ok).run P w = .ok (if ok then .tuple #[v.getD zv, .bool v.isSome] else v.getD zv) w →
      (∀ d, r = some d → ∃ u, v = some u ∧ RepD m w d u) → (r = none → v = none) → K (mgot ok z r) σ → Runs1 P o σ m w a K := by
    intro es k r v hdy hk1 hrun h1 h2 hK
    refine .still (u := if ok = true then .tuple #[v.getD zv, .bool v.isSome] else v.getD zv) hI (by simp only [execOp, ho, hux, huy, Sem.run_bind, hrun, Result.andThen_ok, Sem.run_pure]) hK ?_
    have hrep : RepD m w (r.getD (.v z)) (v.getD zv) ∧ r.isSome = v.isSome := by
      cases r with
      | none => rw [h2 rfl]; exact ⟨.v _ _ (cV_rep hzv), rfl⟩
      | some d => obtain ⟨u, hu, hr⟩ := h1 d rfl; rw [hu]; exact ⟨hr, rfl⟩
    unfold mgot
    cases ok with
    | false => exact hrep.1
    | true =>
      rw [if_pos rfl, if_pos rfl, hrep.2]
      refine .tup _ [_, _] rfl fun j d u hd hu => ?_
      match j with
      | 0 => cases hd; cases hu; exact hrep.1
      | 1 => cases hd; cases hu; exact .v _ _ (.bool _)
      | j + 2 => simp at hd
  split at hW
  · rename_i k heq
    simp only [List.cons.injEq, and_true] at heq
    obtain ⟨rfl, rfl⟩ := heq
    generalize hmv : ux = uu at rx
    have hv := rx.v_inv
    cases hv
    subst hmv
    refine key [] k none none rfl hW.1 ?_ (by simp) (fun _ => rfl) hW.2
    have hck := key_check hk hW.1 ry.v_inv
    have hfk : (Instr.findKey kt uy []).run P w = .ok none w := by
      rcases map_find (P := P) hk hW.1 ry.v_inv [] [] rfl rfl (by simp) with ⟨i, y, e, a1, _⟩ | ⟨_, h, _⟩
      · simp at a1
      · exact h
    cases ok <;> simp [Instr.lookup, run_underlying hu, hck, hfk, hzr, Result.andThen]
  · rename_i es k heq
    simp only [List.cons.injEq, and_true] at heq
    obtain ⟨rfl, rfl⟩ := heq
    obtain ⟨h1, h2, h3⟩ := hW
    have hv := rx.v_inv
    generalize hmv : ux = uu at hv
    cases hv with
    | fmap _ b ms clock hh hF hst0 hsz hkk hvv =>
    subst hmv
    have hrep : ∀ (i : Nat) y e, (fmD es)[i]? = some y → ms[i]? = some e → RepV w (Fz m w) y.1 e.key ∧ RepD m w y.2 e.val := fun i y e h4 h5 => by
      obtain ⟨x, hx, rfl⟩ := Option.map_eq_some_iff.1 (show (es[i]?).map _ = some y by rw [← List.getElem?_map]; exact h4)
      exact ⟨hkk i x e hx h5, .v _ _ (hvv i x e hx h5)⟩
    have hget := MapKept.run_getObj_map (P := P) hh
    have hck := key_check hk h1 ry.v_inv
    rcases map_find hk h1 ry.v_inv (fmD es) ms.toList (by simpa [fmD] using hsz) h2 (fun i y e h4 h5 => hrep i y e h4 (by simpa using h5)) with ⟨i, y, e, a1, a2, a3, a4, a5, a6⟩ | ⟨a1, a2, a3, a4⟩
    · have hfk := a5
      refine key [] k _ (some e.val) rfl h1 ?_ (fun d hd => ⟨e.val, rfl, ?_⟩) (fun hn => ?_) h3
      · cases ok <;> simp [Instr.lookup, run_underlying hu, hget, hck, hfk, Result.andThen]
      · rw [a4] at hd
        cases hd
        exact (hrep i y e a1 (by simpa using a2)).2
      · rw [a4] at hn; cases hn
    · have hfk := a2
      refine key [] k _ none rfl h1 ?_ (fun d hd => ?_) (fun _ => rfl) h3
      · cases ok <;> simp [Instr.lookup, run_underlying hu, hget, hck, hfk, hzr, Result.andThen]
      · rw [a1] at hd; cases hd
  · rename_i oo k heq
    simp only [List.cons.injEq, and_true] at heq
    obtain ⟨rfl, rfl⟩ := heq
    cases rx with
    | map _ b hb =>
    split at hW
    · rename_i es hes
      obtain ⟨h1, h2, h3⟩ := hW
      have hb := hI.live hes (by simp) hb
      obtain ⟨ms, clock, hh, hsz, hrep, hst0⟩ := hI.ob _ _ b hes hb
      have hget := MapKept.run_getObj_map (P := P) hh
      have hck := key_check hk h1 ry.v_inv
      rcases map_find hk h1 ry.v_inv es ms.toList (by simpa using hsz) h2 (fun i y e h4 h5 => hrep i y e h4 (by simpa using h5)) with ⟨i, y, e, a1, a2, a3, a4, a5, a6⟩ | ⟨a1, a2, a3, a4⟩
      · have hfk := a5
        refine key [] k _ (some e.val) rfl h1 ?_ (fun d hd => ⟨e.val, rfl, ?_⟩) (fun hn => ?_) h3
        · cases ok <;> simp [Instr.lookup, run_underlying hu, hget, hck, hfk, Result.andThen]
        · rw [a4] at hd
          cases hd
          exact (hrep i y e a1 (by simpa using a2)).2
        · rw [a4] at hn; cases hn
      · have hfk := a2
        refine key [] k _ none rfl h1 ?_ (fun d hd => ?_) (fun _ => rfl) h3
        · cases ok <;> simp [Instr.lookup, run_underlying hu, hget, hck, hfk, hzr, Result.andThen]
        · rw [a1] at hd; cases hd
    · exact hW.elim
  · exact hW.elim

theorem ok_mrange {t kt et : TypeId} {x : Operand} {ex : E} (ho : o.op = .range t x) (hx : cE x = some ex) (hu : P.underlying t = some (.map kt et)) : OpOk P o (.ext .mrange [ex]) := by
  refine .of_runs fun σ m w a s K hI hE hW => ?_
  have rx := ev_rep hE hx
  simp only [WOp, WX, List.map_cons, List.map_nil] at hW
  generalize ev s ex = dx at hW rx
  generalize hux : a.eval x = ux at rx
  split at hW
  · rename_i heq
    simp only [List.cons.injEq, and_true] at heq
    subst heq
    generalize hmv : ux = uu at rx
    have hv := rx.v_inv
    cases hv
    subst hmv
    refine ⟨_, _, _, _, _, _, ?_, .inl rfl, hW, hI.add (.mapIter none 0 #[] 0) (.iter none 0 []) (heap_alloc_new w _), .add m w _, .ptr _ 0 w.heap.size (.inl (by simp [Gh.add, ← hI.lobj]))⟩
    simp [execOp, ho, hux, run_range_nilMap w t kt et hu]
  · rename_i oo heq
    simp only [List.cons.injEq, and_true] at heq
    subst heq
    cases rx with
    | map _ b hb =>
    split at hW
    · rename_i es hes
      have hb' := hI.live hes (by simp) hb
      obtain ⟨ms, clock, hh, hsz, hrep, hst⟩ := hI.ob _ _ b hes hb'
      obtain ⟨hdn, hW⟩ := hW
      have hcl : clock = es.length := by rw [(hst.2 hdn).1, hsz]
      subst hcl
      have e := Ext.add m w (.mapIter (some b) es.length #[] es.length)
      refine ⟨_, _, _, _, _, _, ?_, .inl rfl, hW, hI.add (.mapIter (some b) es.length #[] es.length) (.iter (some oo) es.length []) ⟨b, e.at hb, heap_alloc_new w _⟩, e, .ptr _ 0 w.heap.size (.inl (by simp [Gh.add, ← hI.lobj]))⟩
      simp [execOp, ho, hux, run_range_map w t kt et b ms _ hu hh]
    · exact hW.elim
  · exact hW.elim

theorem ok_mnext {x : Operand} {ex : E} (ho : o.op = .next x false) (hx : cE x = some ex) : OpOk P o (.ext .mnext [ex]) := by
  refine .of_runs fun σ m w a s K hI hE hW => ?_
  have rx := ev_rep hE hx
  simp only [WOp, WX, List.map_cons, List.map_nil] at hW
  generalize ev s ex = dx at hW rx
  generalize hux : a.eval x = ux at rx
  split at hW
  · rename_i i heq
    simp only [List.cons.injEq, and_true] at heq
    subst heq
    cases rx with
    | ptr _ _ r hr =>
    have hend : RepD m w (.tup [.v (.bool false)]) (.tuple #[.bool false]) := .tup [.v (.bool false)] [.bool false] rfl fun j d u hd hu => by
      match j with
      | 0 => cases hd; cases hu; exact .v _ _ (.bool _)
      | j + 1 => simp at hd
    split at hW
    · rename_i since seen hes
      have hr' := hI.live hes (by simp) hr
      have hh : w.heap[r]? = some (.mapIter none 0 #[] 0) := hI.ob _ _ r hes hr'
      refine .still (u := .tuple #[.bool false]) hI ?_ hW hend
      simp [execOp, ho, hux, Instr.next, getObj, Sem.run, hh, Result.andThen]
    · rename_i oo since seen hes
      unfold WNext at hW
      split at hW
      · rename_i es hob
        obtain ⟨hdn, h1, h2, h3⟩ := hW
        have hr' := hI.live hes (by simp) hr
        obtain ⟨bm, hbm, hh⟩ := hI.ob _ _ r hes hr'
        have hb' := hI.live hob (by simp) hbm
        obtain ⟨ms, clock, hm, hsz, hrep, hst⟩ := hI.ob _ _ bm hob hb'
        have hcl : clock = since := by rw [(hst.2 hdn).1, hsz, h1]
        subst hcl
        have hmem : r ∈ m.objb := Gh.mem_objb.2 (List.mem_of_getElem? hr')
        rcases run_next_at (P := P) w o.type r bm clock clock seen.toArray ms clock hh hm hst.1.1 (Nat.le_refl _) with ⟨a1, a2⟩ | ⟨e, he, w1, hw1, a2⟩
        · refine .still (u := .tuple #[.bool false]) hI (by simp [execOp, ho, hux, a2]) (h2 fun j hj => ?_) hend
          have hjm : j < ms.size := by omega
          have hal := all_seen ms seen.toArray a1 ms[j] (by simp)
          rw [(hst.2 hdn).2 j ms[j] (Array.getElem?_eq_getElem hjm)] at hal
          simpa using hal
        · obtain ⟨he1, he2⟩ := mem_left he
          obtain ⟨j, hj⟩ := List.mem_iff_getElem?.1 he1
          have hj' : ms[j]? = some e := by simpa using hj
          have hbn := (hst.2 hdn).2 j e hj'
          have hjl : j < es.length := by rw [← hsz]; exact (Array.getElem?_eq_some_iff.1 hj').1
          have hx := List.getElem?_eq_getElem hjl
          obtain ⟨q1, q2⟩ := hrep j _ e hx hj'
          have hw : Inv σ m w1 ∧ Ext m w m w1 ∧ w1.heap[r]? = w.heap[r]? := by
            rcases hw1 with rfl | rfl
            · exact ⟨hI, .refl _ _, rfl⟩
            · exact ⟨hI.drew, .drew _ _, rfl⟩
          obtain ⟨hI1, hX1, hr1⟩ := hw
          have hX2 := Ext.setAt (m := m) (w := w1) (.mapIter (some bm) clock (seen.toArray.push e.born) clock) hmem
          have hX := hX1.trans hX2
          have hget : (World.setAt w1 r (.mapIter (some bm) clock (seen.toArray.push e.born) clock)).heap[r]? = some (.mapIter (some bm) clock (seen ++ [j]).toArray clock) := by
            rw [setAt_same _ (hr1.trans hh), hbn]
            simp
          refine ⟨_, .tuple #[.bool true, e.key, e.val], _, m, _, _, ?_, .inl rfl, h3 j _ hx (by rw [hbn] at he2; simpa using he2), hI1.setAt hr' (.mapIter (some bm) clock (seen.toArray.push e.born) clock) _ ⟨bm, hbm, hget⟩, hX, .tup [_, _, _] [_, _, _] rfl fun k d u hd hu => ?_⟩
          · simp only [execOp, ho, hux, Sem.run_bind, a2, Result.andThen_ok, Sem.run_pure]
            rfl
          · match k with
            | 0 => cases hd; cases hu; exact .v _ _ (.bool _)
            | 1 => cases hd; cases hu; exact .v _ _ (q1.mono hX.fz)
            | 2 => cases hd; cases hu; exact q2.mono hX
            | k + 3 => simp at hd
      · exact hW.elim
    · exact hW.elim
  · exact hW.elim

theorem ok_mentry {x : Operand} {ex : E} (ho : o.op = .entry x) (hx : cE x = some ex) : OpOk P o (.ext .mentry [ex]) := by
  refine .of_runs fun σ m w a s K hI hE hW => ?_
  have rx := ev_rep hE hx
  simp only [WOp, WX, List.map_cons, List.map_nil] at hW
  generalize ev s ex = dx at hW rx
  generalize hux : a.eval x = ux at rx
  split at hW
  · rename_i i heq
    simp only [List.cons.injEq, and_true] at heq
    subst heq
    cases rx with
    | ptr _ _ r hr =>
    split at hW
    · rename_i oo since seen hes
      unfold WEntry at hW
      split at hW
      · rename_i es hob
        obtain ⟨hdn, h1, pre, j, y, rfl, hj, hK⟩ := hW
        have hr' := hI.live hes (by simp) hr
        obtain ⟨bm, hbm, hh⟩ := hI.ob _ _ r hes hr'
        have hb' := hI.live hob (by simp) hbm
        obtain ⟨ms, clock, hm, hsz, hrep, hst⟩ := hI.ob _ _ bm hob hb'
        have hcl : clock = since := by rw [(hst.2 hdn).1, hsz, h1]
        subst hcl
        have hjl := (List.getElem?_eq_some_iff.1 hj).1
        have hjm : j < ms.size := by omega
        have hj' := Array.getElem?_eq_getElem hjm
        have hbn := (hst.2 hdn).2 j _ hj'
        obtain ⟨q1, q2⟩ := hrep j _ _ hj hj'
        have hh2 : w.heap[r]? = some (.mapIter (some bm) clock (pre.toArray.push (ms[j]).born) clock) := by
          rw [hh, hbn]; simp
        refine .still (u := .tuple #[(ms[j]).key, (ms[j]).val]) hI ?_ hK (.tup [_, _] [_, _] rfl fun k d u hd hu => ?_)
        · simp only [execOp, ho, hux, Sem.run_bind, run_entry_at w r bm clock pre.toArray ms clock ms[j] hh2 hm (by simp) hst.1.2.1, Result.andThen_ok, Sem.run_pure]
        · match k with
          | 0 => cases hd; cases hu; exact .v _ _ q1
          | 1 => cases hd; cases hu; exact q2
          | k + 2 => simp at hd
      · exact hW.elim
    · exact hW.elim
  · exact hW.elim

/-- The search among the entries for one that goes. -/
theorem find_del {m : Gh} {w : World} {kk : KK} {x : V} {u : Value} (hsc : kk.scal = true) (hx : keyOk kk x = true) (r : RepV w (Fz m w) x u) : ∀ (es : List (V × D)) (ms : List MapEntry) (j : Nat), ms.length = es.length → keysOk kk es = true →
    (∀ (i : Nat) y e, es[i]? = some y → ms[i]? = some e → RepV w (Fz m w) y.1 e.key ∧ RepD m w y.2 e.val) →
    (∃ i e, i < es.length ∧ ms[i]? = some e ∧ Instr.findNow (kkDesc kk) u ms j = some (some (j + i, e.val)) ∧ merase x es = es.eraseIdx i) ∨
    (Instr.findNow (kkDesc kk) u ms j = some none ∧ merase x es = es)
  | [], [], j, _, _, _ => .inr ⟨rfl, rfl⟩
  | [], _ :: _, _, h, _, _ => by simp at h
  | _ :: _, [], _, h, _, _ => by simp at h
  | y :: es, e :: ms, j, hl, hk, hr => by
    simp only [keysOk, List.all_cons, Bool.and_eq_true] at hk
    obtain ⟨h1, h2⟩ := hr 0 y e rfl rfl
    obtain ⟨k1, k2⟩ := key_same hsc hx hk.1 r h1
    by_cases hq : keq x y.1 = true
    · refine .inl ⟨0, e, by simp, rfl, ?_, by simp [merase, hq]⟩
      simp [Instr.findNow, k1, hq]
    · rw [Bool.not_eq_true] at hq
      rcases find_del hsc hx r es ms (j + 1) (by simpa using hl) hk.2 (fun i y e ha hb => hr (i + 1) y e (by simpa using ha) (by simpa using hb)) with ⟨i, f, a1, a2, a3, a4⟩ | ⟨a1, a2⟩
      · refine .inl ⟨i + 1, f, by simpa using a1, by simpa using a2, ?_, by simp [merase, hq, a4]⟩
        simp only [Instr.findNow, k1, hq, a3]
        rw [show j + 1 + i = j + (i + 1) by omega]
      · exact .inr ⟨by simp [Instr.findNow, k1, hq, a1], by simp [merase, hq, a2]⟩

theorem ok_mdel {t kt et kt2 : TypeId} {x y : Operand} {ex ey : E} {kk : KK} (ho : o.op = .call { callee := .builtin .delete, args := #[x, y], argTypes := #[t, kt2] }) (hx : cE x = some ex) (hy : cE y = some ey) (hu : P.underlying t = some (.map kt et)) (hk : kkTy P kt kk) (hsc : kk.scal = true) :
    OpOk P o (.ext (.mdel kk) [ex, ey]) := by
  refine .of_runs fun σ m w a s K hI hE hW => ?_
  have rx := ev_rep hE hx
  have ry := ev_rep hE hy
  simp only [WOp, WX, List.map_cons, List.map_nil] at hW
  generalize ev s ex = dx at hW rx
  generalize ev s ey = dy at hW ry
  generalize hux : a.eval x = ux at rx
  generalize huy : a.eval y = uy at ry
  have hdesc := kkTy_desc hsc hk
  split at hW
  · rename_i k heq
    simp only [List.cons.injEq, and_true] at heq
    obtain ⟨rfl, rfl⟩ := heq
    generalize hmv : ux = uu at rx
    have hv := rx.v_inv
    cases hv
    subst hmv
    have hck := MapKept.run_checkKey (P := P) (w := w) hdesc (key_is hsc hW.1 ry.v_inv)
    refine .still (u := .tuple #[]) hI ?_ hW.2 (.tup [] [] rfl (by simp))
    simp [execOp, ho, hux, huy, resolve, invoke, builtin, Builtin.delete_, run_underlying hu, hck, Result.andThen] <;> rfl
  · rename_i oo k heq
    simp only [List.cons.injEq, and_true] at heq
    obtain ⟨rfl, rfl⟩ := heq
    cases rx with
    | map _ b hb =>
    split at hW
    · rename_i es hes
      obtain ⟨hdn, h1, h2, h3⟩ := hW
      have hb := hI.live hes (by simp) hb
      obtain ⟨ms, clock, hh, hsz, hrep, hst0⟩ := hI.ob _ _ b hes hb
      have hmem : b ∈ m.objb := Gh.mem_objb.2 (List.mem_of_getElem? hb)
      have hkey := key_is hsc h1 ry.v_inv
      have hget := MapKept.run_getObj_map (P := P) hh
      have hck := MapKept.run_checkKey (P := P) (w := w) hdesc hkey
      have hset : ∀ o', (setObj b o').run P w = .ok () (World.setAt w b o') := fun o' => MapKept.run_setObj_map o' hh
      have fin : ∀ (ob : Obj), (Builtin.delete_ #[t, kt2] o.type #[.map (some b), uy]).run P w = .ok (.tuple #[]) (World.setAt w b ob) → ObRep m (World.setAt w b ob) (.map (merase k es)) b → Runs1 P o σ m w a K := by
        intro ob hrun hob
        refine ⟨_, .tuple #[], _, m, _, _, ?_, .inl rfl, h3, hI.setAt hb ob _ hob, .setAt ob hmem, .tup [] [] rfl (by simp)⟩
        simp [execOp, ho, hux, huy, resolve, invoke, builtin, hrun]
      rcases find_del hsc h1 ry.v_inv es ms.toList 0 (by simpa using hsz) h2 (fun i y e h4 h5 => hrep i y e h4 (by simpa using h5)) with ⟨i, e, a1, a2, a3, a4⟩ | ⟨a1, a2⟩
      · have hfk := MapKept.run_findKey (P := P) (w := w) hdesc a3
        rw [Nat.zero_add] at hfk
        have hjs : i < ms.size := by rw [hsz]; exact a1
        have hsub : (ms.eraseIdxIfInBounds i).toList = ms.toList.eraseIdx i := by
          unfold Array.eraseIdxIfInBounds
          rw [dif_pos hjs]
          simp
        refine fin (.map (ms.eraseIdxIfInBounds i) clock) ?_ ?_
        · simp [Builtin.delete_, run_underlying hu, hget, hck, hfk, hset, Result.andThen]
        · rw [a4]
          have ex := Ext.setAt (m := m) (w := w) (.map (ms.eraseIdxIfInBounds i) clock) hmem
          refine ⟨_, clock, setAt_same _ hh, by rw [← Array.length_toList, hsub, List.length_eraseIdx, List.length_eraseIdx]; simp [hsz], fun j z f hz hf => ?_, dense_erase hdn hst0 i⟩
          rw [← Array.getElem?_toList, hsub, List.getElem?_eraseIdx] at hf
          rw [List.getElem?_eraseIdx] at hz
          by_cases hji : j < i
          · rw [if_pos hji] at hz hf
            obtain ⟨q1, q2⟩ := hrep j z f hz (by simpa using hf)
            exact ⟨q1.mono ex.fz, q2.mono ex⟩
          · rw [if_neg hji] at hz hf
            obtain ⟨q1, q2⟩ := hrep (j + 1) z f hz (by simpa using hf)
            exact ⟨q1.mono ex.fz, q2.mono ex⟩
      · have hfk := MapKept.run_findKey (P := P) (w := w) hdesc a1
        refine fin (.map ms clock) ?_ ?_
        · simp [Builtin.delete_, run_underlying hu, hget, hck, hfk, hset, Result.andThen]
        · rw [a2]
          have ex := Ext.setAt (m := m) (w := w) (.map ms clock) hmem
          refine ⟨_, clock, setAt_same _ hh, hsz, fun j z f hz hf => ?_, hst0⟩
          obtain ⟨q1, q2⟩ := hrep j z f hz hf
          exact ⟨q1.mono ex.fz, q2.mono ex⟩
    · exact hW.elim
  · exact hW.elim

theorem ok_stop (os : List E) : OpOk P o (.ext .stop os) := by
  refine .of_runs fun σ m w a s K hI hE hW => ?_
  exact hW.elim

end
end Go.Abs
