/-
  The model's operations, turned into the small language; that each does what its weakest precondition says: part 10, maps. (Own work; seat-independent.)
-/
import Derived.Test.YtbifjffjibnjjaaDoorM02
import Derived.ChangeMaps4
import Derived.WideKeyRuns
import Derived.Maps.RangeRun
import Derived.Laws.MakeOwn
set_option linter.unusedVariables false
set_option linter.unusedSimpArgs false
namespace Go.Abs
open Go

/-- An object's block gets another content. -/
def World.setAt (w : World) (b : Nat) (o : Obj) : World := { w with heap := w.heap.setIfInBounds b o }
theorem setAt_other (w : World) {b c : Nat} (o : Obj) (h : c ≠ b) : (World.setAt w b o).heap[c]? = w.heap[c]? := by
  simp only [World.setAt, Array.getElem?_setIfInBounds]
  rw [if_neg (Ne.symm h)]
theorem setAt_same {w : World} {b : Nat} {o0 : Obj} (o : Obj) (h : w.heap[b]? = some o0) : (World.setAt w b o).heap[b]? = some o := by
  have := (Array.getElem?_eq_some_iff.1 h).1
  simp only [World.setAt, Array.getElem?_setIfInBounds, if_true, this]

theorem Ext.setAt {m : Gh} {w : World} {b : Nat} (o : Obj) (hb : b ∈ m.objb) : Ext m w m (World.setAt w b o) := by
  refine ⟨rfl, rfl, rfl, by simp [World.setAt], fun _ _ h => .inl h, fun _ tk h => ⟨tk, h, rfl, Nat.le_refl _, fun _ => rfl⟩, fun c off f => ⟨cell?_of_heap (setAt_other w o ?_), f.2⟩, fun c hc hn => ⟨setAt_other w o ?_, hn⟩⟩
  · rintro rfl; exact f.2 (.inl hb)
  · rintro rfl; exact hn (List.mem_append.2 (.inl hb))

theorem Inv.setAt {σ : Sg} {m : Gh} {w : World} (h : Inv σ m w) {o b : Nat} (hb : m.objs[o]? = some (some b)) (x : Obj) (ob : Ob)
    (r : ObRep m (World.setAt w b x) ob b) : Inv (σ.put o ob) m (World.setAt w b x) := by
  have hmem : b ∈ m.objb := Gh.mem_objb.2 (List.mem_of_getElem? hb)
  have e := Ext.setAt (m := m) (w := w) x hmem
  have nd : m.objb.Nodup := (List.nodup_append.1 h.nodup).1
  refine ⟨by simp [Sg.put, h.lobj], h.ltok, h.nodup, fun i ob' c hi hc => ?_, fun i hi => ?_, fun tk htk => ?_, h.glob.mono e⟩
  · simp only [Sg.put, List.getElem?_set] at hi
    by_cases hio : o = i
    · subst hio
      have hcb : c = b := Option.some.inj (Option.some.inj (hc.symm.trans hb))
      subst hcb
      simp only [if_true] at hi
      split at hi
      · cases hi; exact r
      · cases hi
    · rw [if_neg hio] at hi
      have hcb : c ≠ b := by
        rintro rfl
        exact hio (objb_inj nd hb hc)
      exact (h.ob i ob' c hi hc).mono e (setAt_other w x hcb)
  · have hio : o ≠ i := by
      rintro rfl
      rw [hb] at hi
      cases hi
    simp only [Sg.put, List.getElem?_set]
    rw [if_neg hio]
    exact h.gone i hi
  · obtain ⟨h1, h2, h3, h4⟩ := h.tk tk htk
    refine ⟨h1, h2, h3, fun c hbo => ?_⟩
    have hne : c ≠ b := by
      rintro rfl
      exact (List.nodup_append.1 h.nodup).2.2 c hmem c (Gh.mem_ownb.2 ⟨tk, htk, hbo⟩) rfl
    rw [setAt_other w x hne]
    exact h4 c hbo

def kkTy (P : Program) (t : TypeId) : KK → Prop
  | .int k => P.underlying t = some (.int k)
  | .str => P.underlying t = some .string
  | .pair _ => P.underlying t = some (.struct (P.fieldsOf t)) ∧ P.stoodInHeld t = false ∧ plainFields P 0 [.int, .str] (P.fieldsOf t).toList = true
def kkDesc : KK → TypeDesc
  | .int k => .int k
  | .str => .string
  | .pair _ => .string
def KK.scal : KK → Bool
  | .pair _ => false
  | _ => true
theorem kkTy_desc {P : Program} {t : TypeId} {kk : KK} (hs : kk.scal = true) (h : kkTy P t kk) : P.underlying t = some (kkDesc kk) := by cases kk <;> first | exact h | (simp [KK.scal] at hs)

theorem key_is {w : World} {F : Nat → Nat → Prop} {kk : KK} {x : V} {u : Value} (hs : kk.scal = true) (h : keyOk kk x = true) (r : RepV w F x u) : MapKept.IsKey (kkDesc kk) u := by
  cases kk with
  | pair k => simp [KK.scal] at hs
  | _ => cases r <;> simp [keyOk] at h <;> first | trivial | exact h.symm

theorem key_hit {w : World} {F : Nat → Nat → Prop} {kk : KK} {x y : V} {u : Value} (hs : kk.scal = true) (hx : keyOk kk x = true) (hy : keyOk kk y = true) (r : RepV w F x u) (s : RepV w F y u) : keq x y = true := by
  cases kk with
  | pair k => simp [KK.scal] at hs
  | int k =>
    cases r <;> simp [keyOk] at hx
    cases s <;> simp [keyOk] at hy
    subst hx
    simp [keq]
  | str =>
    cases x with
    | str a =>
      cases y with
      | str b =>
        cases r
        generalize hu : Value.string ⟨a.toArray⟩ = u at s
        cases s
        cases hu
        simp [keq]
      | _ => simp [keyOk] at hy
    | _ => simp [keyOk] at hx
theorem key_same {w : World} {F : Nat → Nat → Prop} {kk : KK} {x y : V} {u v : Value} (hs : kk.scal = true) (hx : keyOk kk x = true) (hy : keyOk kk y = true) (r : RepV w F x u) (s : RepV w F y v) :
    Instr.sameNow (kkDesc kk) u v = some (keq x y) ∧ (keq x y = true → u = v) := by
  cases kk with
  | pair k => simp [KK.scal] at hs
  | int k =>
    cases r <;> simp [keyOk] at hx
    cases s <;> simp [keyOk] at hy
    subst hx hy
    refine ⟨by simp [Instr.sameNow, kkDesc, keq], fun h => ?_⟩
    simp [keq] at h
    rw [h]
  | str =>
    cases r <;> simp [keyOk] at hx
    cases s <;> simp [keyOk] at hy
    rename_i a _ b _
    have e : ((⟨a.toArray⟩ : ByteArray) == ⟨b.toArray⟩) = (a == b) := by
      show (a.toArray == b.toArray) = (a == b)
      simp
    refine ⟨by simp only [Instr.sameNow, kkDesc, keq]; rw [e], fun h => ?_⟩
    simp [keq] at h
    rw [h]

/-- The search among the entries, and what stands for it. -/
theorem find_rep {m : Gh} {w : World} {kk : KK} {x : V} {u : Value} (hs : kk.scal = true) (hx : keyOk kk x = true) (r : RepV w (Fz m w) x u) : ∀ (es : List (V × D)) (ms : List MapEntry) (j : Nat), ms.length = es.length → keysOk kk es = true →
    (∀ (i : Nat) y e, es[i]? = some y → ms[i]? = some e → RepV w (Fz m w) y.1 e.key ∧ RepD m w y.2 e.val) →
    (∃ i y e, es[i]? = some y ∧ ms[i]? = some e ∧ e.key = u ∧ mfind x es = some y.2 ∧ Instr.findNow (kkDesc kk) u ms j = some (some (j + i, e.val)) ∧ ∀ d, mset x d es = es.set i (x, d)) ∨
    (mfind x es = none ∧ Instr.findNow (kkDesc kk) u ms j = some none ∧ (∀ d, mset x d es = es ++ [(x, d)]) ∧ ∀ e ∈ ms, e.key ≠ u)
  | [], [], j, _, _, _ => .inr ⟨rfl, rfl, fun _ => rfl, by simp⟩
  | [], _ :: _, _, h, _, _ => by simp at h
  | _ :: _, [], _, h, _, _ => by simp at h
  | y :: es, e :: ms, j, hl, hk, hr => by
    simp only [keysOk, List.all_cons, Bool.and_eq_true] at hk
    obtain ⟨h1, h2⟩ := hr 0 y e rfl rfl
    obtain ⟨k1, k2⟩ := key_same hs hx hk.1 r h1
    by_cases hq : keq x y.1 = true
    · refine .inl ⟨0, y, e, rfl, rfl, (k2 hq).symm, by simp [mfind, hq], ?_, fun d => by simp [mset, hq]⟩
      simp [Instr.findNow, k1, hq]
    · rw [Bool.not_eq_true] at hq
      rcases find_rep hs hx r es ms (j + 1) (by simpa using hl) hk.2 (fun i y e ha hb => hr (i + 1) y e (by simpa using ha) (by simpa using hb)) with ⟨i, z, f, a1, a2, a3, a4, a5, a6⟩ | ⟨a1, a2, a3, a4⟩
      · refine .inl ⟨i + 1, z, f, by simpa using a1, by simpa using a2, a3, by simp [mfind, hq, a4], ?_, fun d => by simp [mset, hq, a6]⟩
        simp only [Instr.findNow, k1, hq, a5]
        rw [show j + 1 + i = j + (i + 1) by omega]
      · refine .inr ⟨by simp [mfind, hq, a1], by simp [Instr.findNow, k1, hq, a2], fun d => by simp [mset, hq, a3], fun f hf => ?_⟩
        rcases List.mem_cons.1 hf with rfl | hf
        · intro e0
          rw [e0] at h1
          rw [key_hit hs hx hk.1 r h1] at hq
          cases hq
        · exact a4 f hf

/-! Keys that are a number and a text -/
theorem pair_inv {w : World} {F : Nat → Nat → Prop} {k : IntKind} {x : V} {u : Value} (h : keyOk (.pair k) x = true) (r : RepV w F x u) : ∃ (a : Int) (s : List UInt8), x = .agg [.int k a, .str s] ∧ u = .agg #[.int k a, .string ⟨s.toArray⟩] := by
  cases r with
  | agg cs us hl h1 hr =>
    match cs, h with
    | [.int l a, .str s], h =>
      simp [keyOk] at h
      subst h
      match us, hl with
      | [u1, u2], _ =>
        have r1 := hr 0 _ u1 rfl rfl
        have r2 := hr 1 _ u2 rfl rfl
        cases r1
        cases r2
        exact ⟨a, s, rfl, rfl⟩
  | _ => simp [keyOk] at h
theorem pair_cells {w : World} {F : Nat → Nat → Prop} {cs : List V} {us : List Value} (r : RepV w F (.agg cs) (.agg us.toArray)) : ∀ (i : Nat) c u, cs[i]? = some c → us[i]? = some u → RepV w F c u := by
  generalize hu : Value.agg us.toArray = u at r
  cases r with
  | agg _ vs hl _ hr =>
    injection hu with hu
    have := congrArg Array.toList hu
    simp only [List.toList_toArray] at this
    subst this
    exact hr
theorem str_inj {s t : List UInt8} (h : (⟨s.toArray⟩ : ByteArray) = ⟨t.toArray⟩) : s = t := by
  cases h
  rfl
theorem pair_eq {k : IntKind} {a b : Int} {s t : List UInt8} : keq (.agg [.int k a, .str s]) (.agg [.int k b, .str t]) = true ↔ Value.agg #[.int k a, .string ⟨s.toArray⟩] = Value.agg #[.int k b, .string ⟨t.toArray⟩] := by
  simp only [keq, Bool.and_eq_true, beq_iff_eq]
  constructor
  · rintro ⟨rfl, rfl⟩
    rfl
  · intro h
    injection h with h
    have h' := congrArg Array.toList h
    simp only [List.cons.injEq, Value.int.injEq, Value.string.injEq, and_true] at h'
    exact ⟨h'.1.2, str_inj h'.2⟩
section
variable {P : Program}
theorem pair_fields {t : TypeId} (h : plainFields P 0 [.int, .str] (P.fieldsOf t).toList = true) : ∃ f g k, (P.fieldsOf t).toList = [f, g] ∧ f.offset = 0 ∧ g.offset = 1 ∧ f.name ≠ "_" ∧ g.name ≠ "_" ∧ P.underlying f.type = some (.int k) ∧ P.underlying g.type = some .string := by
  generalize (P.fieldsOf t).toList = fs at h
  match fs, h with
  | [], h => simp [plainFields] at h
  | [f], h => simp [plainFields] at h
  | f :: g :: e :: fs, h => simp [plainFields] at h
  | [f, g], h =>
    simp only [plainFields, Bool.and_eq_true, beq_iff_eq, bne_iff_ne, ne_eq, and_true, Nat.zero_add] at h
    obtain ⟨⟨⟨h1, h2⟩, h3⟩, ⟨⟨h4, h5⟩, h6⟩⟩ := h
    simp only [scalTy] at h3 h6
    split at h3
    · rename_i k hk
      split at h6
      · rename_i hg
        exact ⟨f, g, k, rfl, h1, h4, h2, h5, hk, hg⟩
      · cases h6
    · cases h3
theorem check_pair {w : World} {t : TypeId} {k : IntKind} {a : Int} {s : List UInt8} (hk : kkTy P t (.pair k)) (em : Bool) (n : Nat) : (Instr.checkKey em (n + 2) t (.agg #[.int k a, .string ⟨s.toArray⟩])).run P w = .ok () w := by
  obtain ⟨h1, h2, h3⟩ := hk
  obtain ⟨f, g, k', e, o1, o2, n1, n2, u1, u2⟩ := pair_fields h3
  have p1 : (part f.type #[Value.int k a, .string ⟨s.toArray⟩] 0).run P w = .ok (.int k a) w := by simp [part, isAgg, run_underlying u1]
  have p2 : (part g.type #[Value.int k a, .string ⟨s.toArray⟩] 1).run P w = .ok (.string ⟨s.toArray⟩) w := by simp [part, isAgg, run_underlying u2]
  have c1 : (Instr.checkKey em (n + 1) f.type (.int k a)).run P w = .ok () w := by simp [Instr.checkKey, run_underlying u1]
  have c2 : (Instr.checkKey em (n + 1) g.type (.string ⟨s.toArray⟩)).run P w = .ok () w := by simp [Instr.checkKey, run_underlying u2]
  rw [Instr.checkKey]
  simp only [Sem.run_bind, run_underlying h1, Result.andThen_ok]
  rw [← Array.forIn_toList, e]
  simp only [List.forIn_cons, List.forIn_nil, Sem.run_bind, n1, n2, ne_eq, not_false_eq_true, if_true, Result.andThen_ok, o1, o2, p1, p2, c1, c2, Sem.run_pure]
theorem equal_pair {w : World} {F : Nat → Nat → Prop} {t : TypeId} {k : IntKind} {x y : V} {u v : Value} (hk : kkTy P t (.pair k)) (hx : keyOk (.pair k) x = true) (hy : keyOk (.pair k) y = true) (r : RepV w F x u) (q : RepV w F y v) : (Op.equal t u v).run P w = .ok (keq x y) w := by
  obtain ⟨h1, h2, h3⟩ := hk
  obtain ⟨a, s, rfl, rfl⟩ := pair_inv hx r
  obtain ⟨b, s', rfl, rfl⟩ := pair_inv hy q
  have hr := pair_cells r
  have hr2 := pair_cells q
  have he := run_eqFields (P := P) (w := w) 9998 (as0 := [.int k a, .str s]) (bs := [.int k b, .str s']) (us := [.int k a, .string ⟨s.toArray⟩]) (vs := [.int k b, .string ⟨s'.toArray⟩]) rfl rfl hr hr2 [.int, .str] (P.fieldsOf t).toList 0 (keq (.agg [.int k a, .str s]) (.agg [.int k b, .str s'])) h3 (by simp [eqCells, keq])
  show (Op.equalIn (9999 + 1) t _ _).run P w = _
  rw [run_equalIn_struct w 9999 t _ _ h1 h2]
  exact he
end
/-- The search among the entries whose keys are pairs. -/
theorem find_pair {P : Program} {m : Gh} {w : World} {k : IntKind} {t : TypeId} {x : V} {u : Value} (hk0 : kkTy P t (.pair k)) (hx : keyOk (.pair k) x = true) (r : RepV w (Fz m w) x u) : ∀ (es : List (V × D)) (ms : List MapEntry) (j : Nat), ms.length = es.length → keysOk (.pair k) es = true →
    (∀ (i : Nat) y e, es[i]? = some y → ms[i]? = some e → RepV w (Fz m w) y.1 e.key ∧ RepD m w y.2 e.val) →
    (∃ i y e, es[i]? = some y ∧ ms[i]? = some e ∧ e.key = u ∧ mfind x es = some y.2 ∧ (Instr.findAsking t u ms j).run P w = .ok (some (j + i, e.val)) w ∧ ∀ d, mset x d es = es.set i (x, d)) ∨
    (mfind x es = none ∧ (Instr.findAsking t u ms j).run P w = .ok none w ∧ (∀ d, mset x d es = es ++ [(x, d)]) ∧ ∀ e ∈ ms, e.key ≠ u)
  | [], [], j, _, _, _ => .inr ⟨rfl, by simp [Instr.findAsking], fun _ => rfl, by simp⟩
  | [], _ :: _, _, h, _, _ => by simp at h
  | _ :: _, [], _, h, _, _ => by simp at h
  | y :: es, e :: ms, j, hl, hk, hr => by
    simp only [keysOk, List.all_cons, Bool.and_eq_true] at hk
    obtain ⟨h1, h2⟩ := hr 0 y e rfl rfl
    have k1 := equal_pair hk0 hx hk.1 r h1
    have k2 : keq x y.1 = true ↔ u = e.key := by
      obtain ⟨a, s, e1, e2⟩ := pair_inv hx r
      obtain ⟨b, s', e3, e4⟩ := pair_inv hk.1 h1
      rw [e1, e2, e3, e4]
      exact pair_eq
    by_cases hq : keq x y.1 = true
    · refine .inl ⟨0, y, e, rfl, rfl, (k2.1 hq).symm, by simp [mfind, hq], ?_, fun d => by simp [mset, hq]⟩
      simp [Instr.findAsking, k1, hq]
    · have hne : e.key ≠ u := fun h => hq (k2.2 h.symm)
      rw [Bool.not_eq_true] at hq
      rcases find_pair hk0 hx r es ms (j + 1) (by simpa using hl) hk.2 (fun i y e ha hb => hr (i + 1) y e (by simpa using ha) (by simpa using hb)) with ⟨i, z, f, a1, a2, a3, a4, a5, a6⟩ | ⟨a1, a2, a3, a4⟩
      · refine .inl ⟨i + 1, z, f, by simpa using a1, by simpa using a2, a3, by simp [mfind, hq, a4], ?_, fun d => by simp [mset, hq, a6]⟩
        simp only [Instr.findAsking, Sem.run_bind, k1, hq, Result.andThen_ok, Bool.false_eq_true, if_false, a5]
        rw [show j + 1 + i = j + (i + 1) by omega]
      · refine .inr ⟨by simp [mfind, hq, a1], by simp [Instr.findAsking, k1, hq, a2], fun d => by simp [mset, hq, a3], fun f hf => ?_⟩
        rcases List.mem_cons.1 hf with rfl | hf
        · exact hne
        · exact a4 f hf
section
variable {P : Program}
theorem key_check {w : World} {F : Nat → Nat → Prop} {t : TypeId} {kk : KK} {x : V} {u : Value} (hk : kkTy P t kk) (h : keyOk kk x = true) (r : RepV w F x u) (em : Bool) : (Instr.checkKey em 10000 t u).run P w = .ok () w := by
  cases hs : kk.scal with
  | true => exact MapKept.run_checkKey (P := P) (w := w) (kkTy_desc hs hk) (key_is hs h r) em 9999
  | false =>
    cases kk with
    | pair k =>
      obtain ⟨a, s, rfl, rfl⟩ := pair_inv h r
      exact check_pair hk em 9998
    | _ => cases hs
theorem key_stays {w : World} {F : Nat → Nat → Prop} {kk : KK} {x : V} {u : Value} (h : keyOk kk x = true) (r : RepV w F x u) : (Instr.keyThatStays u u).run P w = .ok u w := by
  cases hs : kk.scal with
  | true => exact MapKept.run_keyThatStays (P := P) (w := w) (key_is hs h r)
  | false =>
    cases kk with
    | pair k =>
      obtain ⟨a, s, rfl, rfl⟩ := pair_inv h r
      have : Instr.sameBits 10000 (.agg #[.int k a, .string ⟨s.toArray⟩]) (.agg #[.int k a, .string ⟨s.toArray⟩]) = true := by
        show Instr.sameBits (9998 + 1 + 1) _ _ = true
        have hb : ((⟨s.toArray⟩ : ByteArray) == ⟨s.toArray⟩) = true := by
          show (s.toArray == s.toArray) = true
          simp
        simp [Instr.sameBits, hb]
      simp [Instr.keyThatStays, this]
    | _ => cases hs
theorem map_find {m : Gh} {w : World} {kk : KK} {t : TypeId} {x : V} {u : Value} (hk0 : kkTy P t kk) (hx : keyOk kk x = true) (r : RepV w (Fz m w) x u) (es : List (V × D)) (ms : List MapEntry) (hl : ms.length = es.length) (hks : keysOk kk es = true)
    (hr : ∀ (i : Nat) y e, es[i]? = some y → ms[i]? = some e → RepV w (Fz m w) y.1 e.key ∧ RepD m w y.2 e.val) :
    (∃ i y e, es[i]? = some y ∧ ms[i]? = some e ∧ e.key = u ∧ mfind x es = some y.2 ∧ (Instr.findKey t u ms).run P w = .ok (some (i, e.val)) w ∧ ∀ d, mset x d es = es.set i (x, d)) ∨
    (mfind x es = none ∧ (Instr.findKey t u ms).run P w = .ok none w ∧ (∀ d, mset x d es = es ++ [(x, d)]) ∧ ∀ e ∈ ms, e.key ≠ u) := by
  cases hs : kk.scal with
  | true =>
    rcases find_rep hs hx r es ms 0 hl hks hr with ⟨i, y, e, a1, a2, a3, a4, a5, a6⟩ | ⟨a1, a2, a3, a4⟩
    · rw [Nat.zero_add] at a5
      exact .inl ⟨i, y, e, a1, a2, a3, a4, MapKept.run_findKey (P := P) (w := w) (kkTy_desc hs hk0) a5, a6⟩
    · exact .inr ⟨a1, MapKept.run_findKey (P := P) (w := w) (kkTy_desc hs hk0) a2, a3, a4⟩
  | false =>
    cases kk with
    | pair k =>
      have hw : (match P.underlying t with | some (.array _ _) | some (.struct _) => true | _ => false) = true := by rw [hk0.1]
      rw [run_findKey_eq w hw]
      rcases find_pair hk0 hx r es ms 0 hl hks hr with ⟨i, y, e, a1, a2, a3, a4, a5, a6⟩ | ⟨a1, a2, a3, a4⟩
      · rw [Nat.zero_add] at a5
        exact .inl ⟨i, y, e, a1, a2, a3, a4, a5, a6⟩
      · exact .inr ⟨a1, a2, a3, a4⟩
    | _ => cases hs
end
section
variable {P : Program} {o : Oper}

theorem ok_mkmap {t : TypeId} (ho : o.op = .makeMap t none) : OpOk P o (.ext .mkmap []) := by
  refine .of_runs fun σ m w a s K hI hE hW => ?_
  simp only [WOp, WX] at hW
  refine ⟨_, _, _, _, _, _, ?_, .inl rfl, hW, hI.add (.map #[] 0) (.map []) ⟨#[], 0, heap_alloc_new w _, rfl, by simp, dense_empty⟩, .add m w _, .map _ w.heap.size (.inl (by simp [Gh.add, ← hI.lobj]))⟩
  simp [execOp, ho, Instr.makeMap]

theorem ok_mput {t kt et : TypeId} {x y z : Operand} {ex ey ez : E} {kk : KK} (ho : o.op = .mapUpdate t x y z ∨ o.op = .insert t x y z) (hx : cE x = some ex) (hy : cE y = some ey) (hz : cE z = some ez) (hu : P.underlying t = some (.map kt et)) (hk : kkTy P kt kk) :
    OpOk P o (.ext (.mput kk) [ex, ey, ez]) := by
  refine .of_runs fun σ m w a s K hI hE hW => ?_
  have rx := ev_rep hE hx
  have ry := ev_rep hE hy
  have rz := ev_rep hE hz
  simp only [WOp, WX, List.map_cons, List.map_nil] at hW
  generalize ev s ex = dx at hW rx
  generalize ev s ey = dy at hW ry
  generalize ev s ez = dz at hW rz
  generalize hux : a.eval x = ux at rx
  generalize huy : a.eval y = uy at ry
  generalize huz : a.eval z = uz at rz
  split at hW
  · rename_i oo k d heq
    simp only [List.cons.injEq, and_true] at heq
    obtain ⟨rfl, rfl, rfl⟩ := heq
    cases rx with
    | map _ b hb =>
    split at hW
    · rename_i es hes
      obtain ⟨h1, h2, h3⟩ := hW
      have hb := hI.live hes (by simp) hb
      obtain ⟨ms, clock, hh, hsz, hrep, hst0⟩ := hI.ob _ _ b hes hb
      have hmem : b ∈ m.objb := Gh.mem_objb.2 (List.mem_of_getElem? hb)
      have hget := MapKept.run_getObj_map (P := P) hh
      have hck := key_check hk h1 ry.v_inv
      have fin : ∀ (ob : Obj), (Instr.mapUpdate t (.map (some b)) uy uz).run P w = .ok () (World.setAt w b ob) → ObRep m (World.setAt w b ob) (.map (mset k dz es)) b → Runs1 P o σ m w a K := by
        intro ob hrun hob
        refine ⟨.skip, undef, _, m, .undef, _, ?_, .inr ⟨rfl, rfl⟩, h3, hI.setAt hb ob _ hob, .setAt ob hmem, .tup [] [] rfl (by simp)⟩
        rcases ho with ho | ho <;> simp only [execOp, ho, hux, huy, huz, Sem.run_bind, hrun, Result.andThen_ok, Sem.run_pure]
      rcases map_find hk h1 ry.v_inv es ms.toList (by simpa using hsz) h2 (fun i y e h4 h5 => hrep i y e h4 (by simpa using h5)) with ⟨i, y, e, a1, a2, a3, a4, a5, a6⟩ | ⟨a1, a2, a3, a4⟩
      · have hfk := a5
        have a2' : ms[i]? = some e := by simpa using a2
        have hst := key_stays (P := P) h1 ry.v_inv
        have hset : ∀ o', (setObj b o').run P w = .ok () (World.setAt w b o') := fun o' => MapKept.run_setObj_map o' hh
        refine fin (.map (ms.modify i fun e => { e with key := uy, val := uz }) clock) ?_ ?_
        · simp [Instr.mapUpdate, run_underlying hu, hget, hck, hfk, a2', a3, hst, hset, Result.andThen]
        · rw [a6]
          refine ⟨_, clock, setAt_same _ hh, by simp [hsz], fun j z f hz hf => ?_, dense_modify hst0 _ _ (fun _ _ => rfl) fun f _ hf => by rw [a2'] at hf; cases hf; exact a3.symm⟩
          have ex := Ext.setAt (m := m) (w := w) (.map (ms.modify i fun e => { e with key := uy, val := uz }) clock) hmem
          rw [List.getElem?_set] at hz
          rw [Array.getElem?_modify] at hf
          by_cases hij : i = j
          · subst hij
            rw [if_pos rfl] at hz hf
            split at hz
            · cases hz
              rw [a2'] at hf
              cases hf
              exact ⟨ry.v_inv.mono ex.fz, rz.mono ex⟩
            · cases hz
          · rw [if_neg hij] at hz hf
            obtain ⟨q1, q2⟩ := hrep j z f hz hf
            exact ⟨q1.mono ex.fz, q2.mono ex⟩
      · have hfk := a2
        have hset : ∀ o', (setObj b o').run P w = .ok () (World.setAt w b o') := fun o' => MapKept.run_setObj_map o' hh
        refine fin (.map (ms.push { key := uy, val := uz, born := clock }) (clock + 1)) ?_ ?_
        · simp [Instr.mapUpdate, run_underlying hu, hget, hck, hfk, hset, Result.andThen]
        · rw [a3]
          refine ⟨_, clock + 1, setAt_same _ hh, by simp [hsz], fun j z f hz hf => ?_, dense_push hst0 a4⟩
          have ex := Ext.setAt (m := m) (w := w) (.map (ms.push { key := uy, val := uz, born := clock }) (clock + 1)) hmem
          rw [Array.getElem?_push] at hf
          by_cases hj : j = ms.size
          · subst hj
            rw [if_pos rfl] at hf
            cases hf
            rw [hsz, List.getElem?_append_right (Nat.le_refl _)] at hz
            simp at hz
            subst hz
            exact ⟨ry.v_inv.mono ex.fz, rz.mono ex⟩
          · rw [if_neg hj] at hf
            have hlt := (Array.getElem?_eq_some_iff.1 hf).1
            rw [List.getElem?_append_left (by omega)] at hz
            obtain ⟨q1, q2⟩ := hrep j z f hz hf
            exact ⟨q1.mono ex.fz, q2.mono ex⟩
    · exact hW.elim
  · exact hW.elim

theorem ok_mget {t kt et : TypeId} {x y : Operand} {ex ey : E} {kk : KK} {ok : Bool} {i : TypeInfo} {zv : Value} {z : V} (ho : o.op = .lookup t x y ok) (hx : cE x = some ex) (hy : cE y = some ey) (hu : P.underlying t = some (.map kt et)) (hk : kkTy P kt kk)
    (hi : P.info? et = some i) (hz : i.zero = some zv) (hzv : cV zv = some z) : OpOk P o (.ext (.mget kk ok z) [ex, ey]) := by
  refine .of_runs fun σ m w a s K hI hE hW => ?_
  have rx := ev_rep hE hx
  have ry := ev_rep hE hy
  simp only [WOp, WX, List.map_cons, List.map_nil] at hW
  generalize ev s ex = dx at hW rx
  generalize ev s ey = dy at hW ry
  generalize hux : a.eval x = ux at rx
  generalize huy : a.eval y = uy at ry
  have hzr : (zeroValue et).run P w = .ok zv w := by simp [zeroValue, typeInfo, hi, hz]
  have key : ∀ (es : List MapEntry) (k : V) (r : Option D) (v : Option Value), dy = .v k → keyOk kk k = true → (Instr.lookup t ux uy ok).run P w = .ok (if ok then .tuple #[v.getD zv, .bool v.isSome] else v.getD zv) w →
      (∀ d, r = some d → ∃ u, v = some u ∧ RepD m w d u) → (r = none → v = none) → K (mgot ok z r) σ → Runs1 P o σ m w a K := by
    intro es k r v hdy hk1 hrun h1 h2 hK
    refine .still (u := if ok = true then .tuple #[v.getD zv, .bool v.isSome] else v.getD zv) hI (by simp only [execOp, ho, hux, huy, Sem.run_bind, hrun, Result.andThen_ok, Sem.run_pure]) hK ?_
    have hrep : RepD m w (r.getD (.v z)) (v.getD zv) ∧ r.isSome = v.isSome := by
      cases r with
      | none => rw [h2 rfl]; exact ⟨.v _ _ (cV_rep hzv), rfl⟩
      | some d => obtain ⟨u, hu, hr⟩ := h1 d rfl; rw [hu]; exact ⟨hr, rfl⟩
    unfold mgot
    cases ok with
    | false => exact hrep.1
    | true =>
      rw [if_pos rfl, if_pos rfl, hrep.2]
      refine .tup _ [_, _] rfl fun j d u hd hu => ?_
      match j with
      | 0 => cases hd; cases hu; exact hrep.1
      | 1 => cases hd; cases hu; exact .v _ _ (.bool _)
      | j + 2 => simp at hd
  split at hW
  · rename_i k heq
    simp only [List.cons.injEq, and_true] at heq
    obtain ⟨rfl, rfl⟩ := heq
    generalize hmv : ux = uu at rx
    have hv := rx.v_inv
    cases hv
    subst hmv
    refine key [] k none none rfl hW.1 ?_ (by simp) (fun _ => rfl) hW.2
    have hck := key_check hk hW.1 ry.v_inv
    have hfk : (Instr.findKey kt uy []).run P w = .ok none w := by
      rcases map_find (P := P) hk hW.1 ry.v_inv [] [] rfl rfl (by simp) with ⟨i, y, e, a1, _⟩ | ⟨_, h, _⟩
      · simp at a1
      · exact h
    cases ok <;> simp [Instr.lookup, run_underlying hu, hck, hfk, hzr, Result.andThen]
  · rename_i oo k heq
    simp only [List.cons.injEq, and_true] at heq
    obtain ⟨rfl, rfl⟩ := heq
    cases rx with
    | map _ b hb =>
    split at hW
    · rename_i es hes
      obtain ⟨h1, h2, h3⟩ := hW
      have hb := hI.live hes (by simp) hb
      obtain ⟨ms, clock, hh, hsz, hrep, hst0⟩ := hI.ob _ _ b hes hb
      have hget := MapKept.run_getObj_map (P := P) hh
      have hck := key_check hk h1 ry.v_inv
      rcases map_find hk h1 ry.v_inv es ms.toList (by simpa using hsz) h2 (fun i y e h4 h5 => hrep i y e h4 (by simpa using h5)) with ⟨i, y, e, a1, a2, a3, a4, a5, a6⟩ | ⟨a1, a2, a3, a4⟩
      · have hfk := a5
        refine key [] k _ (some e.val) rfl h1 ?_ (fun d hd => ⟨e.val, rfl, ?_⟩) (fun hn => ?_) h3
        · cases ok <;> simp [Instr.lookup, run_underlying hu, hget, hck, hfk, Result.andThen]
        · rw [a4] at hd
          cases hd
          exact (hrep i y e a1 (by simpa using a2)).2
        · rw [a4] at hn; cases hn
      · have hfk := a2
        refine key [] k _ none rfl h1 ?_ (fun d hd => ?_) (fun _ => rfl) h3
        · cases ok <;> simp [Instr.lookup, run_underlying hu, hget, hck, hfk, hzr, Result.andThen]
        · rw [a1] at hd; cases hd
    · exact hW.elim
  · exact hW.elim

theorem ok_mrange {t kt et : TypeId} {x : Operand} {ex : E} (ho : o.op = .range t x) (hx : cE x = some ex) (hu : P.underlying t = some (.map kt et)) : OpOk P o (.ext .mrange [ex]) := by
  refine .of_runs fun σ m w a s K hI hE hW => ?_
  have rx := ev_rep hE hx
  simp only [WOp, WX, List.map_cons, List.map_nil] at hW
  generalize ev s ex = dx at hW rx
  generalize hux : a.eval x = ux at rx
  split at hW
  · rename_i heq
    simp only [List.cons.injEq, and_true] at heq
    subst heq
    generalize hmv : ux = uu at rx
    have hv := rx.v_inv
    cases hv
    subst hmv
    refine ⟨_, _, _, _, _, _, ?_, .inl rfl, hW, hI.add (.mapIter none 0 #[] 0) (.iter none 0 []) (heap_alloc_new w _), .add m w _, .ptr _ 0 w.heap.size (.inl (by simp [Gh.add, ← hI.lobj]))⟩
    simp [execOp, ho, hux, run_range_nilMap w t kt et hu]
  · rename_i oo heq
    simp only [List.cons.injEq, and_true] at heq
    subst heq
    cases rx with
    | map _ b hb =>
    split at hW
    · rename_i es hes
      have hb' := hI.live hes (by simp) hb
      obtain ⟨ms, clock, hh, hsz, hrep, hst⟩ := hI.ob _ _ b hes hb'
      obtain ⟨hdn, hW⟩ := hW
      have hcl : clock = es.length := by rw [(hst.2 hdn).1, hsz]
      subst hcl
      have e := Ext.add m w (.mapIter (some b) es.length #[] es.length)
      refine ⟨_, _, _, _, _, _, ?_, .inl rfl, hW, hI.add (.mapIter (some b) es.length #[] es.length) (.iter (some oo) es.length []) ⟨b, e.at hb, heap_alloc_new w _⟩, e, .ptr _ 0 w.heap.size (.inl (by simp [Gh.add, ← hI.lobj]))⟩
      simp [execOp, ho, hux, run_range_map w t kt et b ms _ hu hh]
    · exact hW.elim
  · exact hW.elim

theorem ok_mnext {x : Operand} {ex : E} (ho : o.op = .next x false) (hx : cE x = some ex) : OpOk P o (.ext .mnext [ex]) := by
  refine .of_runs fun σ m w a s K hI hE hW => ?_
  have rx := ev_rep hE hx
  simp only [WOp, WX, List.map_cons, List.map_nil] at hW
  generalize ev s ex = dx at hW rx
  generalize hux : a.eval x = ux at rx
  split at hW
  · rename_i i heq
    simp only [List.cons.injEq, and_true] at heq
    subst heq
    cases rx with
    | ptr _ _ r hr =>
    have hend : RepD m w (.tup [.v (.bool false)]) (.tuple #[.bool false]) := .tup [.v (.bool false)] [.bool false] rfl fun j d u hd hu => by
      match j with
      | 0 => cases hd; cases hu; exact .v _ _ (.bool _)
      | j + 1 => simp at hd
    split at hW
    · rename_i since seen hes
      have hr' := hI.live hes (by simp) hr
      have hh : w.heap[r]? = some (.mapIter none 0 #[] 0) := hI.ob _ _ r hes hr'
      refine .still (u := .tuple #[.bool false]) hI ?_ hW hend
      simp [execOp, ho, hux, Instr.next, getObj, Sem.run, hh, Result.andThen]
    · rename_i oo since seen hes
      unfold WNext at hW
      split at hW
      · rename_i es hob
        obtain ⟨hdn, h1, h2, h3⟩ := hW
        have hr' := hI.live hes (by simp) hr
        obtain ⟨bm, hbm, hh⟩ := hI.ob _ _ r hes hr'
        have hb' := hI.live hob (by simp) hbm
        obtain ⟨ms, clock, hm, hsz, hrep, hst⟩ := hI.ob _ _ bm hob hb'
        have hcl : clock = since := by rw [(hst.2 hdn).1, hsz, h1]
        subst hcl
        have hmem : r ∈ m.objb := Gh.mem_objb.2 (List.mem_of_getElem? hr')
        rcases run_next_at (P := P) w o.type r bm clock clock seen.toArray ms clock hh hm hst.1.1 (Nat.le_refl _) with ⟨a1, a2⟩ | ⟨e, he, w1, hw1, a2⟩
        · refine .still (u := .tuple #[.bool false]) hI (by simp [execOp, ho, hux, a2]) (h2 fun j hj => ?_) hend
          have hjm : j < ms.size := by omega
          have hal := all_seen ms seen.toArray a1 ms[j] (by simp)
          rw [(hst.2 hdn).2 j ms[j] (Array.getElem?_eq_getElem hjm)] at hal
          simpa using hal
        · obtain ⟨he1, he2⟩ := mem_left he
          obtain ⟨j, hj⟩ := List.mem_iff_getElem?.1 he1
          have hj' : ms[j]? = some e := by simpa using hj
          have hbn := (hst.2 hdn).2 j e hj'
          have hjl : j < es.length := by rw [← hsz]; exact (Array.getElem?_eq_some_iff.1 hj').1
          have hx := List.getElem?_eq_getElem hjl
          obtain ⟨q1, q2⟩ := hrep j _ e hx hj'
          have hw : Inv σ m w1 ∧ Ext m w m w1 ∧ w1.heap[r]? = w.heap[r]? := by
            rcases hw1 with rfl | rfl
            · exact ⟨hI, .refl _ _, rfl⟩
            · exact ⟨hI.drew, .drew _ _, rfl⟩
          obtain ⟨hI1, hX1, hr1⟩ := hw
          have hX2 := Ext.setAt (m := m) (w := w1) (.mapIter (some bm) clock (seen.toArray.push e.born) clock) hmem
          have hX := hX1.trans hX2
          have hget : (World.setAt w1 r (.mapIter (some bm) clock (seen.toArray.push e.born) clock)).heap[r]? = some (.mapIter (some bm) clock (seen ++ [j]).toArray clock) := by
            rw [setAt_same _ (hr1.trans hh), hbn]
            simp
          refine ⟨_, .tuple #[.bool true, e.key, e.val], _, m, _, _, ?_, .inl rfl, h3 j _ hx (by rw [hbn] at he2; simpa using he2), hI1.setAt hr' (.mapIter (some bm) clock (seen.toArray.push e.born) clock) _ ⟨bm, hbm, hget⟩, hX, .tup [_, _, _] [_, _, _] rfl fun k d u hd hu => ?_⟩
          · simp only [execOp, ho, hux, Sem.run_bind, a2, Result.andThen_ok, Sem.run_pure]
            rfl
          · match k with
            | 0 => cases hd; cases hu; exact .v _ _ (.bool _)
            | 1 => cases hd; cases hu; exact .v _ _ (q1.mono hX.fz)
            | 2 => cases hd; cases hu; exact q2.mono hX
            | k + 3 => simp at hd
      · exact hW.elim
    · exact hW.elim
  · exact hW.elim

theorem ok_mentry {x : Operand} {ex : E} (ho : o.op = .entry x) (hx : cE x = some ex) : OpOk P o (.ext .mentry [ex]) := by
  refine .of_runs fun σ m w a s K hI hE hW => ?_
  have rx := ev_rep hE hx
  simp only [WOp, WX, List.map_cons, List.map_nil] at hW
  generalize ev s ex = dx at hW rx
  generalize hux : a.eval x = ux at rx
  split at hW
  · rename_i i heq
    simp only [List.cons.injEq, and_true] at heq
    subst heq
    cases rx with
    | ptr _ _ r hr =>
    split at hW
    · rename_i oo since seen hes
      unfold WEntry at hW
      split at hW
      · rename_i es hob
        obtain ⟨hdn, h1, pre, j, y, rfl, hj, hK⟩ := hW
        have hr' := hI.live hes (by simp) hr
        obtain ⟨bm, hbm, hh⟩ := hI.ob _ _ r hes hr'
        have hb' := hI.live hob (by simp) hbm
        obtain ⟨ms, clock, hm, hsz, hrep, hst⟩ := hI.ob _ _ bm hob hb'
        have hcl : clock = since := by rw [(hst.2 hdn).1, hsz, h1]
        subst hcl
        have hjl := (List.getElem?_eq_some_iff.1 hj).1
        have hjm : j < ms.size := by omega
        have hj' := Array.getElem?_eq_getElem hjm
        have hbn := (hst.2 hdn).2 j _ hj'
        obtain ⟨q1, q2⟩ := hrep j _ _ hj hj'
        have hh2 : w.heap[r]? = some (.mapIter (some bm) clock (pre.toArray.push (ms[j]).born) clock) := by
          rw [hh, hbn]; simp
        refine .still (u := .tuple #[(ms[j]).key, (ms[j]).val]) hI ?_ hK (.tup [_, _] [_, _] rfl fun k d u hd hu => ?_)
        · simp only [execOp, ho, hux, Sem.run_bind, run_entry_at w r bm clock pre.toArray ms clock ms[j] hh2 hm (by simp) hst.1.2.1, Result.andThen_ok, Sem.run_pure]
        · match k with
          | 0 => cases hd; cases hu; exact .v _ _ q1
          | 1 => cases hd; cases hu; exact q2
          | k + 2 => simp at hd
      · exact hW.elim
    · exact hW.elim
  · exact hW.elim

/-- The search among the entries for one that goes. -/
theorem find_del {m : Gh} {w : World} {kk : KK} {x : V} {u : Value} (hsc : kk.scal = true) (hx : keyOk kk x = true) (r : RepV w (Fz m w) x u) : ∀ (es : List (V × D)) (ms : List MapEntry) (j : Nat), ms.length = es.length → keysOk kk es = true →
    (∀ (i : Nat) y e, es[i]? = some y → ms[i]? = some e → RepV w (Fz m w) y.1 e.key ∧ RepD m w y.2 e.val) →
    (∃ i e, i < es.length ∧ ms[i]? = some e ∧ Instr.findNow (kkDesc kk) u ms j = some (some (j + i, e.val)) ∧ merase x es = es.eraseIdx i) ∨
    (Instr.findNow (kkDesc kk) u ms j = some none ∧ merase x es = es)
  | [], [], j, _, _, _ => .inr ⟨rfl, rfl⟩
  | [], _ :: _, _, h, _, _ => by simp at h
  | _ :: _, [], _, h, _, _ => by simp at h
  | y :: es, e :: ms, j, hl, hk, hr => by
    simp only [keysOk, List.all_cons, Bool.and_eq_true] at hk
    obtain ⟨h1, h2⟩ := hr 0 y e rfl rfl
    obtain ⟨k1, k2⟩ := key_same hsc hx hk.1 r h1
    by_cases hq : keq x y.1 = true
    · refine .inl ⟨0, e, by simp, rfl, ?_, by simp [merase, hq]⟩
      simp [Instr.findNow, k1, hq]
    · rw [Bool.not_eq_true] at hq
      rcases find_del hsc hx r es ms (j + 1) (by simpa using hl) hk.2 (fun i y e ha hb => hr (i + 1) y e (by simpa using ha) (by simpa using hb)) with ⟨i, f, a1, a2, a3, a4⟩ | ⟨a1, a2⟩
      · refine .inl ⟨i + 1, f, by simpa using a1, by simpa using a2, ?_, by simp [merase, hq, a4]⟩
        simp only [Instr.findNow, k1, hq, a3]
        rw [show j + 1 + i = j + (i + 1) by omega]
      · exact .inr ⟨by simp [Instr.findNow, k1, hq, a1], by simp [merase, hq, a2]⟩

theorem ok_mdel {t kt et kt2 : TypeId} {x y : Operand} {ex ey : E} {kk : KK} (ho : o.op = .call { callee := .builtin .delete, args := #[x, y], argTypes := #[t, kt2] }) (hx : cE x = some ex) (hy : cE y = some ey) (hu : P.underlying t = some (.map kt et)) (hk : kkTy P kt kk) (hsc : kk.scal = true) :
    OpOk P o (.ext (.mdel kk) [ex, ey]) := by
  refine .of_runs fun σ m w a s K hI hE hW => ?_
  have rx := ev_rep hE hx
  have ry := ev_rep hE hy
  simp only [WOp, WX, List.map_cons, List.map_nil] at hW
  generalize ev s ex = dx at hW rx
  generalize ev s ey = dy at hW ry
  generalize hux : a.eval x = ux at rx
  generalize huy : a.eval y = uy at ry
  have hdesc := kkTy_desc hsc hk
  split at hW
  · rename_i k heq
    simp only [List.cons.injEq, and_true] at heq
    obtain ⟨rfl, rfl⟩ := heq
    generalize hmv : ux = uu at rx
    have hv := rx.v_inv
    cases hv
    subst hmv
    have hck := MapKept.run_checkKey (P := P) (w := w) hdesc (key_is hsc hW.1 ry.v_inv)
    refine .still (u := .tuple #[]) hI ?_ hW.2 (.tup [] [] rfl (by simp))
    simp [execOp, ho, hux, huy, resolve, invoke, builtin, Builtin.delete_, run_underlying hu, hck, Result.andThen] <;> rfl
  · rename_i oo k heq
    simp only [List.cons.injEq, and_true] at heq
    obtain ⟨rfl, rfl⟩ := heq
    cases rx with
    | map _ b hb =>
    split at hW
    · rename_i es hes
      obtain ⟨hdn, h1, h2, h3⟩ := hW
      have hb := hI.live hes (by simp) hb
      obtain ⟨ms, clock, hh, hsz, hrep, hst0⟩ := hI.ob _ _ b hes hb
      have hmem : b ∈ m.objb := Gh.mem_objb.2 (List.mem_of_getElem? hb)
      have hkey := key_is hsc h1 ry.v_inv
      have hget := MapKept.run_getObj_map (P := P) hh
      have hck := MapKept.run_checkKey (P := P) (w := w) hdesc hkey
      have hset : ∀ o', (setObj b o').run P w = .ok () (World.setAt w b o') := fun o' => MapKept.run_setObj_map o' hh
      have fin : ∀ (ob : Obj), (Builtin.delete_ #[t, kt2] o.type #[.map (some b), uy]).run P w = .ok (.tuple #[]) (World.setAt w b ob) → ObRep m (World.setAt w b ob) (.map (merase k es)) b → Runs1 P o σ m w a K := by
        intro ob hrun hob
        refine ⟨_, .tuple #[], _, m, _, _, ?_, .inl rfl, h3, hI.setAt hb ob _ hob, .setAt ob hmem, .tup [] [] rfl (by simp)⟩
        simp [execOp, ho, hux, huy, resolve, invoke, builtin, hrun]
      rcases find_del hsc h1 ry.v_inv es ms.toList 0 (by simpa using hsz) h2 (fun i y e h4 h5 => hrep i y e h4 (by simpa using h5)) with ⟨i, e, a1, a2, a3, a4⟩ | ⟨a1, a2⟩
      · have hfk := MapKept.run_findKey (P := P) (w := w) hdesc a3
        rw [Nat.zero_add] at hfk
        have hjs : i < ms.size := by rw [hsz]; exact a1
        have hsub : (ms.eraseIdxIfInBounds i).toList = ms.toList.eraseIdx i := by
          unfold Array.eraseIdxIfInBounds
          rw [dif_pos hjs]
          simp
        refine fin (.map (ms.eraseIdxIfInBounds i) clock) ?_ ?_
        · simp [Builtin.delete_, run_underlying hu, hget, hck, hfk, hset, Result.andThen]
        · rw [a4]
          have ex := Ext.setAt (m := m) (w := w) (.map (ms.eraseIdxIfInBounds i) clock) hmem
          refine ⟨_, clock, setAt_same _ hh, by rw [← Array.length_toList, hsub, List.length_eraseIdx, List.length_eraseIdx]; simp [hsz], fun j z f hz hf => ?_, dense_erase hdn hst0 i⟩
          rw [← Array.getElem?_toList, hsub, List.getElem?_eraseIdx] at hf
          rw [List.getElem?_eraseIdx] at hz
          by_cases hji : j < i
          · rw [if_pos hji] at hz hf
            obtain ⟨q1, q2⟩ := hrep j z f hz (by simpa using hf)
            exact ⟨q1.mono ex.fz, q2.mono ex⟩
          · rw [if_neg hji] at hz hf
            obtain ⟨q1, q2⟩ := hrep (j + 1) z f hz (by simpa using hf)
            exact ⟨q1.mono ex.fz, q2.mono ex⟩
      · have hfk := MapKept.run_findKey (P := P) (w := w) hdesc a1
        refine fin (.map ms clock) ?_ ?_
        · simp [Builtin.delete_, run_underlying hu, hget, hck, hfk, hset, Result.andThen]
        · rw [a2]
          have ex := Ext.setAt (m := m) (w := w) (.map ms clock) hmem
          refine ⟨_, clock, setAt_same _ hh, hsz, fun j z f hz hf => ?_, hst0⟩
          obtain ⟨q1, q2⟩ := hrep j z f hz hf
          exact ⟨q1.mono ex.fz, q2.mono ex⟩
    · exact hW.elim
  · exact hW.elim

theorem ok_stop (os : List E) : OpOk P o (.ext .stop os) := by
  refine .of_runs fun σ m w a s K hI hE hW => ?_
  exact hW.elim

end
end Go.Abs

/-
  The model's operations, turned into the small language; that each does what its weakest precondition says: part 11, slices that may be written to. (Own work; seat-independent.)
-/
set_option linter.unusedVariables false
set_option linter.unusedSimpArgs false
namespace Go.Abs
open Go

/-- Cells put into an object's block. -/
theorem setRow_ok {σ : Sg} {m : Gh} {w : World} (hI : Inv σ m w) {o b : Nat} {cs : List D} {us : Array Value} {ty : TypeId} (hcs : σ.objs[o]? = some (.cells cs)) (hb : m.objs[o]? = some (some b)) (hh : w.heap[b]? = some (.cells us ty (0, 0)))
    (hsz : cs.length ≤ us.size) (hob : ∀ (i : Nat) d u, cs[i]? = some d → us[i]? = some u → RepD m w d u ∧ u.oneCell' = true) (hone : True)
    {off : Nat} {xs : List D} {vs : List Value} (hl : xs.length = vs.length) (hr : ∀ (i : Nat) d u, xs[i]? = some d → vs[i]? = some u → RepD m w d u) (h1 : ∀ u ∈ vs, u.oneCell' = true) (hfit : off + xs.length ≤ cs.length) :
    Inv (σ.put o (.cells (putAt cs off xs))) m (w.setRow b (us.toList.take off ++ vs ++ us.toList.drop (off + vs.length)).toArray) ∧ Ext m w m (w.setRow b (us.toList.take off ++ vs ++ us.toList.drop (off + vs.length)).toArray) := by
  have hmem : b ∈ m.objb := Gh.mem_objb.2 (List.mem_of_getElem? hb)
  have e := Ext.setRow (m := m) (w := w) (us.toList.take off ++ vs ++ us.toList.drop (off + vs.length)).toArray hmem
  have hall := row_one (us := us.toList) (vs := vs) (off := off) (R := fun d u => RepD m w d u) (fun i d u h1 h2 => hob i d u h1 (by simpa using h2)) h1 (by omega) (by simpa using hsz)
  refine ⟨hI.setRow hb _ (.cells (putAt cs off xs)) ⟨_, ty, setRow_heap w b us _ ty (0, 0) hh, ?_, fun j d u hd hu => ?_, trivial⟩, e⟩
  · rw [putAt_length hfit]
    simp only [List.size_toArray, List.length_append, List.length_take, List.length_drop, Array.length_toList]
    omega
  · rw [List.getElem?_toArray] at hu
    have hjl : j < cs.length := by
      have := (List.getElem?_eq_some_iff.1 hd).1
      rwa [putAt_length hfit] at this
    have h2 := hall j u hu hjl
    rw [List.append_assoc] at hu
    exact ⟨(putAt_rep (us := us.toList) (vs := vs) (by simp; omega) (fun i d u h1 h2 => (hob i d u h1 (by simpa using h2)).1) hl hr hfit j d u hd hu).mono e, h2⟩

/-- A new block, and what its first cells hold; nothing is known of the others. -/
theorem newRow_ok {σ : Sg} {m : Gh} {w : World} (hI : Inv σ m w) (ty : TypeId) {cs : List D} {us : Array Value} (hl : cs.length ≤ us.size) (hr : ∀ (i : Nat) d u, cs[i]? = some d → us[i]? = some u → RepD m w d u) (h1 : ∀ (i : Nat) u, us[i]? = some u → u.oneCell' = true) :
    Inv (σ.add (.cells cs)) (m.add w.heap.size) (w.drew.alloc (.cells us ty)) ∧ Ext m w (m.add w.heap.size) (w.drew.alloc (.cells us ty)) := by
  have hI' := hI.drew
  have eD := Ext.drew m w
  have e := Ext.add m w.drew (.cells us ty)
  refine ⟨hI'.add (.cells us ty) (.cells cs) ⟨us, ty, heap_alloc_new w.drew _, hl, fun i d u hd hu => ⟨((hr i d u hd hu).mono eD).mono e, h1 i u hu⟩, trivial⟩, eD.trans e⟩
theorem newRow_ok' {σ : Sg} {m : Gh} {w : World} (hI : Inv σ m w) (ty : TypeId) {cs : List D} {us : Array Value} (hl : cs.length ≤ us.size) (hr : ∀ (i : Nat) d u, cs[i]? = some d → us[i]? = some u → RepD m w d u) (h1 : ∀ (i : Nat) u, us[i]? = some u → u.oneCell' = true) :
    Inv (σ.add (.cells cs)) (m.add w.heap.size) (w.alloc (.cells us ty)) ∧ Ext m w (m.add w.heap.size) (w.alloc (.cells us ty)) := by
  have e := Ext.add m w (.cells us ty)
  exact ⟨hI.add (.cells us ty) (.cells cs) ⟨us, ty, heap_alloc_new w _, hl, fun i d u hd hu => ⟨(hr i d u hd hu).mono e, h1 i u hu⟩, trivial⟩, e⟩

theorem zeroCells_get {zs : Array Value} {n i : Nat} {u : Value} (h : (Builtin.zeroCells zs n)[i]? = some u) : i < n * zs.size ∧ zs[i % zs.size]? = some u := by
  unfold Builtin.zeroCells at h
  rw [Array.getElem?_map] at h
  cases hr : (Array.range (n * zs.size))[i]? with
  | none => rw [hr] at h; cases h
  | some j =>
    rw [hr] at h
    have hlt : i < n * zs.size := by simpa using (Array.getElem?_eq_some_iff.1 hr).1
    have hj : j = i := by
      have := (Array.getElem?_eq_some_iff.1 hr).2
      simpa using this.symm
    subst hj
    simp only [Option.map_some, Option.some.injEq] at h
    have hpos : 0 < zs.size := by
      rcases Nat.eq_zero_or_pos zs.size with h0 | h0
      · rw [h0] at hlt; simp at hlt
      · exact h0
    have hm : j % zs.size < zs.size := Nat.mod_lt _ hpos
    refine ⟨hlt, ?_⟩
    rw [← h]
    simp [hm]

theorem olds_nil {P : Program} {w : World} (size : Nat) (a : Option Addr) (cap : Nat) : (Builtin.firstCells size 0 (.slice a 0 cap)).run P w = .ok #[] w := by
  cases a with
  | none => simp [Builtin.firstCells]
  | some b => exact run_firstCells_some (P := P) w size 0 b 0 cap [] (by simp) (by simp)

section
variable {P : Program} {o : Oper}

theorem zerosV_get {zs : List V} {n i : Nat} (h : i < n * zs.length) : (zerosV zs n)[i]? = zs[i % zs.length]? := by
  unfold zerosV
  induction n generalizing i with
  | zero => simp at h
  | succ n ih =>
    rw [List.replicate_succ, List.flatten_cons]
    rcases Nat.lt_or_ge i zs.length with h1 | h1
    · rw [List.getElem?_append_left h1, Nat.mod_eq_of_lt h1]
    · rw [List.getElem?_append_right h1, ih (by rw [Nat.add_mul, Nat.one_mul] at h; omega)]
      congr 1
      rw [Nat.mod_eq_sub_mod h1]
theorem zerosV_length {zs : List V} {n : Nat} : (zerosV zs n).length = n * zs.length := by simp [zerosV]

theorem made_get {z : Array Value} {n i : Nat} {u : Value} (hz : 0 < z.size) (h : (madeCells z n)[i]? = some u) : i < n ∧ z[i % z.size]? = some u := by
  unfold madeCells at h
  rw [Array.getElem?_map] at h
  cases hr : (Array.range n)[i]? with
  | none => rw [hr] at h; cases h
  | some j =>
    rw [hr] at h
    have hlt : i < n := by simpa using (Array.getElem?_eq_some_iff.1 hr).1
    have hj : j = i := by
      have := (Array.getElem?_eq_some_iff.1 hr).2
      simpa using this.symm
    subst hj
    simp only [Option.map_some, Option.some.injEq] at h
    have hm : j % z.size < z.size := Nat.mod_lt _ hz
    refine ⟨hlt, ?_⟩
    rw [← h]
    simp [hm]

theorem ok_mkvec {t e : TypeId} {x y : Operand} {ex ey : E} {i : TypeInfo} {zv : Value} {z : V} {sh : Sh} (ho : o.op = .makeSlice t x y) (hx : cE x = some ex) (hy : cE y = some ey) (ht : P.underlying t = some (.slice e)) (hi : P.info? e = some i)
    (hz : i.zero = some zv) (hzv : cV zv = some z) (hsz : i.size = shn sh) (hzs : zv.cells.size = shn sh) (hpos : 0 < i.bytes) (hp2 : 0 < shn sh) : OpOk P o (.ext (.mkvec sh i.bytes z.cells) [ex, ey]) := by
  refine .of_runs fun σ m w a s K hI hE hW => ?_
  have rx := ev_rep hE hx
  have ry := ev_rep hE hy
  simp only [WOp, WX, List.map_cons, List.map_nil] at hW
  generalize ev s ex = dx at hW rx
  generalize ev s ey = dy at hW ry
  split at hW
  · rename_i k n l c heq
    simp only [List.cons.injEq, and_true] at heq
    obtain ⟨rfl, rfl⟩ := heq
    have hux := rx.int_inv
    have huy := ry.int_inv
    obtain ⟨h0, h1, h2, h3, h4⟩ := hW
    have h63 : c ≤ 140737488355328 := by
      have : c * 1 ≤ c * i.bytes := by
        apply Int.mul_le_mul_of_nonneg_left <;> omega
      omega
    have hrun := run_make (P := P) w t e i zv ht hi hz k l n c h0 h1 (by rw [Int.mul_comm]; omega) (by omega)
    obtain ⟨q1, q2, q3⟩ := (cV_rep (w := w) (F := Fz m w) hzv).cellsR
    have hzl : z.cells.length = shn sh := by rw [q1, hzs]
    have hone : ∀ (j : Nat) u, (madeCells zv.cells (c.toNat * i.size))[j]? = some u → u.oneCell' = true := fun j u hu => by
      have h5 := (made_get (by omega) hu).2
      exact q3 u (by simpa using Array.mem_of_getElem? h5)
    have hex : (execOp a.eval o).run P w = .ok (.value (.slice (some ⟨w.heap.size, 0, none⟩) n.toNat c.toNat)) (w.alloc (.cells (madeCells zv.cells (c.toNat * i.size)) e)) := by
      simp only [execOp, ho, hux, huy, Sem.run_bind, hrun, Result.andThen_ok, Sem.run_pure]
    by_cases hc : c = 0
    · have hn0 : n.toNat = 0 := by omega
      have hc0 : c.toNat = 0 := by omega
      rw [hn0, hc0] at hex
      exact ⟨_, _, _, _, _, _, hex, .inl rfl, h3 hc, hI.alloc _, .alloc m w _, .v _ _ (.slNil _ _ _)⟩
    · obtain ⟨hI', hX'⟩ := newRow_ok' hI e (cs := (zerosV z.cells c.toNat).map .v) (us := madeCells zv.cells (c.toNat * i.size)) (by simp [zerosV_length, size_madeCells, hzl, hsz]) (fun j d u hd hu => by
        obtain ⟨h5, h6⟩ := made_get (by omega) hu
        rw [List.getElem?_map, zerosV_get (by rw [hzl, ← hsz]; exact h5)] at hd
        cases hq : z.cells[j % z.cells.length]? with
        | none => rw [hq] at hd; cases hd
        | some q =>
          rw [hq] at hd
          cases hd
          rw [q1] at hq
          exact .v _ _ (q2 _ q u hq h6)) hone
      refine ⟨_, _, _, _, _, _, hex, .inl rfl, h4 hc, hI', hX', .msl _ 0 _ sh _ _ _ (by simp [Gh.add, hI.lobj]) (.inl ⟨w.heap.size, rfl, .inl (by simp [Gh.add, ← hI.lobj])⟩) (by omega) (by simp only [maxLen]; omega) fun c' hc' => Option.some.inj hc'⟩
  · exact hW.elim

theorem ok_cap {t e : TypeId} {x : Operand} {ex : E} (ho : o.op = .call { callee := .builtin .cap, args := #[x], argTypes := #[t] }) (hx : cE x = some ex) (ht : P.underlying t = some (.slice e)) : OpOk P o (.ext .cap [ex]) := by
  refine .of_runs fun σ m w a s K hI hE hW => ?_
  have rx := ev_rep hE hx
  simp only [WOp, WX, List.map_cons, List.map_nil] at hW
  generalize ev s ex = dx at hW rx
  generalize hux : a.eval x = ux at rx
  have hrun : ∀ (aa : Option Addr) (n c : Nat), ux = .slice aa n c → (execOp a.eval o).run P w = .ok (.value (.int .i64 c)) w := by
    rintro aa n c rfl
    simp [execOp, ho, hux, resolve, invoke, builtin, Builtin.cap_, run_underlying ht, goInt]
  have fin : ∀ (aa : Option Addr) (n c : Nat), ux = .slice aa n c → c ≤ maxLen → K (.v (.int .i64 c)) σ → Runs1 P o σ m w a K := fun aa n c h1 h2 h3 =>
    .still hI (hrun aa n c h1) h3 (.v _ _ (.int _ _ (inR_nat h2)))
  unfold WCap at hW
  split at hW
  · have hv := rx.v_inv
    cases hv
    exact fin none 0 0 rfl (by decide) hW
  · obtain ⟨aa, cap, rfl, _, hcm, hf, _⟩ := rx.v_inv.sl_inv
    have := hf rfl
    subst this
    exact fin _ _ _ rfl hcm hW
  · obtain ⟨aa, cap, rfl, hlc, hcm, _⟩ := rx.v_inv.sl_inv
    exact fin _ _ _ rfl hcm (hW cap hlc hcm)
  · cases rx with
    | tsl _ _ _ aa len cap tk hv _ _ _ _ =>
      obtain ⟨aa', cap', he, hlc, hcm, _⟩ := hv.sl_inv
      cases he
      exact fin _ _ _ rfl hcm (hW cap hlc hcm)
  · rename_i o off len sh c
    cases rx with
    | msl _ _ _ _ _ aa cap hol hbb hlc hcm hcc =>
      have := hcc c rfl
      subst this
      exact fin _ _ _ rfl hcm hW
  · rename_i o off len sh
    cases rx with
    | msl _ _ _ _ _ aa cap hol hbb hlc hcm hcc => exact fin _ _ _ rfl hcm (hW cap hlc hcm)
  · exact hW.elim

theorem flat_map_v_get {ys : List V} {news : List Value} {m : Gh} {w : World} (hnew : ∀ (j : Nat) c v, (V.flat ys)[j]? = some c → news[j]? = some v → RepV w (Fz m w) c v) :
    ∀ (i : Nat) d u, ((V.flat ys).map D.v)[i]? = some d → news[i]? = some u → RepD m w d u := by
  intro i d u hd hu
  rw [List.getElem?_map] at hd
  cases hc : (V.flat ys)[i]? with
  | none => rw [hc] at hd; cases hd
  | some c => rw [hc] at hd; cases hd; exact .v _ _ (hnew i c u hc hu)

theorem put_nil {σ : Sg} {o off : Nat} {cs : List D} (h : σ.objs[o]? = some (.cells cs)) : σ.put o (.cells (putAt cs off ((V.flat []).map .v))) = σ := by
  obtain ⟨os, ts⟩ := σ
  have : putAt cs off ((V.flat []).map .v) = cs := by simp [putAt, V.flat]
  simp only [Sg.put, this, Sg.mk.injEq, and_true]
  apply List.ext_getElem?
  intro i
  rw [List.getElem?_set]
  split
  · rename_i hi
    subst hi
    split
    · exact h.symm
    · rename_i hlt
      have h' : os[o]? = some (.cells cs) := h
      exact absurd (List.getElem?_eq_some_iff.1 h').1 hlt
  · rfl

theorem run_append_roomAt {w : World} (t u ty e : TypeId) (d : TypeDesc) (i : TypeInfo) (ht : P.underlying t = some (.slice e)) (hu : P.underlying u = some d) (hd : Runs d) (hi : P.info? e = some i)
    (g off sLen sCap : Nat) (cur : Array Value) (ty' : TypeId) (hg : w.heap[g]? = some (.cells cur ty' (0, 0)))
    (x : Value) (n : Nat) (news : List Value) (hs : Src P w i.size x n news) (h1 : ∀ u ∈ news, u.oneCell' = true)
    (hroom : sLen + n ≤ sCap) (hfit : off + sLen * i.size + news.length ≤ cur.size) :
    (Builtin.append_ #[t, u] ty #[.slice (some ⟨g, off, none⟩) sLen sCap, x]).run P w =
      .ok (.slice (some ⟨g, off, none⟩) (sLen + n) sCap) (w.setRow g (cur.toList.take (off + sLen * i.size) ++ news ++ cur.toList.drop (off + sLen * i.size + news.length)).toArray) := by
  have hst := run_storeCells_at P g (off + sLen * i.size) ty' news 0 cur w hg (by simpa using hfit) h1
  simp only [Nat.add_zero] at hst
  rcases hd with ⟨e2, rfl⟩ | rfl <;>
    simp [Builtin.append_, run_underlying ht, run_underlying hu, sizeOf, typeInfo, hi, hs.len, hroom, hs.cells, Addr.add_lit, hst]

theorem ok_copy {t u e : TypeId} {x y : Operand} {ex ey : E} {i : TypeInfo} {sh : Sh} (ho : o.op = .call { callee := .builtin .copy, args := #[x, y], argTypes := #[t, u] }) (hx : cE x = some ex) (hy : cE y = some ey)
    (ht : P.underlying t = some (.slice e)) (hi : P.info? e = some i) (hsz : i.size = shn sh) : OpOk P o (.ext (.copy sh) [ex, ey]) := by
  refine .of_runs fun σ m w a s K hI hE hW => ?_
  have rx := ev_rep hE hx
  have ry := ev_rep hE hy
  simp only [WOp, WX, List.map_cons, List.map_nil] at hW
  generalize ev s ex = dx at hW rx
  generalize ev s ey = dy at hW ry
  generalize hux : a.eval x = ux at rx
  generalize huy : a.eval y = uy at ry
  unfold WCopy at hW
  split at hW
  · exact hW.elim
  · rename_i ys hys
    obtain ⟨news, hsrc, hsh, h1, hnew⟩ := srcM_rep (P := P) hI ry hys
    split at hW
    · rename_i oo off len sh' cp
      split at hW
      · rename_i cs hcs
        obtain ⟨rfl, hcs0, hlen, hfit, hK⟩ := hW
        have hnl : news.length = ys.length * shn sh := hsrc.lenEq
        have hfl : (V.flat ys).length = ys.length * shn sh := V.flat_length hsh
        have hn1 : ∀ u ∈ news, u.oneCell' = true := RepV.cells_one h1 (by rw [hnl, hfl]) hnew
        cases rx with
        | msl _ _ _ _ _ aa cap hol hbb hlc hcm hcc =>
        have hmin : Nat.min ys.length len = ys.length := Nat.min_eq_left hlen
        rcases hbb with ⟨b, rfl, hb⟩ | ⟨hl0, hc0⟩
        · have hb := hI.live hcs (by rintro e; cases e; exact hcs0 rfl) hb
          obtain ⟨us, ty, hh, hsz', hob, hone⟩ := hI.ob oo _ b hcs hb
          have hst := run_storeCells_at P b off ty news 0 us w hh (by simp; omega) hn1
          simp only [Nat.add_zero] at hst
          obtain ⟨hI', hX'⟩ := setRow_ok hI hcs hb hh hsz' hob hone (off := off) (xs := (V.flat ys).map .v) (vs := news) (by simp [hfl, hnl]) (flat_map_v_get hnew) hn1 (by simp [hfl]; omega)
          refine ⟨_, _, _, _, _, _, ?_, .inl rfl, hK, hI', hX', .v _ _ (.int _ _ (inR_nat (by omega)))⟩
          simp [execOp, ho, hux, huy, resolve, invoke, builtin, Builtin.copy_, run_underlying ht, hsrc.len, hmin, sizeOf, typeInfo, hi, hsz, hsrc.cells, hst, goInt] <;> rfl
        · have hy0 : ys = [] := List.eq_nil_of_length_eq_zero (by omega)
          subst hy0
          have hn0 : news = [] := List.eq_nil_of_length_eq_zero (by simpa using hnl)
          subst hn0
          have hput : σ.put oo (.cells (putAt cs off ((V.flat []).map .v))) = σ := put_nil hcs
          rw [hput] at hK
          refine ⟨_, _, _, _, _, _, ?_, .inl rfl, hK, hI, .refl m w, .v _ _ (.int _ _ (by decide))⟩
          subst hl0
          have hc0' : (Builtin.firstCells (shn sh) 0 uy).run P w = .ok #[] w := hsrc.cells
          cases aa <;> simp [execOp, ho, hux, huy, resolve, invoke, builtin, Builtin.copy_, run_underlying ht, hsrc.len, sizeOf, typeInfo, hi, hsz, hc0', storeCells, goInt] <;> rfl
      · exact hW.elim
    · exact hW.elim

theorem appm_core {σ : Sg} {m : Gh} {w : World} {a : Act} {K : D → Sg → Prop} (hI : Inv σ m w) {t u e : TypeId} {i : TypeInfo} {zv : Value} {z : V} {sh : Sh} (hzv : cV zv = some z) (hsz : i.size = shn sh) (hzs : zv.cells.size = shn sh) (hpos : 0 < i.bytes) (hp2 : 0 < shn sh)
    {dx : D} {ux uy : Value} (rx : RepD m w dx ux) {ys : List V} {news : List Value} (hnl : news.length = ys.length * shn sh) (hsh : ∀ y ∈ ys, y.shape = sh) (h1 : ∀ c ∈ V.flat ys, c.one = true)
    (hnew : ∀ (j : Nat) c v, (V.flat ys)[j]? = some c → news[j]? = some v → RepV w (Fz m w) c v)
    (hex : ∀ (v : Value) (w' : World), (Builtin.append_ #[t, u] o.type #[ux, uy]).run P w = .ok v w' → (execOp a.eval o).run P w = .ok (.value v) w')
    (runNone : ys = [] → ∀ (aa : Option Addr) (sLen sCap : Nat), sLen ≤ sCap → (Builtin.append_ #[t, u] o.type #[.slice aa sLen sCap, uy]).run P w = .ok (.slice aa sLen sCap) w)
    (runRoom : ∀ (g off sLen sCap : Nat) (cur : Array Value) (ty' : TypeId), w.heap[g]? = some (.cells cur ty' (0, 0)) → sLen + ys.length ≤ sCap → off + sLen * i.size + news.length ≤ cur.size →
      (Builtin.append_ #[t, u] o.type #[.slice (some ⟨g, off, none⟩) sLen sCap, uy]).run P w =
        .ok (.slice (some ⟨g, off, none⟩) (sLen + ys.length) sCap) (w.setRow g (cur.toList.take (off + sLen * i.size) ++ news ++ cur.toList.drop (off + sLen * i.size + news.length)).toArray))
    (runGrow : ∀ (aa : Option Addr) (sLen sCap : Nat) (olds : List Value), (Builtin.firstCells i.size sLen (.slice aa sLen sCap)).run P w.drew = .ok olds.toArray w.drew → sCap < sLen + ys.length → ((sLen + ys.length : Nat) : Int) ≤ 9223372036854775807 →
      Builtin.nextslicecap (sLen + ys.length) sCap * i.bytes ≤ 281474976710656 → (Builtin.append_ #[t, u] o.type #[.slice aa sLen sCap, uy]).run P w =
        .ok (.slice (some ⟨w.heap.size, 0, none⟩) (sLen + ys.length) (grownCap w (sLen + ys.length) sCap e))
          (w.drew.alloc (.cells (olds.toArray ++ news.toArray ++ Builtin.zeroCells zv.cells (grownCap w (sLen + ys.length) sCap e - (sLen + ys.length))) e)))
    (hW : WApmV sh i.bytes dx ys σ K) : Runs1 P o σ m w a K := by
  obtain ⟨z1, z2, z3⟩ := (cV_rep (w := w) (F := Fz m w) hzv).cellsR
  have hfl : (V.flat ys).length = ys.length * shn sh := V.flat_length hsh
  have hn1 : ∀ u ∈ news, u.oneCell' = true := RepV.cells_one h1 (by rw [hnl, hfl]) hnew
  unfold WApmV at hW
  -- a new block: olds, news, room
  have grow : ∀ (aa : Option Addr) (len cap : Nat) (olds : List Value) (ods : List D), ux = .slice aa len cap → olds.length = len * shn sh → ods.length = len * shn sh → (Builtin.firstCells i.size len (.slice aa len cap)).run P w.drew = .ok olds.toArray w.drew →
      (∀ (i : Nat) d u, ods[i]? = some d → olds[i]? = some u → RepD m w d u) → (∀ u ∈ olds, u.oneCell' = true) → cap < len + ys.length → (len + ys.length) * i.bytes ≤ 140737488355328 →
      (∀ c : Nat, len + ys.length ≤ c → c ≤ maxLen → K (.msl σ.objs.length 0 (len + ys.length) sh (some c)) (σ.add (.cells (ods ++ ((V.flat ys).map .v ++ List.replicate ((c - (len + ys.length)) * shn sh) .junk))))) → Runs1 P o σ m w a K := by
    intro aa len cap olds ods hax hol hodl horun hor ho1 hg hbytes hk
    subst hax
    have hm63 : len + ys.length ≤ maxLen := by
      have : (len + ys.length) * 1 ≤ (len + ys.length) * i.bytes := Nat.mul_le_mul_left _ hpos
      simp only [maxLen]
      omega
    have hrun := runGrow aa len cap olds horun hg (by simp only [maxLen] at hm63; omega) (growslice_fits hg hbytes)
    have hge := grownCap_ge w (len + ys.length) cap e
    have hcm : grownCap w (len + ys.length) cap e ≤ maxLen := grownCap_le_maxLen w (len + ys.length) cap e hm63
    generalize grownCap w (len + ys.length) cap e = C at hrun hge hcm
    have hsize : (olds.toArray ++ news.toArray ++ Builtin.zeroCells zv.cells (C - (len + ys.length))).size = C * shn sh := by
      simp only [Array.size_append, List.size_toArray, size_zeroCells, hol, hnl, hzs, ← Nat.add_mul]
      congr 1
      omega
    obtain ⟨hI', hX'⟩ := newRow_ok hI e (cs := ods ++ ((V.flat ys).map .v ++ List.replicate ((C - (len + ys.length)) * shn sh) .junk)) (us := olds.toArray ++ news.toArray ++ Builtin.zeroCells zv.cells (C - (len + ys.length)))
      (by
        rw [hsize]
        simp only [List.length_append, List.length_map, List.length_replicate, hodl, hfl, ← Nat.add_mul]
        exact Nat.mul_le_mul_right _ (by omega))
      (fun j d u hd hu => by
        rw [← Array.getElem?_toList] at hu
        simp only [Array.toList_append, List.append_assoc] at hu
        rcases Nat.lt_or_ge j ods.length with hlt | hge'
        · rw [List.getElem?_append_left hlt] at hd
          rw [List.getElem?_append_left (by omega)] at hu
          exact hor j d u hd hu
        · rw [List.getElem?_append_right hge'] at hd
          rw [List.getElem?_append_right (by omega)] at hu
          rw [show olds.length = ods.length by omega] at hu
          rcases Nat.lt_or_ge (j - ods.length) ((V.flat ys).map D.v).length with hlt | hge2
          · rw [List.getElem?_append_left hlt] at hd
            rw [List.length_map] at hlt
            rw [List.getElem?_append_left (by omega)] at hu
            exact flat_map_v_get hnew _ d u hd hu
          · rw [List.getElem?_append_right hge2] at hd
            have := List.mem_of_getElem? hd
            rw [List.eq_of_mem_replicate this]
            exact .junk _)
      (fun j u hu => by
        have := Array.mem_of_getElem? hu
        simp only [Array.mem_append, List.mem_toArray] at this
        rcases this with (h | h) | h
        · exact ho1 u h
        · exact hn1 u h
        · obtain ⟨j', hj'⟩ := Array.mem_iff_getElem?.1 h
          exact z3 u (by simpa using Array.mem_of_getElem? (zeroCells_get hj').2))
    exact ⟨_, _, _, _, _, _, hex _ _ hrun, .inl rfl, hk C hge hcm, hI', hX', .msl _ 0 _ sh _ _ _ (by simp [Gh.add, hI.lobj]) (.inl ⟨w.heap.size, rfl, .inl (by simp [Gh.add, ← hI.lobj])⟩) hge hcm fun c' hc' => Option.some.inj hc'⟩
  have new0 : ∀ (aa : Option Addr), ux = .slice aa 0 0 → WApm0 sh i.bytes ys σ K → Runs1 P o σ m w a K := by
    rintro aa rfl ⟨k1, k2⟩
    by_cases hy0 : ys = []
    · subst hy0
      have hrun := runNone rfl aa 0 0 (Nat.le_refl _)
      exact ⟨_, _, _, _, _, _, hex _ _ hrun, .inl rfl, k1 rfl, hI, .refl m w, .v _ _ (.slNil _ _ _)⟩
    · have hpos' : 0 < ys.length := List.length_pos_iff.2 hy0
      obtain ⟨k3, k4⟩ := k2 hy0
      refine grow aa 0 0 [] [] rfl (by simp) (by simp) (olds_nil i.size aa 0) (by simp) (by simp) (by omega) (by rw [Nat.zero_add]; exact k3) ?_
      simpa using k4
  split at hW
  · have hv := rx.v_inv
    generalize hq : ux = q at hv
    cases hv
    exact new0 none hq hW
  · obtain ⟨rfl, hW⟩ := hW
    obtain ⟨aa, cap, rfl, _, _, hf, _⟩ := rx.v_inv.sl_inv
    have := hf rfl
    subst this
    exact new0 aa rfl hW
  · rename_i oo off len sh' c
    obtain ⟨rfl, hW⟩ := hW
    cases rx with
    | msl _ _ _ _ _ aa cap hol hbb hlc hcm hcc =>
    have := hcc c rfl
    subst this
    unfold WApm1 at hW
    split at hW
    · rename_i cs hcs
      obtain ⟨k1, k2⟩ := hW
      have live : cs ≠ [] → ∀ b, m.at oo b → ∃ us ty, m.objs[oo]? = some (some b) ∧ w.heap[b]? = some (.cells us ty (0, 0)) ∧ cs.length ≤ us.size ∧ (∀ (i : Nat) d u, cs[i]? = some d → us[i]? = some u → RepD m w d u ∧ u.oneCell' = true) ∧ True := by
        intro hne b hb
        have hb' := hI.live hcs (by rintro e; cases e; exact hne rfl) hb
        obtain ⟨us, ty, hh, h2, h3, h4⟩ := hI.ob oo _ b hcs hb'
        exact ⟨us, ty, hb', hh, h2, h3, h4⟩
      by_cases hroom : len + ys.length ≤ cap
      · obtain ⟨hfit, hK⟩ := k1 hroom
        by_cases hy0 : ys = []
        · subst hy0
          have hrun := runNone rfl aa len cap (by simpa using hroom)
          rw [put_nil hcs] at hK
          exact ⟨_, _, _, _, _, _, hex _ _ hrun, .inl rfl, hK, hI, .refl m w, .msl oo off _ sh _ _ _ hol (by simpa using hbb) (by simpa using hlc) hcm fun c' hc' => Option.some.inj hc'⟩
        · have hpos' : 0 < ys.length := List.length_pos_iff.2 hy0
          rcases hbb with ⟨b, rfl, hb⟩ | ⟨_, hc0⟩
          · have h5 : 0 < (len + ys.length) * shn sh := Nat.mul_pos (by omega) hp2
            rw [Nat.add_mul] at hfit h5
            obtain ⟨us, ty, hb', hh, h2, h3, h4⟩ := live (by rintro rfl; simp at hfit; omega) b hb
            have hrun := runRoom b off len cap us ty hh hroom (by rw [hsz, hnl]; omega)
            obtain ⟨hI', hX'⟩ := setRow_ok hI hcs hb' hh h2 h3 h4 (off := off + len * shn sh) (xs := (V.flat ys).map .v) (vs := news) (by simp [hfl, hnl]) (flat_map_v_get hnew) hn1 (by simp [hfl]; omega)
            rw [hsz] at hrun
            exact ⟨_, _, _, _, _, _, hex _ _ hrun, .inl rfl, hK, hI', hX', .msl oo off _ sh _ _ _ hol (.inl ⟨b, rfl, hX'.at hb⟩) hroom hcm fun c' hc' => Option.some.inj hc'⟩
          · omega
      · obtain ⟨hfit, hbytes, hK⟩ := k2 hroom
        by_cases hl0 : len = 0
        · subst hl0
          refine grow aa 0 cap [] [] rfl (by simp) (by simp) (olds_nil i.size aa cap) (by simp) (by simp) (by omega) hbytes ?_
          simpa using hK
        · rcases hbb with ⟨b, rfl, hb⟩ | ⟨h0, _⟩
          · have h5 : 0 < len * shn sh := Nat.mul_pos (by omega) hp2
            obtain ⟨us, ty, hb', hh, h2, h3, h4⟩ := live (by rintro rfl; simp at hfit; omega) b hb
            refine grow (some ⟨b, off, none⟩) len cap ((us.toList.drop off).take (len * shn sh)) ((cs.drop off).take (len * shn sh)) rfl (by simp; omega) (by simp; omega) ?_ ?_ ?_ (by omega) hbytes hK
            · rw [hsz]
              refine run_firstCells_some (P := P) w.drew (shn sh) len ⟨b, off, none⟩ len cap _ (by simp; omega) fun j v hj => ?_
              have hjl : j < len * shn sh := by
                have := (List.getElem?_eq_some_iff.1 hj).1
                simp only [List.length_take, List.length_drop, Array.length_toList] at this
                omega
              rw [List.getElem?_take_of_lt hjl, List.getElem?_drop] at hj
              rw [Addr.add_lit, cell_of_row w.drew b (off + j) us ty (0, 0) hh]
              simpa using hj
            · intro j d u hd hu
              have hjl : j < len * shn sh := by
                have := (List.getElem?_eq_some_iff.1 hd).1
                simp only [List.length_take, List.length_drop] at this
                omega
              rw [List.getElem?_take_of_lt hjl, List.getElem?_drop] at hd hu
              exact (h3 _ d u hd (by simpa using hu)).1
            · intro u hu
              obtain ⟨j, hj⟩ := List.mem_iff_getElem?.1 hu
              have hjl : j < len * shn sh := by
                have := (List.getElem?_eq_some_iff.1 hj).1
                simp only [List.length_take, List.length_drop] at this
                omega
              rw [List.getElem?_take_of_lt hjl, List.getElem?_drop] at hj
              exact (h3 (off + j) cs[off + j] u (List.getElem?_eq_getElem (by omega)) (by simpa using hj)).2
          · exact absurd h0 hl0
    · exact hW.elim
  · exact hW.elim

theorem ok_appm {t u e : TypeId} {x y : Operand} {ex ey : E} {d : TypeDesc} {i : TypeInfo} {zv : Value} {z : V} {sh : Sh} (ho : o.op = .call { callee := .builtin .append, args := #[x, y], argTypes := #[t, u] }) (hx : cE x = some ex) (hy : cE y = some ey)
    (ht : P.underlying t = some (.slice e)) (hu : P.underlying u = some d) (hd : Runs d) (hi : P.info? e = some i) (hz : i.zero = some zv) (hzv : cV zv = some z) (hsz : i.size = shn sh) (hzs : zv.cells.size = shn sh) (hpos : 0 < i.bytes) (hp2 : 0 < shn sh) : OpOk P o (.ext (.appm sh i.bytes) [ex, ey]) := by
  refine .of_runs fun σ m w a s K hI hE hW => ?_
  have rx := ev_rep hE hx
  have ry := ev_rep hE hy
  simp only [WOp, WX, List.map_cons, List.map_nil] at hW
  generalize ev s ex = dx at hW rx
  generalize ev s ey = dy at hW ry
  unfold WApm at hW
  split at hW
  · exact hW.elim
  · rename_i ys hys
    obtain ⟨news, hsrc, hsh, h1, hnew⟩ := srcM_rep (P := P) hI ry hys
    have hnl : news.length = ys.length * shn sh := hsrc.lenEq
    have hfl : (V.flat ys).length = ys.length * shn sh := V.flat_length hsh
    have hn1 : ∀ u ∈ news, u.oneCell' = true := RepV.cells_one h1 (by rw [hnl, hfl]) hnew
    rw [← hsz] at hsrc
    refine appm_core (t := t) (u := u) (e := e) hI hzv hsz hzs hpos hp2 rx hnl hsh h1 hnew (fun v w' h => by simp [execOp, ho, resolve, invoke, builtin, h]) (fun hy0 aa sLen sCap hr => ?_)
      (fun g off sLen sCap cur ty' hg hr hf => run_append_roomAt (P := P) (w := w) t u o.type e d i ht hu hd hi g off sLen sCap cur ty' hg _ ys.length news hsrc hn1 hr hf)
      (fun aa sLen sCap olds ho1 hg h63 hfit => run_append_grow' (P := P) (w := w) t u o.type e d i zv ht hu hd hi hz aa sLen sCap olds ho1 _ ys.length news hsrc hg h63 hfit) hW
    subst hy0
    have hn0 : news = [] := List.eq_nil_of_length_eq_zero (by simpa using hnl)
    subst hn0
    exact run_append_none (P := P) (w := w) t u o.type e d i ht hu hd hi aa sLen sCap _ hsrc hr

theorem zrow_flat {sh : Sh} {zs : List V} (hl : zs.length = shn sh) (h1 : ∀ c ∈ zs, c.one = true) (n : Nat) : V.flat (List.replicate n (zrow sh zs)) = zerosV zs n ∧ ∀ y ∈ List.replicate n (zrow sh zs), y.shape = sh := by
  have hc : (zrow sh zs).cells = zs ∧ (zrow sh zs).shape = sh := by
    cases sh with
    | some k => exact ⟨rfl, by simp [zrow, V.shape, hl, shn]⟩
    | none =>
      match zs, hl with
      | [c], _ =>
        have := h1 c (by simp)
        simp only [zrow, List.headD_cons]
        cases c <;> first | exact ⟨rfl, rfl⟩ | (simp [V.one] at this)
  refine ⟨?_, fun y hy => by rw [List.eq_of_mem_replicate hy]; exact hc.2⟩
  unfold V.flat zerosV
  induction n with
  | zero => rfl
  | succ n ih => rw [List.replicate_succ, List.replicate_succ, List.flatMap_cons, List.flatten_cons, hc.1, ih]

theorem zeroCells_toList_get {zs : Array Value} {n i : Nat} {u : Value} (h : (Builtin.zeroCells zs n).toList[i]? = some u) : i < n * zs.size ∧ zs[i % zs.size]? = some u := zeroCells_get (by simpa using h)

theorem ok_appz {t u e : TypeId} {x y : Operand} {ex ey : E} {k : IntKind} {i : TypeInfo} {zv : Value} {z : V} {sh : Sh} (ho : o.op = .call { callee := .builtin .append, args := #[x, y], argTypes := #[t, u] }) (hx : cE x = some ex) (hy : cE y = some ey)
    (ht : P.underlying t = some (.slice e)) (hu : P.underlying u = some (.int k)) (hi : P.info? e = some i) (hz : i.zero = some zv) (hzv : cV zv = some z) (hsz : i.size = shn sh) (hzs : zv.cells.size = shn sh) (hpos : 0 < i.bytes) (hp2 : 0 < shn sh) : OpOk P o (.ext (.appz sh i.bytes z.cells) [ex, ey]) := by
  refine .of_runs fun σ m w a s K hI hE hW => ?_
  have rx := ev_rep hE hx
  have ry := ev_rep hE hy
  simp only [WOp, WX, List.map_cons, List.map_nil] at hW
  generalize ev s ex = dx at hW rx
  generalize ev s ey = dy at hW ry
  split at hW
  · rename_i s' l n heq
    simp only [List.cons.injEq, and_true] at heq
    obtain ⟨rfl, rfl⟩ := heq
    have huy := ry.int_inv
    obtain ⟨h0, hb, hW⟩ := hW
    obtain ⟨q1, q2, q3⟩ := (cV_rep (w := w) (F := Fz m w) hzv).cellsR
    have hzl : z.cells.length = shn sh := by rw [q1, hzs]
    have hz1 : ∀ c ∈ z.cells, c.one = true := by
      intro c hc
      obtain ⟨j, hj⟩ := List.mem_iff_getElem?.1 hc
      have hjl : j < zv.cells.size := by rw [← q1]; exact (List.getElem?_eq_some_iff.1 hj).1
      obtain ⟨v, hv⟩ : ∃ v, zv.cells[j]? = some v := ⟨_, Array.getElem?_eq_getElem hjl⟩
      have h5 := q2 j c v hj hv
      have h6 := q3 v (by simpa using Array.mem_of_getElem? hv)
      cases h5 <;> first | rfl | (simp [Value.oneCell'] at h6)
    obtain ⟨f1, f2⟩ := zrow_flat hzl hz1 n.toNat
    have hn63 : n ≤ 140737488355328 := by
      have : n * 1 ≤ n * i.bytes := by
        apply Int.mul_le_mul_of_nonneg_left <;> omega
      omega
    have hw : IntKind.i64.wrap n = n := by rw [IntKind.wrap_i64]; omega
    have hle : ¬ (281474976710656 < n * (i.bytes : Int)) := by omega
    have hn0 : ¬ n < 0 := by omega
    have hap : ∀ w' : World, w'.heap = w.heap → (if n.toNat * i.size = 0 then (pure #[] : Sem (Array Value)) else do pure (Builtin.zeroCells (← zeroValue e).cells n.toNat)).run P w' = .ok (Builtin.zeroCells zv.cells n.toNat) w' := by
      intro w' _
      split
      · rename_i h5
        have : Builtin.zeroCells zv.cells n.toNat = #[] := by
          apply Array.eq_empty_of_size_eq_zero
          rw [size_zeroCells, hzs, ← hsz]
          exact h5
        rw [this]
        simp
      · simp [zeroValue, typeInfo, hi, hz]
    have hsize : (Builtin.zeroCells zv.cells n.toNat).toList.length = n.toNat * shn sh := by rw [Array.length_toList, size_zeroCells, hzs]
    have hone : ∀ u ∈ (Builtin.zeroCells zv.cells n.toNat).toList, u.oneCell' = true := by
      intro u hu
      obtain ⟨j, hj⟩ := List.mem_iff_getElem?.1 hu
      exact q3 u (by simpa using Array.mem_of_getElem? (zeroCells_toList_get hj).2)
    have hl : (List.replicate n.toNat (zrow sh z.cells)).length = n.toNat := by simp
    refine appm_core (t := t) (u := u) (e := e) (uy := a.eval y) (news := (Builtin.zeroCells zv.cells n.toNat).toList) hI hzv hsz hzs hpos hp2 rx (by rw [hl]; exact hsize) f2 (by
        rw [f1]
        intro c hc
        unfold zerosV at hc
        obtain ⟨l, hl, hcl⟩ := List.mem_flatten.1 hc
        rw [List.eq_of_mem_replicate hl] at hcl
        exact hz1 c hcl) (fun j c v hc hv => by
        obtain ⟨h5, h6⟩ := zeroCells_toList_get hv
        rw [f1, zerosV_get (by rw [hzl, ← hzs]; exact h5), hzl, ← hzs] at hc
        exact q2 _ c v hc h6) (fun v w' h => by simp [execOp, ho, resolve, invoke, builtin, h]) (fun hy0 aa sLen sCap hr => ?_) (fun g off sLen sCap cur ty' hg hr hf => ?_) (fun aa sLen sCap olds ho1 hg h63 hfit => ?_) hW
    · rw [huy]
      have hn : n.toNat = 0 := by simpa using congrArg List.length hy0
      have hz0 : n = 0 := by omega
      subst hz0
      cases aa <;> simp [Builtin.append_, run_underlying ht, run_underlying hu, sizeOf, typeInfo, hi, asInt, asIntOf, hw, hr, storeCells]
    · rw [huy, hl]
      have hst := run_storeCells_at P g (off + sLen * i.size) ty' (Builtin.zeroCells zv.cells n.toNat).toList 0 cur w hg (by simpa using hf) hone
      simp only [Nat.add_zero] at hst
      rw [hl] at hr
      have hap' := hap w rfl
      by_cases hn : n.toNat * i.size = 0
      · rw [if_pos hn] at hap'
        simp only [Sem.run_pure, Result.ok.injEq, and_true] at hap'
        rw [← hap'] at hst ⊢
        simp [Builtin.append_, run_underlying ht, run_underlying hu, sizeOf, typeInfo, hi, asInt, asIntOf, hw, hr, hn0, hle, hn, Addr.add_lit]
        simp at hst
        rw [hst]
        rfl
      · rw [if_neg hn] at hap'
        simp [Builtin.append_, run_underlying ht, run_underlying hu, sizeOf, typeInfo, zeroValue, hi, hz, asInt, asIntOf, hw, hr, hn0, hle, hn, Addr.add_lit, hst]
    · rw [huy, hl]
      rw [hl] at hg h63 hfit
      have hn' : ¬ (sLen + n.toNat ≤ sCap) := by omega
      have h63' : ¬ (9223372036854775807 < ((sLen : Int) + (n.toNat : Int))) := by omega
      have h63'' : ¬ (9223372036854775807 < (sLen : Int) + max n 0) := by omega
      have h48' : ¬ (281474976710656 < Builtin.nextslicecap (sLen + n.toNat) sCap * i.bytes) := by omega
      have hap' := hap w.drew rfl
      by_cases hn : n.toNat * i.size = 0
      · rw [if_pos hn] at hap'
        simp only [Sem.run_pure, Result.ok.injEq, and_true] at hap'
        rw [← hap']
        simp [Builtin.append_, run_underlying ht, run_underlying hu, sizeOf, typeInfo, zeroValue, hi, hz, asInt, asIntOf, hw, hn0, hle, hn, hn', h63', h63'', h48', Question.forced, ho1, newRow, grownCap]
      · rw [if_neg hn] at hap'
        simp [Builtin.append_, run_underlying ht, run_underlying hu, sizeOf, typeInfo, zeroValue, hi, hz, asInt, asIntOf, hw, hn0, hle, hn, hn', h63', h63'', h48', Question.forced, ho1, newRow, grownCap]
  · exact hW.elim

/-- Bytes that were written one by one, given out for good: their block bears a mark from now on. -/
theorem ok_give {src e : TypeId} {x : Operand} {ex : E} (ho : o.op = .convert src src x) (hx : cE x = some ex) (hs : P.underlying src = some (.slice e)) (he : P.underlying e = some (.int .u8)) : OpOk P o (.ext .give [ex]) := by
  refine .of_runs fun σ m w a s K hI hE hW => ?_
  have rx := ev_rep hE hx
  simp only [WOp, WX, List.map_cons, List.map_nil] at hW
  generalize ev s ex = dx at hW rx
  generalize hux : a.eval x = ux at rx
  split at hW
  · rename_i q1 o' len cp q5
    obtain rfl := (List.cons.inj q5).1
    obtain ⟨cs, xs, hcs, htk, hlen, hl0, hsh, hK⟩ := hW
    cases rx with
    | msl _ _ _ _ _ aa cap hol hbb hlc hcm hcc =>
    rcases hbb with ⟨b, rfl, hb⟩ | ⟨h0, _⟩
    · have hb := hI.live hcs (by rintro h; cases h; rw [List.take_nil] at htk; have := congrArg List.length htk; simp at this; omega) hb
      obtain ⟨us, ty, hh, hsz, hob, _⟩ := hI.ob o' _ b hcs hb
      have hbs : b < w.heap.size := (Array.getElem?_eq_some_iff.1 hh).1
      have hrun : (execOp a.eval o).run P w = .ok (.value (.slice (some ⟨b, 0, none⟩) len cap)) (w.freeze ⟨b, us.size, none⟩ 1) := by
        simp [execOp, ho, hux, convert, run_underlying hs, run_underlying he, markStringish, World.shape?, hh] <;> rfl
      have hw1 : (w.freeze ⟨b, us.size, none⟩ 1).heap[b]? = some (.cells us ty (us.size, us.size + 1)) := by
        simp only [World.freeze, Nat.one_ne_zero, if_false, Array.getElem?_modify, if_true, hh]
        rfl
      have hold : ∀ c, c ≠ b → (w.freeze ⟨b, us.size, none⟩ 1).heap[c]? = w.heap[c]? := by
        intro c hc
        simp only [World.freeze, Nat.one_ne_zero, if_false, Array.getElem?_modify]
        rw [if_neg (Ne.symm hc)]
      have hcell : ∀ c off, (w.freeze ⟨b, us.size, none⟩ 1).cell? ⟨c, off, none⟩ = w.cell? ⟨c, off, none⟩ := by
        intro c off
        by_cases hc : c = b
        · subst hc
          rw [cell_of_row _ _ _ us ty _ hw1, cell_of_row _ _ _ us ty _ hh]
        · simp only [World.cell?, hold c hc]
      have hsize : (w.freeze ⟨b, us.size, none⟩ 1).heap.size = w.heap.size := by simp [World.freeze]
      have hmem : b ∈ m.objb := Gh.mem_objb.2 (List.mem_of_getElem? hb)
      have nd : m.objb.Nodup := (List.nodup_append.1 hI.nodup).1
      obtain ⟨m', hm'⟩ : ∃ m' : Gh, m' = { m with objs := m.objs.set o' none } := ⟨_, rfl⟩
      have hobjb : ∀ c, c ∈ m'.objb → c ∈ m.objb := by
        intro c hc
        have h1 := Gh.mem_objb.1 hc
        rw [hm'] at h1
        rcases List.mem_or_eq_of_mem_set h1 with h2 | h2
        · exact Gh.mem_objb.2 h2
        · cases h2
      have hnb : b ∉ m'.objb := by
        intro hc
        have h1 := Gh.mem_objb.1 hc
        rw [hm'] at h1
        obtain ⟨i, hi⟩ := List.mem_iff_getElem?.1 h1
        dsimp only at hi
        rw [List.getElem?_set] at hi
        split at hi
        · first | cases hi | (split at hi <;> cases hi)
        · rename_i hne
          exact hne (objb_inj nd hb hi)
      have htoks : m'.toks = m.toks := by rw [hm']
      have hownb : m'.ownb = m.ownb := by unfold Gh.ownb; rw [htoks]
      have hmut : ∀ c off, m'.mut c off → m.mut c off := by
        intro c off hm
        rcases hm with hm | hm
        · exact .inl (hobjb c hm)
        · exact .inr (htoks ▸ hm)
      have hown : ∀ tk ∈ m.toks, tk.own ≠ some b := fun tk ht h => Gh.own_not_obj hI.nodup ht h hmem
      have eX : Ext m w m' (w.freeze ⟨b, us.size, none⟩ 1) := by
        refine ⟨?_, ?_, ?_, by omega, fun i x hi => ?_, fun t tk h => ⟨tk, by rw [htoks]; exact h, rfl, Nat.le_refl _, fun _ => rfl⟩, fun c off f => ⟨hcell c off, fun hm => f.2 (hmut c off hm)⟩, fun c hc hn => ?_⟩
        · simp [World.freeze]
        · simp [World.freeze]
        · simp [World.freeze]
        · rw [hm']
          dsimp only
          rw [List.getElem?_set]
          by_cases hio : o' = i
          · subst hio
            simp [(List.getElem?_eq_some_iff.1 hb).1]
          · simp [hio, hi]
        · refine ⟨hold c fun h => hn (by rw [h]; exact List.mem_append.2 (.inl hmem)), fun hm => ?_⟩
          rcases List.mem_append.1 hm with hm | hm
          · exact hn (List.mem_append.2 (.inl (hobjb c hm)))
          · exact hn (List.mem_append.2 (.inr (hownb ▸ hm)))
      have hsub : List.Sublist m'.objb m.objb := by
        have : ∀ (l : List (Option Nat)) (o : Nat), List.Sublist ((l.set o none).filterMap id) (l.filterMap id) := by
          intro l
          induction l with
          | nil => intro o; simp
          | cons x l ih =>
            intro o
            cases o with
            | zero => cases x <;> simp
            | succ o =>
              have := ih o
              cases x <;> simpa using this
        unfold Gh.objb
        rw [hm']
        exact this _ _
      have hI2 : Inv (σ.put o' (.cells [])) m' (w.freeze ⟨b, us.size, none⟩ 1) := by
        refine ⟨by rw [hm']; simp [Sg.put, hI.lobj], by rw [htoks]; exact hI.ltok, ?_, fun i ob c hi hc => ?_, fun i hi => ?_, fun tk ht => ?_, hI.glob.mono eX⟩
        · unfold Gh.blocks
          rw [hownb]
          exact List.Sublist.nodup (List.Sublist.append hsub (List.Sublist.refl _)) hI.nodup
        · simp only [Sg.put, List.getElem?_set] at hi
          rw [hm'] at hc
          dsimp only at hc
          rw [List.getElem?_set] at hc
          by_cases hio : o' = i
          · subst hio; simp [(List.getElem?_eq_some_iff.1 hb).1] at hc
          · rw [if_neg hio] at hi hc
            exact (hI.ob i ob c hi hc).mono eX (hold c fun h => hio (objb_inj nd hb (h ▸ hc)))
        · rw [hm'] at hi
          dsimp only at hi
          rw [List.getElem?_set] at hi
          simp only [Sg.put, List.getElem?_set]
          by_cases hio : o' = i
          · subst hio
            rw [if_pos rfl, if_pos (by rw [← hI.lobj]; exact (List.getElem?_eq_some_iff.1 hb).1)]
          · rw [if_neg hio] at hi
            rw [if_neg hio]
            exact hI.gone i hi
        · rw [htoks] at ht
          obtain ⟨q1, q2, q3, q4⟩ := hI.tk tk ht
          refine ⟨q1, q2, q3, fun c hc => ?_⟩
          obtain ⟨us', ty', q5, q6⟩ := q4 c hc
          exact ⟨us', ty', (hold c fun h => hown tk ht (h ▸ hc)).trans q5, q6⟩
      refine ⟨_, _, _, m', _, _, hrun, .inl rfl, hK, hI2, eX, .v _ _ ?_⟩
      have hflat : V.flat xs = xs := by
        have : ∀ l : List V, (∀ x ∈ l, x.shape = none) → V.flat l = l := by
          intro l
          induction l with
          | nil => intro _; rfl
          | cons x l ih =>
            intro h
            have hx := h x (by simp)
            have e : x.cells = [x] := by cases x <;> first | rfl | cases hx
            simp only [V.flat, List.flatMap_cons, e]
            have := ih fun y hy => h y (by simp [hy])
            unfold V.flat at this
            rw [this]
            rfl
        exact this xs hsh
      have hget : ∀ (i : Nat) c, xs[i]? = some c → ∃ u, us[i]? = some u ∧ RepV w (Fz m w) c u := by
        intro i c hc
        have hil := (List.getElem?_eq_some_iff.1 hc).1
        have h3 : (cs.take len)[i]? = some (.v c) := by rw [htk, List.getElem?_map, hc]; rfl
        rw [List.getElem?_take_of_lt (by omega)] at h3
        have hlt : i < us.size := Nat.lt_of_lt_of_le (List.getElem?_eq_some_iff.1 h3).1 hsz
        obtain ⟨q1, q2⟩ := hob i _ us[i] h3 (Array.getElem?_eq_getElem hlt)
        exact ⟨_, Array.getElem?_eq_getElem hlt, q1.v_inv⟩
      subst hlen
      refine .sl none false xs b 0 cap (fun i => us.getD i undef) hsh (fun c hc => ?_) hlc hcm (fun h => by cases h) (fun i hi => ?_) fun i c hc => ?_
      · rw [hflat] at hc
        have := hsh c hc
        cases c <;> first | rfl | cases this
      · simp only [shn, Nat.mul_one] at hi
        obtain ⟨u, h3, _⟩ := hget i _ (List.getElem?_eq_getElem hi)
        refine ⟨?_, by rw [hsize]; exact hbs, ?_⟩
        · rw [hcell, cell_of_row w b (0 + i) us ty (0, 0) hh, Nat.zero_add, h3]
          simp [Array.getD_eq_getD_getElem?, h3]
        · rintro (h | ⟨tk, h, h2, _⟩)
          · exact hnb h
          · exact hown tk (htoks ▸ h) h2
      · rw [hflat] at hc
        obtain ⟨u, h3, h4⟩ := hget i c hc
        have e : us.getD i undef = u := by simp [Array.getD_eq_getD_getElem?, h3]
        show RepV _ _ c (us.getD i undef)
        rw [e]
        exact h4.mono fun b' off' hf => eX.fz b' off' hf
    · omega
  · exact hW.elim

theorem ok_clear {t e : TypeId} {x : Operand} {ex : E} {i : TypeInfo} {zv : Value} {z : V} (ho : o.op = .call { callee := .builtin .clear, args := #[x], argTypes := #[t] }) (hx : cE x = some ex) (ht : P.underlying t = some (.slice e))
    (hi : P.info? e = some i) (hz : i.zero = some zv) (hzv : cV zv = some z) : OpOk P o (.ext (.clear z.cells) [ex]) := by
  refine .of_runs fun σ m w a s K hI hE hW => ?_
  have rx := ev_rep hE hx
  simp only [WOp, WX, List.map_cons, List.map_nil] at hW
  generalize ev s ex = dx at hW rx
  generalize hux : a.eval x = ux at rx
  have none0 : ∀ (aa : Option Addr) (c : Nat), ux = .slice aa 0 c → K .undef σ → Runs1 P o σ m w a K := by
    rintro aa c rfl hK
    refine .still (u := .tuple #[]) hI ?_ hK (.tup [] [] rfl (by simp))
    cases aa <;> simp [execOp, ho, hux, resolve, invoke, builtin, Builtin.clear_, run_underlying ht] <;> rfl
  unfold WClear at hW
  split at hW
  · have hv := rx.v_inv
    cases hv
    exact none0 none 0 rfl hW
  · obtain ⟨aa, cap, rfl, _⟩ := rx.v_inv.sl_inv
    exact none0 aa cap rfl hW
  · rename_i oo off len sh cp
    cases rx with
    | msl _ _ _ _ _ aa cap hol hbb hlc hcm hcc =>
    split at hW
    · rename_i cs hcs
      obtain ⟨hzl, hcs0, hfit, hK⟩ := hW
      by_cases hl0 : len = 0
      · subst hl0
        have hput : σ.put oo (.cells (putAt cs off ((zerosV z.cells 0).map .v))) = σ := put_nil hcs
        rw [hput] at hK
        exact none0 aa cap rfl hK
      · rcases hbb with ⟨b, rfl, hb⟩ | ⟨h0, _⟩
        · have hb := hI.live hcs (by rintro e; cases e; exact hcs0 rfl) hb
          obtain ⟨us, ty, hh, hsz', hob, hone⟩ := hI.ob oo _ b hcs hb
          obtain ⟨q1, q2, q3⟩ := (cV_rep (w := w) (F := Fz m w) hzv).cellsR
          have hsize : (Builtin.zeroCells zv.cells len).toList.length = len * shn sh := by rw [Array.length_toList, size_zeroCells, ← q1, hzl]
          have hone2 : ∀ u ∈ (Builtin.zeroCells zv.cells len).toList, u.oneCell' = true := by
            intro u hu
            obtain ⟨j, hj⟩ := List.mem_iff_getElem?.1 hu
            exact q3 u (by simpa using Array.mem_of_getElem? (zeroCells_toList_get hj).2)
          have hst := run_storeCells_at P b off ty (Builtin.zeroCells zv.cells len).toList 0 us w hh (by rw [hsize]; omega) hone2
          simp only [Nat.add_zero] at hst
          obtain ⟨hI', hX'⟩ := setRow_ok hI hcs hb hh hsz' hob hone (off := off) (xs := (zerosV z.cells len).map .v) (vs := (Builtin.zeroCells zv.cells len).toList) (by rw [hsize]; simp [zerosV_length, hzl]) (fun j d u hd hu => by
            obtain ⟨h5, h6⟩ := zeroCells_toList_get hu
            rw [List.getElem?_map, zerosV_get (by rw [q1]; exact h5)] at hd
            cases hq : z.cells[j % z.cells.length]? with
            | none => rw [hq] at hd; cases hd
            | some q =>
              rw [hq] at hd
              cases hd
              rw [q1] at hq
              exact .v _ _ (q2 _ q u hq h6)) hone2 (by simp [zerosV_length, hzl]; omega)
          refine ⟨_, .tuple #[], _, _, _, _, ?_, .inl rfl, hK, hI', hX', .tup [] [] rfl (by simp)⟩
          obtain ⟨l, rfl⟩ : ∃ l, len = l + 1 := ⟨len - 1, by omega⟩
          simp [execOp, ho, hux, resolve, invoke, builtin, Builtin.clear_, run_underlying ht, zeroValue, typeInfo, hi, hz, hst] <;> rfl
        · exact absurd h0 hl0
    · exact hW.elim
  · exact hW.elim
theorem WMksl_mono' {sh : Sh} {xs : List D} {K K' : V → Prop} (hK : ∀ v, K v → K' v) (h : WMksl sh xs K) : WMksl sh xs K' := by
  unfold WMksl at h ⊢
  split at h <;> first | exact ⟨h.1, hK _ h.2⟩ | exact h
theorem ok_mkslm {t e : TypeId} {len : Nat} {ps : Array (Nat × Operand)} {ie : TypeInfo} {z : Value} {sh : Sh} {es : List E} (ho : o.op = .buildSlice t len ps)
    (hu : P.underlying t = some (.slice e)) (hie : P.info? e = some ie) (hz : ie.zero = some z) (hsz : ie.size = shn sh) (hpos : 0 < ie.size) (hzs : z.cells.size = ie.size)
    (hlen : len = ps.size) (hidx : ps.toList.map (·.1) = List.range ps.size) (hsmall : len * ie.size ≤ 2 ^ 24) (hes : cEs (ps.toList.map (·.2)) = some es) : OpOk P o (.ext (.mkslm sh) es) := by
  refine .of_runs fun σ m w a s K hI hE hW => ?_
  simp only [WOp, WX, WMkslm] at hW
  obtain ⟨C, x, h1, h2, _, xs, rfl, h4, h5, h6, h7⟩ := mksl_core (K := fun d σ' => match d with
    | .v (.sl _ _ xs) => xs ≠ [] ∧ K (.msl σ.objs.length 0 xs.length sh (some xs.length)) (σ.add (.cells ((V.flat xs).map .v)))
    | _ => False) ho hu hie hz hsz hpos hzs hlen hidx hsmall hes hI hE (by
      simp only [WOp]
      refine WMksl_mono' (fun v h => ?_) hW
      cases v <;> first | exact h.elim | exact h)
  obtain ⟨hne, hK⟩ := h2
  have hCsz : ((V.flat xs).map D.v).length = C.toList.length := by simpa using h4
  have hgetV : ∀ (j : Nat) u, C[j]? = some u → ∃ c, (V.flat xs)[j]? = some c := by
    intro j u hu
    have := (Array.getElem?_eq_some_iff.1 hu).1
    exact ⟨_, List.getElem?_eq_getElem (by omega)⟩
  obtain ⟨hI', hX, _⟩ := newObj_ok hI (cs := (V.flat xs).map .v) (us := C.toList) e hCsz (fun u hu => by
    obtain ⟨j, hj⟩ := List.mem_iff_getElem?.1 hu
    obtain ⟨c, hc⟩ := hgetV j u (by simpa using hj)
    exact (h6 j c u hc (by simpa using hj)).one (h7 c (List.mem_of_getElem? hc))) (fun j d u hd hu => by
    rw [List.getElem?_map] at hd
    obtain ⟨c, hc⟩ := hgetV j u (by simpa using hu)
    rw [hc] at hd
    cases hd
    exact .v _ _ (h6 j c u hc (by simpa using hu)))
  have hm : xs.length ≤ maxLen := by
    have h2 : xs.length * 1 ≤ len * ie.size := by rw [← h5]; exact Nat.mul_le_mul_left _ hpos
    simp only [maxLen]
    omega
  rw [Array.toArray_toList] at hI' hX
  refine ⟨_, _, _, _, _, _, h1, .inl rfl, hK, hI', hX, ?_⟩
  rw [← h5]
  exact .msl _ _ _ _ _ _ _ (by simp [Gh.add, hI.lobj]) (.inl ⟨_, rfl, .inl (by simp [Gh.add, ← hI.lobj])⟩) (Nat.le_refl _) hm (fun c hc => by cases hc; rfl)
end
end Go.Abs

/-
  The model's operations, turned into the small language; that each does what its weakest precondition says: part 12, structs given out at once; objects whose block is known. (Own work; seat-independent.)
-/
set_option linter.unusedVariables false
set_option linter.unusedSimpArgs false
namespace Go.Abs
open Go

/-- An object's block is told. -/
theorem Inv.tell {σ : Sg} {m : Gh} {w : World} (h : Inv σ m w) {o b : Nat} {cs : List D} (ho : σ.objs[o]? = some (.cells cs)) (hb : m.objs[o]? = some (some b)) : Inv (σ.put o (.known b cs)) m w := by
  refine ⟨by simp [Sg.put, h.lobj], h.ltok, h.nodup, fun i ob c hi hc => ?_, fun i hi => ?_, h.tk, h.glob⟩
  · simp only [Sg.put, List.getElem?_set] at hi
    by_cases hio : o = i
    · subst hio
      have hcb : c = b := Option.some.inj (Option.some.inj (hc.symm.trans hb))
      subst hcb
      rw [if_pos rfl] at hi
      split at hi
      · cases hi
        obtain ⟨us, ty, h1, h2, h3, h4⟩ := h.ob o _ c ho hc
        exact ⟨rfl, us, ty, h1, h2, h3, h4⟩
      · cases hi
    · rw [if_neg hio] at hi
      exact h.ob i ob c hi hc
  · have hio : o ≠ i := by
      rintro rfl
      rw [hb] at hi
      cases hi
    simp only [Sg.put, List.getElem?_set]
    rw [if_neg hio]
    exact h.gone i hi

section
variable {P : Program} {o : Oper}

theorem ok_ibox {e : TypeId} {x : Operand} {ex : E} (ho : o.op = .box e x) (hx : cE x = some ex) : OpOk P o (.ext .ibox [ex]) := by
  refine .of_runs fun σ m w a s K hI hE hW => ?_
  simp only [WOp, WX, List.map_cons, List.map_nil] at hW
  split at hW
  · rename_i v hv
    obtain ⟨h1, hK⟩ := hW
    have hr := toV_rep (ev_rep hE hx) v hv
    obtain ⟨c1, c2, c3⟩ := hr.cellsR
    have e1 := Ext.alloc m w (.cells (a.eval x).cells e)
    have hrow := heap_alloc_new w (.cells (a.eval x).cells e)
    refine ⟨_, .pointer (some ⟨w.heap.size, 0 + 0, none⟩), _, _, _, _, ?_, .inl rfl, hK, hI.alloc _, e1, .v _ _ (.box _ _ 0 w.heap.size 0 (fun i => (a.eval x).cells.getD i undef) rfl (List.all_eq_true.1 h1) (fun i hi => ⟨?_, ?_, ?_⟩) fun i c hc => ?_)⟩
    · simp [execOp, ho, Instr.box, newVar, newRow]
    · have hlt : i < (a.eval x).cells.size := by rw [← c1, V.cells_length]; exact hi
      rw [cell_of_row _ w.heap.size (0 + i) _ e (0, 0) hrow, Nat.zero_add]
      simp [Array.getD, hlt]
    · simp
    · intro hm
      have := hI.lt_block (Gh.mut_block hm)
      omega
    · have hlt : i < (a.eval x).cells.size := by rw [← c1]; exact (List.getElem?_eq_some_iff.1 hc).1
      have hu : (a.eval x).cells[i]? = some ((a.eval x).cells.getD i undef) := by simp [Array.getD, hlt]
      exact (c2 i c _ hc hu).mono e1.fz
  · exact hW.elim

theorem ok_xbox {e : TypeId} {x : Operand} {ex : E} (ho : o.op = .box e x) (hx : cE x = some ex) : OpOk P o (.ext .xbox [ex]) := by
  refine .of_runs fun σ m w a s K hI hE hW => ?_
  simp only [WOp, WX, List.map_cons, List.map_nil] at hW
  obtain ⟨h1, h2, h3⟩ := (ev_rep hE hx).cellsR hW.1
  have hob := ObRep.new (m := m) (w := w) (cs := (ev s ex).cells) (us := (a.eval x).cells.toList) e (by simpa using h1) h3 fun j d u hd hu => h2 j d u hd (by simpa using hu)
  refine ⟨_, .pointer (some ⟨w.heap.size, 0, none⟩), _, _, _, _, ?_, .inl rfl, hW.2 w.heap.size, hI.add _ (.known w.heap.size (ev s ex).cells) ⟨rfl, hob⟩, .add m w _, .v _ _ (.adr _ _)⟩
  simp [execOp, ho, Instr.box, newVar, newRow]

theorem ok_iexp {t e : TypeId} {x y : Operand} {ex ey : E} {i : TypeInfo} {sh : Sh} (ho : o.op = .indexAddr t x y) (hx : cE x = some ex) (hy : cE y = some ey) (hu : P.underlying t = some (.slice e)) (hi : P.info? e = some i) (hsz : i.size = shn sh) : OpOk P o (.ext (.iexp sh) [ex, ey]) := by
  refine .of_runs fun σ m w a s K hI hE hW => ?_
  have hr := ev_rep hE hx
  have hry := ev_rep hE hy
  simp only [WOp, WX, List.map_cons, List.map_nil] at hW
  generalize ev s ex = dx at hW hr
  generalize ev s ey = dy at hW hry
  generalize hux : a.eval x = ux at hr
  split at hW
  · rename_i oo off len sh' cp k n heq
    simp only [List.cons.injEq, and_true] at heq
    obtain ⟨rfl, rfl⟩ := heq
    obtain ⟨rfl, h0, hlt, hk⟩ := hW
    have hyv := hry.int_inv
    split at hk
    · rename_i cs hcs
      obtain ⟨hne, hk⟩ := hk
      cases hr with
      | msl _ _ _ _ _ aa cap hol hbb hlc hcm hcc =>
      rcases hbb with ⟨b, rfl, hb⟩ | ⟨hl0, _⟩
      · have hb' := hI.live hcs (fun e => hne (by injection e)) hb
        have hrun : (execOp a.eval o).run P w = .ok (.value (.pointer (some ⟨b, off + n.toNat * shn sh, none⟩))) w := by
          simp [execOp, ho, hux, hyv, Instr.indexAt, run_underlying hu, asIntOf, h0, hlt, sizeOf, typeInfo, hi, hsz, Addr.add_lit]
        exact ⟨_, _, _, m, _, _, hrun, .inl rfl, hk b, hI.tell hcs hb', .refl m w, .v _ _ (.adr _ _)⟩
      · omega
    · exact hk.elim
  · exact hW.elim

theorem ok_ldk {t : TypeId} {x : Operand} {ex : E} {d : TypeDesc} {i : TypeInfo} {sh : Sh} (ho : o.op = .load t x) (hx : cE x = some ex) (hu : P.underlying t = some d) (hi : P.info? t = some i)
    (hsh : match sh with | none => d.isRow = false | some n => d.isRow = true ∧ i.size = n) : OpOk P o (.ext (.ldk sh) [ex]) := by
  intro σ m w a s K hI hE hW next Q hn
  simp only [WOp, WX, List.map_cons, List.map_nil] at hW
  by_cases had : ∃ b off, ev s ex = .v (.adr b off)
  · obtain ⟨b, off, hev⟩ := had
    have hr := ev_rep hE hx
    rw [hev] at hW hr
    obtain ⟨oo, cs, hcs, hW⟩ := hW
    obtain ⟨hb, us, ty, hh, hsz, hob⟩ := hI.known hcs
    have hux : a.eval x = .pointer (some ⟨b, off, none⟩) := by
      generalize a.eval x = ux at hr
      cases hr with
      | v _ _ h => cases h; rfl
    have hcell : ∀ j u, us[j]? = some u → w.cell? ⟨b, j, none⟩ = some u := fun j u hj => by rw [cell_of_row w b j us ty (0, 0) hh]; exact hj
    have key : Runs1 P o σ m w a K := by
      cases sh with
      | none =>
        dsimp only at hW
        split at hW
        · rename_i dd hdd
          have hlt : off < us.size := Nat.lt_of_lt_of_le (List.getElem?_eq_some_iff.1 hdd).1 hsz
          have hu0 : us[off]? = some us[off] := Array.getElem?_eq_getElem hlt
          have hcell0 : ∀ j, j < shn none → w.cell? ⟨b, off + j, none⟩ = some us[off] := by
            intro j hj
            have hj0 : j = 0 := by simp only [shn] at hj; omega
            subst hj0
            exact hcell off _ hu0
          have hrun := run_load_sh (P := P) (w := w) hu hi (b := b) (p := off) (us := fun j => us[off]) (sh := none) hsh hcell0
          exact .still hI (by simp only [execOp, ho, Sem.run_bind, hux, hrun, Result.andThen_ok, Sem.run_pure] <;> rfl) hW (hob off dd _ hdd hu0).1
        · exact hW.elim
      | some n =>
        obtain ⟨hpos, hle, hK⟩ := hW
        have hrun := run_load_sh (P := P) (w := w) hu hi (b := b) (p := off) (us := fun j => us.getD (off + j) undef) (sh := some n) hsh (fun j hj => by
          have hlt : off + j < us.size := by simp only [shn] at hj; omega
          refine hcell _ _ ?_
          simp [Array.getD, hlt])
        refine .still hI (by simp only [execOp, ho, Sem.run_bind, hux, hrun, Result.andThen_ok, Sem.run_pure] <;> rfl) hK (mkAgg_rep (by simp; omega) (fun u huu => ?_) fun j d' u hd' huj => ?_)
        · obtain ⟨j, hj, rfl⟩ := List.mem_map.1 huu
          have hjn : j < n := List.mem_range.1 hj
          have hlt : off + j < us.size := by omega
          have hlt2 : off + j < cs.length := by omega
          have := (hob (off + j) cs[off + j] us[off + j] (List.getElem?_eq_getElem hlt2) (Array.getElem?_eq_getElem hlt)).2
          simpa [Array.getD, hlt] using this
        · rw [List.getElem?_take] at hd'
          split at hd'
          · rename_i hlt
            rw [List.getElem?_drop] at hd'
            rw [List.getElem?_map, List.getElem?_range hlt] at huj
            cases huj
            have hlt2 : off + j < us.size := by omega
            refine (hob (off + j) d' _ hd' ?_).1
            simp [Array.getD, hlt2]
          · cases hd'
    obtain ⟨n, u, w', m', d', σ', hr', hnn, hK, hI', hx', hd⟩ := key
    rw [hr']
    rcases hnn with rfl | ⟨rfl, rfl⟩
    · exact hn d' σ' m' w' u hK hI' hx' hd
    · exact hn d' σ' m' w' undef hK hI' hx' hd
  · have hW2 : WOp P (.load sh ex) s σ K := by
      simp only [WOp]
      generalize ev s ex = dx at hW had
      cases dx with
      | v y => cases y with
        | adr b off => exact absurd ⟨b, off, rfl⟩ had
        | _ => exact hW
      | _ => exact hW
    exact ok_load ho hx hu hi hsh σ m w a s K hI hE hW2 next Q hn
end
end Go.Abs

/-
  The model's code, turned into the small language; what its weakest precondition says holds of a call. (Own work; seat-independent.)
-/
set_option linter.unusedVariables false
set_option linter.unusedSimpArgs false
namespace Go.Abs
open Go

/-! ### Turning the code -/

def tsh (P : Program) (t : TypeId) : Option Sh :=
  match P.info? t, P.underlying t with
  | some i, some d => if d.isRow = true then some (some i.size) else if i.size = 1 then some none else none
  | _, _ => none

theorem tsh_spec {P : Program} {t : TypeId} {sh : Sh} (h : tsh P t = some sh) :
    ∃ i d, P.info? t = some i ∧ P.underlying t = some d ∧ (match (generalizing := false) sh with | none => d.isRow = false | some n => d.isRow = true ∧ i.size = n) ∧ i.size = shn sh := by
  unfold tsh at h
  split at h
  · rename_i i d hi hd
    split at h
    · rename_i hr
      cases h
      exact ⟨i, d, hi, hd, ⟨hr, rfl⟩, rfl⟩
    · rename_i hr
      split at h
      · rename_i h1
        cases h
        exact ⟨i, d, hi, hd, by simpa using hr, h1⟩
      · cases h
  · cases h

def skinds (P : Program) : List Field → Option (List SK)
  | [] => some []
  | f :: fs => match skinds P fs with
    | none => none
    | some ks => match P.underlying f.type with
      | some (.int _) => some (.int :: ks)
      | some .bool => some (.bool :: ks)
      | some .string => some (.str :: ks)
      | _ => none

def eqk (P : Program) (t : TypeId) : EqK :=
  match P.underlying t with
  | some .bool => .bool
  | some (.pointer _) => .ptr
  | some (.interface _) => .ifc
  | some (.slice _) => .sl
  | some (.map _ _) => .mp
  | some (.func _ _ _) => .fn
  | some (.struct fs) => (match skinds P fs.toList with
    | some ks => if plainFields P 0 ks fs.toList = true ∧ P.stoodInHeld t = false ∧ P.eqGuardType P.depth t = false then .struct ks else .other
    | none => .other)
  | _ => .other

theorem eqk_ok (P : Program) (t : TypeId) : EqOk P t (eqk P t) := by
  unfold eqk
  split <;> first
    | exact ‹_›
    | exact ⟨_, ‹_›⟩
    | exact ⟨_, _, ‹_›⟩
    | exact ⟨_, _, _, ‹_›⟩
    | skip
  · rename_i fs hfs
    split
    · split
      · rename_i h
        obtain ⟨h1, h2, h3⟩ := h
        have : P.fieldsOf t = fs := by simp [Program.fieldsOf, hfs]
        exact ⟨by rw [this]; exact hfs, h2, h3, by rw [this]; exact h1⟩
      · trivial
    · trivial
  · trivial

def zipP (places : List (Nat × Nat)) : List Nat → List E → Option (List (Nat × Nat × E))
  | [], [] => some []
  | i :: is, e :: es => match places[i]?, zipP places is es with
    | some q, some r => some ((q.1, q.2, e) :: r)
    | _, _ => none
  | _, _ => none

theorem zipP_spec {places : List (Nat × Nat)} : ∀ {is : List Nat} {es : List E} {ds : List (Nat × Nat × E)}, zipP places is es = some ds →
    ds.length = is.length ∧ ∀ (i : Nat) k e, is[i]? = some k → es[i]? = some e → ∃ q, places[k]? = some q ∧ ds[i]? = some (q.1, q.2, e)
  | [], [], ds, h => by cases h; simp
  | [], e :: es, ds, h => by cases h
  | i :: is, [], ds, h => by cases h
  | i :: is, e :: es, ds, h => by
    simp only [zipP] at h
    split at h
    · rename_i q r hq hr
      cases h
      obtain ⟨h1, h2⟩ := zipP_spec hr
      refine ⟨by simp [h1], fun j k e' hk he => ?_⟩
      cases j with
      | zero => simp at hk he; subst hk he; exact ⟨q, hq, rfl⟩
      | succ j => simp at hk he; simpa using h2 j k e' hk he
    · cases h

def compBuild (P : Program) (t : TypeId) (ps : List (Nat × Operand)) : Option AOp :=
  match P.info? t, P.underlying t with
  | some it, some (.struct fields) =>
    match it.zero, fields.toList.mapM (fun f => (P.info? f.type).map fun i => (f.offset, i.size)), cEs (ps.map (·.2)) with
    | some z, some places, some es =>
      match cV z, zipP places (ps.map (·.1)) es with
      | some x, some ds => some (.build x.cells ds)
      | _, _ => none
    | _, _, _ => none
  | _, _ => none

def compMksl (P : Program) (t : TypeId) (len : Nat) (ps : List (Nat × Operand)) : Option AOp :=
  match P.underlying t with
  | some (.slice e) =>
    match P.info? e, tsh P e, cEs (ps.map (·.2)) with
    | some ie, some sh, some es =>
      match ie.zero with
      | some z => if 0 < ie.size ∧ z.cells.size = ie.size ∧ len = ps.length ∧ ps.map (·.1) = List.range ps.length ∧ len * ie.size ≤ 2 ^ 24 then some (.mksl sh es) else none
      | none => none
    | _, _, _ => none
  | _ => none

def compMkslm (P : Program) (t : TypeId) (len : Nat) (ps : List (Nat × Operand)) : Option AOp :=
  match compMksl P t len ps with
  | some (.mksl sh es) => some (.ext (.mkslm sh) es)
  | _ => none

def compConv (P : Program) (src dst : TypeId) (x : Operand) : Option AOp :=
  match cE x, P.underlying src, P.underlying dst with
  | some ex, some ds, some (.int k) => some (.conv (.toInt k) ex)
  | some ex, some (.slice e), some .string => (match P.underlying e with
    | some (.int .u8) => some (.conv .ofBytes ex)
    | _ => none)
  | some ex, some .string, some .string => some (.conv .strs ex)
  | some ex, some .string, some (.slice e) => (match P.underlying e with
    | some (.int .u8) => some (.conv .toBytes ex)
    | _ => none)
  | some ex, some (.slice _), some (.slice e) => (match P.underlying e with
    | some (.int .u8) => if src = dst then some (.ext .give [ex]) else none
    | _ => none)
  | _, _, _ => none

def compSlice (P : Program) (t : TypeId) (x : Operand) (lo hi mx : Option Operand) : Option AOp :=
  match cE x, cEo lo, cEo hi, cEo mx, P.underlying t with
  | some ex, some el, some eh, some none, some .string => some (.slice .str ex el eh none)
  | some ex, some el, some eh, some em, some (.slice e) => (match tsh P e with
    | some sh => if mx.isSome = true → hi.isSome = true then some (.slice (.sl sh) ex el eh em) else none
    | none => none)
  | _, _, _, _, _ => none

def compLen (P : Program) (t : TypeId) (x : Operand) : Option AOp :=
  match cE x, P.underlying t with
  | some ex, some .string => some (.len .str ex)
  | some ex, some (.slice _) => some (.len .sl ex)
  | some ex, some (.map _ _) => some (.len .mp ex)
  | _, _ => none

def runsB : TypeDesc → Bool
  | .slice _ | .string => true
  | _ => false

def compAppend (P : Program) (t u : TypeId) (x y : Operand) : Option AOp :=
  match cE x, cE y, P.underlying t, P.underlying u with
  | some ex, some ey, some (.slice e), some d =>
    match P.info? e, tsh P e with
    | some i, some sh =>
      match i.zero with
      | some z => if runsB d = true ∧ z.cells.size = shn sh ∧ 0 < i.bytes then some (.append sh i.bytes ex ey) else none
      | none => none
    | _, _ => none
  | _, _, _, _ => none

def isIfc : TypeDesc → Bool
  | .interface _ => true
  | _ => false

def compKK (P : Program) (t : TypeId) : Option KK :=
  match P.underlying t with
  | some (.int k) => some (.int k)
  | some .string => some .str
  | some (.struct fs) => if fs.size = 2 ∧ P.stoodInHeld t = false ∧ plainFields P 0 [.int, .str] (P.fieldsOf t).toList = true then (match (P.fieldsOf t)[0]? with | some f => (match P.underlying f.type with | some (.int k) => some (.pair k) | _ => none) | none => none) else none
  | _ => none
theorem compKK_ok {P : Program} {t : TypeId} {kk : KK} (h : compKK P t = some kk) : kkTy P t kk := by
  unfold compKK at h
  split at h
  · cases h; assumption
  · cases h; assumption
  · rename_i fs hu
    split at h
    · rename_i hc
      have hf : P.fieldsOf t = fs := by simp [Program.fieldsOf, hu]
      split at h
      · split at h
        · cases h
          exact ⟨by rw [hf]; exact hu, hc.2.1, hc.2.2⟩
        · cases h
      · cases h
    · cases h
  · cases h

def compPut (P : Program) (t : TypeId) (x y z : Operand) : Option AOp :=
  match cE x, cE y, cE z, P.underlying t with
  | some ex, some ey, some ez, some (.map kt _) => (match compKK P kt with | some kk => some (.ext (.mput kk) [ex, ey, ez]) | none => none)
  | _, _, _, _ => none

def compGet (P : Program) (t : TypeId) (x y : Operand) (ok : Bool) : Option AOp :=
  match cE x, cE y, P.underlying t with
  | some ex, some ey, some (.map kt et) =>
    match compKK P kt, P.info? et with
    | some kk, some i => (match i.zero with
      | some zv => (match cV zv with | some z => some (.ext (.mget kk ok z) [ex, ey]) | none => none)
      | none => none)
    | _, _ => none
  | _, _, _ => none

def compAppm (P : Program) (t u : TypeId) (x y : Operand) : Option AOp :=
  match cE x, cE y, P.underlying t, P.underlying u with
  | some ex, some ey, some (.slice e), some d =>
    match P.info? e, tsh P e with
    | some i, some sh =>
      match i.zero with
      | some z => (match cV z with
        | some _ => if runsB d = true ∧ z.cells.size = shn sh ∧ 0 < i.bytes ∧ 0 < shn sh then some (.ext (.appm sh i.bytes) [ex, ey]) else none
        | none => none)
      | none => none
    | _, _ => none
  | _, _, _, _ => none

def compAppz (P : Program) (t u : TypeId) (x y : Operand) : Option AOp :=
  match cE x, cE y, P.underlying t, P.underlying u with
  | some ex, some ey, some (.slice e), some (.int _) =>
    match P.info? e, tsh P e with
    | some i, some sh =>
      match i.zero with
      | some zv => (match cV zv with
        | some z => if zv.cells.size = shn sh ∧ 0 < i.bytes ∧ 0 < shn sh then some (.ext (.appz sh i.bytes z.cells) [ex, ey]) else none
        | none => none)
      | none => none
    | _, _ => none
  | _, _, _, _ => none

def compClear (P : Program) (t : TypeId) (x : Operand) : Option AOp :=
  match cE x, P.underlying t with
  | some ex, some (.slice e) => (match P.info? e with
    | some i => (match i.zero with
      | some zv => (match cV zv with
        | some z => some (.ext (.clear z.cells) [ex])
        | none => none)
      | none => none)
    | none => none)
  | _, _ => none

def compMkvec (P : Program) (t : TypeId) (x y : Operand) : Option AOp :=
  match cE x, cE y, P.underlying t with
  | some ex, some ey, some (.slice e) =>
    match P.info? e, tsh P e with
    | some i, some sh =>
      match i.zero with
      | some zv => (match cV zv with
        | some z => if zv.cells.size = shn sh ∧ 0 < i.bytes ∧ 0 < shn sh then some (.ext (.mkvec sh i.bytes z.cells) [ex, ey]) else none
        | none => none)
      | none => none
    | _, _ => none
  | _, _, _ => none

def compCopy (P : Program) (t : TypeId) (x y : Operand) : Option AOp :=
  match cE x, cE y, P.underlying t with
  | some ex, some ey, some (.slice e) => (match tsh P e with
    | some sh => some (.ext (.copy sh) [ex, ey])
    | none => none)
  | _, _, _ => none

def compCap (P : Program) (t : TypeId) (x : Operand) : Option AOp :=
  match cE x, P.underlying t with
  | some ex, some (.slice _) => some (.ext .cap [ex])
  | _, _ => none

def compDel (P : Program) (t : TypeId) (x y : Operand) : Option AOp :=
  match cE x, cE y, P.underlying t with
  | some ex, some ey, some (.map kt _) => (match compKK P kt with | some kk => if kk.scal = true then some (.ext (.mdel kk) [ex, ey]) else none | none => none)
  | _, _, _ => none

def compRange (P : Program) (t : TypeId) (x : Operand) : Option AOp :=
  match cE x, P.underlying t with
  | some ex, some (.map _ _) => some (.ext .mrange [ex])
  | _, _ => none

def compCall (P : Program) (c : Call) (mu : Bool) : Option AOp :=
  match c.callee with
  | .builtin .len => (match c.args.toList, c.argTypes.toList with
    | [x], [t] => compLen P t x
    | _, _ => none)
  | .builtin .append => (match c.args.toList, c.argTypes.toList with
    | [x, y], [t, u] => if mu = true then (match compAppm P t u x y with | some op => some op | none => compAppz P t u x y) else (match compAppend P t u x y with | some op => some op | none => compAppz P t u x y)
    | _, _ => none)
  | .builtin .copy => (match c.args.toList, c.argTypes.toList with
    | [x, y], [t, _] => compCopy P t x y
    | _, _ => none)
  | .builtin .clear => (match c.args.toList, c.argTypes.toList with
    | [x], [t] => compClear P t x
    | _, _ => none)
  | .builtin .delete => (match c.args.toList, c.argTypes.toList with
    | [x, y], [t, _] => compDel P t x y
    | _, _ => none)
  | .builtin .cap => (match c.args.toList, c.argTypes.toList with
    | [x], [t] => compCap P t x
    | _, _ => none)
  | .builtin .max => (match c.args.toList with
    | [x, y] => (match cE x, cE y with
      | some ex, some ey => some (.ext .max [ex, ey])
      | _, _ => none)
    | _ => none)
  | .builtin .min => (match c.args.toList with
    | [x, y] => (match cE x, cE y with
      | some ex, some ey => some (.min [ex, ey])
      | _, _ => none)
    | _ => none)
  | .value f => (match cE f, cEs c.args.toList with
    | some ef, some es => some (.call ef es)
    | _, _ => none)
  | .invoke x name => (match cE x, cEs c.args.toList with
    | some ex, some es => some (.inv name ex es)
    | _, _ => none)
  | _ => none

/-- Is its outcome among those that may be written to? -/
def inMs (ms : List Nat) : Option Nat → Bool
  | some d => ms.contains d
  | none => false

/-- Is it a struct that may be written to later, by whoever has its address? -/
def inMs2 (ms : List Nat) : Option Nat → Bool
  | some d => ms.contains (d + 1000000)
  | none => false

def comp (P : Program) (o : Oper) (ms : List Nat := []) : Option AOp :=
  match o.op with
  | .makeMap _ none => some (.ext .mkmap [])
  | .mapUpdate t x y z => compPut P t x y z
  | .insert t x y z => compPut P t x y z
  | .lookup t x y ok => compGet P t x y ok
  | .panic _ => some (.ext .stop [])
  | .range t x => compRange P t x
  | .next x false => (match cE x with | some e => some (.ext .mnext [e]) | none => none)
  | .entry x => (match cE x with | some e => some (.ext .mentry [e]) | none => none)
  | .move x => (match cE x with | some e => some (.mv e) | none => none)
  | .assign x => (match cE x with | some e => some (.mv e) | none => none)
  | .pick c x y => (match cE c, cE x, cE y with | some c, some x, some y => some (.pick c x y) | _, _, _ => none)
  | .alloc e => (match P.info? e with
    | some i => (match i.zero with
      | some z => (match cV z with | some x => some (.alloc x.cells) | none => none)
      | none => none)
    | none => none)
  | .box _ x => (match cE x with | some e => some (if inMs2 ms o.dst = true then .ext .xbox [e] else if inMs ms o.dst = true then .ext .ibox [e] else .box e) | none => none)
  | .build t ps => compBuild P t ps.toList
  | .buildSlice t len ps => if inMs ms o.dst = true then compMkslm P t len ps.toList else compMksl P t len ps.toList
  | .load t x => (match cE x, tsh P t with | some e, some sh => some (if inMs ms o.dst = true then .ext (.ldk sh) [e] else .load sh e) | _, _ => none)
  | .store t x y => (match cE x, cE y, P.info? t with | some e, some f, some i => some (.store i.size e f) | _, _, _ => none)
  | .nilCheck x => (match cE x with | some e => some (.nilck e) | none => none)
  | .binOp op t x y _ => (match cE x, cE y with | some e, some f => some (.bin op (eqk P t) (isConstOp x || isConstOp y) e f) | _, _ => none)
  | .unOp op _ x => (match cE x with | some e => some (.un op e) | none => none)
  | .convert src dst x => compConv P src dst x
  | .makeInterface t x => (match cE x, P.underlying t with
    | some e, some d => if isIfc d = true then none else some (.mkif t e)
    | _, _ => none)
  | .makeFunc (.func f) first caps => if first = #[] then (match cEs caps.toList with | some es => some (.mkfn f es) | none => none) else if caps = #[] then (match first.toList with | [x] => (match cE x with | some ex => some (.ext (.bind f) [ex]) | none => none) | _ => none) else none
  | .slice t x lo hi mx => compSlice P t x lo hi mx
  | .fieldAddr t x fi => (match cE x, P.underlying t with
    | some e, some (.struct fields) => (match fields[fi]? with
      | some f => (match P.info? f.type with | some i => if i.size ≠ 0 then some (.faddr f.offset e) else none | none => none)
      | none => none)
    | _, _ => none)
  | .field t x fi => (match cE x, P.underlying t with
    | some e, some (.struct fields) => (match fields[fi]? with
      | some f => (match tsh P f.type with | some sh => some (.field sh f.offset e) | none => none)
      | none => none)
    | _, _ => none)
  | .indexAddr t x y => (match cE x, cE y, P.underlying t with
    | some e, some f, some (.slice el) => (match tsh P el with | some sh => some (if inMs ms o.dst = true then .ext (.iexp sh) [e, f] else .iaddr sh e f) | none => none)
    | _, _, _ => none)
  | .index t x y => (match cE x, cE y, P.underlying t with
    | some e, some f, some .string => some (.index e f)
    | _, _, _ => none)
  | .extract x i => (match cE x with | some e => some (.extract e i) | none => none)
  | .makeSlice t x y => compMkvec P t x y
  | .call c => compCall P c (inMs ms o.dst)
  | _ => none

theorem arr1 {α : Type} {a : Array α} {x : α} (h : a.toList = [x]) : a = #[x] := Array.ext' (by simpa using h)
theorem arr2 {α : Type} {a : Array α} {x y : α} (h : a.toList = [x, y]) : a = #[x, y] := Array.ext' (by simpa using h)

theorem compCall_ok {P : Program} {o : Oper} {c : Call} {O : AOp} {mu : Bool} (ho : o.op = .call c) (h : compCall P c mu = some O) : OpOk P o O := by
  obtain ⟨callee, args, ts⟩ := c
  unfold compCall at h
  dsimp only at h
  split at h
  · split at h
    · rename_i x t hx ht
      have h1 := arr1 hx
      have h2 := arr1 ht
      subst h1 h2
      unfold compLen at h
      split at h <;> first
        | (cases h; done)
        | skip
      · cases h; exact ok_len ho ‹_› ‹_› rfl
      · cases h; exact ok_len ho ‹_› ‹_› ⟨_, rfl⟩
      · cases h; exact ok_len ho ‹_› ‹_› ⟨_, _, rfl⟩
    · cases h
  · split at h
    · rename_i x y t u hx ht
      have h1 := arr2 hx
      have h2 := arr2 ht
      subst h1 h2
      have hz : ∀ O', compAppz P t u x y = some O' → OpOk P o O' := by
        intro O' h
        unfold compAppz at h
        split at h
        · split at h
          · split at h
            · split at h
              · split at h
                · rename_i hc
                  cases h
                  have hie := ‹P.info? _ = some _›
                  obtain ⟨i', d', hi', hd', _, hsz⟩ := tsh_spec ‹tsh P _ = some _›
                  rw [hie] at hi'
                  cases hi'
                  exact ok_appz ho ‹_› ‹_› ‹_› ‹_› hie ‹_› ‹_› hsz hc.1 hc.2.1 hc.2.2
                · cases h
              · cases h
            · cases h
          · cases h
        · cases h
      split at h
      · split at h
        · rename_i op hop
          cases h
          unfold compAppm at hop
          split at hop
          · rename_i ex ey e d hex hey hut huu
            split at hop
            · rename_i i sh hi hsh
              split at hop
              · rename_i z hz
                split at hop
                · rename_i zx hzx
                  split at hop
                  · rename_i hc
                    cases hop
                    obtain ⟨i', d', hi', hd', _, hsz⟩ := tsh_spec hsh
                    rw [hi] at hi'
                    cases hi'
                    refine ok_appm ho hex hey hut huu ?_ hi hz hzx hsz hc.2.1 hc.2.2.1 hc.2.2.2
                    have hr := hc.1
                    cases d <;> simp [runsB] at hr
                    · exact .inr rfl
                    · exact .inl ⟨_, rfl⟩
                  · cases hop
                · cases hop
              · cases hop
            · cases hop
          · cases hop
        · exact hz _ h
      · split at h
        · rename_i op hop
          cases h
          unfold compAppend at hop
          split at hop
          · rename_i ex ey e d hex hey hut huu
            split at hop
            · rename_i i sh hi hsh
              split at hop
              · rename_i z hz
                split at hop
                · rename_i hc
                  cases hop
                  obtain ⟨i', d', hi', hd', _, hsz⟩ := tsh_spec hsh
                  rw [hi] at hi'
                  cases hi'
                  refine ok_append ho hex hey hut huu ?_ hi hz hsz hc.2.1 hc.2.2
                  have hr := hc.1
                  cases d <;> simp [runsB] at hr
                  · exact .inr rfl
                  · exact .inl ⟨_, rfl⟩
                · cases hop
              · cases hop
            · cases hop
          · cases hop
        · exact hz _ h
    · cases h
  · split at h
    · rename_i x y t u hx ht
      have h1 := arr2 hx
      have h2 := arr2 ht
      subst h1 h2
      unfold compCopy at h
      split at h
      · split at h
        · rename_i sh hsh
          cases h
          obtain ⟨i, d, hi', hd, _, hsz⟩ := tsh_spec hsh
          exact ok_copy ho ‹_› ‹_› ‹_› hi' hsz
        · cases h
      · cases h
    · cases h
  · split at h
    · rename_i x t hx ht
      have h1 := arr1 hx
      have h2 := arr1 ht
      subst h1 h2
      unfold compClear at h
      split at h
      · split at h
        · split at h
          · split at h
            · cases h; exact ok_clear ho ‹_› ‹_› ‹_› ‹_› ‹_›
            · cases h
          · cases h
        · cases h
      · cases h
    · cases h
  · split at h
    · rename_i x y t u hx ht
      have h1 := arr2 hx
      have h2 := arr2 ht
      subst h1 h2
      unfold compDel at h
      split at h
      · split at h
        · split at h
          · rename_i hsc
            cases h
            exact ok_mdel ho ‹_› ‹_› ‹_› (compKK_ok ‹_›) hsc
          · cases h
        · cases h
      · cases h
    · cases h
  · split at h
    · rename_i x t hx ht
      have h1 := arr1 hx
      have h2 := arr1 ht
      subst h1 h2
      unfold compCap at h
      split at h
      · cases h; exact ok_cap ho ‹_› ‹_›
      · cases h
    · cases h
  · split at h
    · rename_i x y hx
      have h1 := arr2 hx
      subst h1
      split at h
      · cases h; exact ok_max ho ‹_› ‹_›
      · cases h
    · cases h
  · split at h
    · rename_i x y hx
      have h1 := arr2 hx
      subst h1
      split at h
      · cases h; exact ok_min ho ‹_› ‹_›
      · cases h
    · cases h
  · split at h
    · cases h; exact ok_call ho ‹_› ‹_›
    · cases h
  · split at h
    · cases h; exact ok_inv ho ‹_› ‹_›
    · cases h
  · cases h

theorem compMksl_is {P : Program} {t : TypeId} {len : Nat} {ps : List (Nat × Operand)} {O : AOp} (h : compMksl P t len ps = some O) : ∃ sh es, O = .mksl sh es := by
  unfold compMksl at h
  split at h
  · split at h
    · split at h
      · split at h
        · cases h; exact ⟨_, _, rfl⟩
        · cases h
      · cases h
    · cases h
  · cases h
theorem compMksl_both {P : Program} {o : Oper} {t : TypeId} {len : Nat} {ps : Array (Nat × Operand)} {sh : Sh} {es : List E} (ho : o.op = .buildSlice t len ps) (h : compMksl P t len ps.toList = some (.mksl sh es)) : OpOk P o (.mksl sh es) ∧ OpOk P o (.ext (.mkslm sh) es) := by
  unfold compMksl at h
  split at h
  · split at h
    · split at h
      · split at h
        · rename_i hc
          have hie := ‹P.info? _ = some _›
          obtain ⟨i', d', hi', hd', _, hsz⟩ := tsh_spec ‹tsh P _ = some _›
          rw [hie] at hi'
          cases hi'
          cases h
          exact ⟨ok_mksl ho ‹_› hie ‹_› hsz hc.1 hc.2.1 (by simpa using hc.2.2.1) (by simpa using hc.2.2.2.1) hc.2.2.2.2 ‹_›,
            ok_mkslm ho ‹_› hie ‹_› hsz hc.1 hc.2.1 (by simpa using hc.2.2.1) (by simpa using hc.2.2.2.1) hc.2.2.2.2 ‹_›⟩
        · cases h
      · cases h
    · cases h
  · cases h

theorem compPut_ok {P : Program} {o : Oper} {O : AOp} {t : TypeId} {x y z : Operand} (ho : o.op = .mapUpdate t x y z ∨ o.op = .insert t x y z) (h : compPut P t x y z = some O) : OpOk P o O := by
  unfold compPut at h
  split at h
  · split at h
    · cases h; exact ok_mput ho ‹_› ‹_› ‹_› ‹_› (compKK_ok ‹_›)
    · cases h
  · cases h

theorem comp_ok {P : Program} {o : Oper} {O : AOp} {ms : List Nat} (h : comp P o ms = some O) : OpOk P o O := by
  unfold comp at h
  split at h
  · cases h; exact ok_mkmap ‹_›
  · exact compPut_ok (.inl ‹_›) h
  · exact compPut_ok (.inr ‹_›) h
  · unfold compGet at h
    split at h
    · split at h
      · split at h
        · split at h
          · cases h; exact ok_mget ‹_› ‹_› ‹_› ‹_› (compKK_ok ‹_›) ‹_› ‹_› ‹_›
          · cases h
        · cases h
      · cases h
    · cases h
  · cases h; exact ok_stop []
  · unfold compRange at h
    split at h
    · cases h; exact ok_mrange ‹_› ‹_› ‹_›
    · cases h
  · split at h
    · cases h; exact ok_mnext ‹_› ‹_›
    · cases h
  · split at h
    · cases h; exact ok_mentry ‹_› ‹_›
    · cases h
  · split at h
    · cases h; exact ok_mv (.inl ‹_›) ‹_›
    · cases h
  · split at h
    · cases h; exact ok_mv (.inr ‹_›) ‹_›
    · cases h
  · split at h
    · cases h; exact ok_pick ‹_› ‹_› ‹_› ‹_›
    · cases h
  · split at h
    · split at h
      · split at h
        · cases h; exact ok_alloc ‹_› ‹_› ‹_› ‹_›
        · cases h
      · cases h
    · cases h
  · split at h
    · cases h
      split
      · exact ok_xbox ‹_› ‹_›
      · split
        · exact ok_ibox ‹_› ‹_›
        · exact ok_box ‹_› ‹_›
    · cases h
  · rename_i t ps ho
    unfold compBuild at h
    split at h
    · split at h
      · split at h
        · cases h
          obtain ⟨h1, h2⟩ := zipP_spec ‹zipP _ _ _ = some _›
          refine ok_build ho ‹_› ‹_› ‹_› ‹_› ‹_› ‹_› (by simpa using h1) fun i p e hp he => ?_
          exact h2 i p.1 e (by simp [List.getElem?_map, hp]) he
        · cases h
      · cases h
    · cases h
  · rename_i t len ps ho
    split at h
    · unfold compMkslm at h
      split at h
      · rename_i sh es hc
        cases h
        exact (compMksl_both ho hc).2
      · cases h
    · obtain ⟨sh, es, rfl⟩ := compMksl_is h
      exact (compMksl_both ho h).1
  · split at h
    · rename_i e sh he hsh
      cases h
      obtain ⟨i, d, hi, hd, hq, hsz⟩ := tsh_spec hsh
      split
      · exact ok_ldk ‹_› he hd hi hq
      · exact ok_load ‹_› he hd hi hq
    · cases h
  · split at h
    · cases h; exact ok_store ‹_› ‹_› ‹_› ‹_› rfl
    · cases h
  · split at h
    · cases h; exact ok_nilck ‹_› ‹_›
    · cases h
  · split at h
    · cases h; exact ok_bin ‹_› ‹_› ‹_› (eqk_ok P _)
    · cases h
  · split at h
    · cases h; exact ok_un ‹_› ‹_›
    · cases h
  · rename_i src dst x ho
    unfold compConv at h
    split at h
    · cases h; exact ok_conv_int ho ‹_› ‹_› ‹_›
    · split at h
      · cases h; exact ok_conv_of ho ‹_› ‹_› ‹_› ‹_›
      · cases h
    · cases h; exact ok_conv_str ho ‹_› ‹_› ‹_›
    · split at h
      · cases h; exact ok_conv_to ho ‹_› ‹_› ‹_› ‹_›
      · cases h
    · split at h
      · split at h
        · rename_i hsd
          subst hsd
          cases h; exact ok_give ho ‹_› ‹_› ‹_›
        · cases h
      · cases h
    · cases h
  · split at h
    · split at h
      · cases h
      · rename_i hni
        cases h
        exact ok_mkif ‹_› ‹_› ‹_› fun ms hms => hni (by rw [hms]; rfl)
    · cases h
  · split at h
    · rename_i f first caps ho hf
      subst hf
      split at h
      · cases h; exact ok_mkfn ho ‹_›
      · cases h
    · rename_i f first caps ho hf
      split at h
      · rename_i hcap
        subst hcap
        split at h
        · rename_i x hx1
          split at h
          · cases h
            have hfirst : first = #[x] := by
              apply Array.ext'
              simpa using hx1
            subst hfirst
            exact ok_bind ho ‹_›
          · cases h
        · cases h
      · cases h
  · rename_i t x lo hi mx ho
    unfold compSlice at h
    split at h
    · rename_i ex el eh hx hlo hhi hmx hu
      cases h
      have : mx = none := by
        cases mx with
        | none => rfl
        | some m => simp only [cEo] at hmx; split at hmx <;> cases hmx
      subst this
      exact ok_slice_str ho hx hlo hhi hu
    · split at h
      · rename_i sh hsh
        split at h
        · rename_i hmh
          cases h
          obtain ⟨i, d, hi', hd, _, hsz⟩ := tsh_spec hsh
          exact ok_slice_sl ho ‹_› ‹_› ‹_› ‹_› hmh ‹_› hi' hsz
        · cases h
      · cases h
    · cases h
  · split at h
    · split at h
      · split at h
        · split at h
          · cases h; exact ok_faddr ‹_› ‹_› ‹_› ‹_› ‹_› ‹_›
          · cases h
        · cases h
      · cases h
    · cases h
  · split at h
    · split at h
      · split at h
        · rename_i sh hsh
          cases h
          obtain ⟨i, d, hi', hd, hq, hsz⟩ := tsh_spec hsh
          exact ok_field ‹_› ‹_› ‹_› ‹_› hd hi' hq
        · cases h
      · cases h
    · cases h
  · split at h
    · split at h
      · rename_i sh hsh
        cases h
        obtain ⟨i, d, hi', hd, hq, hsz⟩ := tsh_spec hsh
        split
        · exact ok_iexp ‹_› ‹_› ‹_› ‹_› hi' hsz
        · exact ok_iaddr ‹_› ‹_› ‹_› ‹_› hi' hsz
      · cases h
    · cases h
  · split at h
    · cases h; exact ok_index ‹_› ‹_› ‹_› ‹_›
    · cases h
  · split at h
    · cases h; exact ok_extract ‹_› ‹_›
    · cases h
  · unfold compMkvec at h
    split at h
    · split at h
      · split at h
        · split at h
          · split at h
            · rename_i hc
              cases h
              have hie := ‹P.info? _ = some _›
              obtain ⟨i', d', hi', hd', _, hsz⟩ := tsh_spec ‹tsh P _ = some _›
              rw [hie] at hi'
              cases hi'
              exact ok_mkvec ‹_› ‹_› ‹_› ‹_› hie ‹_› ‹_› hsz hc.1 hc.2.1 hc.2.2
            · cases h
          · cases h
        · cases h
      · cases h
    · cases h
  · exact compCall_ok ‹_› h
  · cases h

/-- What isn't covered is turned into an operation that must not be reached. -/
def stoT (ph : List Nat) : AOp → AOp
  | .store n a x => (match ph with
    | [] => .store n a x
    | p :: ph => .ext (.sto n) (x :: a :: (p :: ph).map .t))
  | op => op
theorem stoT_ok {P : Program} {o : Oper} {op : AOp} (ph : List Nat) (h : OpOk P o op) : OpOk P o (stoT ph op) := by
  unfold stoT
  split
  · split
    · exact h
    · exact h
  · exact h
def compT (P : Program) (o : Oper) (ms : List Nat := []) (ph : List Nat := []) : Option AOp :=
  match comp P o ms with
  | some op => some (stoT ph op)
  | none => some (.ext .stop [])
theorem compT_ok {P : Program} {o : Oper} {O : AOp} {ms ph : List Nat} (h : compT P o ms ph = some O) : OpOk P o O := by
  unfold compT at h
  split at h
  · rename_i op hop
    cases h
    exact stoT_ok ph (comp_ok hop)
  · cases h
    exact ok_stop []

end Go.Abs
