/-
  The model's operations, turned into the small language; that each does what its weakest precondition says: part 10, maps. (Own work; seat-independent.)
-/
import Derived.Test.YtppdghfpbliaeaaAbsK
import Derived.ChangeMaps4
set_option linter.unusedVariables false
set_option linter.unusedSimpArgs false
namespace Go.Abs
open Go

/-- An object's block gets another content. -/
def World.setAt (w : World) (b : Nat) (o : Obj) : World := { w with heap := w.heap.setIfInBounds b o }
theorem setAt_other (w : World) {b c : Nat} (o : Obj) (h : c ≠ b) : (World.setAt w b o).heap[c]? = w.heap[c]? := by
  simp only [World.setAt, Array.getElem?_setIfInBounds]
  rw [if_neg (Ne.symm h)]
theorem setAt_same {w : World} {b : Nat} {o0 : Obj} (o : Obj) (h : w.heap[b]? = some o0) : (World.setAt w b o).heap[b]? = some o := by
  have := (Array.getElem?_eq_some_iff.1 h).1
  simp only [World.setAt, Array.getElem?_setIfInBounds, if_true, this]

theorem Ext.setAt {m : Gh} {w : World} {b : Nat} (o : Obj) (hb : b ∈ m.objb) : Ext m w m (World.setAt w b o) := by
  refine ⟨rfl, rfl, rfl, by simp [World.setAt], fun _ _ h => .inl h, fun _ tk h => ⟨tk, h, rfl, Nat.le_refl _, fun _ => rfl⟩, fun c off f => ⟨cell?_of_heap (setAt_other w o ?_), f.2⟩, fun c hc hn => ⟨setAt_other w o ?_, hn⟩⟩
  · rintro rfl; exact f.2 (.inl hb)
  · rintro rfl; exact hn (List.mem_append.2 (.inl hb))

theorem Inv.setAt {σ : Sg} {m : Gh} {w : World} (h : Inv σ m w) {o b : Nat} (hb : m.objs[o]? = some (some b)) (x : Obj) (ob : Ob)
    (r : ObRep m (World.setAt w b x) ob b) : Inv (σ.put o ob) m (World.setAt w b x) := by
  have hmem : b ∈ m.objb := Gh.mem_objb.2 (List.mem_of_getElem? hb)
  have e := Ext.setAt (m := m) (w := w) x hmem
  have nd : m.objb.Nodup := (List.nodup_append.1 h.nodup).1
  refine ⟨by simp [Sg.put, h.lobj], h.ltok, h.nodup, fun i ob' c hi hc => ?_, fun i hi => ?_, fun tk htk => ?_⟩
  · simp only [Sg.put, List.getElem?_set] at hi
    by_cases hio : o = i
    · subst hio
      have hcb : c = b := Option.some.inj (Option.some.inj (hc.symm.trans hb))
      subst hcb
      simp only [if_true] at hi
      split at hi
      · cases hi; exact r
      · cases hi
    · rw [if_neg hio] at hi
      have hcb : c ≠ b := by
        rintro rfl
        exact hio (objb_inj nd hb hc)
      exact (h.ob i ob' c hi hc).mono e (setAt_other w x hcb)
  · have hio : o ≠ i := by
      rintro rfl
      rw [hb] at hi
      cases hi
    simp only [Sg.put, List.getElem?_set]
    rw [if_neg hio]
    exact h.gone i hi
  · obtain ⟨h1, h2, h3, h4⟩ := h.tk tk htk
    refine ⟨h1, h2, h3, fun c hbo => ?_⟩
    have hne : c ≠ b := by
      rintro rfl
      exact (List.nodup_append.1 h.nodup).2.2 c hmem c (Gh.mem_ownb.2 ⟨tk, htk, hbo⟩) rfl
    rw [setAt_other w x hne]
    exact h4 c hbo

def kkTy (P : Program) (t : TypeId) : KK → Prop
  | .int k => P.underlying t = some (.int k)
  | .str => P.underlying t = some .string
def kkDesc : KK → TypeDesc
  | .int k => .int k
  | .str => .string
theorem kkTy_desc {P : Program} {t : TypeId} {kk : KK} (h : kkTy P t kk) : P.underlying t = some (kkDesc kk) := by cases kk <;> exact h

theorem key_is {w : World} {F : Nat → Nat → Prop} {kk : KK} {x : V} {u : Value} (h : keyOk kk x = true) (r : RepV w F x u) : MapKept.IsKey (kkDesc kk) u := by
  cases kk <;> cases r <;> simp [keyOk] at h <;> first | trivial | exact h.symm

theorem key_hit {w : World} {F : Nat → Nat → Prop} {kk : KK} {x y : V} {u : Value} (hx : keyOk kk x = true) (hy : keyOk kk y = true) (r : RepV w F x u) (s : RepV w F y u) : keq x y = true := by
  cases kk with
  | int k =>
    cases r <;> simp [keyOk] at hx
    cases s <;> simp [keyOk] at hy
    subst hx
    simp [keq]
  | str =>
    cases x with
    | str a =>
      cases y with
      | str b =>
        cases r
        generalize hu : Value.string ⟨a.toArray⟩ = u at s
        cases s
        cases hu
        simp [keq]
      | _ => simp [keyOk] at hy
    | _ => simp [keyOk] at hx
theorem key_same {w : World} {F : Nat → Nat → Prop} {kk : KK} {x y : V} {u v : Value} (hx : keyOk kk x = true) (hy : keyOk kk y = true) (r : RepV w F x u) (s : RepV w F y v) :
    Instr.sameNow (kkDesc kk) u v = some (keq x y) ∧ (keq x y = true → u = v) := by
  cases kk with
  | int k =>
    cases r <;> simp [keyOk] at hx
    cases s <;> simp [keyOk] at hy
    subst hx hy
    refine ⟨by simp [Instr.sameNow, kkDesc, keq], fun h => ?_⟩
    simp [keq] at h
    rw [h]
  | str =>
    cases r <;> simp [keyOk] at hx
    cases s <;> simp [keyOk] at hy
    rename_i a _ b _
    have e : ((⟨a.toArray⟩ : ByteArray) == ⟨b.toArray⟩) = (a == b) := by
      show (a.toArray == b.toArray) = (a == b)
      simp
    refine ⟨by simp only [Instr.sameNow, kkDesc, keq]; rw [e], fun h => ?_⟩
    simp [keq] at h
    rw [h]

/-- The search among the entries, and what stands for it. -/
theorem find_rep {m : Gh} {w : World} {kk : KK} {x : V} {u : Value} (hx : keyOk kk x = true) (r : RepV w (Fz m w) x u) : ∀ (es : List (V × D)) (ms : List MapEntry) (j : Nat), ms.length = es.length → keysOk kk es = true →
    (∀ (i : Nat) y e, es[i]? = some y → ms[i]? = some e → RepV w (Fz m w) y.1 e.key ∧ RepD m w y.2 e.val) →
    (∃ i y e, es[i]? = some y ∧ ms[i]? = some e ∧ e.key = u ∧ mfind x es = some y.2 ∧ Instr.findNow (kkDesc kk) u ms j = some (some (j + i, e.val)) ∧ ∀ d, mset x d es = es.set i (x, d)) ∨
    (mfind x es = none ∧ Instr.findNow (kkDesc kk) u ms j = some none ∧ (∀ d, mset x d es = es ++ [(x, d)]) ∧ ∀ e ∈ ms, e.key ≠ u)
  | [], [], j, _, _, _ => .inr ⟨rfl, rfl, fun _ => rfl, by simp⟩
  | [], _ :: _, _, h, _, _ => by simp at h
  | _ :: _, [], _, h, _, _ => by simp at h
  | y :: es, e :: ms, j, hl, hk, hr => by
    simp only [keysOk, List.all_cons, Bool.and_eq_true] at hk
    obtain ⟨h1, h2⟩ := hr 0 y e rfl rfl
    obtain ⟨k1, k2⟩ := key_same hx hk.1 r h1
    by_cases hq : keq x y.1 = true
    · refine .inl ⟨0, y, e, rfl, rfl, (k2 hq).symm, by simp [mfind, hq], ?_, fun d => by simp [mset, hq]⟩
      simp [Instr.findNow, k1, hq]
    · rw [Bool.not_eq_true] at hq
      rcases find_rep hx r es ms (j + 1) (by simpa using hl) hk.2 (fun i y e ha hb => hr (i + 1) y e (by simpa using ha) (by simpa using hb)) with ⟨i, z, f, a1, a2, a3, a4, a5, a6⟩ | ⟨a1, a2, a3, a4⟩
      · refine .inl ⟨i + 1, z, f, by simpa using a1, by simpa using a2, a3, by simp [mfind, hq, a4], ?_, fun d => by simp [mset, hq, a6]⟩
        simp only [Instr.findNow, k1, hq, a5]
        rw [show j + 1 + i = j + (i + 1) by omega]
      · refine .inr ⟨by simp [mfind, hq, a1], by simp [Instr.findNow, k1, hq, a2], fun d => by simp [mset, hq, a3], fun f hf => ?_⟩
        rcases List.mem_cons.1 hf with rfl | hf
        · intro e0
          rw [e0] at h1
          rw [key_hit hx hk.1 r h1] at hq
          cases hq
        · exact a4 f hf

section
variable {P : Program} {o : Oper}

theorem ok_mkmap {t : TypeId} (ho : o.op = .makeMap t none) : OpOk P o (.ext .mkmap []) := by
  refine .of_runs fun σ m w a s K hI hE hW => ?_
  simp only [WOp, WX] at hW
  refine ⟨_, _, _, _, _, _, ?_, .inl rfl, hW, hI.add (.map #[] 0) (.map []) ⟨#[], 0, heap_alloc_new w _, rfl, by simp, MapKept.stamped_empty 0⟩, .add m w _, .map _ w.heap.size (.inl (by simp [Gh.add, ← hI.lobj]))⟩
  simp [execOp, ho, Instr.makeMap]

theorem ok_mput {t kt et : TypeId} {x y z : Operand} {ex ey ez : E} {kk : KK} (ho : o.op = .mapUpdate t x y z ∨ o.op = .insert t x y z) (hx : cE x = some ex) (hy : cE y = some ey) (hz : cE z = some ez) (hu : P.underlying t = some (.map kt et)) (hk : kkTy P kt kk) :
    OpOk P o (.ext (.mput kk) [ex, ey, ez]) := by
  refine .of_runs fun σ m w a s K hI hE hW => ?_
  have rx := ev_rep hE hx
  have ry := ev_rep hE hy
  have rz := ev_rep hE hz
  simp only [WOp, WX, List.map_cons, List.map_nil] at hW
  generalize ev s ex = dx at hW rx
  generalize ev s ey = dy at hW ry
  generalize ev s ez = dz at hW rz
  generalize hux : a.eval x = ux at rx
  generalize huy : a.eval y = uy at ry
  generalize huz : a.eval z = uz at rz
  split at hW
  · rename_i oo k d heq
    simp only [List.cons.injEq, and_true] at heq
    obtain ⟨rfl, rfl, rfl⟩ := heq
    cases rx with
    | map _ b hb =>
    split at hW
    · rename_i es hes
      obtain ⟨h1, h2, h3⟩ := hW
      have hb := hI.live hes (by simp) hb
      obtain ⟨ms, clock, hh, hsz, hrep, hst0⟩ := hI.ob _ _ b hes hb
      have hmem : b ∈ m.objb := Gh.mem_objb.2 (List.mem_of_getElem? hb)
      have hdesc := kkTy_desc hk
      have hkey := key_is h1 ry.v_inv
      have hget := MapKept.run_getObj_map (P := P) hh
      have hck := MapKept.run_checkKey (P := P) (w := w) hdesc hkey
      have fin : ∀ (ob : Obj), (Instr.mapUpdate t (.map (some b)) uy uz).run P w = .ok () (World.setAt w b ob) → ObRep m (World.setAt w b ob) (.map (mset k dz es)) b → Runs1 P o σ m w a K := by
        intro ob hrun hob
        refine ⟨.skip, undef, _, m, .undef, _, ?_, .inr ⟨rfl, rfl⟩, h3, hI.setAt hb ob _ hob, .setAt ob hmem, .tup [] [] rfl (by simp)⟩
        rcases ho with ho | ho <;> simp only [execOp, ho, hux, huy, huz, Sem.run_bind, hrun, Result.andThen_ok, Sem.run_pure]
      rcases find_rep h1 ry.v_inv es ms.toList 0 (by simpa using hsz) h2 (fun i y e h4 h5 => hrep i y e h4 (by simpa using h5)) with ⟨i, y, e, a1, a2, a3, a4, a5, a6⟩ | ⟨a1, a2, a3, a4⟩
      · have hfk := MapKept.run_findKey (P := P) (w := w) hdesc a5
        have a2' : ms[i]? = some e := by simpa using a2
        have hst := MapKept.run_keyThatStays (P := P) (w := w) hkey
        rw [Nat.zero_add] at hfk
        have hset : ∀ o', (setObj b o').run P w = .ok () (World.setAt w b o') := fun o' => MapKept.run_setObj_map o' hh
        refine fin (.map (ms.modify i fun e => { e with key := uy, val := uz }) clock) ?_ ?_
        · simp [Instr.mapUpdate, run_underlying hu, hget, hck, hfk, a2', a3, hst, hset, Result.andThen]
        · rw [a6]
          refine ⟨_, clock, setAt_same _ hh, by simp [hsz], fun j z f hz hf => ?_, MapKept.stamped_modify hst0 _ _ (fun _ _ => rfl) fun f _ hf => by rw [a2'] at hf; cases hf; exact a3.symm⟩
          have ex := Ext.setAt (m := m) (w := w) (.map (ms.modify i fun e => { e with key := uy, val := uz }) clock) hmem
          rw [List.getElem?_set] at hz
          rw [Array.getElem?_modify] at hf
          by_cases hij : i = j
          · subst hij
            rw [if_pos rfl] at hz hf
            split at hz
            · cases hz
              rw [a2'] at hf
              cases hf
              exact ⟨ry.v_inv.mono ex.fz, rz.mono ex⟩
            · cases hz
          · rw [if_neg hij] at hz hf
            obtain ⟨q1, q2⟩ := hrep j z f hz hf
            exact ⟨q1.mono ex.fz, q2.mono ex⟩
      · have hfk := MapKept.run_findKey (P := P) (w := w) hdesc a2
        have hset : ∀ o', (setObj b o').run P w = .ok () (World.setAt w b o') := fun o' => MapKept.run_setObj_map o' hh
        refine fin (.map (ms.push { key := uy, val := uz, born := clock }) (clock + 1)) ?_ ?_
        · simp [Instr.mapUpdate, run_underlying hu, hget, hck, hfk, hset, Result.andThen]
        · rw [a3]
          refine ⟨_, clock + 1, setAt_same _ hh, by simp [hsz], fun j z f hz hf => ?_, MapKept.stamped_push hst0 a4⟩
          have ex := Ext.setAt (m := m) (w := w) (.map (ms.push { key := uy, val := uz, born := clock }) (clock + 1)) hmem
          rw [Array.getElem?_push] at hf
          by_cases hj : j = ms.size
          · subst hj
            rw [if_pos rfl] at hf
            cases hf
            rw [hsz, List.getElem?_append_right (Nat.le_refl _)] at hz
            simp at hz
            subst hz
            exact ⟨ry.v_inv.mono ex.fz, rz.mono ex⟩
          · rw [if_neg hj] at hf
            have hlt := (Array.getElem?_eq_some_iff.1 hf).1
            rw [List.getElem?_append_left (by omega)] at hz
            obtain ⟨q1, q2⟩ := hrep j z f hz hf
            exact ⟨q1.mono ex.fz, q2.mono ex⟩
    · exact hW.elim
  · exact hW.elim

theorem ok_mget {t kt et : TypeId} {x y : Operand} {ex ey : E} {kk : KK} {ok : Bool} {i : TypeInfo} {zv : Value} {z : V} (ho : o.op = .lookup t x y ok) (hx : cE x = some ex) (hy : cE y = some ey) (hu : P.underlying t = some (.map kt et)) (hk : kkTy P kt kk)
    (hi : P.info? et = some i) (hz : i.zero = some zv) (hzv : cV zv = some z) : OpOk P o (.ext (.mget kk ok z) [ex, ey]) := by
  refine .of_runs fun σ m w a s K hI hE hW => ?_
  have rx := ev_rep hE hx
  have ry := ev_rep hE hy
  simp only [WOp, WX, List.map_cons, List.map_nil] at hW
  generalize ev s ex = dx at hW rx
  generalize ev s ey = dy at hW ry
  generalize hux : a.eval x = ux at rx
  generalize huy : a.eval y = uy at ry
  have hdesc := kkTy_desc hk
  have hzr : (zeroValue et).run P w = .ok zv w := by simp [zeroValue, typeInfo, hi, hz]
  have key : ∀ (es : List MapEntry) (k : V) (r : Option D) (v : Option Value), dy = .v k → keyOk kk k = true → (Instr.lookup t ux uy ok).run P w = .ok (if ok then .tuple #[v.getD zv, .bool v.isSome] else v.getD zv) w →
      (∀ d, r = some d → ∃ u, v = some u ∧ RepD m w d u) → (r = none → v = none) → K (mgot ok z r) σ → Runs1 P o σ m w a K := by
    intro es k r v hdy hk1 hrun h1 h2 hK
    refine .still (u := if ok = true then .tuple #[v.getD zv, .bool v.isSome] else v.getD zv) hI (by simp only [execOp, ho, hux, huy, Sem.run_bind, hrun, Result.andThen_ok, Sem.run_pure]) hK ?_
    have hrep : RepD m w (r.getD (.v z)) (v.getD zv) ∧ r.isSome = v.isSome := by
      cases r with
      | none => rw [h2 rfl]; exact ⟨.v _ _ (cV_rep hzv), rfl⟩
      | some d => obtain ⟨u, hu, hr⟩ := h1 d rfl; rw [hu]; exact ⟨hr, rfl⟩
    unfold mgot
    cases ok with
    | false => exact hrep.1
    | true =>
      rw [if_pos rfl, if_pos rfl, hrep.2]
      refine .tup _ [_, _] rfl fun j d u hd hu => ?_
      match j with
      | 0 => cases hd; cases hu; exact hrep.1
      | 1 => cases hd; cases hu; exact .v _ _ (.bool _)
      | j + 2 => simp at hd
  split at hW
  · rename_i k heq
    simp only [List.cons.injEq, and_true] at heq
    obtain ⟨rfl, rfl⟩ := heq
    generalize hmv : ux = uu at rx
    have hv := rx.v_inv
    cases hv
    subst hmv
    refine key [] k none none rfl hW.1 ?_ (by simp) (fun _ => rfl) hW.2
    have hck := MapKept.run_checkKey (P := P) (w := w) hdesc (key_is hW.1 ry.v_inv)
    have hfk := MapKept.run_findKey (P := P) (w := w) (k := uy) (l := []) (a := none) hdesc rfl
    cases ok <;> simp [Instr.lookup, run_underlying hu, hck, hfk, hzr, Result.andThen]
  · rename_i oo k heq
    simp only [List.cons.injEq, and_true] at heq
    obtain ⟨rfl, rfl⟩ := heq
    cases rx with
    | map _ b hb =>
    split at hW
    · rename_i es hes
      obtain ⟨h1, h2, h3⟩ := hW
      have hb := hI.live hes (by simp) hb
      obtain ⟨ms, clock, hh, hsz, hrep, hst0⟩ := hI.ob _ _ b hes hb
      have hget := MapKept.run_getObj_map (P := P) hh
      have hck := MapKept.run_checkKey (P := P) (w := w) hdesc (key_is h1 ry.v_inv)
      rcases find_rep h1 ry.v_inv es ms.toList 0 (by simpa using hsz) h2 (fun i y e h4 h5 => hrep i y e h4 (by simpa using h5)) with ⟨i, y, e, a1, a2, a3, a4, a5, a6⟩ | ⟨a1, a2, a3, a4⟩
      · have hfk := MapKept.run_findKey (P := P) (w := w) hdesc a5
        refine key [] k _ (some e.val) rfl h1 ?_ (fun d hd => ⟨e.val, rfl, ?_⟩) (fun hn => ?_) h3
        · cases ok <;> simp [Instr.lookup, run_underlying hu, hget, hck, hfk, Result.andThen]
        · rw [a4] at hd
          cases hd
          exact (hrep i y e a1 (by simpa using a2)).2
        · rw [a4] at hn; cases hn
      · have hfk := MapKept.run_findKey (P := P) (w := w) hdesc a2
        refine key [] k _ none rfl h1 ?_ (fun d hd => ?_) (fun _ => rfl) h3
        · cases ok <;> simp [Instr.lookup, run_underlying hu, hget, hck, hfk, hzr, Result.andThen]
        · rw [a1] at hd; cases hd
    · exact hW.elim
  · exact hW.elim

theorem ok_stop (os : List E) : OpOk P o (.ext .stop os) := by
  refine .of_runs fun σ m w a s K hI hE hW => ?_
  exact hW.elim

end
end Go.Abs
