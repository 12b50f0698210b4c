/-
  The model's operations, turned into the small language; that each does what its weakest precondition says: part 11, slices that may be written to. (Own work; seat-independent.)
-/
import Derived.Test.YtbifjffjibnjjaaDoorAbsN
import Derived.Laws.MakeOwn
set_option linter.unusedVariables false
set_option linter.unusedSimpArgs false
namespace Go.Abs
open Go

/-- Cells put into an object's block. -/
theorem setRow_ok {σ : Sg} {m : Gh} {w : World} (hI : Inv σ m w) {o b : Nat} {cs : List D} {us : Array Value} {ty : TypeId} (hcs : σ.objs[o]? = some (.cells cs)) (hb : m.objs[o]? = some (some b)) (hh : w.heap[b]? = some (.cells us ty (0, 0)))
    (hsz : cs.length ≤ us.size) (hob : ∀ (i : Nat) d u, cs[i]? = some d → us[i]? = some u → RepD m w d u ∧ u.oneCell' = true) (hone : True)
    {off : Nat} {xs : List D} {vs : List Value} (hl : xs.length = vs.length) (hr : ∀ (i : Nat) d u, xs[i]? = some d → vs[i]? = some u → RepD m w d u) (h1 : ∀ u ∈ vs, u.oneCell' = true) (hfit : off + xs.length ≤ cs.length) :
    Inv (σ.put o (.cells (putAt cs off xs))) m (w.setRow b (us.toList.take off ++ vs ++ us.toList.drop (off + vs.length)).toArray) ∧ Ext m w m (w.setRow b (us.toList.take off ++ vs ++ us.toList.drop (off + vs.length)).toArray) := by
  have hmem : b ∈ m.objb := Gh.mem_objb.2 (List.mem_of_getElem? hb)
  have e := Ext.setRow (m := m) (w := w) (us.toList.take off ++ vs ++ us.toList.drop (off + vs.length)).toArray hmem
  have hall := row_one (us := us.toList) (vs := vs) (off := off) (R := fun d u => RepD m w d u) (fun i d u h1 h2 => hob i d u h1 (by simpa using h2)) h1 (by omega) (by simpa using hsz)
  refine ⟨hI.setRow hb _ (.cells (putAt cs off xs)) ⟨_, ty, setRow_heap w b us _ ty (0, 0) hh, ?_, fun j d u hd hu => ?_, trivial⟩, e⟩
  · rw [putAt_length hfit]
    simp only [List.size_toArray, List.length_append, List.length_take, List.length_drop, Array.length_toList]
    omega
  · rw [List.getElem?_toArray] at hu
    have hjl : j < cs.length := by
      have := (List.getElem?_eq_some_iff.1 hd).1
      rwa [putAt_length hfit] at this
    have h2 := hall j u hu hjl
    rw [List.append_assoc] at hu
    exact ⟨(putAt_rep (us := us.toList) (vs := vs) (by simp; omega) (fun i d u h1 h2 => (hob i d u h1 (by simpa using h2)).1) hl hr hfit j d u hd hu).mono e, h2⟩

/-- A new block, and what its first cells hold; nothing is known of the others. -/
theorem newRow_ok {σ : Sg} {m : Gh} {w : World} (hI : Inv σ m w) (ty : TypeId) {cs : List D} {us : Array Value} (hl : cs.length ≤ us.size) (hr : ∀ (i : Nat) d u, cs[i]? = some d → us[i]? = some u → RepD m w d u) (h1 : ∀ (i : Nat) u, us[i]? = some u → u.oneCell' = true) :
    Inv (σ.add (.cells cs)) (m.add w.heap.size) (w.drew.alloc (.cells us ty)) ∧ Ext m w (m.add w.heap.size) (w.drew.alloc (.cells us ty)) := by
  have hI' := hI.drew
  have eD := Ext.drew m w
  have e := Ext.add m w.drew (.cells us ty)
  refine ⟨hI'.add (.cells us ty) (.cells cs) ⟨us, ty, heap_alloc_new w.drew _, hl, fun i d u hd hu => ⟨((hr i d u hd hu).mono eD).mono e, h1 i u hu⟩, trivial⟩, eD.trans e⟩
theorem newRow_ok' {σ : Sg} {m : Gh} {w : World} (hI : Inv σ m w) (ty : TypeId) {cs : List D} {us : Array Value} (hl : cs.length ≤ us.size) (hr : ∀ (i : Nat) d u, cs[i]? = some d → us[i]? = some u → RepD m w d u) (h1 : ∀ (i : Nat) u, us[i]? = some u → u.oneCell' = true) :
    Inv (σ.add (.cells cs)) (m.add w.heap.size) (w.alloc (.cells us ty)) ∧ Ext m w (m.add w.heap.size) (w.alloc (.cells us ty)) := by
  have e := Ext.add m w (.cells us ty)
  exact ⟨hI.add (.cells us ty) (.cells cs) ⟨us, ty, heap_alloc_new w _, hl, fun i d u hd hu => ⟨(hr i d u hd hu).mono e, h1 i u hu⟩, trivial⟩, e⟩

theorem zeroCells_get {zs : Array Value} {n i : Nat} {u : Value} (h : (Builtin.zeroCells zs n)[i]? = some u) : i < n * zs.size ∧ zs[i % zs.size]? = some u := by
  unfold Builtin.zeroCells at h
  rw [Array.getElem?_map] at h
  cases hr : (Array.range (n * zs.size))[i]? with
  | none => rw [hr] at h; cases h
  | some j =>
    rw [hr] at h
    have hlt : i < n * zs.size := by simpa using (Array.getElem?_eq_some_iff.1 hr).1
    have hj : j = i := by
      have := (Array.getElem?_eq_some_iff.1 hr).2
      simpa using this.symm
    subst hj
    simp only [Option.map_some, Option.some.injEq] at h
    have hpos : 0 < zs.size := by
      rcases Nat.eq_zero_or_pos zs.size with h0 | h0
      · rw [h0] at hlt; simp at hlt
      · exact h0
    have hm : j % zs.size < zs.size := Nat.mod_lt _ hpos
    refine ⟨hlt, ?_⟩
    rw [← h]
    simp [hm]

theorem olds_nil {P : Program} {w : World} (size : Nat) (a : Option Addr) (cap : Nat) : (Builtin.firstCells size 0 (.slice a 0 cap)).run P w = .ok #[] w := by
  cases a with
  | none => simp [Builtin.firstCells]
  | some b => exact run_firstCells_some (P := P) w size 0 b 0 cap [] (by simp) (by simp)

section
variable {P : Program} {o : Oper}

theorem zerosV_get {zs : List V} {n i : Nat} (h : i < n * zs.length) : (zerosV zs n)[i]? = zs[i % zs.length]? := by
  unfold zerosV
  induction n generalizing i with
  | zero => simp at h
  | succ n ih =>
    rw [List.replicate_succ, List.flatten_cons]
    rcases Nat.lt_or_ge i zs.length with h1 | h1
    · rw [List.getElem?_append_left h1, Nat.mod_eq_of_lt h1]
    · rw [List.getElem?_append_right h1, ih (by rw [Nat.add_mul, Nat.one_mul] at h; omega)]
      congr 1
      rw [Nat.mod_eq_sub_mod h1]
theorem zerosV_length {zs : List V} {n : Nat} : (zerosV zs n).length = n * zs.length := by simp [zerosV]

theorem made_get {z : Array Value} {n i : Nat} {u : Value} (hz : 0 < z.size) (h : (madeCells z n)[i]? = some u) : i < n ∧ z[i % z.size]? = some u := by
  unfold madeCells at h
  rw [Array.getElem?_map] at h
  cases hr : (Array.range n)[i]? with
  | none => rw [hr] at h; cases h
  | some j =>
    rw [hr] at h
    have hlt : i < n := by simpa using (Array.getElem?_eq_some_iff.1 hr).1
    have hj : j = i := by
      have := (Array.getElem?_eq_some_iff.1 hr).2
      simpa using this.symm
    subst hj
    simp only [Option.map_some, Option.some.injEq] at h
    have hm : j % z.size < z.size := Nat.mod_lt _ hz
    refine ⟨hlt, ?_⟩
    rw [← h]
    simp [hm]

theorem ok_mkvec {t e : TypeId} {x y : Operand} {ex ey : E} {i : TypeInfo} {zv : Value} {z : V} {sh : Sh} (ho : o.op = .makeSlice t x y) (hx : cE x = some ex) (hy : cE y = some ey) (ht : P.underlying t = some (.slice e)) (hi : P.info? e = some i)
    (hz : i.zero = some zv) (hzv : cV zv = some z) (hsz : i.size = shn sh) (hzs : zv.cells.size = shn sh) (hpos : 0 < i.bytes) (hp2 : 0 < shn sh) : OpOk P o (.ext (.mkvec sh i.bytes z.cells) [ex, ey]) := by
  refine .of_runs fun σ m w a s K hI hE hW => ?_
  have rx := ev_rep hE hx
  have ry := ev_rep hE hy
  simp only [WOp, WX, List.map_cons, List.map_nil] at hW
  generalize ev s ex = dx at hW rx
  generalize ev s ey = dy at hW ry
  split at hW
  · rename_i k n l c heq
    simp only [List.cons.injEq, and_true] at heq
    obtain ⟨rfl, rfl⟩ := heq
    have hux := rx.int_inv
    have huy := ry.int_inv
    obtain ⟨h0, h1, h2, h3, h4⟩ := hW
    have h63 : c ≤ 140737488355328 := by
      have : c * 1 ≤ c * i.bytes := by
        apply Int.mul_le_mul_of_nonneg_left <;> omega
      omega
    have hrun := run_make (P := P) w t e i zv ht hi hz k l n c h0 h1 (by rw [Int.mul_comm]; omega) (by omega)
    obtain ⟨q1, q2, q3⟩ := (cV_rep (w := w) (F := Fz m w) hzv).cellsR
    have hzl : z.cells.length = shn sh := by rw [q1, hzs]
    have hone : ∀ (j : Nat) u, (madeCells zv.cells (c.toNat * i.size))[j]? = some u → u.oneCell' = true := fun j u hu => by
      have h5 := (made_get (by omega) hu).2
      exact q3 u (by simpa using Array.mem_of_getElem? h5)
    have hex : (execOp a.eval o).run P w = .ok (.value (.slice (some ⟨w.heap.size, 0, none⟩) n.toNat c.toNat)) (w.alloc (.cells (madeCells zv.cells (c.toNat * i.size)) e)) := by
      simp only [execOp, ho, hux, huy, Sem.run_bind, hrun, Result.andThen_ok, Sem.run_pure]
    by_cases hc : c = 0
    · have hn0 : n.toNat = 0 := by omega
      have hc0 : c.toNat = 0 := by omega
      rw [hn0, hc0] at hex
      exact ⟨_, _, _, _, _, _, hex, .inl rfl, h3 hc, hI.alloc _, .alloc m w _, .v _ _ (.slNil _ _ _)⟩
    · obtain ⟨hI', hX'⟩ := newRow_ok' hI e (cs := (zerosV z.cells c.toNat).map .v) (us := madeCells zv.cells (c.toNat * i.size)) (by simp [zerosV_length, size_madeCells, hzl, hsz]) (fun j d u hd hu => by
        obtain ⟨h5, h6⟩ := made_get (by omega) hu
        rw [List.getElem?_map, zerosV_get (by rw [hzl, ← hsz]; exact h5)] at hd
        cases hq : z.cells[j % z.cells.length]? with
        | none => rw [hq] at hd; cases hd
        | some q =>
          rw [hq] at hd
          cases hd
          rw [q1] at hq
          exact .v _ _ (q2 _ q u hq h6)) hone
      refine ⟨_, _, _, _, _, _, hex, .inl rfl, h4 hc, hI', hX', .msl _ 0 _ sh _ _ _ (by simp [Gh.add, hI.lobj]) (.inl ⟨w.heap.size, rfl, .inl (by simp [Gh.add, ← hI.lobj])⟩) (by omega) (by simp only [maxLen]; omega) fun c' hc' => Option.some.inj hc'⟩
  · exact hW.elim

theorem ok_cap {t e : TypeId} {x : Operand} {ex : E} (ho : o.op = .call { callee := .builtin .cap, args := #[x], argTypes := #[t] }) (hx : cE x = some ex) (ht : P.underlying t = some (.slice e)) : OpOk P o (.ext .cap [ex]) := by
  refine .of_runs fun σ m w a s K hI hE hW => ?_
  have rx := ev_rep hE hx
  simp only [WOp, WX, List.map_cons, List.map_nil] at hW
  generalize ev s ex = dx at hW rx
  generalize hux : a.eval x = ux at rx
  have hrun : ∀ (aa : Option Addr) (n c : Nat), ux = .slice aa n c → (execOp a.eval o).run P w = .ok (.value (.int .i64 c)) w := by
    rintro aa n c rfl
    simp [execOp, ho, hux, resolve, invoke, builtin, Builtin.cap_, run_underlying ht, goInt]
  have fin : ∀ (aa : Option Addr) (n c : Nat), ux = .slice aa n c → c ≤ maxLen → K (.v (.int .i64 c)) σ → Runs1 P o σ m w a K := fun aa n c h1 h2 h3 =>
    .still hI (hrun aa n c h1) h3 (.v _ _ (.int _ _ (inR_nat h2)))
  unfold WCap at hW
  split at hW
  · have hv := rx.v_inv
    cases hv
    exact fin none 0 0 rfl (by decide) hW
  · obtain ⟨aa, cap, rfl, _, hcm, hf, _⟩ := rx.v_inv.sl_inv
    have := hf rfl
    subst this
    exact fin _ _ _ rfl hcm hW
  · obtain ⟨aa, cap, rfl, hlc, hcm, _⟩ := rx.v_inv.sl_inv
    exact fin _ _ _ rfl hcm (hW cap hlc hcm)
  · cases rx with
    | tsl _ _ _ aa len cap tk hv _ _ _ _ =>
      obtain ⟨aa', cap', he, hlc, hcm, _⟩ := hv.sl_inv
      cases he
      exact fin _ _ _ rfl hcm (hW cap hlc hcm)
  · rename_i o off len sh c
    cases rx with
    | msl _ _ _ _ _ aa cap hol hbb hlc hcm hcc =>
      have := hcc c rfl
      subst this
      exact fin _ _ _ rfl hcm hW
  · rename_i o off len sh
    cases rx with
    | msl _ _ _ _ _ aa cap hol hbb hlc hcm hcc => exact fin _ _ _ rfl hcm (hW cap hlc hcm)
  · exact hW.elim

theorem flat_map_v_get {ys : List V} {news : List Value} {m : Gh} {w : World} (hnew : ∀ (j : Nat) c v, (V.flat ys)[j]? = some c → news[j]? = some v → RepV w (Fz m w) c v) :
    ∀ (i : Nat) d u, ((V.flat ys).map D.v)[i]? = some d → news[i]? = some u → RepD m w d u := by
  intro i d u hd hu
  rw [List.getElem?_map] at hd
  cases hc : (V.flat ys)[i]? with
  | none => rw [hc] at hd; cases hd
  | some c => rw [hc] at hd; cases hd; exact .v _ _ (hnew i c u hc hu)

theorem put_nil {σ : Sg} {o off : Nat} {cs : List D} (h : σ.objs[o]? = some (.cells cs)) : σ.put o (.cells (putAt cs off ((V.flat []).map .v))) = σ := by
  obtain ⟨os, ts⟩ := σ
  have : putAt cs off ((V.flat []).map .v) = cs := by simp [putAt, V.flat]
  simp only [Sg.put, this, Sg.mk.injEq, and_true]
  apply List.ext_getElem?
  intro i
  rw [List.getElem?_set]
  split
  · rename_i hi
    subst hi
    split
    · exact h.symm
    · rename_i hlt
      have h' : os[o]? = some (.cells cs) := h
      exact absurd (List.getElem?_eq_some_iff.1 h').1 hlt
  · rfl

theorem run_append_roomAt {w : World} (t u ty e : TypeId) (d : TypeDesc) (i : TypeInfo) (ht : P.underlying t = some (.slice e)) (hu : P.underlying u = some d) (hd : Runs d) (hi : P.info? e = some i)
    (g off sLen sCap : Nat) (cur : Array Value) (ty' : TypeId) (hg : w.heap[g]? = some (.cells cur ty' (0, 0)))
    (x : Value) (n : Nat) (news : List Value) (hs : Src P w i.size x n news) (h1 : ∀ u ∈ news, u.oneCell' = true)
    (hroom : sLen + n ≤ sCap) (hfit : off + sLen * i.size + news.length ≤ cur.size) :
    (Builtin.append_ #[t, u] ty #[.slice (some ⟨g, off, none⟩) sLen sCap, x]).run P w =
      .ok (.slice (some ⟨g, off, none⟩) (sLen + n) sCap) (w.setRow g (cur.toList.take (off + sLen * i.size) ++ news ++ cur.toList.drop (off + sLen * i.size + news.length)).toArray) := by
  have hst := run_storeCells_at P g (off + sLen * i.size) ty' news 0 cur w hg (by simpa using hfit) h1
  simp only [Nat.add_zero] at hst
  rcases hd with ⟨e2, rfl⟩ | rfl <;>
    simp [Builtin.append_, run_underlying ht, run_underlying hu, sizeOf, typeInfo, hi, hs.len, hroom, hs.cells, Addr.add_lit, hst]

theorem ok_copy {t u e : TypeId} {x y : Operand} {ex ey : E} {i : TypeInfo} {sh : Sh} (ho : o.op = .call { callee := .builtin .copy, args := #[x, y], argTypes := #[t, u] }) (hx : cE x = some ex) (hy : cE y = some ey)
    (ht : P.underlying t = some (.slice e)) (hi : P.info? e = some i) (hsz : i.size = shn sh) : OpOk P o (.ext (.copy sh) [ex, ey]) := by
  refine .of_runs fun σ m w a s K hI hE hW => ?_
  have rx := ev_rep hE hx
  have ry := ev_rep hE hy
  simp only [WOp, WX, List.map_cons, List.map_nil] at hW
  generalize ev s ex = dx at hW rx
  generalize ev s ey = dy at hW ry
  generalize hux : a.eval x = ux at rx
  generalize huy : a.eval y = uy at ry
  unfold WCopy at hW
  split at hW
  · exact hW.elim
  · rename_i ys hys
    obtain ⟨news, hsrc, hsh, h1, hnew⟩ := srcM_rep (P := P) hI ry hys
    split at hW
    · rename_i oo off len sh' cp
      split at hW
      · rename_i cs hcs
        obtain ⟨rfl, hcs0, hlen, hfit, hK⟩ := hW
        have hnl : news.length = ys.length * shn sh := hsrc.lenEq
        have hfl : (V.flat ys).length = ys.length * shn sh := V.flat_length hsh
        have hn1 : ∀ u ∈ news, u.oneCell' = true := RepV.cells_one h1 (by rw [hnl, hfl]) hnew
        cases rx with
        | msl _ _ _ _ _ aa cap hol hbb hlc hcm hcc =>
        have hmin : Nat.min ys.length len = ys.length := Nat.min_eq_left hlen
        rcases hbb with ⟨b, rfl, hb⟩ | ⟨hl0, hc0⟩
        · have hb := hI.live hcs (by rintro e; cases e; exact hcs0 rfl) hb
          obtain ⟨us, ty, hh, hsz', hob, hone⟩ := hI.ob oo _ b hcs hb
          have hst := run_storeCells_at P b off ty news 0 us w hh (by simp; omega) hn1
          simp only [Nat.add_zero] at hst
          obtain ⟨hI', hX'⟩ := setRow_ok hI hcs hb hh hsz' hob hone (off := off) (xs := (V.flat ys).map .v) (vs := news) (by simp [hfl, hnl]) (flat_map_v_get hnew) hn1 (by simp [hfl]; omega)
          refine ⟨_, _, _, _, _, _, ?_, .inl rfl, hK, hI', hX', .v _ _ (.int _ _ (inR_nat (by omega)))⟩
          simp [execOp, ho, hux, huy, resolve, invoke, builtin, Builtin.copy_, run_underlying ht, hsrc.len, hmin, sizeOf, typeInfo, hi, hsz, hsrc.cells, hst, goInt] <;> rfl
        · have hy0 : ys = [] := List.eq_nil_of_length_eq_zero (by omega)
          subst hy0
          have hn0 : news = [] := List.eq_nil_of_length_eq_zero (by simpa using hnl)
          subst hn0
          have hput : σ.put oo (.cells (putAt cs off ((V.flat []).map .v))) = σ := put_nil hcs
          rw [hput] at hK
          refine ⟨_, _, _, _, _, _, ?_, .inl rfl, hK, hI, .refl m w, .v _ _ (.int _ _ (by decide))⟩
          subst hl0
          have hc0' : (Builtin.firstCells (shn sh) 0 uy).run P w = .ok #[] w := hsrc.cells
          cases aa <;> simp [execOp, ho, hux, huy, resolve, invoke, builtin, Builtin.copy_, run_underlying ht, hsrc.len, sizeOf, typeInfo, hi, hsz, hc0', storeCells, goInt] <;> rfl
      · exact hW.elim
    · exact hW.elim

theorem appm_core {σ : Sg} {m : Gh} {w : World} {a : Act} {K : D → Sg → Prop} (hI : Inv σ m w) {t u e : TypeId} {i : TypeInfo} {zv : Value} {z : V} {sh : Sh} (hzv : cV zv = some z) (hsz : i.size = shn sh) (hzs : zv.cells.size = shn sh) (hpos : 0 < i.bytes) (hp2 : 0 < shn sh)
    {dx : D} {ux uy : Value} (rx : RepD m w dx ux) {ys : List V} {news : List Value} (hnl : news.length = ys.length * shn sh) (hsh : ∀ y ∈ ys, y.shape = sh) (h1 : ∀ c ∈ V.flat ys, c.one = true)
    (hnew : ∀ (j : Nat) c v, (V.flat ys)[j]? = some c → news[j]? = some v → RepV w (Fz m w) c v)
    (hex : ∀ (v : Value) (w' : World), (Builtin.append_ #[t, u] o.type #[ux, uy]).run P w = .ok v w' → (execOp a.eval o).run P w = .ok (.value v) w')
    (runNone : ys = [] → ∀ (aa : Option Addr) (sLen sCap : Nat), sLen ≤ sCap → (Builtin.append_ #[t, u] o.type #[.slice aa sLen sCap, uy]).run P w = .ok (.slice aa sLen sCap) w)
    (runRoom : ∀ (g off sLen sCap : Nat) (cur : Array Value) (ty' : TypeId), w.heap[g]? = some (.cells cur ty' (0, 0)) → sLen + ys.length ≤ sCap → off + sLen * i.size + news.length ≤ cur.size →
      (Builtin.append_ #[t, u] o.type #[.slice (some ⟨g, off, none⟩) sLen sCap, uy]).run P w =
        .ok (.slice (some ⟨g, off, none⟩) (sLen + ys.length) sCap) (w.setRow g (cur.toList.take (off + sLen * i.size) ++ news ++ cur.toList.drop (off + sLen * i.size + news.length)).toArray))
    (runGrow : ∀ (aa : Option Addr) (sLen sCap : Nat) (olds : List Value), (Builtin.firstCells i.size sLen (.slice aa sLen sCap)).run P w.drew = .ok olds.toArray w.drew → sCap < sLen + ys.length → ((sLen + ys.length : Nat) : Int) ≤ 9223372036854775807 →
      Builtin.nextslicecap (sLen + ys.length) sCap * i.bytes ≤ 281474976710656 → (Builtin.append_ #[t, u] o.type #[.slice aa sLen sCap, uy]).run P w =
        .ok (.slice (some ⟨w.heap.size, 0, none⟩) (sLen + ys.length) (grownCap w (sLen + ys.length) sCap e))
          (w.drew.alloc (.cells (olds.toArray ++ news.toArray ++ Builtin.zeroCells zv.cells (grownCap w (sLen + ys.length) sCap e - (sLen + ys.length))) e)))
    (hW : WApmV sh i.bytes dx ys σ K) : Runs1 P o σ m w a K := by
  obtain ⟨z1, z2, z3⟩ := (cV_rep (w := w) (F := Fz m w) hzv).cellsR
  have hfl : (V.flat ys).length = ys.length * shn sh := V.flat_length hsh
  have hn1 : ∀ u ∈ news, u.oneCell' = true := RepV.cells_one h1 (by rw [hnl, hfl]) hnew
  unfold WApmV at hW
  -- a new block: olds, news, room
  have grow : ∀ (aa : Option Addr) (len cap : Nat) (olds : List Value) (ods : List D), ux = .slice aa len cap → olds.length = len * shn sh → ods.length = len * shn sh → (Builtin.firstCells i.size len (.slice aa len cap)).run P w.drew = .ok olds.toArray w.drew →
      (∀ (i : Nat) d u, ods[i]? = some d → olds[i]? = some u → RepD m w d u) → (∀ u ∈ olds, u.oneCell' = true) → cap < len + ys.length → (len + ys.length) * i.bytes ≤ 140737488355328 →
      (∀ c : Nat, len + ys.length ≤ c → c ≤ maxLen → K (.msl σ.objs.length 0 (len + ys.length) sh (some c)) (σ.add (.cells (ods ++ ((V.flat ys).map .v ++ List.replicate ((c - (len + ys.length)) * shn sh) .junk))))) → Runs1 P o σ m w a K := by
    intro aa len cap olds ods hax hol hodl horun hor ho1 hg hbytes hk
    subst hax
    have hm63 : len + ys.length ≤ maxLen := by
      have : (len + ys.length) * 1 ≤ (len + ys.length) * i.bytes := Nat.mul_le_mul_left _ hpos
      simp only [maxLen]
      omega
    have hrun := runGrow aa len cap olds horun hg (by simp only [maxLen] at hm63; omega) (growslice_fits hg hbytes)
    have hge := grownCap_ge w (len + ys.length) cap e
    have hcm : grownCap w (len + ys.length) cap e ≤ maxLen := grownCap_le_maxLen w (len + ys.length) cap e hm63
    generalize grownCap w (len + ys.length) cap e = C at hrun hge hcm
    have hsize : (olds.toArray ++ news.toArray ++ Builtin.zeroCells zv.cells (C - (len + ys.length))).size = C * shn sh := by
      simp only [Array.size_append, List.size_toArray, size_zeroCells, hol, hnl, hzs, ← Nat.add_mul]
      congr 1
      omega
    obtain ⟨hI', hX'⟩ := newRow_ok hI e (cs := ods ++ ((V.flat ys).map .v ++ List.replicate ((C - (len + ys.length)) * shn sh) .junk)) (us := olds.toArray ++ news.toArray ++ Builtin.zeroCells zv.cells (C - (len + ys.length)))
      (by
        rw [hsize]
        simp only [List.length_append, List.length_map, List.length_replicate, hodl, hfl, ← Nat.add_mul]
        exact Nat.mul_le_mul_right _ (by omega))
      (fun j d u hd hu => by
        rw [← Array.getElem?_toList] at hu
        simp only [Array.toList_append, List.append_assoc] at hu
        rcases Nat.lt_or_ge j ods.length with hlt | hge'
        · rw [List.getElem?_append_left hlt] at hd
          rw [List.getElem?_append_left (by omega)] at hu
          exact hor j d u hd hu
        · rw [List.getElem?_append_right hge'] at hd
          rw [List.getElem?_append_right (by omega)] at hu
          rw [show olds.length = ods.length by omega] at hu
          rcases Nat.lt_or_ge (j - ods.length) ((V.flat ys).map D.v).length with hlt | hge2
          · rw [List.getElem?_append_left hlt] at hd
            rw [List.length_map] at hlt
            rw [List.getElem?_append_left (by omega)] at hu
            exact flat_map_v_get hnew _ d u hd hu
          · rw [List.getElem?_append_right hge2] at hd
            have := List.mem_of_getElem? hd
            rw [List.eq_of_mem_replicate this]
            exact .junk _)
      (fun j u hu => by
        have := Array.mem_of_getElem? hu
        simp only [Array.mem_append, List.mem_toArray] at this
        rcases this with (h | h) | h
        · exact ho1 u h
        · exact hn1 u h
        · obtain ⟨j', hj'⟩ := Array.mem_iff_getElem?.1 h
          exact z3 u (by simpa using Array.mem_of_getElem? (zeroCells_get hj').2))
    exact ⟨_, _, _, _, _, _, hex _ _ hrun, .inl rfl, hk C hge hcm, hI', hX', .msl _ 0 _ sh _ _ _ (by simp [Gh.add, hI.lobj]) (.inl ⟨w.heap.size, rfl, .inl (by simp [Gh.add, ← hI.lobj])⟩) hge hcm fun c' hc' => Option.some.inj hc'⟩
  have new0 : ∀ (aa : Option Addr), ux = .slice aa 0 0 → WApm0 sh i.bytes ys σ K → Runs1 P o σ m w a K := by
    rintro aa rfl ⟨k1, k2⟩
    by_cases hy0 : ys = []
    · subst hy0
      have hrun := runNone rfl aa 0 0 (Nat.le_refl _)
      exact ⟨_, _, _, _, _, _, hex _ _ hrun, .inl rfl, k1 rfl, hI, .refl m w, .v _ _ (.slNil _ _ _)⟩
    · have hpos' : 0 < ys.length := List.length_pos_iff.2 hy0
      obtain ⟨k3, k4⟩ := k2 hy0
      refine grow aa 0 0 [] [] rfl (by simp) (by simp) (olds_nil i.size aa 0) (by simp) (by simp) (by omega) (by rw [Nat.zero_add]; exact k3) ?_
      simpa using k4
  split at hW
  · have hv := rx.v_inv
    generalize hq : ux = q at hv
    cases hv
    exact new0 none hq hW
  · obtain ⟨rfl, hW⟩ := hW
    obtain ⟨aa, cap, rfl, _, _, hf, _⟩ := rx.v_inv.sl_inv
    have := hf rfl
    subst this
    exact new0 aa rfl hW
  · rename_i oo off len sh' c
    obtain ⟨rfl, hW⟩ := hW
    cases rx with
    | msl _ _ _ _ _ aa cap hol hbb hlc hcm hcc =>
    have := hcc c rfl
    subst this
    unfold WApm1 at hW
    split at hW
    · rename_i cs hcs
      obtain ⟨k1, k2⟩ := hW
      have live : cs ≠ [] → ∀ b, m.at oo b → ∃ us ty, m.objs[oo]? = some (some b) ∧ w.heap[b]? = some (.cells us ty (0, 0)) ∧ cs.length ≤ us.size ∧ (∀ (i : Nat) d u, cs[i]? = some d → us[i]? = some u → RepD m w d u ∧ u.oneCell' = true) ∧ True := by
        intro hne b hb
        have hb' := hI.live hcs (by rintro e; cases e; exact hne rfl) hb
        obtain ⟨us, ty, hh, h2, h3, h4⟩ := hI.ob oo _ b hcs hb'
        exact ⟨us, ty, hb', hh, h2, h3, h4⟩
      by_cases hroom : len + ys.length ≤ cap
      · obtain ⟨hfit, hK⟩ := k1 hroom
        by_cases hy0 : ys = []
        · subst hy0
          have hrun := runNone rfl aa len cap (by simpa using hroom)
          rw [put_nil hcs] at hK
          exact ⟨_, _, _, _, _, _, hex _ _ hrun, .inl rfl, hK, hI, .refl m w, .msl oo off _ sh _ _ _ hol (by simpa using hbb) (by simpa using hlc) hcm fun c' hc' => Option.some.inj hc'⟩
        · have hpos' : 0 < ys.length := List.length_pos_iff.2 hy0
          rcases hbb with ⟨b, rfl, hb⟩ | ⟨_, hc0⟩
          · have h5 : 0 < (len + ys.length) * shn sh := Nat.mul_pos (by omega) hp2
            rw [Nat.add_mul] at hfit h5
            obtain ⟨us, ty, hb', hh, h2, h3, h4⟩ := live (by rintro rfl; simp at hfit; omega) b hb
            have hrun := runRoom b off len cap us ty hh hroom (by rw [hsz, hnl]; omega)
            obtain ⟨hI', hX'⟩ := setRow_ok hI hcs hb' hh h2 h3 h4 (off := off + len * shn sh) (xs := (V.flat ys).map .v) (vs := news) (by simp [hfl, hnl]) (flat_map_v_get hnew) hn1 (by simp [hfl]; omega)
            rw [hsz] at hrun
            exact ⟨_, _, _, _, _, _, hex _ _ hrun, .inl rfl, hK, hI', hX', .msl oo off _ sh _ _ _ hol (.inl ⟨b, rfl, hX'.at hb⟩) hroom hcm fun c' hc' => Option.some.inj hc'⟩
          · omega
      · obtain ⟨hfit, hbytes, hK⟩ := k2 hroom
        by_cases hl0 : len = 0
        · subst hl0
          refine grow aa 0 cap [] [] rfl (by simp) (by simp) (olds_nil i.size aa cap) (by simp) (by simp) (by omega) hbytes ?_
          simpa using hK
        · rcases hbb with ⟨b, rfl, hb⟩ | ⟨h0, _⟩
          · have h5 : 0 < len * shn sh := Nat.mul_pos (by omega) hp2
            obtain ⟨us, ty, hb', hh, h2, h3, h4⟩ := live (by rintro rfl; simp at hfit; omega) b hb
            refine grow (some ⟨b, off, none⟩) len cap ((us.toList.drop off).take (len * shn sh)) ((cs.drop off).take (len * shn sh)) rfl (by simp; omega) (by simp; omega) ?_ ?_ ?_ (by omega) hbytes hK
            · rw [hsz]
              refine run_firstCells_some (P := P) w.drew (shn sh) len ⟨b, off, none⟩ len cap _ (by simp; omega) fun j v hj => ?_
              have hjl : j < len * shn sh := by
                have := (List.getElem?_eq_some_iff.1 hj).1
                simp only [List.length_take, List.length_drop, Array.length_toList] at this
                omega
              rw [List.getElem?_take_of_lt hjl, List.getElem?_drop] at hj
              rw [Addr.add_lit, cell_of_row w.drew b (off + j) us ty (0, 0) hh]
              simpa using hj
            · intro j d u hd hu
              have hjl : j < len * shn sh := by
                have := (List.getElem?_eq_some_iff.1 hd).1
                simp only [List.length_take, List.length_drop] at this
                omega
              rw [List.getElem?_take_of_lt hjl, List.getElem?_drop] at hd hu
              exact (h3 _ d u hd (by simpa using hu)).1
            · intro u hu
              obtain ⟨j, hj⟩ := List.mem_iff_getElem?.1 hu
              have hjl : j < len * shn sh := by
                have := (List.getElem?_eq_some_iff.1 hj).1
                simp only [List.length_take, List.length_drop] at this
                omega
              rw [List.getElem?_take_of_lt hjl, List.getElem?_drop] at hj
              exact (h3 (off + j) cs[off + j] u (List.getElem?_eq_getElem (by omega)) (by simpa using hj)).2
          · exact absurd h0 hl0
    · exact hW.elim
  · exact hW.elim

theorem ok_appm {t u e : TypeId} {x y : Operand} {ex ey : E} {d : TypeDesc} {i : TypeInfo} {zv : Value} {z : V} {sh : Sh} (ho : o.op = .call { callee := .builtin .append, args := #[x, y], argTypes := #[t, u] }) (hx : cE x = some ex) (hy : cE y = some ey)
    (ht : P.underlying t = some (.slice e)) (hu : P.underlying u = some d) (hd : Runs d) (hi : P.info? e = some i) (hz : i.zero = some zv) (hzv : cV zv = some z) (hsz : i.size = shn sh) (hzs : zv.cells.size = shn sh) (hpos : 0 < i.bytes) (hp2 : 0 < shn sh) : OpOk P o (.ext (.appm sh i.bytes) [ex, ey]) := by
  refine .of_runs fun σ m w a s K hI hE hW => ?_
  have rx := ev_rep hE hx
  have ry := ev_rep hE hy
  simp only [WOp, WX, List.map_cons, List.map_nil] at hW
  generalize ev s ex = dx at hW rx
  generalize ev s ey = dy at hW ry
  unfold WApm at hW
  split at hW
  · exact hW.elim
  · rename_i ys hys
    obtain ⟨news, hsrc, hsh, h1, hnew⟩ := srcM_rep (P := P) hI ry hys
    have hnl : news.length = ys.length * shn sh := hsrc.lenEq
    have hfl : (V.flat ys).length = ys.length * shn sh := V.flat_length hsh
    have hn1 : ∀ u ∈ news, u.oneCell' = true := RepV.cells_one h1 (by rw [hnl, hfl]) hnew
    rw [← hsz] at hsrc
    refine appm_core (t := t) (u := u) (e := e) hI hzv hsz hzs hpos hp2 rx hnl hsh h1 hnew (fun v w' h => by simp [execOp, ho, resolve, invoke, builtin, h]) (fun hy0 aa sLen sCap hr => ?_)
      (fun g off sLen sCap cur ty' hg hr hf => run_append_roomAt (P := P) (w := w) t u o.type e d i ht hu hd hi g off sLen sCap cur ty' hg _ ys.length news hsrc hn1 hr hf)
      (fun aa sLen sCap olds ho1 hg h63 hfit => run_append_grow' (P := P) (w := w) t u o.type e d i zv ht hu hd hi hz aa sLen sCap olds ho1 _ ys.length news hsrc hg h63 hfit) hW
    subst hy0
    have hn0 : news = [] := List.eq_nil_of_length_eq_zero (by simpa using hnl)
    subst hn0
    exact run_append_none (P := P) (w := w) t u o.type e d i ht hu hd hi aa sLen sCap _ hsrc hr

theorem zrow_flat {sh : Sh} {zs : List V} (hl : zs.length = shn sh) (h1 : ∀ c ∈ zs, c.one = true) (n : Nat) : V.flat (List.replicate n (zrow sh zs)) = zerosV zs n ∧ ∀ y ∈ List.replicate n (zrow sh zs), y.shape = sh := by
  have hc : (zrow sh zs).cells = zs ∧ (zrow sh zs).shape = sh := by
    cases sh with
    | some k => exact ⟨rfl, by simp [zrow, V.shape, hl, shn]⟩
    | none =>
      match zs, hl with
      | [c], _ =>
        have := h1 c (by simp)
        simp only [zrow, List.headD_cons]
        cases c <;> first | exact ⟨rfl, rfl⟩ | (simp [V.one] at this)
  refine ⟨?_, fun y hy => by rw [List.eq_of_mem_replicate hy]; exact hc.2⟩
  unfold V.flat zerosV
  induction n with
  | zero => rfl
  | succ n ih => rw [List.replicate_succ, List.replicate_succ, List.flatMap_cons, List.flatten_cons, hc.1, ih]

theorem zeroCells_toList_get {zs : Array Value} {n i : Nat} {u : Value} (h : (Builtin.zeroCells zs n).toList[i]? = some u) : i < n * zs.size ∧ zs[i % zs.size]? = some u := zeroCells_get (by simpa using h)

theorem ok_appz {t u e : TypeId} {x y : Operand} {ex ey : E} {k : IntKind} {i : TypeInfo} {zv : Value} {z : V} {sh : Sh} (ho : o.op = .call { callee := .builtin .append, args := #[x, y], argTypes := #[t, u] }) (hx : cE x = some ex) (hy : cE y = some ey)
    (ht : P.underlying t = some (.slice e)) (hu : P.underlying u = some (.int k)) (hi : P.info? e = some i) (hz : i.zero = some zv) (hzv : cV zv = some z) (hsz : i.size = shn sh) (hzs : zv.cells.size = shn sh) (hpos : 0 < i.bytes) (hp2 : 0 < shn sh) : OpOk P o (.ext (.appz sh i.bytes z.cells) [ex, ey]) := by
  refine .of_runs fun σ m w a s K hI hE hW => ?_
  have rx := ev_rep hE hx
  have ry := ev_rep hE hy
  simp only [WOp, WX, List.map_cons, List.map_nil] at hW
  generalize ev s ex = dx at hW rx
  generalize ev s ey = dy at hW ry
  split at hW
  · rename_i s' l n heq
    simp only [List.cons.injEq, and_true] at heq
    obtain ⟨rfl, rfl⟩ := heq
    have huy := ry.int_inv
    obtain ⟨h0, hb, hW⟩ := hW
    obtain ⟨q1, q2, q3⟩ := (cV_rep (w := w) (F := Fz m w) hzv).cellsR
    have hzl : z.cells.length = shn sh := by rw [q1, hzs]
    have hz1 : ∀ c ∈ z.cells, c.one = true := by
      intro c hc
      obtain ⟨j, hj⟩ := List.mem_iff_getElem?.1 hc
      have hjl : j < zv.cells.size := by rw [← q1]; exact (List.getElem?_eq_some_iff.1 hj).1
      obtain ⟨v, hv⟩ : ∃ v, zv.cells[j]? = some v := ⟨_, Array.getElem?_eq_getElem hjl⟩
      have h5 := q2 j c v hj hv
      have h6 := q3 v (by simpa using Array.mem_of_getElem? hv)
      cases h5 <;> first | rfl | (simp [Value.oneCell'] at h6)
    obtain ⟨f1, f2⟩ := zrow_flat hzl hz1 n.toNat
    have hn63 : n ≤ 140737488355328 := by
      have : n * 1 ≤ n * i.bytes := by
        apply Int.mul_le_mul_of_nonneg_left <;> omega
      omega
    have hw : IntKind.i64.wrap n = n := by rw [IntKind.wrap_i64]; omega
    have hle : ¬ (281474976710656 < n * (i.bytes : Int)) := by omega
    have hn0 : ¬ n < 0 := by omega
    have hap : ∀ w' : World, w'.heap = w.heap → (if n.toNat * i.size = 0 then (pure #[] : Sem (Array Value)) else do pure (Builtin.zeroCells (← zeroValue e).cells n.toNat)).run P w' = .ok (Builtin.zeroCells zv.cells n.toNat) w' := by
      intro w' _
      split
      · rename_i h5
        have : Builtin.zeroCells zv.cells n.toNat = #[] := by
          apply Array.eq_empty_of_size_eq_zero
          rw [size_zeroCells, hzs, ← hsz]
          exact h5
        rw [this]
        simp
      · simp [zeroValue, typeInfo, hi, hz]
    have hsize : (Builtin.zeroCells zv.cells n.toNat).toList.length = n.toNat * shn sh := by rw [Array.length_toList, size_zeroCells, hzs]
    have hone : ∀ u ∈ (Builtin.zeroCells zv.cells n.toNat).toList, u.oneCell' = true := by
      intro u hu
      obtain ⟨j, hj⟩ := List.mem_iff_getElem?.1 hu
      exact q3 u (by simpa using Array.mem_of_getElem? (zeroCells_toList_get hj).2)
    have hl : (List.replicate n.toNat (zrow sh z.cells)).length = n.toNat := by simp
    refine appm_core (t := t) (u := u) (e := e) (uy := a.eval y) (news := (Builtin.zeroCells zv.cells n.toNat).toList) hI hzv hsz hzs hpos hp2 rx (by rw [hl]; exact hsize) f2 (by
        rw [f1]
        intro c hc
        unfold zerosV at hc
        obtain ⟨l, hl, hcl⟩ := List.mem_flatten.1 hc
        rw [List.eq_of_mem_replicate hl] at hcl
        exact hz1 c hcl) (fun j c v hc hv => by
        obtain ⟨h5, h6⟩ := zeroCells_toList_get hv
        rw [f1, zerosV_get (by rw [hzl, ← hzs]; exact h5), hzl, ← hzs] at hc
        exact q2 _ c v hc h6) (fun v w' h => by simp [execOp, ho, resolve, invoke, builtin, h]) (fun hy0 aa sLen sCap hr => ?_) (fun g off sLen sCap cur ty' hg hr hf => ?_) (fun aa sLen sCap olds ho1 hg h63 hfit => ?_) hW
    · rw [huy]
      have hn : n.toNat = 0 := by simpa using congrArg List.length hy0
      have hz0 : n = 0 := by omega
      subst hz0
      cases aa <;> simp [Builtin.append_, run_underlying ht, run_underlying hu, sizeOf, typeInfo, hi, asInt, asIntOf, hw, hr, storeCells]
    · rw [huy, hl]
      have hst := run_storeCells_at P g (off + sLen * i.size) ty' (Builtin.zeroCells zv.cells n.toNat).toList 0 cur w hg (by simpa using hf) hone
      simp only [Nat.add_zero] at hst
      rw [hl] at hr
      have hap' := hap w rfl
      by_cases hn : n.toNat * i.size = 0
      · rw [if_pos hn] at hap'
        simp only [Sem.run_pure, Result.ok.injEq, and_true] at hap'
        rw [← hap'] at hst ⊢
        simp [Builtin.append_, run_underlying ht, run_underlying hu, sizeOf, typeInfo, hi, asInt, asIntOf, hw, hr, hn0, hle, hn, Addr.add_lit]
        simp at hst
        rw [hst]
        rfl
      · rw [if_neg hn] at hap'
        simp [Builtin.append_, run_underlying ht, run_underlying hu, sizeOf, typeInfo, zeroValue, hi, hz, asInt, asIntOf, hw, hr, hn0, hle, hn, Addr.add_lit, hst]
    · rw [huy, hl]
      rw [hl] at hg h63 hfit
      have hn' : ¬ (sLen + n.toNat ≤ sCap) := by omega
      have h63' : ¬ (9223372036854775807 < ((sLen : Int) + (n.toNat : Int))) := by omega
      have h63'' : ¬ (9223372036854775807 < (sLen : Int) + max n 0) := by omega
      have h48' : ¬ (281474976710656 < Builtin.nextslicecap (sLen + n.toNat) sCap * i.bytes) := by omega
      have hap' := hap w.drew rfl
      by_cases hn : n.toNat * i.size = 0
      · rw [if_pos hn] at hap'
        simp only [Sem.run_pure, Result.ok.injEq, and_true] at hap'
        rw [← hap']
        simp [Builtin.append_, run_underlying ht, run_underlying hu, sizeOf, typeInfo, zeroValue, hi, hz, asInt, asIntOf, hw, hn0, hle, hn, hn', h63', h63'', h48', Question.forced, ho1, newRow, grownCap]
      · rw [if_neg hn] at hap'
        simp [Builtin.append_, run_underlying ht, run_underlying hu, sizeOf, typeInfo, zeroValue, hi, hz, asInt, asIntOf, hw, hn0, hle, hn, hn', h63', h63'', h48', Question.forced, ho1, newRow, grownCap]
  · exact hW.elim

/-- Bytes that were written one by one, given out for good: their block bears a mark from now on. -/
theorem ok_give {src e : TypeId} {x : Operand} {ex : E} (ho : o.op = .convert src src x) (hx : cE x = some ex) (hs : P.underlying src = some (.slice e)) (he : P.underlying e = some (.int .u8)) : OpOk P o (.ext .give [ex]) := by
  refine .of_runs fun σ m w a s K hI hE hW => ?_
  have rx := ev_rep hE hx
  simp only [WOp, WX, List.map_cons, List.map_nil] at hW
  generalize ev s ex = dx at hW rx
  generalize hux : a.eval x = ux at rx
  split at hW
  · rename_i q1 o' len cp q5
    obtain rfl := (List.cons.inj q5).1
    obtain ⟨cs, xs, hcs, htk, hlen, hl0, hsh, hK⟩ := hW
    cases rx with
    | msl _ _ _ _ _ aa cap hol hbb hlc hcm hcc =>
    rcases hbb with ⟨b, rfl, hb⟩ | ⟨h0, _⟩
    · have hb := hI.live hcs (by rintro h; cases h; rw [List.take_nil] at htk; have := congrArg List.length htk; simp at this; omega) hb
      obtain ⟨us, ty, hh, hsz, hob, _⟩ := hI.ob o' _ b hcs hb
      have hbs : b < w.heap.size := (Array.getElem?_eq_some_iff.1 hh).1
      have hrun : (execOp a.eval o).run P w = .ok (.value (.slice (some ⟨b, 0, none⟩) len cap)) (w.freeze ⟨b, us.size, none⟩ 1) := by
        simp [execOp, ho, hux, convert, run_underlying hs, run_underlying he, markStringish, World.shape?, hh] <;> rfl
      have hw1 : (w.freeze ⟨b, us.size, none⟩ 1).heap[b]? = some (.cells us ty (us.size, us.size + 1)) := by
        simp only [World.freeze, Nat.one_ne_zero, if_false, Array.getElem?_modify, if_true, hh]
        rfl
      have hold : ∀ c, c ≠ b → (w.freeze ⟨b, us.size, none⟩ 1).heap[c]? = w.heap[c]? := by
        intro c hc
        simp only [World.freeze, Nat.one_ne_zero, if_false, Array.getElem?_modify]
        rw [if_neg (Ne.symm hc)]
      have hcell : ∀ c off, (w.freeze ⟨b, us.size, none⟩ 1).cell? ⟨c, off, none⟩ = w.cell? ⟨c, off, none⟩ := by
        intro c off
        by_cases hc : c = b
        · subst hc
          rw [cell_of_row _ _ _ us ty _ hw1, cell_of_row _ _ _ us ty _ hh]
        · simp only [World.cell?, hold c hc]
      have hsize : (w.freeze ⟨b, us.size, none⟩ 1).heap.size = w.heap.size := by simp [World.freeze]
      have hmem : b ∈ m.objb := Gh.mem_objb.2 (List.mem_of_getElem? hb)
      have nd : m.objb.Nodup := (List.nodup_append.1 hI.nodup).1
      obtain ⟨m', hm'⟩ : ∃ m' : Gh, m' = { m with objs := m.objs.set o' none } := ⟨_, rfl⟩
      have hobjb : ∀ c, c ∈ m'.objb → c ∈ m.objb := by
        intro c hc
        have h1 := Gh.mem_objb.1 hc
        rw [hm'] at h1
        rcases List.mem_or_eq_of_mem_set h1 with h2 | h2
        · exact Gh.mem_objb.2 h2
        · cases h2
      have hnb : b ∉ m'.objb := by
        intro hc
        have h1 := Gh.mem_objb.1 hc
        rw [hm'] at h1
        obtain ⟨i, hi⟩ := List.mem_iff_getElem?.1 h1
        dsimp only at hi
        rw [List.getElem?_set] at hi
        split at hi
        · first | cases hi | (split at hi <;> cases hi)
        · rename_i hne
          exact hne (objb_inj nd hb hi)
      have htoks : m'.toks = m.toks := by rw [hm']
      have hownb : m'.ownb = m.ownb := by unfold Gh.ownb; rw [htoks]
      have hmut : ∀ c off, m'.mut c off → m.mut c off := by
        intro c off hm
        rcases hm with hm | hm
        · exact .inl (hobjb c hm)
        · exact .inr (htoks ▸ hm)
      have hown : ∀ tk ∈ m.toks, tk.own ≠ some b := fun tk ht h => Gh.own_not_obj hI.nodup ht h hmem
      have eX : Ext m w m' (w.freeze ⟨b, us.size, none⟩ 1) := by
        refine ⟨?_, ?_, ?_, by omega, fun i x hi => ?_, fun t tk h => ⟨tk, by rw [htoks]; exact h, rfl, Nat.le_refl _, fun _ => rfl⟩, fun c off f => ⟨hcell c off, fun hm => f.2 (hmut c off hm)⟩, fun c hc hn => ?_⟩
        · simp [World.freeze]
        · simp [World.freeze]
        · simp [World.freeze]
        · rw [hm']
          dsimp only
          rw [List.getElem?_set]
          by_cases hio : o' = i
          · subst hio
            simp [(List.getElem?_eq_some_iff.1 hb).1]
          · simp [hio, hi]
        · refine ⟨hold c fun h => hn (by rw [h]; exact List.mem_append.2 (.inl hmem)), fun hm => ?_⟩
          rcases List.mem_append.1 hm with hm | hm
          · exact hn (List.mem_append.2 (.inl (hobjb c hm)))
          · exact hn (List.mem_append.2 (.inr (hownb ▸ hm)))
      have hsub : List.Sublist m'.objb m.objb := by
        have : ∀ (l : List (Option Nat)) (o : Nat), List.Sublist ((l.set o none).filterMap id) (l.filterMap id) := by
          intro l
          induction l with
          | nil => intro o; simp
          | cons x l ih =>
            intro o
            cases o with
            | zero => cases x <;> simp
            | succ o =>
              have := ih o
              cases x <;> simpa using this
        unfold Gh.objb
        rw [hm']
        exact this _ _
      have hI2 : Inv (σ.put o' (.cells [])) m' (w.freeze ⟨b, us.size, none⟩ 1) := by
        refine ⟨by rw [hm']; simp [Sg.put, hI.lobj], by rw [htoks]; exact hI.ltok, ?_, fun i ob c hi hc => ?_, fun i hi => ?_, fun tk ht => ?_, hI.glob.mono eX⟩
        · unfold Gh.blocks
          rw [hownb]
          exact List.Sublist.nodup (List.Sublist.append hsub (List.Sublist.refl _)) hI.nodup
        · simp only [Sg.put, List.getElem?_set] at hi
          rw [hm'] at hc
          dsimp only at hc
          rw [List.getElem?_set] at hc
          by_cases hio : o' = i
          · subst hio; simp [(List.getElem?_eq_some_iff.1 hb).1] at hc
          · rw [if_neg hio] at hi hc
            exact (hI.ob i ob c hi hc).mono eX (hold c fun h => hio (objb_inj nd hb (h ▸ hc)))
        · rw [hm'] at hi
          dsimp only at hi
          rw [List.getElem?_set] at hi
          simp only [Sg.put, List.getElem?_set]
          by_cases hio : o' = i
          · subst hio
            rw [if_pos rfl, if_pos (by rw [← hI.lobj]; exact (List.getElem?_eq_some_iff.1 hb).1)]
          · rw [if_neg hio] at hi
            rw [if_neg hio]
            exact hI.gone i hi
        · rw [htoks] at ht
          obtain ⟨q1, q2, q3, q4⟩ := hI.tk tk ht
          refine ⟨q1, q2, q3, fun c hc => ?_⟩
          obtain ⟨us', ty', q5, q6⟩ := q4 c hc
          exact ⟨us', ty', (hold c fun h => hown tk ht (h ▸ hc)).trans q5, q6⟩
      refine ⟨_, _, _, m', _, _, hrun, .inl rfl, hK, hI2, eX, .v _ _ ?_⟩
      have hflat : V.flat xs = xs := by
        have : ∀ l : List V, (∀ x ∈ l, x.shape = none) → V.flat l = l := by
          intro l
          induction l with
          | nil => intro _; rfl
          | cons x l ih =>
            intro h
            have hx := h x (by simp)
            have e : x.cells = [x] := by cases x <;> first | rfl | cases hx
            simp only [V.flat, List.flatMap_cons, e]
            have := ih fun y hy => h y (by simp [hy])
            unfold V.flat at this
            rw [this]
            rfl
        exact this xs hsh
      have hget : ∀ (i : Nat) c, xs[i]? = some c → ∃ u, us[i]? = some u ∧ RepV w (Fz m w) c u := by
        intro i c hc
        have hil := (List.getElem?_eq_some_iff.1 hc).1
        have h3 : (cs.take len)[i]? = some (.v c) := by rw [htk, List.getElem?_map, hc]; rfl
        rw [List.getElem?_take_of_lt (by omega)] at h3
        have hlt : i < us.size := Nat.lt_of_lt_of_le (List.getElem?_eq_some_iff.1 h3).1 hsz
        obtain ⟨q1, q2⟩ := hob i _ us[i] h3 (Array.getElem?_eq_getElem hlt)
        exact ⟨_, Array.getElem?_eq_getElem hlt, q1.v_inv⟩
      subst hlen
      refine .sl none false xs b 0 cap (fun i => us.getD i undef) hsh (fun c hc => ?_) hlc hcm (fun h => by cases h) (fun i hi => ?_) fun i c hc => ?_
      · rw [hflat] at hc
        have := hsh c hc
        cases c <;> first | rfl | cases this
      · simp only [shn, Nat.mul_one] at hi
        obtain ⟨u, h3, _⟩ := hget i _ (List.getElem?_eq_getElem hi)
        refine ⟨?_, by rw [hsize]; exact hbs, ?_⟩
        · rw [hcell, cell_of_row w b (0 + i) us ty (0, 0) hh, Nat.zero_add, h3]
          simp [Array.getD_eq_getD_getElem?, h3]
        · rintro (h | ⟨tk, h, h2, _⟩)
          · exact hnb h
          · exact hown tk (htoks ▸ h) h2
      · rw [hflat] at hc
        obtain ⟨u, h3, h4⟩ := hget i c hc
        have e : us.getD i undef = u := by simp [Array.getD_eq_getD_getElem?, h3]
        show RepV _ _ c (us.getD i undef)
        rw [e]
        exact h4.mono eX.fz
    · omega
  · exact hW.elim

theorem ok_clear {t e : TypeId} {x : Operand} {ex : E} {i : TypeInfo} {zv : Value} {z : V} (ho : o.op = .call { callee := .builtin .clear, args := #[x], argTypes := #[t] }) (hx : cE x = some ex) (ht : P.underlying t = some (.slice e))
    (hi : P.info? e = some i) (hz : i.zero = some zv) (hzv : cV zv = some z) : OpOk P o (.ext (.clear z.cells) [ex]) := by
  refine .of_runs fun σ m w a s K hI hE hW => ?_
  have rx := ev_rep hE hx
  simp only [WOp, WX, List.map_cons, List.map_nil] at hW
  generalize ev s ex = dx at hW rx
  generalize hux : a.eval x = ux at rx
  have none0 : ∀ (aa : Option Addr) (c : Nat), ux = .slice aa 0 c → K .undef σ → Runs1 P o σ m w a K := by
    rintro aa c rfl hK
    refine .still (u := .tuple #[]) hI ?_ hK (.tup [] [] rfl (by simp))
    cases aa <;> simp [execOp, ho, hux, resolve, invoke, builtin, Builtin.clear_, run_underlying ht] <;> rfl
  unfold WClear at hW
  split at hW
  · have hv := rx.v_inv
    cases hv
    exact none0 none 0 rfl hW
  · obtain ⟨aa, cap, rfl, _⟩ := rx.v_inv.sl_inv
    exact none0 aa cap rfl hW
  · rename_i oo off len sh cp
    cases rx with
    | msl _ _ _ _ _ aa cap hol hbb hlc hcm hcc =>
    split at hW
    · rename_i cs hcs
      obtain ⟨hzl, hcs0, hfit, hK⟩ := hW
      by_cases hl0 : len = 0
      · subst hl0
        have hput : σ.put oo (.cells (putAt cs off ((zerosV z.cells 0).map .v))) = σ := put_nil hcs
        rw [hput] at hK
        exact none0 aa cap rfl hK
      · rcases hbb with ⟨b, rfl, hb⟩ | ⟨h0, _⟩
        · have hb := hI.live hcs (by rintro e; cases e; exact hcs0 rfl) hb
          obtain ⟨us, ty, hh, hsz', hob, hone⟩ := hI.ob oo _ b hcs hb
          obtain ⟨q1, q2, q3⟩ := (cV_rep (w := w) (F := Fz m w) hzv).cellsR
          have hsize : (Builtin.zeroCells zv.cells len).toList.length = len * shn sh := by rw [Array.length_toList, size_zeroCells, ← q1, hzl]
          have hone2 : ∀ u ∈ (Builtin.zeroCells zv.cells len).toList, u.oneCell' = true := by
            intro u hu
            obtain ⟨j, hj⟩ := List.mem_iff_getElem?.1 hu
            exact q3 u (by simpa using Array.mem_of_getElem? (zeroCells_toList_get hj).2)
          have hst := run_storeCells_at P b off ty (Builtin.zeroCells zv.cells len).toList 0 us w hh (by rw [hsize]; omega) hone2
          simp only [Nat.add_zero] at hst
          obtain ⟨hI', hX'⟩ := setRow_ok hI hcs hb hh hsz' hob hone (off := off) (xs := (zerosV z.cells len).map .v) (vs := (Builtin.zeroCells zv.cells len).toList) (by rw [hsize]; simp [zerosV_length, hzl]) (fun j d u hd hu => by
            obtain ⟨h5, h6⟩ := zeroCells_toList_get hu
            rw [List.getElem?_map, zerosV_get (by rw [q1]; exact h5)] at hd
            cases hq : z.cells[j % z.cells.length]? with
            | none => rw [hq] at hd; cases hd
            | some q =>
              rw [hq] at hd
              cases hd
              rw [q1] at hq
              exact .v _ _ (q2 _ q u hq h6)) hone2 (by simp [zerosV_length, hzl]; omega)
          refine ⟨_, .tuple #[], _, _, _, _, ?_, .inl rfl, hK, hI', hX', .tup [] [] rfl (by simp)⟩
          obtain ⟨l, rfl⟩ : ∃ l, len = l + 1 := ⟨len - 1, by omega⟩
          simp [execOp, ho, hux, resolve, invoke, builtin, Builtin.clear_, run_underlying ht, zeroValue, typeInfo, hi, hz, hst] <;> rfl
        · exact absurd h0 hl0
    · exact hW.elim
  · exact hW.elim
theorem WMksl_mono' {sh : Sh} {xs : List D} {K K' : V → Prop} (hK : ∀ v, K v → K' v) (h : WMksl sh xs K) : WMksl sh xs K' := by
  unfold WMksl at h ⊢
  split at h <;> first | exact ⟨h.1, hK _ h.2⟩ | exact h
theorem ok_mkslm {t e : TypeId} {len : Nat} {ps : Array (Nat × Operand)} {ie : TypeInfo} {z : Value} {sh : Sh} {es : List E} (ho : o.op = .buildSlice t len ps)
    (hu : P.underlying t = some (.slice e)) (hie : P.info? e = some ie) (hz : ie.zero = some z) (hsz : ie.size = shn sh) (hpos : 0 < ie.size) (hzs : z.cells.size = ie.size)
    (hlen : len = ps.size) (hidx : ps.toList.map (·.1) = List.range ps.size) (hsmall : len * ie.size ≤ 2 ^ 24) (hes : cEs (ps.toList.map (·.2)) = some es) : OpOk P o (.ext (.mkslm sh) es) := by
  refine .of_runs fun σ m w a s K hI hE hW => ?_
  simp only [WOp, WX, WMkslm] at hW
  obtain ⟨C, x, h1, h2, _, xs, rfl, h4, h5, h6, h7⟩ := mksl_core (K := fun d σ' => match d with
    | .v (.sl _ _ xs) => xs ≠ [] ∧ K (.msl σ.objs.length 0 xs.length sh (some xs.length)) (σ.add (.cells ((V.flat xs).map .v)))
    | _ => False) ho hu hie hz hsz hpos hzs hlen hidx hsmall hes hI hE (by
      simp only [WOp]
      refine WMksl_mono' (fun v h => ?_) hW
      cases v <;> first | exact h.elim | exact h)
  obtain ⟨hne, hK⟩ := h2
  have hCsz : ((V.flat xs).map D.v).length = C.toList.length := by simpa using h4
  have hgetV : ∀ (j : Nat) u, C[j]? = some u → ∃ c, (V.flat xs)[j]? = some c := by
    intro j u hu
    have := (Array.getElem?_eq_some_iff.1 hu).1
    exact ⟨_, List.getElem?_eq_getElem (by omega)⟩
  obtain ⟨hI', hX, _⟩ := newObj_ok hI (cs := (V.flat xs).map .v) (us := C.toList) e hCsz (fun u hu => by
    obtain ⟨j, hj⟩ := List.mem_iff_getElem?.1 hu
    obtain ⟨c, hc⟩ := hgetV j u (by simpa using hj)
    exact (h6 j c u hc (by simpa using hj)).one (h7 c (List.mem_of_getElem? hc))) (fun j d u hd hu => by
    rw [List.getElem?_map] at hd
    obtain ⟨c, hc⟩ := hgetV j u (by simpa using hu)
    rw [hc] at hd
    cases hd
    exact .v _ _ (h6 j c u hc (by simpa using hu)))
  have hm : xs.length ≤ maxLen := by
    have h2 : xs.length * 1 ≤ len * ie.size := by rw [← h5]; exact Nat.mul_le_mul_left _ hpos
    simp only [maxLen]
    omega
  rw [Array.toArray_toList] at hI' hX
  refine ⟨_, _, _, _, _, _, h1, .inl rfl, hK, hI', hX, ?_⟩
  rw [← h5]
  exact .msl _ _ _ _ _ _ _ (by simp [Gh.add, hI.lobj]) (.inl ⟨_, rfl, .inl (by simp [Gh.add, ← hI.lobj])⟩) (Nat.le_refl _) hm (fun c hc => by cases hc; rfl)
end
end Go.Abs
