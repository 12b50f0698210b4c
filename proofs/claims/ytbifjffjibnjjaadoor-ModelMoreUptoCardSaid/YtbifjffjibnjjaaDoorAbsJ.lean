/-
  The model's operations, turned into the small language; that each does what its weakest precondition says: part 8. (Own work; seat-independent.)
-/
import Derived.Test.YtbifjffjibnjjaaDoorAbsI
set_option linter.unusedVariables false
set_option linter.unusedSimpArgs false
namespace Go.Abs
open Go

section
variable {P : Program} {o : Oper}

theorem src_rep {m : Gh} {w : World} {sh : Sh} {dx : D} {ux : Value} (hr : RepD m w dx ux) {ys : List V} (hs : srcV sh dx = some ys) :
    ∃ news, Src P w (shn sh) ux ys.length news ∧ (∀ y ∈ ys, y.shape = sh) ∧ (∀ c ∈ V.flat ys, c.one = true) ∧ ∀ (j : Nat) c v, (V.flat ys)[j]? = some c → news[j]? = some v → RepV w (Fz m w) c v := by
  have key : ∀ (full : Bool), RepV w (Fz m w) (.sl sh full ys) ux →
      ∃ news, Src P w (shn sh) ux ys.length news ∧ (∀ y ∈ ys, y.shape = sh) ∧ (∀ c ∈ V.flat ys, c.one = true) ∧ ∀ (j : Nat) c v, (V.flat ys)[j]? = some c → news[j]? = some v → RepV w (Fz m w) c v := by
    intro full hv
    obtain ⟨aa, cap, rfl, _, _, _, hsh, h1, _⟩ := hv.sl_inv
    obtain ⟨olds, ho1, ho2, ho3⟩ := hv.olds (P := P)
    exact ⟨olds, ⟨by simp [Builtin.lenOf], ho3 w rfl, ho3 w.drew rfl, ho1⟩, hsh, h1, ho2⟩
  unfold srcV at hs
  split at hs
  · cases hs
    have := hr.v_inv
    cases this
    exact ⟨[], ⟨by simp [Builtin.lenOf], by simp [Builtin.firstCells], by simp [Builtin.firstCells], by simp⟩, by simp, by simp [V.flat], by simp⟩
  · split at hs
    · rename_i hsh
      cases hs
      subst hsh
      exact key _ hr.v_inv
    · cases hs
  · split at hs
    · rename_i hsh
      cases hs
      subst hsh
      cases hr with
      | tsl t sh xs aa len cap tk hv _ _ _ _ => exact key _ hv
    · cases hs
  · rename_i l
    split at hs
    · rename_i hsh
      cases hs
      subst hsh
      have hu := hr.str_inv
      subst hu
      have hsz : (⟨l.toArray⟩ : ByteArray).size = l.length := by simp [ByteArray.size]
      have hbl : (bytesV l).length = l.length := by simp [bytesV]
      have hcells : ∀ w' : World, (Builtin.firstCells (shn none) (bytesV l).length (.string ⟨l.toArray⟩)).run P w' = .ok (bytesU l).toArray w' := by
        intro w'
        simp only [Builtin.firstCells, Sem.run_pure, hbl]
        congr 1
        apply Array.ext'
        simp [bytesU, ByteArray.data_extract, List.extract_eq_take_drop]
      refine ⟨bytesU l, ⟨by simp [Builtin.lenOf, hsz, hbl], hcells w, hcells w.drew, by simp [bytesU, bytesV, shn]⟩, bytes_shape l, by rw [flat_bytes]; exact bytes_one l, ?_⟩
      rw [flat_bytes]
      exact bytes_rep l
    · cases hs
  · cases hs

theorem chunk_flat (n : Nat) : ∀ (k : Nat) (l : List V), l.length = k * n → V.flat (chunk n k l) = l ∧ (chunk n k l).length = k ∧ ∀ x ∈ chunk n k l, x.shape = some n
  | 0, l, h => by
    have : l = [] := List.eq_nil_of_length_eq_zero (by simpa using h)
    subst this
    simp [chunk, V.flat]
  | k + 1, l, h => by
    rw [Nat.add_mul, Nat.one_mul] at h
    obtain ⟨h1, h2, h3⟩ := chunk_flat n k (l.drop n) (by simp; omega)
    refine ⟨?_, by simp [chunk, h2], ?_⟩
    · simp only [chunk, V.flat, List.flatMap_cons, V.cells]
      have : (chunk n k (l.drop n)).flatMap V.cells = l.drop n := h1
      rw [this, List.take_append_drop]
    · intro x hx
      simp only [chunk, List.mem_cons] at hx
      rcases hx with rfl | hx
      · simp only [V.shape, List.length_take]
        congr 1
        omega
      · exact h3 x hx
theorem rowsV_flat {sh : Sh} {k : Nat} {l : List V} (hl : l.length = k * shn sh) (h1 : ∀ c ∈ l, c.one = true) : V.flat (rowsV sh k l) = l ∧ (rowsV sh k l).length = k ∧ ∀ x ∈ rowsV sh k l, x.shape = sh := by
  cases sh with
  | some n => exact chunk_flat n k l hl
  | none =>
    simp only [shn, Nat.mul_one] at hl
    simp only [rowsV, List.take_of_length_le (Nat.le_of_eq hl)]
    have hc : ∀ c ∈ l, c.cells = [c] ∧ c.shape = none := fun c hc => by
      have := h1 c hc
      cases c <;> first | exact ⟨rfl, rfl⟩ | (simp [V.one] at this)
    refine ⟨?_, hl, fun x hx => (hc x hx).2⟩
    clear hl h1
    induction l with
    | nil => rfl
    | cons a l ih =>
      have ih' := ih fun c h => hc c (by simp [h])
      simp only [V.flat, List.flatMap_cons] at ih' ⊢
      rw [(hc a (by simp)).1, ih']
      rfl

theorem allV_get {ds : List D} {xs : List V} (h : allV ds = some xs) : ds.length = xs.length ∧ ∀ (i : Nat) x, xs[i]? = some x → ds[i]? = some (.v x) := by
  have := allV_map h
  subst this
  exact ⟨by simp, fun i x hx => by simp [hx]⟩

theorem srcM_rep {σ : Sg} {m : Gh} {w : World} (hI : Inv σ m w) {sh : Sh} {dx : D} {ux : Value} (hr : RepD m w dx ux) {ys : List V} (hs : srcM σ sh dx = some ys) :
    ∃ news, Src P w (shn sh) ux ys.length news ∧ (∀ y ∈ ys, y.shape = sh) ∧ (∀ c ∈ V.flat ys, c.one = true) ∧ ∀ (j : Nat) c v, (V.flat ys)[j]? = some c → news[j]? = some v → RepV w (Fz m w) c v := by
  unfold srcM at hs
  split at hs
  · rename_i oo off len sh' cp
    split at hs
    · rename_i hz
      subst hz
      split at hs
      · cases hs
        cases hr with
        | msl _ _ _ _ _ aa cap hol hbb hlc hcm hcc =>
        have hf : ∀ w' : World, (Builtin.firstCells (shn sh) 0 (.slice aa 0 cap)).run P w' = .ok (#[] : Array Value) w' := fun w' => by
          cases aa with
          | none => simp [Builtin.firstCells]
          | some a => exact run_firstCells_some (P := P) w' (shn sh) 0 a 0 cap [] (by simp) fun j v hj => by simp at hj
        exact ⟨[], ⟨by simp [Builtin.lenOf], hf w, hf w.drew, by simp⟩, by simp, by simp [V.flat], by simp⟩
      · cases hs
    split at hs
    · rename_i cs hcs
      split at hs
      · rename_i hc
        obtain ⟨rfl, hlen0, hcs0, hfit⟩ := hc
        split at hs
        · rename_i vs hvs
          cases hs
          cases hr with
          | msl _ _ _ _ _ aa cap hol hbb hlc hcm hcc =>
          rcases hbb with ⟨b, rfl, hb⟩ | ⟨hl0, _⟩
          · obtain ⟨hvl, hvg⟩ := allV_get hvs
            have hvl' : vs.length = len * shn sh := by rw [← hvl, List.length_take, List.length_drop]; omega
            have hcne : Ob.cells cs ≠ .cells [] := by
              rintro e
              cases e
              exact hcs0 rfl
            have hb := hI.live hcs hcne hb
            obtain ⟨us, ty, hh, hsz, hob, hone⟩ := hI.ob oo _ b hcs hb
            have hat : ∀ j, j < len * shn sh → ∃ x u, vs[j]? = some x ∧ us[off + j]? = some u ∧ RepV w (Fz m w) x u ∧ u.oneCell' = true := by
              intro j hj
              have h1 : j < vs.length := by omega
              have h2 : off + j < us.size := by omega
              have h3 := hvg j vs[j] (List.getElem?_eq_getElem h1)
              rw [List.getElem?_take_of_lt (by omega), List.getElem?_drop] at h3
              obtain ⟨q1, q2⟩ := hob (off + j) _ us[off + j] h3 (Array.getElem?_eq_getElem h2)
              exact ⟨vs[j], us[off + j], List.getElem?_eq_getElem h1, Array.getElem?_eq_getElem h2, q1.v_inv, q2⟩
            have hv1 : ∀ c ∈ vs, c.one = true := by
              intro c hc
              obtain ⟨j, hj⟩ := List.mem_iff_getElem?.1 hc
              have hjl : j < len * shn sh := by rw [← hvl']; exact (List.getElem?_eq_some_iff.1 hj).1
              obtain ⟨x, u, e1, _, e3, e4⟩ := hat j hjl
              rw [hj] at e1
              cases e1
              cases e3 <;> first | rfl | (simp [Value.oneCell'] at e4)
            obtain ⟨f1, f2, f3⟩ := rowsV_flat hvl' hv1
            have hcells : ∀ w' : World, w'.heap = w.heap → (Builtin.firstCells (shn sh) len (.slice (some ⟨b, off, none⟩) len cap)).run P w' = .ok ((us.toList.drop off).take (len * shn sh)).toArray w' := by
              intro w' hw'
              refine run_firstCells_some (P := P) w' (shn sh) len ⟨b, off, none⟩ len cap _ (by simp; omega) fun j v hj => ?_
              have hjl : j < len * shn sh := by
                have := (List.getElem?_eq_some_iff.1 hj).1
                simp only [List.length_take, List.length_drop, Array.length_toList] at this
                omega
              rw [List.getElem?_take_of_lt hjl, List.getElem?_drop] at hj
              rw [Addr.add_lit, cell_of_row w' b (off + j) us ty (0, 0) (by rw [hw']; exact hh)]
              simpa using hj
            refine ⟨(us.toList.drop off).take (len * shn sh), ⟨by simp [Builtin.lenOf, f2], by rw [f2]; exact hcells w rfl, by rw [f2]; exact hcells w.drew rfl, by simp [f2]; omega⟩, f3, by rw [f1]; exact hv1, fun j c v hc hv => ?_⟩
            rw [f1] at hc
            have hjl : j < len * shn sh := by rw [← hvl']; exact (List.getElem?_eq_some_iff.1 hc).1
            rw [List.getElem?_take_of_lt hjl, List.getElem?_drop] at hv
            obtain ⟨x, u, e1, e2, e3, _⟩ := hat j hjl
            rw [hc] at e1
            cases e1
            rw [show us.toList[off + j]? = us[off + j]? by simp, e2] at hv
            cases hv
            exact e3
          · exact absurd hl0 hlen0
        · cases hs
      · cases hs
    · cases hs
  · exact src_rep hr hs

theorem ok_append {t u e : TypeId} {x y : Operand} {ex ey : E} {d : TypeDesc} {i : TypeInfo} {z : Value} {sh : Sh} (ho : o.op = .call { callee := .builtin .append, args := #[x, y], argTypes := #[t, u] }) (hx : cE x = some ex) (hy : cE y = some ey)
    (ht : P.underlying t = some (.slice e)) (hu : P.underlying u = some d) (hd : Runs d) (hi : P.info? e = some i) (hz : i.zero = some z) (hsz : i.size = shn sh) (hzs : z.cells.size = shn sh) (hpos : 0 < i.bytes) : OpOk P o (.append sh i.bytes ex ey) := by
  refine .of_runs fun σ m w a s K hI hE hW => ?_
  have hr := ev_rep hE hx
  have hry := ev_rep hE hy
  simp only [WOp] at hW
  generalize ev s ex = dx at hW hr
  generalize ev s ey = dy at hW hry
  have fin : ∀ (σ1 : Sg) (m1 : Gh) (k : Nat) (xs ys : List V), Inv σ1 m1 w → Ext m w m1 w → RepD m1 w (.tsl k sh xs) (a.eval x) → σ1.toks[k]? = some xs.length → srcM σ sh dy = some ys → (xs.length + ys.length) * i.bytes ≤ 140737488355328 →
      K (.tsl k sh (xs ++ ys)) (σ1.tput k (xs.length + ys.length)) → Runs1 P o σ m w a K := by
    intro σ1 m1 k xs ys hI1 hX1 hR1 hσ1 hs hb hk
    obtain ⟨news, hsrc, hsh, h1, hnew0⟩ := srcM_rep (P := P) hI hry hs
    have hnew : ∀ (j : Nat) c v, (V.flat ys)[j]? = some c → news[j]? = some v → RepV w (Fz m1 w) c v := fun j c v h2 h3 => (hnew0 j c v h2 h3).mono hX1.fz
    rw [← hsz] at hsrc
    have hml : xs.length + ys.length ≤ maxLen := by
      have : (xs.length + ys.length) * 1 ≤ (xs.length + ys.length) * i.bytes := Nat.mul_le_mul_left _ hpos
      simp only [maxLen]
      omega
    obtain ⟨s', m', w', hrun, hI', hX', hR'⟩ := append_ok (P := P) hI1 t u o.type e d i z sh ht hu hd hi hz hsz hzs hR1 hσ1 hsrc hsh h1 hnew hml hb
    exact ⟨_, s', w', m', _, _, by simp [execOp, ho, resolve, invoke, builtin, hrun] <;> rfl, .inl rfl, hk, hI', hX1.trans hX', hR'⟩
  have tok : ∀ (xs ys : List V), RepV w (Fz m w) (.sl sh true xs) (a.eval x) → srcM σ sh dy = some ys → (xs.length + ys.length) * i.bytes ≤ 140737488355328 → K (.tsl σ.toks.length sh (xs ++ ys)) (σ.tadd (xs.length + ys.length)) → Runs1 P o σ m w a K := by
    intro xs ys hv hs hb hk
    have hml : xs.length ≤ maxLen := by
      have : (xs.length + ys.length) * 1 ≤ (xs.length + ys.length) * i.bytes := Nat.mul_le_mul_left _ hpos
      simp only [maxLen]
      omega
    obtain ⟨hI1, hX1⟩ := hI.tadd sh xs.length hml
    obtain ⟨aa, cap, hux, _⟩ := hv.sl_inv
    rw [hux] at hv
    have hR1 := hv.tokd hX1
    rw [← hux, hI.tok_len] at hR1
    refine fin _ _ σ.toks.length xs ys hI1 hX1 hR1 (by simp [Sg.tadd]) hs hb ?_
    have : (σ.tadd xs.length).tput σ.toks.length (xs.length + ys.length) = σ.tadd (xs.length + ys.length) := by simp [Sg.tadd, Sg.tput]
    rw [this]
    exact hk
  unfold WAppend at hW
  split at hW
  · exact hW.elim
  · rename_i ys hys
    split at hW
    · have h0 := hr.v_inv
      exact tok [] ys (by generalize a.eval x = ux at h0; cases h0; exact .slNil _ _ _) hys (by simpa using hW.1) (by simpa using hW.2)
    · obtain ⟨rfl, hb, hk⟩ := hW
      exact tok _ ys hr.v_inv hys hb hk
    · obtain ⟨rfl, hσ, hb, hk⟩ := hW
      exact fin σ m _ _ ys hI (.refl m w) hr hσ hys hb hk
    · exact hW.elim

theorem ok_min {x y : Operand} {ts : Array TypeId} {ex ey : E} (ho : o.op = .call { callee := .builtin .min, args := #[x, y], argTypes := ts }) (hx : cE x = some ex) (hy : cE y = some ey) : OpOk P o (.min [ex, ey]) := by
  refine .of_runs fun σ m w a s K hI hE hW => ?_
  have hr := ev_rep hE hx
  have hry := ev_rep hE hy
  simp only [WOp, List.map_cons, List.map_nil] at hW
  generalize ev s ex = dx at hW hr
  generalize ev s ey = dy at hW hry
  obtain ⟨k, p, l, q, rfl, rfl, rfl, hk⟩ : ∃ k p l q, dx = .v (.int k p) ∧ dy = .v (.int l q) ∧ k = l ∧ K (.v (.int k (if q < p then q else p))) σ := by
    unfold WMin at hW
    split at hW
    · rename_i h
      cases h
      exact ⟨_, _, _, _, rfl, rfl, hW.1, hW.2⟩
    · exact hW.elim
  exact .still (u := .int k (if q < p then q else p)) hI (by simp [execOp, ho, resolve, invoke, builtin, Builtin.min_, Builtin.min2, hr.int_inv, hry.int_inv] <;> rfl) hk (.v _ _ (.int _ _ (by split <;> first | exact hr.int_r | exact hry.int_r)))

theorem ok_max {x y : Operand} {ts : Array TypeId} {ex ey : E} (ho : o.op = .call { callee := .builtin .max, args := #[x, y], argTypes := ts }) (hx : cE x = some ex) (hy : cE y = some ey) : OpOk P o (.ext .max [ex, ey]) := by
  refine .of_runs fun σ m w a s K hI hE hW => ?_
  have hr := ev_rep hE hx
  have hry := ev_rep hE hy
  simp only [WOp, List.map_cons, List.map_nil] at hW
  generalize ev s ex = dx at hW hr
  generalize ev s ey = dy at hW hry
  obtain ⟨k, p, l, q, rfl, rfl, rfl, hk⟩ : ∃ k p l q, dx = .v (.int k p) ∧ dy = .v (.int l q) ∧ k = l ∧ K (.v (.int k (if q > p then q else p))) σ := by
    simp only [WX] at hW
    split at hW
    · rename_i h
      cases h
      exact ⟨_, _, _, _, rfl, rfl, hW.1, hW.2⟩
    · exact hW.elim
  exact .still (u := .int k (if q > p then q else p)) hI (by simp [execOp, ho, resolve, invoke, builtin, Builtin.max_, Builtin.max2, hr.int_inv, hry.int_inv] <;> rfl) hk (.v _ _ (.int _ _ (by split <;> first | exact hr.int_r | exact hry.int_r)))

theorem ok_call {f : Operand} {args : Array Operand} {ts : Array TypeId} {ef : E} {es : List E} (ho : o.op = .call { callee := .value f, args, argTypes := ts }) (hf : cE f = some ef) (hes : cEs args.toList = some es) : OpOk P o (.call ef es) := by
  intro σ m w a s K hI hE hW next Q hn
  have hr := ev_rep hE hf
  obtain ⟨l1, l2⟩ := evs_rep hE hes
  simp only [WOp] at hW
  generalize ev s ef = df at hW hr
  have key : ∀ (g : Nat) (caps : List D) (us : List Value), a.eval f = .func (.func g) #[] us.toArray → caps.length = us.length → (∀ (i : Nat) d u, caps[i]? = some d → us[i]? = some u → RepD m w d u) → ACalls P g (es.map (ev s) ++ caps) σ K →
      o.upon P a next Q ((execOp a.eval o).run P w) := by
    intro g caps us hfv hcl hcr hcall
    obtain ⟨⟨fn, h1, h2, h3⟩, hc⟩ := hcall
    have hb : ¬ fn.body = none := fun h => by simp [h] at h2
    have h3' : ¬ (fn.name = "runtime.NumGoroutine") := by simpa using h3
    have hrun : (execOp a.eval o).run P w = .ok (.enter g (args.toList.map a.eval ++ us).toArray) w := by
      simp [execOp, ho, resolve, Deferred.ofValue, hfv, invoke, callFunc, h1, h3', hb]
    rw [hrun, Oper.upon_enter]
    refine (hc m w (args.toList.map a.eval ++ us) hI (by simp [l1, hcl]) fun i d u hd hu => ?_).mono fun e w' ⟨v, r, σ', m', he, hR, hI', hX, hD⟩ => ?_
    · have hle : (es.map (ev s)).length = (args.toList.map a.eval).length := by simp [l1]
      rcases Nat.lt_or_ge i (es.map (ev s)).length with hlt | hge
      · rw [List.getElem?_append_left hlt] at hd
        rw [List.getElem?_append_left (by omega)] at hu
        exact l2 i d u hd hu
      · rw [List.getElem?_append_right hge] at hd
        rw [List.getElem?_append_right (by omega)] at hu
        rw [hle] at hd
        exact hcr _ d u hd hu
    · subst he
      exact hn r σ' m' w' v hR hI' hX hD
  split at hW
  · rename_i g
    have hv := hr.v_inv
    generalize hfv : a.eval f = uf at hv
    cases hv
    exact key g [] [] hfv rfl (by simp) (by simpa using hW)
  · rename_i g caps
    generalize hfv : a.eval f = uf at hr
    cases hr with
    | fn _ _ us hl hrr => exact key g caps us hfv hl hrr hW
  · rename_i g d
    generalize hfv : a.eval f = uf at hr
    cases hr with
    | bfn _ _ u hd0 =>
    obtain ⟨⟨fn, h1, h2, h3⟩, hc⟩ := hW
    have hb : ¬ fn.body = none := fun h => by simp [h] at h2
    have h3' : ¬ (fn.name = "runtime.NumGoroutine") := by simpa using h3
    have hrun : (execOp a.eval o).run P w = .ok (.enter g (u :: args.toList.map a.eval).toArray) w := by
      simp [execOp, ho, resolve, Deferred.ofValue, hfv, invoke, callFunc, h1, h3', hb]
    rw [hrun, Oper.upon_enter]
    refine (hc m w (u :: args.toList.map a.eval) hI (by simp [l1]) fun i d' u' hd hu => ?_).mono fun e w' ⟨v, r, σ', m', he, hR, hI', hX, hD⟩ => ?_
    · cases i with
      | zero => cases hd; cases hu; exact hd0
      | succ i => exact l2 i d' u' (by simpa using hd) (by simpa using hu)
    · subst he
      exact hn r σ' m' w' v hR hI' hX hD
  · exact hW.elim

theorem ok_inv {x : Operand} {name : String} {args : Array Operand} {ts : Array TypeId} {ex : E} {es : List E} (ho : o.op = .call { callee := .invoke x name, args, argTypes := ts }) (hx : cE x = some ex) (hes : cEs args.toList = some es) : OpOk P o (.inv name ex es) := by
  intro σ m w a s K hI hE hW next Q hn
  have hr := ev_rep hE hx
  obtain ⟨l1, l2⟩ := evs_rep hE hes
  simp only [WOp] at hW
  generalize ev s ex = dx at hW hr
  have key : ∀ (g : Nat) (t : TypeId) (d : D) (u : Value), a.eval x = .iface t u → RepD m w d u → (method (P.types.size + Made.depth) t u name).run P w = .ok (g, u) w → ACalls P g (d :: es.map (ev s)) σ K →
      o.upon P a next Q ((execOp a.eval o).run P w) := by
    intro g t d u hfv hd hm hcall
    obtain ⟨⟨fn, h1, h2, h3⟩, hc⟩ := hcall
    have hb : ¬ fn.body = none := fun h => by simp [h] at h2
    have h3' : ¬ (fn.name = "runtime.NumGoroutine") := by simpa using h3
    have hrun : (execOp a.eval o).run P w = .ok (.enter g (u :: args.toList.map a.eval).toArray) w := by
      have e3 : #[a.eval x] ++ args.map a.eval = (Value.iface t u :: args.toList.map a.eval).toArray := by apply Array.ext'; simp [hfv]
      have e0 : (#[a.eval x] ++ args.map a.eval)[0]? = some (.iface t u) := by rw [e3]; rfl
      have e1 : (#[a.eval x] ++ args.map a.eval).extract 1 (#[a.eval x] ++ args.map a.eval).size = args.map a.eval := by rw [e3]; apply Array.ext'; simp [List.take_of_length_le]
      have e2 : #[u] ++ args.map a.eval = (u :: args.toList.map a.eval).toArray := by apply Array.ext'; simp
      have hrun2 : (invoke (.fn (.method name) #[]) (#[a.eval x] ++ args.map a.eval)).run P w = .ok (.enter g (u :: args.toList.map a.eval).toArray) w := by
        simp only [invoke]
        rw [e0, e1]
        simp only [callMethod, Sem.run_bind]
        simp [hm, callFunc, h1, h3', hb, ← e2]
      simp only [execOp, ho, resolve, pure_bind]
      exact hrun2
    rw [hrun, Oper.upon_enter]
    refine (hc m w (u :: args.toList.map a.eval) hI (by simp [l1]) fun i d' u' hd' hu => ?_).mono fun e w' ⟨v, r, σ', m', he, hR, hI', hX, hD⟩ => ?_
    · cases i with
      | zero =>
        cases hd'
        cases hu
        exact hd
      | succ i => exact l2 i d' u' hd' hu
    · subst he
      exact hn r σ' m' w' v hR hI' hX hD
  unfold WInv at hW
  split at hW
  · rename_i t o' off
    obtain ⟨g, hm, hc⟩ := hW
    generalize hfv : a.eval x = uf at hr
    cases hr with
    | iface _ _ u hu =>
      cases hu with
      | ptr _ _ b hb => exact key g t (.ptr o' off) _ hfv (.ptr _ _ b hb) (hm _ _) hc
  · rename_i t k n
    obtain ⟨g, hm, hc⟩ := hW
    have hv := hr.v_inv
    generalize hfv : a.eval x = uf at hv
    cases hv with
    | iface _ _ u hu =>
      have hu' := hu
      cases hu with
      | int _ _ h => exact key g t (.v (.int k n)) _ hfv (.v _ _ hu') (hm _ _ _) hc
  · exact hW.elim

end
end Go.Abs
