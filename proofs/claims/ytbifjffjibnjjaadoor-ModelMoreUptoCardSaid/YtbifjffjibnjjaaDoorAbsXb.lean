/-
  The model's operations, turned into the small language; that each does what its weakest precondition says: part 13, rows whose cells may lead into memory that is written to. (Own work; seat-independent.)
-/
import Derived.Test.YtbifjffjibnjjaaDoorAbsXa
set_option linter.unusedVariables false
set_option linter.unusedSimpArgs false
namespace Go.Abs
open Go

section
variable {P : Program} {o : Oper}

theorem appd_core {σ : Sg} {m : Gh} {w : World} {a : Act} {K : D → Sg → Prop} (hI : Inv σ m w) {t u e : TypeId} {i : TypeInfo} {zv : Value} {z : V} {sh : Sh} (hzv : cV zv = some z) (hsz : i.size = shn sh) (hzs : zv.cells.size = shn sh) (hpos : 0 < i.bytes) (hp2 : 0 < shn sh)
    {dx : D} {ux uy : Value} (rx : RepD m w dx ux) {n : Nat} {yd : List D} {news : List Value} (hnl : news.length = n * shn sh) (hfl : yd.length = n * shn sh) (hn1 : ∀ u ∈ news, u.oneCell' = true)
    (hnew : ∀ (j : Nat) c v, yd[j]? = some c → news[j]? = some v → RepD m w c v)
    (hex : ∀ (v : Value) (w' : World), (Builtin.append_ #[t, u] o.type #[ux, uy]).run P w = .ok v w' → (execOp a.eval o).run P w = .ok (.value v) w')
    (runNone : n = 0 → ∀ (aa : Option Addr) (sLen sCap : Nat), sLen ≤ sCap → (Builtin.append_ #[t, u] o.type #[.slice aa sLen sCap, uy]).run P w = .ok (.slice aa sLen sCap) w)
    (runRoom : ∀ (g off sLen sCap : Nat) (cur : Array Value) (ty' : TypeId), w.heap[g]? = some (.cells cur ty' (0, 0)) → sLen + n ≤ sCap → off + sLen * i.size + news.length ≤ cur.size →
      (Builtin.append_ #[t, u] o.type #[.slice (some ⟨g, off, none⟩) sLen sCap, uy]).run P w =
        .ok (.slice (some ⟨g, off, none⟩) (sLen + n) sCap) (w.setRow g (cur.toList.take (off + sLen * i.size) ++ news ++ cur.toList.drop (off + sLen * i.size + news.length)).toArray))
    (runGrow : ∀ (aa : Option Addr) (sLen sCap : Nat) (olds : List Value), (Builtin.firstCells i.size sLen (.slice aa sLen sCap)).run P w.drew = .ok olds.toArray w.drew → sCap < sLen + n → ((sLen + n : Nat) : Int) ≤ 9223372036854775807 →
      Builtin.nextslicecap (sLen + n) sCap * i.bytes ≤ 281474976710656 → (Builtin.append_ #[t, u] o.type #[.slice aa sLen sCap, uy]).run P w =
        .ok (.slice (some ⟨w.heap.size, 0, none⟩) (sLen + n) (grownCap w (sLen + n) sCap e))
          (w.drew.alloc (.cells (olds.toArray ++ news.toArray ++ Builtin.zeroCells zv.cells (grownCap w (sLen + n) sCap e - (sLen + n))) e)))
    (hW : WApdV sh i.bytes dx n yd σ K) : Runs1 P o σ m w a K := by
  obtain ⟨z1, z2, z3⟩ := (cV_rep (w := w) (F := Fz m w) hzv).cellsR
  unfold WApdV at hW
  -- a new block: olds, news, room
  have grow : ∀ (aa : Option Addr) (len cap : Nat) (olds : List Value) (ods : List D), ux = .slice aa len cap → olds.length = len * shn sh → ods.length = len * shn sh → (Builtin.firstCells i.size len (.slice aa len cap)).run P w.drew = .ok olds.toArray w.drew →
      (∀ (i : Nat) d u, ods[i]? = some d → olds[i]? = some u → RepD m w d u) → (∀ u ∈ olds, u.oneCell' = true) → cap < len + n → (len + n) * i.bytes ≤ 140737488355328 →
      (∀ c : Nat, len + n ≤ c → c ≤ maxLen → K (.msl σ.objs.length 0 (len + n) sh (some c)) (σ.add (.cells (ods ++ (yd ++ List.replicate ((c - (len + n)) * shn sh) .junk))))) → Runs1 P o σ m w a K := by
    intro aa len cap olds ods hax hol hodl horun hor ho1 hg hbytes hk
    subst hax
    have hm63 : len + n ≤ maxLen := by
      have : (len + n) * 1 ≤ (len + n) * i.bytes := Nat.mul_le_mul_left _ hpos
      simp only [maxLen]
      omega
    have hrun := runGrow aa len cap olds horun hg (by simp only [maxLen] at hm63; omega) (growslice_fits hg hbytes)
    have hge := grownCap_ge w (len + n) cap e
    have hcm : grownCap w (len + n) cap e ≤ maxLen := grownCap_le_maxLen w (len + n) cap e hm63
    generalize grownCap w (len + n) cap e = C at hrun hge hcm
    have hsize : (olds.toArray ++ news.toArray ++ Builtin.zeroCells zv.cells (C - (len + n))).size = C * shn sh := by
      simp only [Array.size_append, List.size_toArray, size_zeroCells, hol, hnl, hzs, ← Nat.add_mul]
      congr 1
      omega
    obtain ⟨hI', hX'⟩ := newRow_ok hI e (cs := ods ++ (yd ++ List.replicate ((C - (len + n)) * shn sh) .junk)) (us := olds.toArray ++ news.toArray ++ Builtin.zeroCells zv.cells (C - (len + n)))
      (by
        rw [hsize]
        simp only [List.length_append, List.length_replicate, hodl, hfl, ← Nat.add_mul]
        exact Nat.mul_le_mul_right _ (by omega))
      (fun j d u hd hu => by
        rw [← Array.getElem?_toList] at hu
        simp only [Array.toList_append, List.append_assoc] at hu
        rcases Nat.lt_or_ge j ods.length with hlt | hge'
        · rw [List.getElem?_append_left hlt] at hd
          rw [List.getElem?_append_left (by omega)] at hu
          exact hor j d u hd hu
        · rw [List.getElem?_append_right hge'] at hd
          rw [List.getElem?_append_right (by omega)] at hu
          rw [show olds.length = ods.length by omega] at hu
          rcases Nat.lt_or_ge (j - ods.length) yd.length with hlt | hge2
          · rw [List.getElem?_append_left hlt] at hd
            rw [List.getElem?_append_left (by omega)] at hu
            exact hnew _ d u hd hu
          · rw [List.getElem?_append_right hge2] at hd
            have := List.mem_of_getElem? hd
            rw [List.eq_of_mem_replicate this]
            exact .junk _)
      (fun j u hu => by
        have := Array.mem_of_getElem? hu
        simp only [Array.mem_append, List.mem_toArray] at this
        rcases this with (h | h) | h
        · exact ho1 u h
        · exact hn1 u h
        · obtain ⟨j', hj'⟩ := Array.mem_iff_getElem?.1 h
          exact z3 u (by simpa using Array.mem_of_getElem? (zeroCells_get hj').2))
    exact ⟨_, _, _, _, _, _, hex _ _ hrun, .inl rfl, hk C hge hcm, hI', hX', .msl _ 0 _ sh _ _ _ (by simp [Gh.add, hI.lobj]) (.inl ⟨w.heap.size, rfl, .inl (by simp [Gh.add, ← hI.lobj])⟩) hge hcm fun c' hc' => Option.some.inj hc'⟩
  have new0 : ∀ (aa : Option Addr), ux = .slice aa 0 0 → WApd0 sh i.bytes n yd σ K → Runs1 P o σ m w a K := by
    rintro aa rfl ⟨k1, k2⟩
    by_cases hy0 : n = 0
    · subst hy0
      have hrun := runNone rfl aa 0 0 (Nat.le_refl _)
      exact ⟨_, _, _, _, _, _, hex _ _ hrun, .inl rfl, k1 rfl, hI, .refl m w, .v _ _ (.slNil _ _ _)⟩
    · have hpos' : 0 < n := Nat.pos_of_ne_zero hy0
      obtain ⟨k3, k4⟩ := k2 hy0
      refine grow aa 0 0 [] [] rfl (by simp) (by simp) (olds_nil i.size aa 0) (by simp) (by simp) (by omega) (by rw [Nat.zero_add]; exact k3) ?_
      simpa using k4
  split at hW
  · have hv := rx.v_inv
    generalize hq : ux = q at hv
    cases hv
    exact new0 none hq hW
  · obtain ⟨rfl, hW⟩ := hW
    obtain ⟨aa, cap, rfl, _, _, hf, _⟩ := rx.v_inv.sl_inv
    have := hf rfl
    subst this
    exact new0 aa rfl hW
  · rename_i oo off len sh' c
    obtain ⟨rfl, hW⟩ := hW
    cases rx with
    | msl _ _ _ _ _ aa cap hol hbb hlc hcm hcc =>
    have := hcc c rfl
    subst this
    unfold WApd1 at hW
    split at hW
    · rename_i cs hcs
      obtain ⟨k1, k2⟩ := hW
      have live : cs ≠ [] → ∀ b, m.at oo b → ∃ us ty, m.objs[oo]? = some (some b) ∧ w.heap[b]? = some (.cells us ty (0, 0)) ∧ cs.length ≤ us.size ∧ (∀ (i : Nat) d u, cs[i]? = some d → us[i]? = some u → RepD m w d u ∧ u.oneCell' = true) ∧ True := by
        intro hne b hb
        have hb' := hI.live hcs (by rintro e; cases e; exact hne rfl) hb
        obtain ⟨us, ty, hh, h2, h3, h4⟩ := hI.ob oo _ b hcs hb'
        exact ⟨us, ty, hb', hh, h2, h3, h4⟩
      by_cases hroom : len + n ≤ cap
      · obtain ⟨hfit, hK⟩ := k1 hroom
        by_cases hy0 : n = 0
        · subst hy0
          have hrun := runNone rfl aa len cap (by simpa using hroom)
          have hyd0 : yd = [] := List.eq_nil_of_length_eq_zero (by simpa using hfl)
          subst hyd0
          rw [show putAt cs (off + len * shn sh) ([] : List D) = putAt cs (off + len * shn sh) ((V.flat []).map .v) from rfl, put_nil hcs] at hK
          exact ⟨_, _, _, _, _, _, hex _ _ hrun, .inl rfl, hK, hI, .refl m w, .msl oo off _ sh _ _ _ hol (by simpa using hbb) (by simpa using hlc) hcm fun c' hc' => Option.some.inj hc'⟩
        · have hpos' : 0 < n := Nat.pos_of_ne_zero hy0
          rcases hbb with ⟨b, rfl, hb⟩ | ⟨_, hc0⟩
          · have h5 : 0 < (len + n) * shn sh := Nat.mul_pos (by omega) hp2
            rw [Nat.add_mul] at hfit h5
            obtain ⟨us, ty, hb', hh, h2, h3, h4⟩ := live (by rintro rfl; simp at hfit; omega) b hb
            have hrun := runRoom b off len cap us ty hh hroom (by rw [hsz, hnl]; omega)
            obtain ⟨hI', hX'⟩ := setRow_ok hI hcs hb' hh h2 h3 h4 (off := off + len * shn sh) (xs := yd) (vs := news) (by simp [hfl, hnl]) hnew hn1 (by simp [hfl]; omega)
            rw [hsz] at hrun
            exact ⟨_, _, _, _, _, _, hex _ _ hrun, .inl rfl, hK, hI', hX', .msl oo off _ sh _ _ _ hol (.inl ⟨b, rfl, hX'.at hb⟩) hroom hcm fun c' hc' => Option.some.inj hc'⟩
          · omega
      · obtain ⟨hfit, hbytes, hK⟩ := k2 hroom
        by_cases hl0 : len = 0
        · subst hl0
          refine grow aa 0 cap [] [] rfl (by simp) (by simp) (olds_nil i.size aa cap) (by simp) (by simp) (by omega) hbytes ?_
          simpa using hK
        · rcases hbb with ⟨b, rfl, hb⟩ | ⟨h0, _⟩
          · have h5 : 0 < len * shn sh := Nat.mul_pos (by omega) hp2
            obtain ⟨us, ty, hb', hh, h2, h3, h4⟩ := live (by rintro rfl; simp at hfit; omega) b hb
            refine grow (some ⟨b, off, none⟩) len cap ((us.toList.drop off).take (len * shn sh)) ((cs.drop off).take (len * shn sh)) rfl (by simp; omega) (by simp; omega) ?_ ?_ ?_ (by omega) hbytes hK
            · rw [hsz]
              refine run_firstCells_some (P := P) w.drew (shn sh) len ⟨b, off, none⟩ len cap _ (by simp; omega) fun j v hj => ?_
              have hjl : j < len * shn sh := by
                have := (List.getElem?_eq_some_iff.1 hj).1
                simp only [List.length_take, List.length_drop, Array.length_toList] at this
                omega
              rw [List.getElem?_take_of_lt hjl, List.getElem?_drop] at hj
              rw [Addr.add_lit, cell_of_row w.drew b (off + j) us ty (0, 0) hh]
              simpa using hj
            · intro j d u hd hu
              have hjl : j < len * shn sh := by
                have := (List.getElem?_eq_some_iff.1 hd).1
                simp only [List.length_take, List.length_drop] at this
                omega
              rw [List.getElem?_take_of_lt hjl, List.getElem?_drop] at hd hu
              exact (h3 _ d u hd (by simpa using hu)).1
            · intro u hu
              obtain ⟨j, hj⟩ := List.mem_iff_getElem?.1 hu
              have hjl : j < len * shn sh := by
                have := (List.getElem?_eq_some_iff.1 hj).1
                simp only [List.length_take, List.length_drop] at this
                omega
              rw [List.getElem?_take_of_lt hjl, List.getElem?_drop] at hj
              exact (h3 (off + j) cs[off + j] u (List.getElem?_eq_getElem (by omega)) (by simpa using hj)).2
          · exact absurd h0 hl0
    · exact hW.elim
  · exact hW.elim


theorem srcD_rep {σ : Sg} {m : Gh} {w : World} (hI : Inv σ m w) {sh : Sh} {dx : D} {ux : Value} (hr : RepD m w dx ux) {n : Nat} {yd : List D} (hs : srcD σ sh dx = some (n, yd)) :
    ∃ news, Src P w (shn sh) ux n news ∧ yd.length = n * shn sh ∧ (∀ u ∈ news, u.oneCell' = true) ∧ ∀ (j : Nat) c v, yd[j]? = some c → news[j]? = some v → RepD m w c v := by
  have nul : ∀ (aa : Option Addr) (cap : Nat), ux = .slice aa 0 cap → n = 0 → yd = [] → ∃ news, Src P w (shn sh) ux n news ∧ yd.length = n * shn sh ∧ (∀ u ∈ news, u.oneCell' = true) ∧ ∀ (j : Nat) c v, yd[j]? = some c → news[j]? = some v → RepD m w c v := by
    rintro aa cap rfl rfl rfl
    have hf : ∀ w' : World, (Builtin.firstCells (shn sh) 0 (.slice aa 0 cap)).run P w' = .ok (#[] : Array Value) w' := fun w' => by
      cases aa with
      | none => simp [Builtin.firstCells]
      | some a => exact run_firstCells_some (P := P) w' (shn sh) 0 a 0 cap [] (by simp) fun j v hj => by simp at hj
    exact ⟨[], ⟨by simp [Builtin.lenOf], hf w, hf w.drew, by simp⟩, by simp, by simp, by simp⟩
  unfold srcD at hs
  split at hs
  · cases hs
    have hv := hr.v_inv
    generalize hq : ux = q at hv
    cases hv
    subst hq
    exact nul none 0 rfl rfl rfl
  · split at hs
    · cases hs
      obtain ⟨aa, cap, rfl, _⟩ := hr.v_inv.sl_inv
      exact nul aa cap rfl rfl rfl
    · cases hs
  · rename_i oo off len sh' cp
    split at hs
    · rename_i he
      subst he
      cases hr with
      | msl _ _ _ _ _ aa cap hol hbb hlc hcm hcc =>
      split at hs
      · rename_i hz
        subst hz
        cases hs
        exact nul aa cap rfl rfl rfl
      · rename_i hlen0
        split at hs
        · rename_i cs hcs
          split at hs
          · rename_i hc
            obtain ⟨hcs0, hfit⟩ := hc
            cases hs
            rcases hbb with ⟨b, rfl, hb⟩ | ⟨hl0, _⟩
            · have hcne : Ob.cells cs ≠ .cells [] := by
                rintro e
                cases e
                exact hcs0 rfl
              have hb := hI.live hcs hcne hb
              obtain ⟨us, ty, hh, hsz, hob, hone⟩ := hI.ob oo _ b hcs hb
              have hcells : ∀ w' : World, w'.heap = w.heap → (Builtin.firstCells (shn sh) n (.slice (some ⟨b, off, none⟩) n cap)).run P w' = .ok ((us.toList.drop off).take (n * shn sh)).toArray w' := by
                intro w' hw'
                refine run_firstCells_some (P := P) w' (shn sh) n ⟨b, off, none⟩ n cap _ (by simp; omega) fun j v hj => ?_
                have hjl : j < n * shn sh := by
                  have := (List.getElem?_eq_some_iff.1 hj).1
                  simp only [List.length_take, List.length_drop, Array.length_toList] at this
                  omega
                rw [List.getElem?_take_of_lt hjl, List.getElem?_drop] at hj
                rw [Addr.add_lit, cell_of_row w' b (off + j) us ty (0, 0) (by rw [hw']; exact hh)]
                simpa using hj
              refine ⟨(us.toList.drop off).take (n * shn sh), ⟨by simp [Builtin.lenOf], hcells w rfl, hcells w.drew rfl, by simp; omega⟩, by simp; omega, fun u hu => ?_, fun j c v hc hv => ?_⟩
              · obtain ⟨j, hj⟩ := List.mem_iff_getElem?.1 hu
                have hjl : j < n * shn sh := by
                  have := (List.getElem?_eq_some_iff.1 hj).1
                  simp only [List.length_take, List.length_drop, Array.length_toList] at this
                  omega
                rw [List.getElem?_take_of_lt hjl, List.getElem?_drop] at hj
                exact (hob (off + j) cs[off + j] u (List.getElem?_eq_getElem (by omega)) (by simpa using hj)).2
              · have hjl : j < n * shn sh := by
                  have := (List.getElem?_eq_some_iff.1 hc).1
                  simp only [List.length_take, List.length_drop] at this
                  omega
                rw [List.getElem?_take_of_lt hjl, List.getElem?_drop] at hc hv
                exact (hob (off + j) c v hc (by simpa using hv)).1
            · exact absurd hl0 hlen0
          · cases hs
        · cases hs
    · cases hs
  · cases hs

theorem ok_appd {t u e : TypeId} {x y : Operand} {ex ey : E} {d : TypeDesc} {i : TypeInfo} {zv : Value} {z : V} {sh : Sh} (ho : o.op = .call { callee := .builtin .append, args := #[x, y], argTypes := #[t, u] }) (hx : cE x = some ex) (hy : cE y = some ey)
    (ht : P.underlying t = some (.slice e)) (hu : P.underlying u = some d) (hd : Runs d) (hi : P.info? e = some i) (hz : i.zero = some zv) (hzv : cV zv = some z) (hsz : i.size = shn sh) (hzs : zv.cells.size = shn sh) (hpos : 0 < i.bytes) (hp2 : 0 < shn sh) : OpOk P o (.ext (.appd sh i.bytes) [ex, ey]) := by
  refine .of_runs fun σ m w a s K hI hE hW => ?_
  have rx := ev_rep hE hx
  have ry := ev_rep hE hy
  simp only [WOp, WX, List.map_cons, List.map_nil] at hW
  generalize ev s ex = dx at hW rx
  generalize ev s ey = dy at hW ry
  unfold WApd at hW
  split at hW
  · exact hW.elim
  · rename_i n yd hys
    obtain ⟨news, hsrc, hfl, hn1, hnew⟩ := srcD_rep (P := P) hI ry hys
    have hnl : news.length = n * shn sh := hsrc.lenEq
    rw [← hsz] at hsrc
    refine appd_core (t := t) (u := u) (e := e) hI hzv hsz hzs hpos hp2 rx hnl hfl hn1 hnew (fun v w' h => by simp [execOp, ho, resolve, invoke, builtin, h]) (fun hy0 aa sLen sCap hr => ?_)
      (fun g off sLen sCap cur ty' hg hr hf => run_append_roomAt (P := P) (w := w) t u o.type e d i ht hu hd hi g off sLen sCap cur ty' hg _ n news hsrc hn1 hr hf)
      (fun aa sLen sCap olds ho1 hg h63 hfit => run_append_grow' (P := P) (w := w) t u o.type e d i zv ht hu hd hi hz aa sLen sCap olds ho1 _ n news hsrc hg h63 hfit) hW
    subst hy0
    have hn0 : news = [] := List.eq_nil_of_length_eq_zero (by simpa using hnl)
    subst hn0
    exact run_append_none (P := P) (w := w) t u o.type e d i ht hu hd hi aa sLen sCap _ hsrc hr

theorem flat_get {m : Gh} {w : World} : ∀ {ds : List D} {vs : List Value}, vs.length = ds.length → (∀ (i : Nat) d v, ds[i]? = some d → vs[i]? = some v → RepD m w d v) → (∀ d ∈ ds, d.lies = true) →
    (ds.flatMap D.cells).length = (vs.flatMap fun v => v.cells.toList).length ∧ (∀ (i : Nat) c u, (ds.flatMap D.cells)[i]? = some c → (vs.flatMap fun v => v.cells.toList)[i]? = some u → RepD m w c u) ∧ ∀ u ∈ vs.flatMap fun v => v.cells.toList, u.oneCell' = true
  | [], vs, hl, _, _ => by have : vs = [] := List.eq_nil_of_length_eq_zero (by simpa using hl); subst this; simp
  | d :: ds, [], hl, _, _ => by simp at hl
  | d :: ds, v :: vs, hl, hr, hi => by
    obtain ⟨i1, i2, i3⟩ := flat_get (ds := ds) (vs := vs) (by simpa using hl) (fun i d v hx hv => hr (i + 1) d v (by simpa using hx) (by simpa using hv)) fun d hd => hi d (by simp [hd])
    obtain ⟨c1, c2, c3⟩ := (hr 0 d v rfl rfl).cellsR (hi d (by simp))
    simp only [List.flatMap_cons] at *
    refine ⟨by simp [c1, i1], fun i c u hc hu => ?_, fun u hu => (List.mem_append.1 hu).elim (c3 u) (i3 u)⟩
    rcases Nat.lt_or_ge i d.cells.length with hlt | hge
    · rw [List.getElem?_append_left hlt] at hc
      rw [List.getElem?_append_left (by simp; omega)] at hu
      exact c2 i c u hc (by simpa using hu)
    · rw [List.getElem?_append_right hge] at hc
      rw [List.getElem?_append_right (by simp; omega)] at hu
      simp only [Array.length_toList] at hu
      rw [← c1] at hu
      exact i2 _ c u hc hu

theorem ok_mksld {t e : TypeId} {len : Nat} {ps : Array (Nat × Operand)} {ie : TypeInfo} {z : Value} {sh : Sh} {es : List E} (ho : o.op = .buildSlice t len ps)
    (hu : P.underlying t = some (.slice e)) (hie : P.info? e = some ie) (hz : ie.zero = some z) (hsz : ie.size = shn sh) (hpos : 0 < ie.size) (hzs : z.cells.size = ie.size)
    (hlen : len = ps.size) (hidx : ps.toList.map (·.1) = List.range ps.size) (hsmall : len * ie.size ≤ 2 ^ 24) (hes : cEs (ps.toList.map (·.2)) = some es) : OpOk P o (.ext (.mksld sh) es) := by
  refine .of_runs fun σ m w a s K hI hE hW => ?_
  simp only [WOp, WX, WMksld] at hW
  obtain ⟨hne, hall, hK⟩ := hW
  obtain ⟨l1, l2⟩ := evs_rep hE hes
  have hvl : (es.map (ev s)).length = ps.size := by simpa using l1
  generalize hxs : es.map (ev s) = xs at *
  have hrep : ∀ (i : Nat) x v, xs[i]? = some x → ((ps.toList.map (·.2)).map a.eval)[i]? = some v → RepD m w x v := fun i x v hx hv => l2 i x v hx hv
  generalize hvs : (ps.toList.map (·.2)).map a.eval = vs at hrep
  have hvsl : vs.length = xs.length := by rw [← hvs, hvl]; simp
  have hsizes : ∀ v ∈ vs, v.cells.size = ie.size := by
    intro v hv
    obtain ⟨i, hi⟩ := List.mem_iff_getElem?.1 hv
    have hlt : i < xs.length := by rw [← hvsl]; exact (List.getElem?_eq_some_iff.1 hi).1
    have hr := hrep i xs[i] v (List.getElem?_eq_getElem hlt) hi
    have := hall xs[i] (List.getElem_mem hlt)
    rw [← (hr.cellsR this.1).1, this.2, hsz]
  have hparts : (ps.map fun (i, x) => (i, a.eval x)).toList = (vs.zipIdx 0).map fun p => (p.2, p.1) := by
    rw [← hvs]
    apply List.ext_getElem?
    intro i
    simp only [Array.toList_map, List.getElem?_map, List.getElem?_zipIdx]
    cases hpi : ps.toList[i]? with
    | none => simp
    | some q =>
      have hlt := (List.getElem?_eq_some_iff.1 hpi).1
      have hq : q.1 = i := by
        have := congrArg (·[i]?) hidx
        simp only [List.getElem?_map, hpi, Option.map_some] at this
        rw [List.getElem?_range (by simpa using hlt)] at this
        simpa using this
      simp [← hq]
  have hcells0 : ((Array.range (len * ie.size)).map (z.cells[· % z.cells.size]!)).size = len * ie.size := by simp
  have hfill := fill_dense ie.size vs 0 ((Array.range (len * ie.size)).map (z.cells[· % z.cells.size]!)) hsizes (by rw [hcells0, hlen]; simp [hvsl, hvl])
  rw [← hparts] at hfill
  have hdrop : ((Array.range (len * ie.size)).map (z.cells[· % z.cells.size]!)).toList.drop ((0 + vs.length) * ie.size) = [] := by
    apply List.drop_eq_nil_of_le
    rw [Array.length_toList, hcells0, hlen, Nat.zero_add, hvsl, hvl]
    exact Nat.le_refl _
  rw [hdrop, Nat.zero_mul, List.take_zero, List.nil_append, List.append_nil] at hfill
  have hxl : 0 < xs.length := List.length_pos_iff.2 hne
  have h0 : ¬ len * ie.size = 0 := by
    intro h
    rcases Nat.mul_eq_zero.1 h with h | h <;> omega
  have hrun : (execOp a.eval o).run P w = .ok (.value (.slice (some ⟨w.heap.size, 0, none⟩) len len)) (w.alloc (.cells (vs.flatMap fun v => v.cells.toList).toArray e)) := by
    have := hfill
    simp [execOp, ho, Instr.buildSlice, run_underlying hu, sizeOf, typeInfo, zeroValue, hie, hz, h0, show ¬ (len * ie.size > 16777216) by simpa using hsmall, newRow]
    simp only [Array.toList_map] at this
    simp [this]
  have hlenx : len = xs.length := by omega
  obtain ⟨f1, f2, f3⟩ := flat_get hvsl hrep fun d hd => (hall d hd).1
  obtain ⟨hI', hX, _⟩ := newObj_ok hI (cs := xs.flatMap D.cells) (us := vs.flatMap fun v => v.cells.toList) e f1 f3 f2
  have hm : xs.length ≤ maxLen := by
    have h2 : xs.length * 1 ≤ len * ie.size := by rw [hlenx]; exact Nat.mul_le_mul_left _ hpos
    simp only [maxLen]
    omega
  refine ⟨_, _, _, _, _, _, hrun, .inl rfl, hK, hI', hX, ?_⟩
  rw [hlenx]
  exact .msl _ _ _ _ _ _ _ (by simp [Gh.add, hI.lobj]) (.inl ⟨_, rfl, .inl (by simp [Gh.add, ← hI.lobj])⟩) (Nat.le_refl _) hm (fun c hc => by cases hc; rfl)
end
end Go.Abs
