/-
  From the weakest precondition of a function's body to its contract; forgetting. (Own work; seat-independent.)
-/
import Derived.Test.YtbifjffjibnjjaaDoorAbsS
set_option linter.unusedVariables false
set_option linter.unusedSimpArgs false
namespace Go.Abs
open Go

def rvD (env : List (Nat × D)) (σ : Sg) : RV → Option D
  | .tmp t => some (look env t)
  | .cell a sh => match look env a with
    | .ptr o off => (match σ.objs[o]? with
      | some (.cells cs) => (match sh with
        | none => cs[off]?
        | some n => if 0 < n ∧ off + n ≤ cs.length then some (mkAgg ((cs.drop off).take n)) else none)
      | _ => none)
    | _ => none

def rvDs (env : List (Nat × D)) (σ : Sg) : List RV → Option (List D)
  | [] => some []
  | r :: rs => match rvD env σ r, rvDs env σ rs with
    | some d, some ds => some (d :: ds)
    | _, _ => none

def tupD : List D → D
  | [d] => d
  | ds => .tup ds

/-- Less is known of a result and of the memory. -/
def WeakR (B : Sg) (r : D) (σ : Sg) (r' : D) (σ' : Sg) : Prop :=
  ∀ (m0 m : Gh) (w0 w : World) (u : Value), Inv B m0 w0 → Ext m0 w0 m w → Inv σ m w → RepD m w r u →
    ∃ m', Inv σ' m' w ∧ RepD m' w r' u ∧ Ext m0 w0 m' w

theorem WeakR.refl (B : Sg) (r : D) (σ : Sg) : WeakR B r σ r σ := fun m0 m w0 w u _ hX hI hR => ⟨m, hI, hR, hX⟩

/-- What a function's body must come to. -/
def PostR (B : Sg) (res : List RV) (R : D → Sg → Prop) (st : St) : Prop :=
  match rvDs st.env st.σ res with
  | some ds => ∃ r' σ', WeakR B (tupD ds) st.σ r' σ' ∧ R r' σ'
  | none => False

def Post (B : Sg) (res : List RV) (R : D → Sg → Prop) : XE → St → Prop
  | .exit _, _ => False
  | .normal, st => PostR B res R st
  | .ret, st => PostR B res R st

def envOf : Nat → List D → List (Nat × D)
  | _, [] => []
  | k, d :: ds => (k, d) :: envOf (k + 1) ds

theorem look_envOf : ∀ (ds : List D) (k n : Nat), look (envOf k ds) n = if k ≤ n then ds.getD (n - k) .junk else .junk
  | [], k, n => by simp [envOf, look]
  | d :: ds, k, n => by
    simp only [envOf, look]
    rw [look_envOf ds (k + 1) n]
    by_cases h : k = n
    · subst h; simp
    · rw [if_neg h]
      by_cases h2 : k ≤ n
      · rw [if_pos (by omega), if_pos h2, show n - k = (n - (k + 1)) + 1 by omega]
        simp
      · rw [if_neg (by omega), if_neg h2]

def paramsIn (keep : List Nat) (n : Nat) : Bool := (List.range n).all keep.contains

def tupV : List Value → Value
  | [v] => v
  | vs => .tuple vs.toArray

theorem tup_rep {m : Gh} {w : World} {ds : List D} {vs : List Value} (hl : ds.length = vs.length) (h : ∀ (i : Nat) d u, ds[i]? = some d → vs[i]? = some u → RepD m w d u) : RepD m w (tupD ds) (tupV vs) := by
  cases ds with
  | nil => cases vs with
    | nil => exact .tup [] [] rfl (by simp)
    | cons v vs => simp at hl
  | cons d ds =>
    cases vs with
    | nil => simp at hl
    | cons v vs =>
      cases ds with
      | nil =>
        cases vs with
        | nil => exact h 0 d v rfl rfl
        | cons v' vs => simp at hl
      | cons d' ds =>
        cases vs with
        | nil => simp at hl
        | cons v' vs => exact .tup _ _ hl h

theorem run_loadVar_ptr {P : Program} {σ : Sg} {m : Gh} {w : World} (hI : Inv σ m w) {t : TypeId} {d : TypeDesc} {i : TypeInfo} {sh : Sh} (hu : P.underlying t = some d) (hi : P.info? t = some i)
    (hsh : match (generalizing := false) sh with | none => d.isRow = false | some n => d.isRow = true ∧ i.size = n) {o off b : Nat} (hb : m.at o b) {cs : List D} (hcs : σ.objs[o]? = some (.cells cs)) {r : D}
    (hr : (match (generalizing := false) sh with | none => cs[off]? | some n => if 0 < n ∧ off + n ≤ cs.length then some (mkAgg ((cs.drop off).take n)) else none) = some r) :
    ∃ v, (loadVar t ⟨b, off, none⟩).run P w = .ok v w ∧ RepD m w r v := by
  have hne : Ob.cells cs ≠ .cells [] := by
    cases sh with
    | none => exact ne_nil_of_get hr
    | some n =>
      dsimp only at hr
      split at hr
      · exact ne_nil_of_lt (i := off) (by omega)
      · cases hr
  have hb := hI.live hcs hne hb
  obtain ⟨us, ty, hh, hsz, hob, _⟩ := hI.ob o _ b hcs hb
  have hcell : ∀ j u, us[j]? = some u → w.cell? ⟨b, j, none⟩ = some u := fun j u hj => by rw [cell_of_row w b j us ty (0, 0) hh]; exact hj
  have key : ∀ u, (Instr.loadAt t (.pointer (some ⟨b, off, none⟩))).run P w = .ok u w → (loadVar t ⟨b, off, none⟩).run P w = .ok u w := by
    intro u h
    simpa [Instr.loadAt, Instr.sureAddr] using h
  cases sh with
  | none =>
    dsimp only at hr
    have hlt : off < us.size := Nat.lt_of_lt_of_le (List.getElem?_eq_some_iff.1 hr).1 hsz
    have hu0 : us[off]? = some us[off] := Array.getElem?_eq_getElem hlt
    have hcell0 : ∀ j, j < shn none → w.cell? ⟨b, off + j, none⟩ = some us[off] := by
      intro j hj
      have hj0 : j = 0 := by simp only [shn] at hj; omega
      subst hj0
      exact hcell off _ hu0
    have hrun := run_load_sh (P := P) (w := w) hu hi (b := b) (p := off) (us := fun j => us[off]) (sh := none) hsh hcell0
    exact ⟨_, key _ hrun, (hob off r _ hr hu0).1⟩
  | some n =>
    dsimp only at hr
    split at hr
    · rename_i hle
      cases hr
      have hrun := run_load_sh (P := P) (w := w) hu hi (b := b) (p := off) (us := fun j => us.getD (off + j) undef) (sh := some n) hsh (fun j hj => by
        have hlt : off + j < us.size := by simp only [shn] at hj; omega
        refine hcell _ _ ?_
        simp [Array.getD, hlt])
      refine ⟨_, key _ hrun, mkAgg_rep (by simp; omega) (fun u huu => ?_) fun j d' u hd' huj => ?_⟩
      · obtain ⟨j, hj, rfl⟩ := List.mem_map.1 huu
        have hjn : j < n := List.mem_range.1 hj
        have hlt : off + j < us.size := by omega
        have hlt2 : off + j < cs.length := by omega
        have := (hob (off + j) cs[off + j] us[off + j] (List.getElem?_eq_getElem hlt2) (Array.getElem?_eq_getElem hlt)).2
        simpa [Array.getD, hlt] using this
      · rw [List.getElem?_take] at hd'
        split at hd'
        · rename_i hlt
          rw [List.getElem?_drop] at hd'
          rw [List.getElem?_map, List.getElem?_range hlt] at huj
          cases huj
          have hlt2 : off + j < us.size := by omega
          refine (hob (off + j) d' _ hd' ?_).1
          simp [Array.getD, hlt2]
        · cases hd'
    · cases hr

def rvRun (tmps : Array Value) : ResultVar → Sem Value
  | .tmp t => pure (tmps.getD t undef)
  | .cell a t => do loadVar t (← asAddr (tmps.getD a undef))

theorem results_eq (fn : Func) (tmps : Array Value) : results fn tmps = (do
    let vs ← fn.results.toList.mapM (rvRun tmps)
    pure (if h : vs.toArray.size = 1 then vs.toArray[0] else .tuple vs.toArray)) := by
  have ha : fn.results = fn.results.toList.toArray := by simp
  unfold results
  conv => lhs; rw [ha]
  simp only [List.mapM_toArray, map_eq_pure_bind, bind_assoc, pure_bind]
  congr 1

theorem run_results {P : Program} {fn : Func} {res : List RV} (h : resTmps P fn.results.toList = some res) {σ : Sg} {m : Gh} {w : World} (hI : Inv σ m w) {env : List (Nat × D)} {tmps : Array Value} (hE : EnvR m w env tmps)
    {ds : List D} (hd : rvDs env σ res = some ds) : ∃ v, (results fn tmps).run P w = .ok v w ∧ RepD m w (tupD ds) v := by
  have key : ∀ (l : List ResultVar) (res : List RV) (ds : List D), resTmps P l = some res → rvDs env σ res = some ds →
      ∃ vs : List Value, (l.mapM (rvRun tmps)).run P w = .ok vs w ∧ ds.length = vs.length ∧ ∀ (i : Nat) d u, ds[i]? = some d → vs[i]? = some u → RepD m w d u := by
    intro l
    induction l with
    | nil => intro res ds h1 h2; cases h1; cases h2; exact ⟨[], by simp, rfl, by simp⟩
    | cons r l ih =>
      intro res ds h1 h2
      have fin : ∀ (rv : RV) (res' : List RV) (v : Value), resTmps P l = some res' → res = rv :: res' → (rvRun tmps r).run P w = .ok v w → (∀ d, rvD env σ rv = some d → RepD m w d v) →
          ∃ vs : List Value, ((r :: l).mapM (rvRun tmps)).run P w = .ok vs w ∧ ds.length = vs.length ∧ ∀ (i : Nat) d u, ds[i]? = some d → vs[i]? = some u → RepD m w d u := by
        rintro rv res' v hres' rfl hrun hrep
        simp only [rvDs] at h2
        split at h2
        · rename_i d ds' hd hds'
          cases h2
          obtain ⟨vs, e1, e2, e3⟩ := ih res' ds' hres' hds'
          refine ⟨v :: vs, ?_, by simp [e2], fun i d' u h3 h4 => ?_⟩
          · simp only [List.mapM_cons, Sem.run_bind, hrun, e1, Result.andThen_ok, Sem.run_pure]
          · cases i with
            | zero => simp at h3 h4; subst h3 h4; exact hrep _ hd
            | succ i => simp at h3 h4; exact e3 i d' u h3 h4
        · cases h2
      cases r with
      | tmp t =>
        simp only [resTmps] at h1
        split at h1
        · rename_i l' hl'
          cases h1
          exact fin _ l' (tmps.getD t undef) hl' rfl rfl fun d hd => by cases hd; exact hE t
        · cases h1
      | cell a t =>
        simp only [resTmps] at h1
        split at h1
        · rename_i sh l' hsh hl'
          cases h1
          obtain ⟨i, dd, hi, hu, hq, _⟩ := tsh_spec hsh
          have hEa := hE a
          simp only [rvDs, rvD] at h2
          generalize hla : look env a = la at h2 hEa
          generalize htv : tmps.getD a undef = tv at hEa
          cases hEa with
          | ptr o off b hb =>
            dsimp only at h2
            cases hob : σ.objs[o]? with
            | none => simp [hob] at h2
            | some ob =>
              cases ob with
              | map es => simp [hob] at h2
              | iter _ _ _ => simp [hob] at h2
              | known _ _ => simp [hob] at h2
              | cells cs =>
                rw [hob] at h2
                dsimp only at h2
                split at h2
                · rename_i d1 ds1 hd1 hds1
                  obtain ⟨v, hv1, hv2⟩ := run_loadVar_ptr (P := P) hI hu hi hq hb hob hd1
                  refine fin (.cell a sh) l' v hl' rfl ?_ fun d hd => ?_
                  · simp only [rvRun, htv, asAddr, Sem.run_bind, Sem.run_pure, Result.andThen_ok, hv1]
                  · simp only [rvD, hla, hob] at hd
                    rw [hd1] at hd
                    cases hd
                    exact hv2
                · cases h2
          | _ => simp at h2
        · cases h1
  obtain ⟨vs, e1, e2, e3⟩ := key _ _ _ h hd
  refine ⟨tupV vs, ?_, tup_rep e2 e3⟩
  rw [results_eq]
  simp only [Sem.run_bind, e1, Result.andThen_ok, Sem.run_pure]
  cases vs with
  | nil => simp [tupV]
  | cons t ts =>
    cases ts with
    | nil => simp [tupV]
    | cons t' ts => simp [tupV]

/-! What is known of all that is read: ranges, lengths. -/
mutual
def V.fits : V → Prop
  | .int k n => inR k n
  | .str s => s.length ≤ maxLen
  | .sl _ _ xs => xs.length ≤ maxLen ∧ V.fitsL xs
  | .agg cs => V.fitsL cs
  | .iface _ v => v.fits
  | _ => True
def V.fitsL : List V → Prop
  | [] => True
  | x :: xs => x.fits ∧ V.fitsL xs
end
def D.fits : D → Prop
  | .v x => x.fits
  | .tsl _ _ xs => xs.length ≤ maxLen ∧ V.fitsL xs
  | _ => True
def D.fitsL : List D → Prop
  | [] => True
  | d :: ds => d.fits ∧ D.fitsL ds

theorem V.fitsL_iff {xs : List V} : V.fitsL xs ↔ ∀ x ∈ xs, x.fits := by
  induction xs with
  | nil => simp [V.fitsL]
  | cons x xs ih => simp [V.fitsL, ih]
theorem V.fits_of_cells {x : V} (h : ∀ c ∈ x.cells, c.fits) : x.fits := by
  cases x with
  | agg cs => simp only [V.fits]; exact V.fitsL_iff.2 h
  | _ => exact h _ (by simp [V.cells])

theorem RepV.fits {w : World} {F : Nat → Nat → Prop} {x : V} {u : Value} (h : RepV w F x u) : x.fits := by
  induction h with
  | int k n h => exact h
  | str s h => exact h
  | slNil sh full a => simp [V.fits, V.fitsL]
  | sl sh full xs b off cap us hs h1 hl hm hf hc hr ih =>
    refine ⟨Nat.le_trans hl hm, V.fitsL_iff.2 fun x hx => V.fits_of_cells fun c hcc => ?_⟩
    obtain ⟨i, hi⟩ := List.mem_iff_getElem?.1 (List.mem_flatMap.2 ⟨x, hx, hcc⟩ : c ∈ V.flat xs)
    exact ih i c hi
  | agg cs us hl h1 hr ih =>
    refine V.fitsL_iff.2 fun c hc => ?_
    obtain ⟨i, hi⟩ := List.mem_iff_getElem?.1 hc
    have hlt : i < us.length := by rw [← hl]; exact (List.getElem?_eq_some_iff.1 hi).1
    exact ih i c us[i] hi (List.getElem?_eq_getElem hlt)
  | iface t v u _ ih => exact ih
  | _ => trivial

theorem RepD.fits {m : Gh} {w : World} {d : D} {u : Value} (h : RepD m w d u) : d.fits := by
  cases h with
  | v x u hx => exact hx.fits
  | tsl t sh xs a len cap tk hv => exact hv.fits
  | _ => trivial

theorem fitsL_of {m : Gh} {w : World} : ∀ {ds : List D} {us : List Value}, ds.length = us.length → (∀ (i : Nat) d u, ds[i]? = some d → us[i]? = some u → RepD m w d u) → D.fitsL ds
  | [], _, _, _ => trivial
  | d :: ds, [], h, _ => by simp at h
  | d :: ds, u :: us, h, hr => ⟨(hr 0 d u rfl rfl).fits, fitsL_of (by simpa using h) fun i d' u' h1 h2 => hr (i + 1) d' u' (by simpa using h1) (by simpa using h2)⟩

theorem acalls_fit {P : Program} {f : Nat} {fn : Func} {keep ms : List Nat} {af : AFun} {ds : List D} {σ : Sg} {R : D → Sg → Prop} (hf : P.funcs[f]? = some fn) (hn : (fn.name == "runtime.NumGoroutine") = false) (hc : compF P keep fn ms = some af)
    (hk : paramsIn keep ds.length = true) (hl : ds.length ≤ af.nt) (h : D.fitsL ds → W P σ af.body (Post σ af.res R) ⟨envOf 0 ds, σ⟩) : ACalls P f ds σ R := by
  unfold compF at hc
  split at hc
  · rename_i c res hb hres
    split at hc
    · rename_i x hx
      cases hc
      refine ⟨⟨fn, hf, by rw [hb]; rfl, hn⟩, fun m w us hI hlen hr => ?_⟩
      replace h := h (fitsL_of hlen hr)
      refine calls_of_wp hf hb ?_
      have hsz : (us.toArray ++ Array.replicate (fn.ntmps - us.toArray.size) undef).size = fn.ntmps := by simp at hl ⊢; omega
      have hE : EnvR m w (envOf 0 ds) (us.toArray ++ Array.replicate (fn.ntmps - us.toArray.size) undef) := by
        intro n
        rw [look_envOf, if_pos (Nat.zero_le _), Nat.sub_zero]
        rcases Nat.lt_or_ge n ds.length with hlt | hge
        · have h1 : ds[n]? = some ds[n] := List.getElem?_eq_getElem hlt
          have h2 : us[n]? = some us[n] := List.getElem?_eq_getElem (by omega)
          have h3 : (us.toArray ++ Array.replicate (fn.ntmps - us.toArray.size) undef).getD n undef = us[n] := by
            rw [Array.getD_eq_getD_getElem?, Array.getElem?_append_left (by simp; omega)]
            simp [h2]
          rw [h3, List.getD_eq_getElem?_getD, h1]
          exact hr n _ _ h1 h2
        · rw [List.getD_eq_getElem?_getD, List.getElem?_eq_none hge]
          exact .junk _
      have hdom : ∀ n, n ∉ keep → look (envOf 0 ds) n = .junk := by
        intro n hnk
        rw [look_envOf, if_pos (Nat.zero_le _), Nat.sub_zero]
        rcases Nat.lt_or_ge n ds.length with hlt | hge
        · have := List.all_eq_true.1 hk n (List.mem_range.2 hlt)
          exact (hnk (by simpa using this)).elim
        · rw [List.getD_eq_getElem?_getD, List.getElem?_eq_none hge]
          rfl
      refine wp_mono (W_sound (keep := keep) (m0 := m) (w0 := w) hI c x hx _ ⟨envOf 0 ds, σ⟩ m w { tmps := us.toArray ++ Array.replicate (fn.ntmps - us.toArray.size) undef, defers := [] } (.refl m w) hI hE hsz rfl hdom h) fun e a' w' he => ?_
      obtain ⟨hdf', hsz', e', st', m', rfl, hQ, hI', hE', hX', _⟩ := he
      have fin : PostR σ res R st' →
          a'.defers = [] ∧ ∃ v, (results fn a'.tmps).run P w' = .ok v w' ∧ ∃ v_1 r σ' m'_1, Ending.returned v = Ending.returned v_1 ∧ R r σ' ∧ Inv σ' m'_1 w' ∧ Ext m w m'_1 w' ∧ RepD m'_1 w' r v_1 := by
        intro hP
        unfold PostR at hP
        split at hP
        · rename_i ds' hds'
          obtain ⟨r', σ', hweak, hR⟩ := hP
          obtain ⟨v, hv1, hv2⟩ := run_results (P := P) hres hI' hE' hds'
          obtain ⟨m'', hI'', hR'', hX''⟩ := hweak m m' w w' v hI hX' hI' hv2
          exact ⟨hdf', v, hv1, v, r', σ', m'', rfl, hR, hI'', hX'', hR''⟩
        · exact hP.elim
      cases e' with
      | exit id => exact hQ.elim
      | normal => exact fin hQ
      | ret => exact fin hQ
    · cases hc
  · cases hc

theorem acalls_of_W {P : Program} {f : Nat} {fn : Func} {keep ms : List Nat} {af : AFun} {ds : List D} {σ : Sg} {R : D → Sg → Prop} (hf : P.funcs[f]? = some fn) (hn : (fn.name == "runtime.NumGoroutine") = false) (hc : compF P keep fn ms = some af)
    (hk : paramsIn keep ds.length = true) (hl : ds.length ≤ af.nt) (h : W P σ af.body (Post σ af.res R) ⟨envOf 0 ds, σ⟩) : ACalls P f ds σ R :=
  acalls_fit hf hn hc hk hl fun _ => h

/-! ### Forgetting -/

mutual
def D.low (n k : Nat) : D → Prop
  | .v _ => True
  | .ptr o _ => o < n
  | .imm _ _ _ => True
  | .tsl t _ _ => t < k
  | .agg cs => D.lows n k cs
  | .fn _ cs => D.lows n k cs
  | .bfn _ d => D.low n k d
  | .iface _ d => D.low n k d
  | .tup cs => D.lows n k cs
  | .map o => o < n
  | .msl o _ _ _ _ => o < n
  | .junk => True
def D.lows (n k : Nat) : List D → Prop
  | [] => True
  | d :: ds => D.low n k d ∧ D.lows n k ds
end

def Ob.low (n k : Nat) : Ob → Prop
  | .cells cs => D.lows n k cs
  | .map es => ∀ e ∈ es, D.low n k e.2
  | .iter none _ _ => True
  | .iter (some o) _ _ => o < n
  | .known _ cs => D.lows n k cs

theorem D.lows_get {n k : Nat} {ds : List D} : D.lows n k ds ↔ ∀ d ∈ ds, d.low n k := by
  induction ds with
  | nil => simp [D.lows]
  | cons d ds ih => simp [D.lows, ih]

def Gh.take (m : Gh) (n k : Nat) : Gh := ⟨m.objs.take n, m.toks.take k⟩

theorem Gh.take_mut {m : Gh} {n k b off : Nat} (h : (m.take n k).mut b off) : m.mut b off := by
  rcases h with h | ⟨tk, htk, h1, h2⟩
  · exact .inl (Gh.mem_objb.2 (List.mem_of_mem_take (Gh.mem_objb.1 h)))
  · exact .inr ⟨tk, List.mem_of_mem_take htk, h1, h2⟩

theorem Gh.take_ownb {m : Gh} {n k b : Nat} (h : b ∈ (m.take n k).ownb) : b ∈ m.ownb := by
  obtain ⟨tk, htk, h1⟩ := Gh.mem_ownb.1 h
  exact Gh.mem_ownb.2 ⟨tk, List.mem_of_mem_take htk, h1⟩

theorem Gh.take_blocks {m : Gh} {n k b : Nat} (h : b ∈ (m.take n k).blocks) : b ∈ m.blocks := by
  rcases List.mem_append.1 h with h | h
  · exact List.mem_append.2 (.inl (Gh.mem_objb.2 (List.mem_of_mem_take (Gh.mem_objb.1 h))))
  · exact List.mem_append.2 (.inr (Gh.take_ownb h))

theorem fz_take {m : Gh} {w : World} {n k : Nat} : Kp w (Fz m w) w (Fz (m.take n k) w) :=
  ⟨fun b off h => ⟨rfl, h.1, fun hx => h.2 (Gh.take_mut hx)⟩, fun _ _ => rfl⟩

theorem Gh.at_take {m : Gh} {n k o b : Nat} (h : m.at o b) (ho : o < n) : (m.take n k).at o b := by
  rcases h with h | h
  · exact .inl (by simp [Gh.take, List.getElem?_take, ho, h])
  · exact .inr (by simp [Gh.take, List.getElem?_take, ho, h])
theorem Gh.at_lt {m : Gh} {o b : Nat} (h : m.at o b) : o < m.objs.length := by
  rcases h with h | h <;> exact (List.getElem?_eq_some_iff.1 h).1

theorem RepD.take {m : Gh} {w : World} {n k : Nat} {d : D} {u : Value} (h : RepD m w d u) : d.low n k → RepD (m.take n k) w d u := by
  induction h with
  | v x u hx => exact fun _ => .v x u (hx.mono fz_take)
  | ptr o off b hb => intro hd; simp only [D.low] at hd; exact .ptr o off b (Gh.at_take hb hd)
  | imm sh x off b base us hs h1 hc hr => exact fun _ => .imm sh x off b base us hs h1 (fun i hi => ⟨(hc i hi).1, (fz_take.c b _ (hc i hi).2).2⟩) (fun i c hi => (hr i c hi).mono fz_take)
  | tsl t sh xs a len cap tk hv ht hsh hle heq => intro hd; simp only [D.low] at hd; exact .tsl t sh xs a len cap tk (hv.mono fz_take) (by simp [Gh.take, List.getElem?_take, hd, ht]) hsh hle heq
  | agg cs us hl h1 _ ih => intro hd; simp only [D.low] at hd; exact .agg cs us hl h1 fun i c u hc hu => ih i c u hc hu (D.lows_get.1 hd c (List.mem_of_getElem? hc))
  | fn f caps us hl _ ih => intro hd; simp only [D.low] at hd; exact .fn f caps us hl fun i c u hc hu => ih i c u hc hu (D.lows_get.1 hd c (List.mem_of_getElem? hc))
  | bfn f d u _ ih => intro hd; simp only [D.low] at hd; exact .bfn f d u (ih hd)
  | iface t d u _ ih => intro hd; simp only [D.low] at hd; exact .iface t d u (ih hd)
  | tup ds us hl _ ih => intro hd; simp only [D.low] at hd; exact .tup ds us hl fun i c u hc hu => ih i c u hc hu (D.lows_get.1 hd c (List.mem_of_getElem? hc))
  | map o b hb => intro hd; simp only [D.low] at hd; exact .map o b (Gh.at_take hb hd)
  | msl o off len sh cp a cap ho hb hl hm hc => intro hd; simp only [D.low] at hd; exact .msl o off len sh cp a cap (by simp [Gh.take]; omega) (hb.imp (fun ⟨b, e, k⟩ => ⟨b, e, Gh.at_take k hd⟩) id) hl hm hc
  | junk u => exact fun _ => .junk u

/-- What is read leads only to what is there. -/
theorem RepD.is_low {m : Gh} {w : World} {d : D} {u : Value} (h : RepD m w d u) : d.low m.objs.length m.toks.length := by
  induction h with
  | ptr o off b hb => exact Gh.at_lt hb
  | tsl t sh xs a len cap tk hv ht _ _ _ => exact (List.getElem?_eq_some_iff.1 ht).1
  | map o b hb => exact Gh.at_lt hb
  | msl o off len sh cp a cap ho => exact ho
  | agg cs us hl h1 _ ih =>
    simp only [D.low]
    refine D.lows_get.2 fun d hd => ?_
    obtain ⟨i, hi⟩ := List.mem_iff_getElem?.1 hd
    have hlt : i < us.length := by rw [← hl]; exact (List.getElem?_eq_some_iff.1 hi).1
    exact ih i d us[i] hi (List.getElem?_eq_getElem hlt)
  | fn f cs us hl _ ih =>
    simp only [D.low]
    refine D.lows_get.2 fun d hd => ?_
    obtain ⟨i, hi⟩ := List.mem_iff_getElem?.1 hd
    have hlt : i < us.length := by rw [← hl]; exact (List.getElem?_eq_some_iff.1 hi).1
    exact ih i d us[i] hi (List.getElem?_eq_getElem hlt)
  | tup cs us hl _ ih =>
    simp only [D.low]
    refine D.lows_get.2 fun d hd => ?_
    obtain ⟨i, hi⟩ := List.mem_iff_getElem?.1 hd
    have hlt : i < us.length := by rw [← hl]; exact (List.getElem?_eq_some_iff.1 hi).1
    exact ih i d us[i] hi (List.getElem?_eq_getElem hlt)
  | bfn f d u _ ih => simp only [D.low]; exact ih
  | iface t d u _ ih => simp only [D.low]; exact ih
  | _ => trivial

mutual
theorem D.low_mono {n k n' k' : Nat} (hn : n ≤ n') (hk : k ≤ k') : ∀ (d : D), d.low n k → d.low n' k'
  | .v _, _ => trivial
  | .ptr o _, h => Nat.lt_of_lt_of_le h hn
  | .imm _ _ _, _ => trivial
  | .tsl t _ _, h => Nat.lt_of_lt_of_le h hk
  | .agg cs, h => D.lows_mono hn hk cs h
  | .fn _ cs, h => D.lows_mono hn hk cs h
  | .bfn _ d, h => D.low_mono hn hk d h
  | .iface _ d, h => D.low_mono hn hk d h
  | .tup cs, h => D.lows_mono hn hk cs h
  | .map o, h => Nat.lt_of_lt_of_le h hn
  | .msl o _ _ _ _, h => Nat.lt_of_lt_of_le h hn
  | .junk, _ => trivial
theorem D.lows_mono {n k n' k' : Nat} (hn : n ≤ n') (hk : k ≤ k') : ∀ (ds : List D), D.lows n k ds → D.lows n' k' ds
  | [], _ => trivial
  | d :: ds, h => ⟨D.low_mono hn hk d h.1, D.lows_mono hn hk ds h.2⟩
end

theorem Ob.low_mono {n k n' k' : Nat} (hn : n ≤ n') (hk : k ≤ k') {ob : Ob} (h : ob.low n k) : ob.low n' k' := by
  cases ob with
  | cells cs => exact D.lows_mono hn hk cs h
  | map es => exact fun e he => D.low_mono hn hk e.2 (h e he)
  | iter mo _ _ =>
    cases mo with
    | none => trivial
    | some o => exact Nat.lt_of_lt_of_le h hn
  | known b cs => exact D.lows_mono hn hk cs h

theorem Inv.ob_low {σ : Sg} {m : Gh} {w : World} (h : Inv σ m w) {ob : Ob} (hob : ob ∈ σ.objs) : ob.low σ.objs.length σ.toks.length := by
  obtain ⟨o, ho⟩ := List.mem_iff_getElem?.1 hob
  have hlt : o < m.objs.length := by rw [h.lobj]; exact (List.getElem?_eq_some_iff.1 ho).1
  rw [← h.lobj, ← h.tok_len]
  cases ob with
  | iter mo since seen =>
    obtain ⟨x, hx⟩ : ∃ x, m.objs[o]? = some x := ⟨_, List.getElem?_eq_getElem hlt⟩
    cases x with
    | none => have := h.gone o hx; rw [ho] at this; cases this
    | some b =>
    cases mo with
    | none => trivial
    | some o' =>
      obtain ⟨bm, h1, _⟩ := h.ob o _ b ho hx
      rcases h1 with h1 | h1 <;> exact (List.getElem?_eq_some_iff.1 h1).1
  | map es =>
    intro e he
    obtain ⟨x, hx⟩ : ∃ x, m.objs[o]? = some x := ⟨_, List.getElem?_eq_getElem hlt⟩
    cases x with
    | none => have := h.gone o hx; rw [ho] at this; cases this
    | some b =>
    obtain ⟨ms, clock, h1, h2, h3, _⟩ := h.ob o _ b ho hx
    obtain ⟨i, hi⟩ := List.mem_iff_getElem?.1 he
    have hli : i < ms.size := by rw [h2]; exact (List.getElem?_eq_some_iff.1 hi).1
    exact (h3 i e ms[i] hi (Array.getElem?_eq_getElem hli)).2.is_low
  | cells cs =>
    by_cases hne : Ob.cells cs = .cells []
    · cases hne; trivial
    obtain ⟨x, hx⟩ : ∃ x, m.objs[o]? = some x := ⟨_, List.getElem?_eq_getElem hlt⟩
    cases x with
    | none => have := h.gone o hx; rw [ho] at this; exact absurd (Option.some.inj this) hne
    | some b =>
    obtain ⟨us, ty, h1, h2, h3, _⟩ := h.ob o _ b ho hx
    refine D.lows_get.2 fun d hd => ?_
    obtain ⟨i, hi⟩ := List.mem_iff_getElem?.1 hd
    have hli : i < us.size := Nat.lt_of_lt_of_le (List.getElem?_eq_some_iff.1 hi).1 h2
    exact (h3 i d us[i] hi (Array.getElem?_eq_getElem hli)).1.is_low
  | known b cs =>
    obtain ⟨_, us, ty, h1, h2, h3⟩ := h.known ho
    refine D.lows_get.2 fun d hd => ?_
    obtain ⟨i, hi⟩ := List.mem_iff_getElem?.1 hd
    have hli : i < us.size := Nat.lt_of_lt_of_le (List.getElem?_eq_some_iff.1 hi).1 h2
    exact (h3 i d us[i] hi (Array.getElem?_eq_getElem hli)).1.is_low

theorem Inv.take {σ : Sg} {m : Gh} {w : World} (h : Inv σ m w) {n k : Nat} (hb : ∀ ob ∈ σ.objs.take n, ob.low n k) : Inv ⟨σ.objs.take n, σ.toks.take k⟩ (m.take n k) w := by
  refine ⟨by simp [Gh.take, h.lobj], by simp [Gh.take, ← h.ltok, List.map_take], ?_, fun o ob b ho hbo => ?_, fun o ho => ?_, fun tk htk => h.tk tk (List.mem_of_mem_take htk), fun p hp => ⟨(h.glob p hp).1, fun hx => (h.glob p hp).2 (Gh.take_blocks hx)⟩⟩
  · have h' := List.nodup_append.1 h.nodup
    refine List.nodup_append.2 ⟨h'.1.sublist ?_, h'.2.1.sublist ?_, fun a ha c hc => h'.2.2 a (Gh.mem_objb.2 (List.mem_of_mem_take (Gh.mem_objb.1 ha))) c (Gh.take_ownb hc)⟩
    · exact (List.take_sublist _ _).filterMap _
    · exact (List.take_sublist _ _).filterMap _
  · have hob := hb ob (List.mem_of_getElem? ho)
    simp only [List.getElem?_take] at ho
    simp only [Gh.take, List.getElem?_take] at hbo
    split at ho
    · rename_i hlt
      rw [if_pos hlt] at hbo
      have hr := h.ob o ob b ho hbo
      cases ob with
      | cells cs =>
        obtain ⟨us, ty, h1, h2, h3, h4⟩ := hr
        exact ⟨us, ty, h1, h2, fun i d u hd hu => ⟨(h3 i d u hd hu).1.take (D.lows_get.1 hob d (List.mem_of_getElem? hd)), (h3 i d u hd hu).2⟩, h4⟩
      | map es =>
        obtain ⟨us, ty, h1, h2, h3, h4⟩ := hr
        exact ⟨us, ty, h1, h2, fun i d u hd hu => ⟨(h3 i d u hd hu).1.mono fz_take, (h3 i d u hd hu).2.take (hob d (List.mem_of_getElem? hd))⟩, h4⟩
      | iter mo since seen =>
        cases mo with
        | none => exact hr
        | some o' =>
          obtain ⟨bm, h1, h2⟩ := hr
          have ho' : o' < n := hob
          refine ⟨bm, ?_, h2⟩
          rcases h1 with h1 | h1
          · exact .inl (by simp only [Gh.take, List.getElem?_take, if_pos ho']; exact h1)
          · exact .inr (by simp only [Gh.take, List.getElem?_take, if_pos ho']; exact h1)
      | known b' cs =>
        obtain ⟨h0, us, ty, h1, h2, h3, h4⟩ := hr
        exact ⟨h0, us, ty, h1, h2, fun i d u hd hu => ⟨(h3 i d u hd hu).1.take (D.lows_get.1 hob d (List.mem_of_getElem? hd)), (h3 i d u hd hu).2⟩, h4⟩
    · cases ho
  · simp only [Gh.take, List.getElem?_take] at ho
    split at ho
    · rename_i hlt
      simp only [List.getElem?_take, if_pos hlt]
      exact h.gone o ho
    · cases ho

theorem Ext.take {m0 m : Gh} {w0 w : World} (h : Ext m0 w0 m w) {n k : Nat} (hn : m0.objs.length ≤ n) (hk : m0.toks.length ≤ k) : Ext m0 w0 (m.take n k) w := by
  refine ⟨h.os, h.tape, h.output, h.size, fun o b hb => ?_, fun t tk ht => ?_, fun b off f => ⟨(h.froz b off f).1, fun hx => (h.froz b off f).2 (Gh.take_mut hx)⟩, fun b hb hn => ⟨(h.blocks b hb hn).1, fun hx => (h.blocks b hb hn).2 (Gh.take_blocks hx)⟩⟩
  · have hlt : o < n := Nat.lt_of_lt_of_le (List.getElem?_eq_some_iff.1 hb).1 hn
    simp only [Gh.take, List.getElem?_take, if_pos hlt]
    exact h.objs o b hb
  · obtain ⟨tk', h1, h2, h3, h4⟩ := h.toks t tk ht
    have hlt : t < k := Nat.lt_of_lt_of_le (List.getElem?_eq_some_iff.1 ht).1 hk
    exact ⟨tk', by simp only [Gh.take, List.getElem?_take, if_pos hlt]; exact h1, h2, h3, h4⟩

/-- One value tells less than another. -/
def D.Le (d d' : D) : Prop := ∀ (m : Gh) (w : World) (u : Value), RepD m w d u → RepD m w d' u
theorem D.Le.refl (d : D) : D.Le d d := fun _ _ _ h => h
theorem D.Le.trans {a b c : D} (h : D.Le a b) (k : D.Le b c) : D.Le a c := fun m w u r => k m w u (h m w u r)
theorem D.Le.junk (d : D) : D.Le d .junk := fun _ _ u _ => .junk u

/-- The second environment tells less, and leads only to the first n objects and the first k rooms. -/
def EnvOk (n k : Nat) (env : List (Nat × D)) : List (Nat × D) → Prop
  | [] => True
  | (i, d) :: r => D.Le (look env i) d ∧ d.low n k ∧ (look env i = .junk → d = .junk) ∧ EnvOk n k env r

theorem EnvOk.spec {n k : Nat} {env : List (Nat × D)} : ∀ {env' : List (Nat × D)}, EnvOk n k env env' → ∀ i, (look env i = .junk → look env' i = .junk) ∧ D.Le (look env i) (look env' i) ∧ (look env' i).low n k
  | [], _, i => ⟨fun _ => rfl, .junk _, trivial⟩
  | (j, d) :: r, h, i => by
    obtain ⟨h1, h2, h3, h4⟩ := h
    simp only [look]
    by_cases hij : j = i
    · subst hij; simp only [if_true]; exact ⟨h3, h1, h2⟩
    · simp only [hij, if_false]; exact h4.spec i

theorem Weak.drop {B : Sg} {env env' : List (Nat × D)} {os xs : List Ob} {ts ts' : List Nat} (hos : B.objs.length ≤ os.length) (hts : B.toks.length ≤ ts.length)
    (hob : ∀ ob ∈ os, ob ∈ B.objs ∨ ob.low os.length ts.length) (he : EnvOk os.length ts.length env env') : Weak B ⟨env, ⟨os ++ xs, ts ++ ts'⟩⟩ ⟨env', ⟨os, ts⟩⟩ := by
  refine ⟨fun n => (he.spec n).1, fun m0 m w0 w tmps hB hX hI hE => ?_⟩
  have hI' := hI.take (n := os.length) (k := ts.length) (by
    simp only [List.take_left]
    intro ob hm
    rcases hob ob hm with h | h
    · exact Ob.low_mono hos hts (hB.ob_low h)
    · exact h)
  simp only [List.take_left] at hI'
  refine ⟨_, hI', fun n => ?_, hX.take (by rw [hB.lobj]; exact hos) (by rw [hB.tok_len]; exact hts)⟩
  obtain ⟨_, h1, h2⟩ := he.spec n
  exact (h1 m w _ (hE n)).take h2

theorem WeakR.drop {B : Sg} {r r' : D} {os xs : List Ob} {ts ts' : List Nat} (hos : B.objs.length ≤ os.length) (hts : B.toks.length ≤ ts.length)
    (hob : ∀ ob ∈ os, ob ∈ B.objs ∨ ob.low os.length ts.length) (hr : D.Le r r') (hb : r'.low os.length ts.length) : WeakR B r ⟨os ++ xs, ts ++ ts'⟩ r' ⟨os, ts⟩ := by
  intro m0 m w0 w u hB hX hI hR
  have hI' := hI.take (n := os.length) (k := ts.length) (by
    simp only [List.take_left]
    intro ob hm
    rcases hob ob hm with h | h
    · exact Ob.low_mono hos hts (hB.ob_low h)
    · exact h)
  simp only [List.take_left] at hI'
  exact ⟨_, hI', (hr m w u hR).take hb, hX.take (by rw [hB.lobj]; exact hos) (by rw [hB.tok_len]; exact hts)⟩

/-- A function that leaves the memory of its caller alone. -/
theorem WeakR.all {B : Sg} {r r' : D} {xs : List Ob} {ts : List Nat} (hr : D.Le r r') (hb : r'.low B.objs.length B.toks.length) : WeakR B r ⟨B.objs ++ xs, B.toks ++ ts⟩ r' B :=
  WeakR.drop (Nat.le_refl _) (Nat.le_refl _) (fun _ h => .inl h) hr hb

end Go.Abs
