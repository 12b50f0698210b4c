/-
  What is done with both heaps. (Own work.)
-/
import Derived.Test.YtiomciifhkbklaaH22
set_option linter.unusedVariables false
set_option linter.unusedSimpArgs false
set_option maxHeartbeats 2000000
namespace Go.Proofs.Ytiomciifhkbklaa
open Go Go.Abs

structure NeS where
  i : Nat
  out : List Wd
theorem k_Near {σ : Sg} {m oT : Nat} {half runs : Int} {os : List Ho} {dT : D} {rs : List Rr} {f : Bool} {ws : List Wd} (h : RH σ m oT half os runs dT rs) (hl : os.length ≤ 100000) (hwl : ws.length ≤ 1000000) :
    ACalls Try.prog 15 [.v (.sl (some 2) f (ws.map wv)), .ptr m 0] σ fun r σ' => (∃ ws' : List Wd, r = .v (.sl (some 2) false (ws'.map wv)) ∧ ws'.length = ws.length) ∧ σ' = σ := by
  have hml := (List.getElem?_eq_some_iff.1 h.cell).1
  have hc := h.cell
  have hwv : ∀ (σ' : Sg) (K : V → Prop), WLen .sl dT σ' K = K (.int .i64 os.length) := fun σ' K => wlen_VR h.top
  refine acalls_fit Try.func15 (by kernel_rfl) c15 rfl (by simp [a15]) fun hf => ?_
  clear hf
  simp -implicitDefEqProofs (maxSteps := 2000000) (disch := omega) [-getElem?_pos, a15]
  refine W_loop (α := NeS) ⟨0, []⟩ (fun x => ws.length - x.i) (fun x => ⟨[(0, .v (.sl (some 2) f (ws.map wv))), (1, .ptr m 0), (5, .tsl σ.toks.length (some 2) (x.out.map wv)), (6, .v (.int .i64 x.i))], ⟨σ.objs, σ.toks ++ [x.i]⟩⟩)
    (fun x => x.i ≤ ws.length ∧ x.out.length = x.i) (.tok (sh := some 2) (i := 5) (by simp) (by simp)) ⟨Nat.zero_le _, rfl⟩ fun ⟨i, out⟩ ⟨hi, hol⟩ => ?_
  dsimp only at hi hol ⊢
  simp -implicitDefEqProofs (maxSteps := 2000000) (disch := omega) [-getElem?_pos]
  refine .mk (fun hlt => ?_) fun hlt => ?_
  · have hlt' : i < ws.length := by omega
    obtain ⟨x, hx⟩ : ∃ x, ws[i]? = some x := ⟨_, List.getElem?_eq_getElem hlt'⟩
    obtain ⟨p, v⟩ := x
    cases p with
    | false =>
      simp -implicitDefEqProofs (maxSteps := 2000000) (disch := omega) [-getElem?_pos, hx, hol, mkAgg, allV]
      exact ⟨hlt', by omega, ⟨i + 1, out ++ [⟨false, v⟩]⟩, ⟨hlt', by simp [hol]⟩, by dsimp only; omega, .dropO rfl (by simp) (by simp) (by simp [hml])⟩
    | true =>
      by_cases h0 : os.length = 0
      · simp -implicitDefEqProofs (maxSteps := 2000000) (disch := omega) [-getElem?_pos, hx, hol, hc, List.getElem?_append_left, hwv, h0, mkAgg, allV]
        exact ⟨hlt', by omega, ⟨i + 1, out ++ [⟨false, v⟩]⟩, ⟨hlt', by simp [hol]⟩, by dsimp only; omega, .dropO rfl (by simp) (by simp) (by simp [hml])⟩
      · have hpk := fun σ => k_Pick (c := v) (n := os.length) (σ := σ) (by omega) (by omega)
        simp -implicitDefEqProofs (maxSteps := 2000000) (disch := omega) [-getElem?_pos, hx, hol, hc, List.getElem?_append_left, hwv, h0, mkAgg, allV]
        refine ⟨hlt', ?_⟩
        refine (hpk _).then fun r hq => ?_
        obtain ⟨q, hq, rfl⟩ := hq
        obtain ⟨y, hy⟩ : ∃ y, os[q]? = some y := ⟨_, List.getElem?_eq_getElem hq⟩
        obtain ⟨c, cs, r, rfl, h2, h3, h4, h5, h6, h7, h8, h9⟩ := h.top.row hy
        have hTl := (List.getElem?_eq_some_iff.1 h2).1
        simp -implicitDefEqProofs (maxSteps := 2000000) (disch := omega) [-getElem?_pos, h2, h6, List.getElem?_append_left, hol, mkAgg, allV]
        exact ⟨hq, by omega, ⟨i + 1, out ++ [⟨true, offs os q⟩]⟩, ⟨hlt', by simp [hol]⟩, by dsimp only; omega, .dropO rfl (by simp) (by simp) (by simp [hml])⟩
  · have hie : i = ws.length := by omega
    simp -implicitDefEqProofs (maxSteps := 2000000) (disch := omega) [-getElem?_pos]
    exact .fin (.v (.sl (some 2) false (out.map wv))) ⟨⟨out, rfl, by omega⟩, rfl⟩ .tsl
def getW (os : List Ho) (place i : Int) : Option Wd := match idxAt os place with
  | some k => if 0 ≤ i then (wOf os k)[i.toNat]? else none
  | none => none
def getR (o : Option Wd) : D := match o with
  | some w => .tup [.v (wv w), .v .inil]
  | none => .tup [.v (word false 0), .v argErr]
theorem k_Get {σ : Sg} {hp oL oH : Nat} {half runs place I : Int} {os : List Ho} {dl dh : D} (h : Hp σ hp oL oH half os runs dl dh) (ok : OkO os) :
    ACalls Try.prog 23 [.ptr hp 0, .v (.int .i64 place), .v (.int .i64 I)] σ fun r σ' => r = getR (getW os place I) ∧ σ' = σ := by
  have hs := fun (xs : List Ob) => k_Size (place := place) (h.on (σ' := ⟨σ.objs ++ xs, σ.toks⟩) on_app) ok
  have hc := h.cell
  have hlw := wds_len os
  have hsm := ok.small
  have hvw := h.vw
  have hcl := (List.getElem?_eq_some_iff.1 hc).1
  refine acalls_fit Try.func23 (by kernel_rfl) c23 rfl (by simp [a23]) fun hf => ?_
  clear hf
  cases hi : idxAt os place with
  | none =>
    simp only [sizeO_none hi] at hs
    rw [show getW os place I = none by simp [getW, hi]]
    unfold getR
    simp -implicitDefEqProofs (maxSteps := 2000000) (disch := omega) [-getElem?_pos, a23]
    refine (hs _).then fun r hr => ?_
    subst hr
    simp -implicitDefEqProofs (maxSteps := 2000000) (disch := omega) [-getElem?_pos]
    exact .fin _ ⟨rfl, rfl⟩ (.refl _)
  | some i =>
    obtain ⟨hil, hv⟩ := idxAt_iff.1 hi
    obtain ⟨o, ho⟩ : ∃ o, os[i]? = some o := ⟨_, List.getElem?_eq_getElem hil⟩
    simp only [sizeO_some hi ho] at hs
    have hwo : wOf os i = o.l := by simp [wOf, ho]
    have hks := ok.k o (List.mem_of_getElem? ho)
    have hend := offs_end ho
    have hosz : osz o = 1 + o.l.length := rfl
    subst hv
    have hg : getW os (offs os i) I = if 0 ≤ I then o.l[I.toNat]? else none := by simp [getW, hi, hwo]
    by_cases h1 : I < 0
    · rw [hg, if_neg (by omega)]
      unfold getR
      simp -implicitDefEqProofs (maxSteps := 2000000) (disch := omega) [-getElem?_pos, a23]
      refine (hs _).then fun r hr => ?_
      subst hr
      simp -implicitDefEqProofs (maxSteps := 2000000) (disch := omega) [-getElem?_pos, h1]
      exact .fin _ ⟨rfl, rfl⟩ (.refl _)
    obtain ⟨j, rfl⟩ : ∃ j : Nat, I = j := ⟨I.toNat, by omega⟩
    rw [hg, if_pos (by omega), Int.toNat_natCast]
    by_cases h2 : o.l.length ≤ j
    · rw [List.getElem?_eq_none h2]
      unfold getR
      simp -implicitDefEqProofs (maxSteps := 2000000) (disch := omega) [-getElem?_pos, a23]
      refine (hs _).then fun r hr => ?_
      subst hr
      simp -implicitDefEqProofs (maxSteps := 2000000) (disch := omega) [-getElem?_pos, h1, h2]
      exact .fin _ ⟨rfl, rfl⟩ (.refl _)
    · obtain ⟨w, hw⟩ : ∃ w, o.l[j]? = some w := ⟨_, List.getElem?_eq_getElem (by omega)⟩
      rw [hw]
      unfold getR
      have hat := wds_at ho
      generalize hws : wds os = ws at hvw hat hlw
      have hat2 : ws[offs os i + 1 + j]? = some w := by
        have : (ws.drop (offs os i))[1 + j]? = some w := by
          rw [hat, Nat.add_comm 1 j, List.getElem?_cons_succ, List.getElem?_append_left (by omega)]
          exact hw
        rw [List.getElem?_drop] at this
        rwa [Nat.add_assoc]
      have hrow := fun J => fl_row (J := J) hat2
      cases hvw with
      | nil => simp at hat
      | msl w1 w2 w3 w4 =>
      rename_i J c
      have htn : ((offs os i : Int) + 1 + j).toNat = offs os i + 1 + j := by omega
      rw [List.length_append, fl_len] at w3
      have hoLl := (List.getElem?_eq_some_iff.1 w2).1
      simp -implicitDefEqProofs (maxSteps := 2000000) (disch := omega) [-getElem?_pos, a23]
      refine (hs _).then fun r hr => ?_
      subst hr
      simp -implicitDefEqProofs (maxSteps := 2000000) (disch := omega) [-getElem?_pos, h1, h2, hc, List.getElem?_append_left, w2, htn, hrow, mkAgg, allV]
      exact ⟨by omega, by omega, by rw [fl_len]; omega, .fin _ ⟨rfl, rfl⟩ (.refl _)⟩
theorem k_SetOk {σ : Sg} {hp oL oH i j : Nat} {half runs place : Int} {os : List Ho} {dl dh : D} {w : Wd} {o : Ho} (h : Hp σ hp oL oH half os runs dl dh) (ok : OkO os) (hi : idxAt os place = some i) (ho : os[i]? = some o) (hj : j < o.l.length) (hw : fineW os w) :
    ACalls Try.prog 11 [.ptr hp 0, .v (.int .i64 place), .v (.int .i64 j), .v (wv w)] σ fun r σ' => r = .v .inil ∧ Hp σ' hp oL oH half (setO os i j w) runs dl dh ∧ Fr σ σ' (HS hp oL oH os) := by
  obtain ⟨hil, hv⟩ := idxAt_iff.1 hi
  have hs := fun (xs : List Ob) => k_Size (place := place) (h.on (σ' := ⟨σ.objs ++ xs, σ.toks⟩) on_app) ok
  rw [sizeO_some hi ho] at hs
  have hfi := fun (xs : List Ob) => k_Fine (l := [w]) (f := true) (h.on (σ' := ⟨σ.objs ++ xs, σ.toks⟩) on_app) ok
  rw [decide_eq_true (by simpa using hw)] at hfi
  have hc := h.cell
  have hsm := ok.small
  have hks := ok.k o (List.mem_of_getElem? ho)
  have hend := offs_end ho
  have hosz : osz o = 1 + o.l.length := rfl
  have hlw := wds_len os
  subst hv
  have h1 : ¬ (j : Int) < 0 := by omega
  have h2 : ¬ o.l.length ≤ j := by omega
  refine acalls_fit Try.func11 (by kernel_rfl) c11 rfl (by simp [a11]) fun hf => ?_
  clear hf
  simp -implicitDefEqProofs (maxSteps := 2000000) (disch := omega) [-getElem?_pos, a11]
  refine (hs _).then fun r hr => ?_
  subst hr
  simp -implicitDefEqProofs (maxSteps := 2000000) (disch := omega) [-getElem?_pos, h1, h2]
  refine (hfi _).then fun r hr => ?_
  subst hr
  have hset := wds_set (w := w) ho (j := j) (by omega)
  have hvw := h.vw
  have hws0 : wds os ≠ [] := wds_ne.2 (by rintro rfl; simp at hil)
  have hn1 := h.n1
  have hoLl := hvw.lt hws0
  have hnew : ∀ σ', σ'.objs[hp]? = σ.objs[hp]? → (∀ i, i ≠ oL → i < σ.objs.length → σ'.objs[i]? = σ.objs[i]?) → VW σ' oL dl (wds (setO os i j w)) → Hp σ' hp oL oH half (setO os i j w) runs dl dh := fun σ' e1 e2 e3 =>
    ⟨e1.trans hc, e3, by rw [hds_set]; exact h.vb.on fun hn => e2 oH (Ne.symm h.n3) (h.vb.lt hn), h.n1, h.n2, h.n3⟩
  generalize hws : wds os = ws at hvw hset hlw
  obtain ⟨p, v⟩ := w
  cases hvw with
  | nil => simp at hlw; omega
  | msl w1 w2 w3 w4 =>
  rename_i J c
  have hlt : offs os i + 1 + j < ws.length := by omega
  have hpr := put_row (ws := ws) (w := ⟨p, v⟩) (J := J) (i := offs os i + 1 + j) hlt
  replace hpr : List.take ((offs os i + 1 + j) * 2) (fl ws ++ J) ++ D.v (.bool p) :: D.v (.int .i64 v) :: List.drop ((offs os i + 1 + j) * 2 + 2) (fl ws ++ J) = fl (ws.set (offs os i + 1 + j) ⟨p, v⟩) ++ J := hpr
  have htn : ((offs os i : Int) + 1 + j).toNat = offs os i + 1 + j := by omega
  have hcl := (List.getElem?_eq_some_iff.1 hc).1
  simp -implicitDefEqProofs (maxSteps := 2000000) (disch := omega) [-getElem?_pos, hc, List.getElem?_append_left, List.set_append_left, w2, htn, hpr]
  refine ⟨by omega, by omega, by rw [fl_len]; omega, ⟨_, _, WeakR.refl _ _ _, rfl, hnew _ ?_ ?_ ?_, ?_⟩⟩
  · refine (List.getElem?_append_left (by simpa using hcl)).trans ?_
    exact List.getElem?_set_ne hn1
  · intro k hk hkl
    refine (List.getElem?_append_left (by simpa using hkl)).trans ?_
    exact List.getElem?_set_ne (Ne.symm hk)
  · rw [← hset]
    have := VW.msl (σ := ⟨σ.objs.set oL (Ob.cells (fl (ws.set (offs os i + 1 + j) ⟨p, v⟩) ++ J)) ++ [Ob.cells [D.v (V.bool p), D.v (V.int IntKind.i64 v)]], σ.toks⟩) (o := oL) (ws := ws.set (offs os i + 1 + j) ⟨p, v⟩) (J := J) (c := c)
      (by intro e; have := congrArg List.length e; simp at this; exact w1 this) ((List.getElem?_append_left (by simpa using hoLl)).trans (List.getElem?_set_self hoLl)) (by rw [← w3]; simp [fl_len]) w4
    rwa [List.length_set] at this
  · exact Fr.setApp (.inr (.inl ⟨rfl, by rintro rfl; simp at hil⟩))
theorem k_SetBad {σ : Sg} {hp oL oH : Nat} {half runs place I : Int} {os : List Ho} {dl dh : D} {w : Wd} (h : Hp σ hp oL oH half os runs dl dh) (ok : OkO os) (hb : ¬ ((getW os place I).isSome = true ∧ fineW os w)) :
    ACalls Try.prog 11 [.ptr hp 0, .v (.int .i64 place), .v (.int .i64 I), .v (wv w)] σ fun r σ' => r = .v argErr ∧ σ' = σ := by
  have hs := fun (xs : List Ob) => k_Size (place := place) (h.on (σ' := ⟨σ.objs ++ xs, σ.toks⟩) on_app) ok
  have hfi := fun (xs : List Ob) => k_Fine (l := [w]) (f := true) (h.on (σ' := ⟨σ.objs ++ xs, σ.toks⟩) on_app) ok
  obtain ⟨p, v⟩ := w
  refine acalls_fit Try.func11 (by kernel_rfl) c11 rfl (by simp [a11]) fun hf => ?_
  clear hf
  cases hi : idxAt os place with
  | none =>
    simp only [sizeO_none hi] at hs
    simp -implicitDefEqProofs (maxSteps := 2000000) (disch := omega) [-getElem?_pos, a11]
    refine (hs _).then fun r hr => ?_
    subst hr
    simp -implicitDefEqProofs (maxSteps := 2000000) (disch := omega) [-getElem?_pos]
    exact .fin _ ⟨rfl, rfl⟩ (.refl _)
  | some i =>
    obtain ⟨hil, hv⟩ := idxAt_iff.1 hi
    obtain ⟨o, ho⟩ : ∃ o, os[i]? = some o := ⟨_, List.getElem?_eq_getElem hil⟩
    simp only [sizeO_some hi ho] at hs
    have hwo : wOf os i = o.l := by simp [wOf, ho]
    have hks := ok.k o (List.mem_of_getElem? ho)
    by_cases h1 : I < 0
    · simp -implicitDefEqProofs (maxSteps := 2000000) (disch := omega) [-getElem?_pos, a11]
      refine (hs _).then fun r hr => ?_
      subst hr
      simp -implicitDefEqProofs (maxSteps := 2000000) (disch := omega) [-getElem?_pos, h1]
      exact .fin _ ⟨rfl, rfl⟩ (.refl _)
    obtain ⟨j, rfl⟩ : ∃ j : Nat, I = j := ⟨I.toNat, by omega⟩
    by_cases h2 : o.l.length ≤ j
    · simp -implicitDefEqProofs (maxSteps := 2000000) (disch := omega) [-getElem?_pos, a11]
      refine (hs _).then fun r hr => ?_
      subst hr
      simp -implicitDefEqProofs (maxSteps := 2000000) (disch := omega) [-getElem?_pos, h1, h2]
      exact .fin _ ⟨rfl, rfl⟩ (.refl _)
    · have hg : (getW os place j).isSome = true := by
        simp [getW, hi, hwo]
        omega
      rw [decide_eq_false (by simpa using fun e => hb ⟨hg, e⟩)] at hfi
      simp -implicitDefEqProofs (maxSteps := 2000000) (disch := omega) [-getElem?_pos, a11]
      refine (hs _).then fun r hr => ?_
      subst hr
      simp -implicitDefEqProofs (maxSteps := 2000000) (disch := omega) [-getElem?_pos, h1, h2]
      refine (hfi _).then fun r hr => ?_
      subst hr
      simp -implicitDefEqProofs (maxSteps := 2000000) (disch := omega) [-getElem?_pos]
      exact .fin _ ⟨rfl, rfl⟩ (.refl _)
theorem k_MakeNF {σ : Sg} {hp oL oH : Nat} {half runs kind : Int} {os : List Ho} {dl dh : D} {l roots : List Wd} {f g : Bool} (h : Hp σ hp oL oH half os runs dl dh) (ok : OkO os) (hb : ¬ (headOk kind l.length ∧ (∀ w ∈ l, fineW os w) ∧ ∀ w ∈ roots, fineW os w)) :
    ACalls Try.prog 9 [.ptr hp 0, .v (.int .i64 kind), .v (.sl (some 2) f (l.map wv)), .v (.sl (some 2) g (roots.map wv))] σ fun r σ' => r = .tup [.v (.int .i64 0), .v .snil, .v .snil, .v argErr] ∧ σ' = σ := by
  by_cases hk : headOk kind l.length
  · have hh := fun σ => k_Head kind l.length σ
    simp only [hk, if_true] at hh
    have hf1 := fun (xs : List Ob) => k_Fine (l := l) (f := f) (h.on (σ' := ⟨σ.objs ++ xs, σ.toks⟩) on_app) ok
    have hf2 := fun (xs : List Ob) => k_Fine (l := roots) (f := g) (h.on (σ' := ⟨σ.objs ++ xs, σ.toks⟩) on_app) ok
    refine acalls_fit Try.func9 (by kernel_rfl) c9 rfl (by simp [a9]) fun hf => ?_
    clear hf
    simp -implicitDefEqProofs (maxSteps := 2000000) (disch := omega) [-getElem?_pos, a9]
    refine (hh _).then fun r hq => ?_
    subst hq
    simp -implicitDefEqProofs (maxSteps := 2000000) (disch := omega) [-getElem?_pos]
    refine (hf1 _).then fun r hq => ?_
    subst hq
    by_cases b2 : ∀ w ∈ l, fineW os w
    · have b3 : ¬ ∀ w ∈ roots, fineW os w := fun b3 => hb ⟨hk, b2, b3⟩
      rw [decide_eq_true b2]
      simp -implicitDefEqProofs (maxSteps := 2000000) (disch := omega) [-getElem?_pos]
      refine (hf2 _).then fun r hq => ?_
      subst hq
      rw [decide_eq_false b3]
      simp -implicitDefEqProofs (maxSteps := 2000000) (disch := omega) [-getElem?_pos]
      exact .fin _ ⟨rfl, rfl⟩ (.refl _)
    · rw [decide_eq_false b2]
      simp -implicitDefEqProofs (maxSteps := 2000000) (disch := omega) [-getElem?_pos]
      exact .fin _ ⟨rfl, rfl⟩ (.refl _)
  · exact k_MakeBad hk
theorem k_SameH {σ : Sg} {hp oL oH m oT : Nat} {half runs : Int} {os : List Ho} {dl dh dT : D} {rs : List Rr} (h : Hp σ hp oL oH half os runs dl dh) (hR : RH σ m oT half os runs dT rs) (ok : OkO os) :
    ACalls Try.prog 26 [.ptr hp 0, .ptr m 0] σ fun r σ' => r = .v (.bool true) ∧ σ' = σ := by
  have hu := k_Used h
  have hru := k_RUsed hR ok.small
  have hn := k_Runs h
  have hc := hR.cell
  have hsm := ok.small
  have hlo := len_tot os
  have hwv : ∀ (σ' : Sg) (K : V → Prop), WLen .sl dT σ' K = K (.int .i64 os.length) := fun σ' K => wlen_VR hR.top
  refine acalls_fit Try.func26 (by kernel_rfl) c26 rfl (by simp [a26]) fun hf => ?_
  clear hf
  simp -implicitDefEqProofs (maxSteps := 2000000) (disch := omega) [-getElem?_pos, a26]
  refine hu.then fun r hq => ?_
  subst hq
  simp -implicitDefEqProofs (maxSteps := 2000000) (disch := omega) [-getElem?_pos]
  refine hru.then fun r hq => ?_
  subst hq
  simp -implicitDefEqProofs (maxSteps := 2000000) (disch := omega) [-getElem?_pos, hc]
  refine hn.then fun r hq => ?_
  subst hq
  simp -implicitDefEqProofs (maxSteps := 2000000) (disch := omega) [-getElem?_pos, hc]
  refine W_loop (α := Nat) 0 (fun x => os.length - x) (fun x => ⟨[(0, .ptr hp 0), (1, .ptr m 0), (4, .v (.bool false)), (5, .v (.int .i64 x))], σ⟩)
    (fun x => x ≤ os.length) (.eq (by simp)) (Nat.zero_le _) fun i hi => ?_
  simp -implicitDefEqProofs (maxSteps := 2000000) (disch := omega) [-getElem?_pos, hc, hwv]
  refine .mk (fun hlt => ?_) fun hlt => ?_
  · have hlt' : i < os.length := by omega
    obtain ⟨x, hx⟩ : ∃ x, os[i]? = some x := ⟨_, List.getElem?_eq_getElem hlt'⟩
    obtain ⟨c, cs, r, rfl, h2, h3, h4, h5, h6, h7, h8, h9⟩ := hR.top.row hx
    have hks := ok.k x (List.mem_of_getElem? hx)
    have hob := k_Object (place := offs os i) h ok
    rw [objR_some (idxAt_iff.2 ⟨hlt', rfl⟩) hx] at hob
    have hal := k_RAll (l := x.l) (f := false) (σ := σ) (by omega)
    have hsa := k_RSameB (a := x.l) (b := x.l) (f := false) (g := false) (hR.inn i x r hx h3) (by omega)
    rw [decide_eq_true rfl] at hsa
    simp -implicitDefEqProofs (maxSteps := 2000000) (disch := omega) [-getElem?_pos, hc, h2, h6]
    refine ⟨hlt', ?_⟩
    refine hob.then fun q hq => ?_
    subst hq
    simp -implicitDefEqProofs (maxSteps := 2000000) (disch := omega) [-getElem?_pos, hc, h2, h7, h8]
    refine ⟨hlt', ?_⟩
    refine hal.then fun q hq => ?_
    subst hq
    simp -implicitDefEqProofs (maxSteps := 2000000) (disch := omega) [-getElem?_pos]
    refine hsa.then fun q hq => ?_
    subst hq
    simp -implicitDefEqProofs (maxSteps := 2000000) (disch := omega) [-getElem?_pos]
    exact ⟨i + 1, hlt', by dsimp only; omega, .eq (by simp)⟩
  · simp -implicitDefEqProofs (maxSteps := 2000000) (disch := omega) [-getElem?_pos]
    exact .fin _ ⟨rfl, rfl⟩ (.refl _)
end Go.Proofs.Ytiomciifhkbklaa
