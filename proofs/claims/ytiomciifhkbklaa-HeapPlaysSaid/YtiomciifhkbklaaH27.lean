/-
  HeapPlays, walked: a word is set. (Own work.)
-/
import Derived.Test.YtiomciifhkbklaaH26
set_option linter.unusedVariables false
set_option linter.unusedSimpArgs false
set_option maxHeartbeats 2000000
namespace Go.Proofs.Ytiomciifhkbklaa
open Go Go.Abs

theorem cellsR_set {l' : List Wd} : ∀ {p i : Nat} {os : List Ho} {rs : List Rr} {o : Ho}, os[i]? = some o → l'.length = o.l.length → cellsR p (os.set i ⟨o.k, l'⟩) rs = cellsR p os rs
  | p, i, [], rs, o, h, _ => by simp at h
  | p, i, a :: os, [], o, h, _ => by cases i <;> rfl
  | p, 0, a :: os, r :: rs, o, h, hl => by
    simp at h
    subst h
    simp only [List.set_cons_zero, cellsR, osz, hl]
  | p, i + 1, a :: os, r :: rs, o, h, hl => by
    simp only [List.set_cons_succ, cellsR]
    rw [cellsR_set (by simpa using h) hl]
theorem VI.cells {σ : Sg} {o : Nat} {d : D} {ws : List Wd} (h : VI σ o d ws) (hn : ws ≠ []) : ∃ (J : List D) (c : Nat), d = .msl o 0 ws.length (some 2) (some c) ∧ σ.objs[o]? = some (.cells (fl ws ++ J)) ∧ (fl ws ++ J).length = c * 2 ∧ c ≤ maxLen := by
  cases h with
  | nil => exact absurd rfl hn
  | emp => exact absurd rfl hn
  | msl h1 h2 h3 h4 => exact ⟨_, _, rfl, h2, h3, h4⟩
theorem setO_get {os : List Ho} {i j k : Nat} {w : Wd} {o a : Ho} (ho : os[i]? = some o) (h : (setO os i j w)[k]? = some a) : k = i ∧ a = ⟨o.k, o.l.set j w⟩ ∨ k ≠ i ∧ os[k]? = some a := by
  rw [setO_some ho, List.getElem?_set] at h
  by_cases hk : i = k
  · subst hk
    rw [if_pos rfl, if_pos (List.getElem?_eq_some_iff.1 ho).1] at h
    exact .inl ⟨rfl, (Option.some.inj h).symm⟩
  · rw [if_neg hk] at h
    exact .inr ⟨Ne.symm hk, h⟩
theorem setO_len {os : List Ho} {i j k : Nat} {w : Wd} {o a : Ho} (ho : os[i]? = some o) (h : (setO os i j w)[k]? = some a) : ∃ b, os[k]? = some b ∧ (a.l ≠ [] → b.l ≠ []) := by
  rcases setO_get ho h with ⟨rfl, rfl⟩ | ⟨_, h2⟩
  · refine ⟨o, ho, fun e e2 => e ?_⟩
    dsimp only
    rw [e2]
    rfl
  · exact ⟨a, h2, id⟩
theorem RH_set {σ : Sg} {m oT i j : Nat} {half runs : Int} {os : List Ho} {dT : D} {rs : List Rr} {o : Ho} {r : Rr} {J : List D} {w : Wd} (h : RH σ m oT half os runs dT rs) (ho : os[i]? = some o) (hr : rs[i]? = some r) (hj : j < o.l.length) (hJ : σ.objs[r.id]? = some (.cells (fl o.l ++ J))) :
    RH ⟨σ.objs.set r.id (.cells (fl (o.l.set j w) ++ J)), σ.toks⟩ m oT half (setO os i j w) runs dT rs := by
  have hne : o.l ≠ [] := by rintro e; rw [e] at hj; simp at hj
  obtain ⟨hm, hT⟩ := h.nm i o r ho hr hne
  have hl := (List.getElem?_eq_some_iff.1 hJ).1
  have hos : os ≠ [] := by rintro rfl; simp at ho
  have hso : setO os i j w = os.set i ⟨o.k, o.l.set j w⟩ := setO_some ho
  refine ⟨(List.getElem?_set_ne hm).trans h.cell, ?_, fun k a q k1 k2 => ?_, fun _ => h.nT hos, fun k a q k1 k2 k3 => ?_, fun k1 k2 a b q z g1 g2 g3 g4 g5 g6 g7 => ?_⟩
  · have ht := h.top
    cases ht with
    | nil => exact absurd rfl hos
    | emp => exact absurd rfl hos
    | msl t1 t2 t3 t4 t5 =>
      have hc := cellsR_set (l' := o.l.set j w) (p := 0) (rs := rs) ho (by simp)
      rw [← hso] at hc
      have := VR.msl (σ := ⟨σ.objs.set r.id (.cells (fl (o.l.set j w) ++ J)), σ.toks⟩) (oT := oT) (os := setO os i j w) (rs := rs) (by intro e; have := congrArg List.length e; rw [len_set] at this; exact hos (List.length_eq_zero_iff.1 this)) ((List.getElem?_set_ne hT).trans (by rw [hc]; exact t2)) (by rw [len_set]; exact t3) (by rw [hc]; exact t4) t5
      rwa [len_set] at this
  · rcases setO_get ho k1 with ⟨rfl, rfl⟩ | ⟨k3, k4⟩
    · rw [hr] at k2
      cases k2
      obtain ⟨J2, c, e1, e2, e3, e4⟩ := (h.inn k o r ho hr).cells hne
      rw [hJ] at e2
      injection e2 with e2
      injection e2 with e2
      have hJJ : J = J2 := List.append_cancel_left e2
      subst hJJ
      rw [e1]
      have := VI.msl (σ := ⟨σ.objs.set r.id (.cells (fl (o.l.set j w) ++ J)), σ.toks⟩) (o := r.id) (ws := o.l.set j w) (J := J) (c := c) (by intro e; have := congrArg List.length e; simp at this; exact hne this) (List.getElem?_set_self hl) (by rw [← e3]; simp [fl_len]) e4
      rwa [List.length_set] at this
    · refine (h.inn k a q k4 k2).on fun hn => List.getElem?_set_ne fun e => k3 ?_
      exact h.nd k i a o q r k4 ho k2 hr hn hne e.symm
  · obtain ⟨b, b1, b2⟩ := setO_len ho k1
    exact h.nm k b q b1 k2 (b2 k3)
  · obtain ⟨a', a1, a2⟩ := setO_len ho g1
    obtain ⟨b', b1, b2⟩ := setO_len ho g2
    exact h.nd k1 k2 a' b' q z a1 b1 g3 g4 (a2 g5) (b2 g6) g7
theorem RS_set {m oT i j : Nat} {os : List Ho} {rs : List Rr} {o : Ho} {w : Wd} (ho : os[i]? = some o) {k : Nat} (h : RS m oT (setO os i j w) rs k) : RS m oT os rs k := by
  have hos : os ≠ [] := by rintro rfl; simp at ho
  rcases h with h | ⟨h, _⟩ | ⟨q, a, z, h1, h2, h3, h4⟩
  · exact .inl h
  · exact .inr (.inl ⟨h, hos⟩)
  · obtain ⟨a', a1, a2⟩ := setO_len ho h1
    exact .inr (.inr ⟨q, a', z, a1, h2, a2 h3, h4⟩)
theorem HS_set {hp oL oH i j : Nat} {os : List Ho} {o : Ho} {w : Wd} (ho : os[i]? = some o) {k : Nat} (h : HS hp oL oH (setO os i j w) k) : HS hp oL oH os k := by
  have hos : os ≠ [] := by rintro rfl; simp at ho
  rcases h with h | ⟨h, _⟩ | ⟨h, _⟩
  · exact .inl h
  · exact .inr (.inl ⟨h, hos⟩)
  · exact .inr (.inr ⟨h, hos⟩)
theorem getW_some {os : List Ho} {place I : Int} {v : Wd} (h : getW os place I = some v) : ∃ (i j : Nat) (o : Ho), idxAt os place = some i ∧ os[i]? = some o ∧ I = j ∧ o.l[j]? = some v := by
  unfold getW at h
  cases hi : idxAt os place with
  | none => rw [hi] at h; cases h
  | some i =>
    rw [hi] at h
    dsimp only at h
    split at h
    · obtain ⟨o, ho⟩ : ∃ o, os[i]? = some o := ⟨_, List.getElem?_eq_getElem (idxAt_iff.1 hi).1⟩
      rw [show wOf os i = o.l by simp [wOf, ho]] at h
      exact ⟨i, I.toNat, o, rfl, ho, by omega, h⟩
    · cases h
theorem W_Set {B σ : Sg} {Q : XE → St → Prop} {E : List (Nat × D)} {hp m o11 o13 : Nat} {half place : Int} {s : BS} {x : De} {w : Wd} {g : Bool} (b : BB σ hp m half s) (e6 : Abs.look E 6 = .ptr hp 0) (e8 : Abs.look E 8 = .ptr m 0) (e9 : Abs.look E 9 = .v (.sl (some 2) g (s.roots.map wv))) (e11 : Abs.look E 11 = .ptr o11 0) (e13 : Abs.look E 13 = .ptr o13 0) (e14 : Abs.look E 14 = .v (.int .i64 place))
    (c11 : σ.objs[o11]? = some (.cells [.v (.int .i64 x.what), .v (.int .i64 x.kind), .v (.int .i64 x.place), .v (.int .i64 x.i), .v (.bool x.near), .v (.bool x.w.p), .v (.int .i64 x.w.v), .v (.sl (some 2) false (x.l.map wv))])) (n11 : ¬ HS hp s.oL s.oH s.os o11) (c13 : σ.objs[o13]? = some (.cells [.v (.bool w.p), .v (.int .i64 w.v)])) (n13 : ¬ HS hp s.oL s.oH s.os o13)
    (key : Nxt Q hp m half s E) : W Try.prog B setX Q ⟨E, σ⟩ := by
  have hsm := b.ok.small
  have hlo := len_tot s.os
  by_cases hg : (getW s.os place x.i).isSome = true ∧ fineW s.os w
  · obtain ⟨g1, g2⟩ := hg
    obtain ⟨v, hv⟩ := Option.isSome_iff_exists.1 g1
    obtain ⟨i, j, o, hi, ho, hxi, hoj⟩ := getW_some hv
    obtain ⟨hil, hpl⟩ := idxAt_iff.1 hi
    have hjl := (List.getElem?_eq_some_iff.1 hoj).1
    have hid : idxR s.os place = i := by simp [idxR, hi]
    have hst := k_SetOk b.hH b.ok hi ho hjl g2
    have hks := b.ok.k o (List.mem_of_getElem? ho)
    rw [hxi] at c11
    simp -implicitDefEqProofs (maxSteps := 2000000) (disch := omega) [-getElem?_pos, setX, switX, bodyX, a4, tlX, fstX, sndX, blkX, lpX, thX, elX, e6, e8, e9, e11, e13, e14, c11, c13, mkAgg, allV]
    refine hst.mono fun r σ1 hq => ?_
    obtain ⟨rfl, h1, f1⟩ := hq
    have hR1 := b.hR.fr f1 fun i e e2 => b.dj i e2 e
    have hc11 := (f1.keep o11 (List.getElem?_eq_some_iff.1 c11).1 n11).trans c11
    have hc13 := (f1.keep o13 (List.getElem?_eq_some_iff.1 c13).1 n13).trans c13
    have hat := k_RAt (place := place) hR1 (by omega)
    have hka := k_RAs w σ1
    have hfi := k_RFine (l := [w]) (f := true) hR1 (by omega) (by simp)
    have hfd : decide (∀ u ∈ [w], fineW s.os u) = true := decide_eq_true (by simpa using g2)
    rw [hfd] at hfi
    obtain ⟨c, cs, r, hdT, h2, h3, h4, h5, h6, h7, h8, h9⟩ := hR1.top.row ho
    have hne : o.l ≠ [] := by rintro e; rw [e] at hjl; simp at hjl
    obtain ⟨J, c2, hrd, hJ, hJl, hc2⟩ := (hR1.inn i o r ho h3).cells hne
    rw [hrd] at h8
    have hRn := RH_set (w := w) hR1 ho h3 hjl hJ
    have hc := hR1.cell
    rw [hdT] at hc
    have hpr := put_row (ws := o.l) (w := w) (J := J) (i := j) hjl
    replace hpr : List.take (j * 2) (fl o.l ++ J) ++ D.v (.bool w.p) :: D.v (.int .i64 w.v) :: List.drop (j * 2 + 2) (fl o.l ++ J) = fl (o.l.set j w) ++ J := hpr
    rw [List.length_append, fl_len] at hJl
    simp -implicitDefEqProofs (maxSteps := 2000000) (disch := omega) [-getElem?_pos, e8, e14]
    refine hat.then fun r hq => ?_
    subst hq
    simp -implicitDefEqProofs (maxSteps := 2000000) (disch := omega) [-getElem?_pos, e8, e11, e13, hc13, mkAgg, allV]
    refine hka.then fun r hq => ?_
    subst hq
    simp -implicitDefEqProofs (maxSteps := 2000000) (disch := omega) [-getElem?_pos]
    refine hfi.then fun r hq => ?_
    subst hq
    simp -implicitDefEqProofs (maxSteps := 2000000) (disch := omega) [-getElem?_pos, hid, e8, e11, e13, hc11, hc13, hc, h2, h8, hjl, mkAgg, allV]
    refine ⟨hil, ?_⟩
    refine hka.then fun q hq => ?_
    subst hq
    simp -implicitDefEqProofs (maxSteps := 2000000) (disch := omega) [-getElem?_pos, hJ, hpr]
    refine ⟨hjl, by rw [fl_len]; omega, ?_⟩
    have hrs : RS m s.oT s.os s.rs r.id := .inr (.inr ⟨i, o, r, ho, h3, hne, rfl⟩)
    refine key _ _ ⟨setO s.os i j w, s.runs, s.oL, s.oH, s.dl, s.dh, s.oT, s.dT, s.rs, s.roots⟩ ⟨h1.fr (Fr.set (S := fun k => k = r.id) rfl) fun k e e2 => b.dj k (HS_set ho e) (by rw [e2]; exact hrs), by rw [hdT] at hRn ⊢; exact hRn, ok_set b.ok g2, fun k e e2 => b.dj k (HS_set ho e) (RS_set ho e2), fun u hu => fine_set.2 (b.fr u hu)⟩ (by dsimp only; omega) (fun k hk => by simp only [List.mem_cons, List.not_mem_nil, or_false] at hk; rcases hk with rfl | rfl | rfl | rfl | rfl <;> simp) (by simp [e9]) (by simp [e9])
  · have hst := k_SetBad b.hH b.ok hg
    have hat := k_RAt (place := place) b.hR (by omega)
    have hka := k_RAs w σ
    have hfi := k_RFine (l := [w]) (f := true) b.hR (by omega) (by simp)
    have hcd := k_RCode 1 (by omega) (by omega) σ
    simp -implicitDefEqProofs (maxSteps := 2000000) (disch := omega) [-getElem?_pos, setX, switX, bodyX, a4, tlX, fstX, sndX, blkX, lpX, thX, elX, e6, e8, e9, e11, e13, e14, c11, c13, mkAgg, allV]
    refine hst.then fun r hq => ?_
    subst hq
    simp -implicitDefEqProofs (maxSteps := 2000000) (disch := omega) [-getElem?_pos, e8, e14]
    refine hat.then fun r hq => ?_
    subst hq
    simp -implicitDefEqProofs (maxSteps := 2000000) (disch := omega) [-getElem?_pos, e8, e11, e13, c13, mkAgg, allV]
    refine hka.then fun r hq => ?_
    subst hq
    simp -implicitDefEqProofs (maxSteps := 2000000) (disch := omega) [-getElem?_pos]
    refine hfi.then fun r hq => ?_
    subst hq
    cases hi : idxAt s.os place with
    | none =>
      have hid : idxR s.os place = -1 := by simp [idxR, hi]
      simp -implicitDefEqProofs (maxSteps := 2000000) (disch := omega) [-getElem?_pos, hid]
      refine hcd.then fun r hq => ?_
      subst hq
      simp -implicitDefEqProofs (maxSteps := 2000000) (disch := omega) [-getElem?_pos]
      exact key _ σ s b (by omega) (fun k hk => by simp only [List.mem_cons, List.not_mem_nil, or_false] at hk; rcases hk with rfl | rfl | rfl | rfl | rfl <;> simp) (by simp [e9]) (by simp [e9])
    | some i =>
      obtain ⟨hil, hv⟩ := idxAt_iff.1 hi
      obtain ⟨o, ho⟩ : ∃ o, s.os[i]? = some o := ⟨_, List.getElem?_eq_getElem hil⟩
      have hwo : wOf s.os i = o.l := by simp [wOf, ho]
      have hid : idxR s.os place = i := by simp [idxR, hi]
      by_cases hf : fineW s.os w
      · have hfd : decide (∀ u ∈ [w], fineW s.os u) = true := decide_eq_true (by simpa using hf)
        rw [hfd]
        by_cases h1 : x.i < 0
        · have h1' : ¬ 0 ≤ x.i := by omega
          simp -implicitDefEqProofs (maxSteps := 2000000) (disch := omega) [-getElem?_pos, hid, e11, c11, h1, h1']
          refine hcd.then fun r hq => ?_
          subst hq
          simp -implicitDefEqProofs (maxSteps := 2000000) (disch := omega) [-getElem?_pos]
          exact key _ σ s b (by omega) (fun k hk => by simp only [List.mem_cons, List.not_mem_nil, or_false] at hk; rcases hk with rfl | rfl | rfl | rfl | rfl <;> simp) (by simp [e9]) (by simp [e9])
        · obtain ⟨j, hj⟩ : ∃ j : Nat, x.i = j := ⟨x.i.toNat, by omega⟩
          have hlen : o.l.length ≤ j := by
            refine Classical.byContradiction fun hn => hg ⟨?_, hf⟩
            rw [hj]
            simp [getW, hi, hwo]
            omega
          have hlen' : ¬ j < o.l.length := by omega
          obtain ⟨c, cs, r, hdT, h2, h3, h4, h5, h6, h7, h8, h9⟩ := b.hR.top.row ho
          have hwi : ∀ (σ' : Sg) (K : V → Prop), WLen .sl r.d σ' K = K (.int .i64 o.l.length) := fun σ' K => wlen_VI (b.hR.inn i o r ho h3)
          have hc := b.hR.cell
          rw [hdT] at hc
          rw [hj] at c11
          simp -implicitDefEqProofs (maxSteps := 2000000) (disch := omega) [-getElem?_pos, hid, e8, e11, c11, hc, h2, h8, hwi, hlen']
          refine ⟨hil, ?_⟩
          refine hcd.then fun r hq => ?_
          subst hq
          simp -implicitDefEqProofs (maxSteps := 2000000) (disch := omega) [-getElem?_pos]
          exact key _ σ s b (by omega) (fun k hk => by simp only [List.mem_cons, List.not_mem_nil, or_false] at hk; rcases hk with rfl | rfl | rfl | rfl | rfl <;> simp) (by simp [e9]) (by simp [e9])
      · have hfd : decide (∀ u ∈ [w], fineW s.os u) = false := decide_eq_false (by simpa using hf)
        rw [hfd]
        simp -implicitDefEqProofs (maxSteps := 2000000) (disch := omega) [-getElem?_pos, hid, e11, c11]
        refine hcd.then fun r hq => ?_
        subst hq
        simp -implicitDefEqProofs (maxSteps := 2000000) (disch := omega) [-getElem?_pos]
        exact key _ σ s b (by omega) (fun k hk => by simp only [List.mem_cons, List.not_mem_nil, or_false] at hk; rcases hk with rfl | rfl | rfl | rfl | rfl <;> simp) (by simp [e9]) (by simp [e9])
theorem BB.app {σ : Sg} {hp m : Nat} {half : Int} {s : BS} (b : BB σ hp m half s) (xs : List Ob) (ts : List Nat) : BB ⟨σ.objs ++ xs, ts⟩ hp m half s :=
  ⟨b.hH.on on_app, b.hR.app xs ts, b.ok, b.dj, b.fr⟩
theorem W_Get {B σ : Sg} {Q : XE → St → Prop} {E : List (Nat × D)} {hp m o11 : Nat} {half place : Int} {s : BS} {x : De} {g : Bool} (b : BB σ hp m half s) (e6 : Abs.look E 6 = .ptr hp 0) (e8 : Abs.look E 8 = .ptr m 0) (e9 : Abs.look E 9 = .v (.sl (some 2) g (s.roots.map wv))) (e11 : Abs.look E 11 = .ptr o11 0) (e14 : Abs.look E 14 = .v (.int .i64 place))
    (c11 : σ.objs[o11]? = some (.cells [.v (.int .i64 x.what), .v (.int .i64 x.kind), .v (.int .i64 x.place), .v (.int .i64 x.i), .v (.bool x.near), .v (.bool x.w.p), .v (.int .i64 x.w.v), .v (.sl (some 2) false (x.l.map wv))]))
    (key : Nxt Q hp m half s E) : W Try.prog B getX Q ⟨E, σ⟩ := by
  have hsm := b.ok.small
  have hlo := len_tot s.os
  have hget := k_Get (place := place) (I := x.i) b.hH b.ok
  have hob := fun xs => k_Object (place := place) (b.app xs σ.toks).hH b.ok
  have hat := fun xs => k_RAt (place := place) (b.app xs σ.toks).hR (by omega)
  have hcd := fun xs => k_RCode 1 (by omega) (by omega) ⟨σ.objs ++ xs, σ.toks⟩
  have h11l := (List.getElem?_eq_some_iff.1 c11).1
  cases hi : idxAt s.os place with
  | none =>
    have hid : idxR s.os place = -1 := by simp [idxR, hi]
    rw [show getW s.os place x.i = none by simp [getW, hi]] at hget
    simp only [objR_none hi] at hob
    unfold getR at hget
    simp -implicitDefEqProofs (maxSteps := 2000000) (disch := omega) [-getElem?_pos, getX, switX, bodyX, a4, tlX, fstX, sndX, blkX, lpX, thX, elX, e6, e8, e9, e11, e14, c11]
    refine hget.then fun r hq => ?_
    subst hq
    simp -implicitDefEqProofs (maxSteps := 2000000) (disch := omega) [-getElem?_pos, e6, e14]
    refine (hob _).then fun r hq => ?_
    subst hq
    simp -implicitDefEqProofs (maxSteps := 2000000) (disch := omega) [-getElem?_pos, e8, e14]
    refine (hat _).then fun r hq => ?_
    subst hq
    simp -implicitDefEqProofs (maxSteps := 2000000) (disch := omega) [-getElem?_pos, hid]
    refine (hcd _).then fun r hq => ?_
    subst hq
    simp -implicitDefEqProofs (maxSteps := 2000000) (disch := omega) [-getElem?_pos]
    exact key _ _ s (b.app _ _) (by omega) (fun k hk => by simp only [List.mem_cons, List.not_mem_nil, or_false] at hk; rcases hk with rfl | rfl | rfl | rfl | rfl <;> simp) (by simp [e9]) (by simp [e9])
  | some i =>
    obtain ⟨hil, hv⟩ := idxAt_iff.1 hi
    obtain ⟨o, ho⟩ : ∃ o, s.os[i]? = some o := ⟨_, List.getElem?_eq_getElem hil⟩
    have hwo : wOf s.os i = o.l := by simp [wOf, ho]
    have hid : idxR s.os place = i := by simp [idxR, hi]
    have hgw : getW s.os place x.i = if 0 ≤ x.i then o.l[x.i.toNat]? else none := by simp [getW, hi, hwo]
    simp only [objR_some hi ho] at hob
    obtain ⟨c, cs, r, hdT, h2, h3, h4, h5, h6, h7, h8, h9⟩ := b.hR.top.row ho
    have hin := b.hR.inn i o r ho h3
    have hwi : ∀ (σ' : Sg) (K : V → Prop), WLen .sl r.d σ' K = K (.int .i64 o.l.length) := fun σ' K => wlen_VI hin
    have hc := b.hR.cell
    rw [hdT] at hc
    have hml := (List.getElem?_eq_some_iff.1 hc).1
    have hTl := (List.getElem?_eq_some_iff.1 h2).1
    have hks := b.ok.k o (List.mem_of_getElem? ho)
    by_cases h1 : x.i < 0
    · have h1' : ¬ 0 ≤ x.i := by omega
      rw [hgw, if_neg h1'] at hget
      unfold getR at hget
      simp -implicitDefEqProofs (maxSteps := 2000000) (disch := omega) [-getElem?_pos, getX, switX, bodyX, a4, tlX, fstX, sndX, blkX, lpX, thX, elX, e6, e8, e9, e11, e14, c11]
      refine hget.then fun q hq => ?_
      subst hq
      simp -implicitDefEqProofs (maxSteps := 2000000) (disch := omega) [-getElem?_pos, e6, e14]
      refine (hob _).then fun q hq => ?_
      subst hq
      simp -implicitDefEqProofs (maxSteps := 2000000) (disch := omega) [-getElem?_pos, e8, e14]
      refine (hat _).then fun q hq => ?_
      subst hq
      simp -implicitDefEqProofs (maxSteps := 2000000) (disch := omega) [-getElem?_pos, hid, e11, c11, List.getElem?_append_left, h1']
      refine (hcd _).then fun q hq => ?_
      subst hq
      simp -implicitDefEqProofs (maxSteps := 2000000) (disch := omega) [-getElem?_pos]
      exact key _ _ s (b.app _ _) (by omega) (fun k hk => by simp only [List.mem_cons, List.not_mem_nil, or_false] at hk; rcases hk with rfl | rfl | rfl | rfl | rfl <;> simp) (by simp [e9]) (by simp [e9])
    · obtain ⟨j, hj⟩ : ∃ j : Nat, x.i = j := ⟨x.i.toNat, by omega⟩
      rw [hj] at c11
      rw [hgw, hj, if_pos (by omega), Int.toNat_natCast] at hget
      by_cases hjl : j < o.l.length
      · obtain ⟨w, hw⟩ : ∃ w, o.l[j]? = some w := ⟨_, List.getElem?_eq_getElem hjl⟩
        rw [hw] at hget
        unfold getR at hget
        obtain ⟨c2, cs2, hrd, hw2, hw3, hw4, hw5, hw6⟩ := hin.row hw
        rw [hrd] at h8 hwi
        have hw2l := (List.getElem?_eq_some_iff.1 hw2).1
        have hka := fun xs => k_RAs w ⟨σ.objs ++ xs, σ.toks⟩
        simp -implicitDefEqProofs (maxSteps := 2000000) (disch := omega) [-getElem?_pos, getX, switX, bodyX, a4, tlX, fstX, sndX, blkX, lpX, thX, elX, e6, e8, e9, e11, e14, c11]
        refine hget.then fun q hq => ?_
        subst hq
        simp -implicitDefEqProofs (maxSteps := 2000000) (disch := omega) [-getElem?_pos, e6, e14]
        refine (hob _).then fun q hq => ?_
        subst hq
        simp -implicitDefEqProofs (maxSteps := 2000000) (disch := omega) [-getElem?_pos, e8, e14]
        refine (hat _).then fun q hq => ?_
        subst hq
        simp -implicitDefEqProofs (maxSteps := 2000000) (disch := omega) [-getElem?_pos, hid, e8, e11, c11, hc, h2, h8, hjl, hw2, hw3, hw4, hw5, List.getElem?_append_left, mkAgg, allV]
        refine ⟨hil, by omega, ?_⟩
        refine (hka _).then fun q hq => ?_
        subst hq
        simp -implicitDefEqProofs (maxSteps := 2000000) (disch := omega) [-getElem?_pos]
        exact key _ _ s (b.app _ _) (by omega) (fun k hk => by simp only [List.mem_cons, List.not_mem_nil, or_false] at hk; rcases hk with rfl | rfl | rfl | rfl | rfl <;> simp) (by simp [e9]) (by simp [e9])
      · rw [List.getElem?_eq_none (by omega)] at hget
        unfold getR at hget
        simp -implicitDefEqProofs (maxSteps := 2000000) (disch := omega) [-getElem?_pos, getX, switX, bodyX, a4, tlX, fstX, sndX, blkX, lpX, thX, elX, e6, e8, e9, e11, e14, c11]
        refine hget.then fun q hq => ?_
        subst hq
        simp -implicitDefEqProofs (maxSteps := 2000000) (disch := omega) [-getElem?_pos, e6, e14]
        refine (hob _).then fun q hq => ?_
        subst hq
        simp -implicitDefEqProofs (maxSteps := 2000000) (disch := omega) [-getElem?_pos, e8, e14]
        refine (hat _).then fun q hq => ?_
        subst hq
        simp -implicitDefEqProofs (maxSteps := 2000000) (disch := omega) [-getElem?_pos, hid, e8, e11, c11, hc, h2, h8, hwi, hjl, List.getElem?_append_left]
        refine ⟨hil, ?_⟩
        refine (hcd _).then fun q hq => ?_
        subst hq
        simp -implicitDefEqProofs (maxSteps := 2000000) (disch := omega) [-getElem?_pos]
        exact key _ _ s (b.app _ _) (by omega) (fun k hk => by simp only [List.mem_cons, List.not_mem_nil, or_false] at hk; rcases hk with rfl | rfl | rfl | rfl | rfl <;> simp) (by simp [e9]) (by simp [e9])
theorem W_Coll {B σ : Sg} {Q : XE → St → Prop} {E : List (Nat × D)} {hp m o11 : Nat} {half : Int} {s : BS} {x : De} {g : Bool} (b : BB σ hp m half s) (e6 : Abs.look E 6 = .ptr hp 0) (e8 : Abs.look E 8 = .ptr m 0) (e9 : Abs.look E 9 = .v (.sl (some 2) g (s.roots.map wv))) (e11 : Abs.look E 11 = .ptr o11 0)
    (c11 : σ.objs[o11]? = some (.cells [.v (.int .i64 x.what), .v (.int .i64 x.kind), .v (.int .i64 x.place), .v (.int .i64 x.i), .v (.bool x.near), .v (.bool x.w.p), .v (.int .i64 x.w.v), .v (.sl (some 2) false (x.l.map wv))])) (hrl : s.roots.length ≤ 1000)
    (key : Nxt Q hp m half s E) : W Try.prog B colX Q ⟨E, σ⟩ := by
  have hpk := fun σ => k_Pick (c := x.i) (n := s.roots.length + 1) (σ := σ) (by omega) (by omega)
  have main : ∀ (roots : List Wd) (fl : Bool) (E' : List (Nat × D)), (∀ w ∈ roots, fineW s.os w) → roots.length ≤ s.roots.length → Abs.look E' 6 = .ptr hp 0 → Abs.look E' 8 = .ptr m 0 → Abs.look E' 9 = .v (.sl (some 2) fl (roots.map wv)) → (∀ k ∈ [1, 5, 6, 8, 10], Abs.look E' k = Abs.look E k) →
      W Try.prog B (sndX colX) Q ⟨E', σ⟩ := fun roots fl E' hf hle a6 a8 a9 aK => by
    have hcol := k_Collect (f := fl) b.hH b.ok hf (by omega)
    simp -implicitDefEqProofs (maxSteps := 2000000) (disch := omega) [-getElem?_pos, colX, switX, bodyX, a4, tlX, fstX, sndX, blkX, lpX, thX, elX, a6, a8, a9]
    refine hcol.mono fun r σ1 hq => ?_
    obtain ⟨rfl, oL1, oH1, dl1, dh1, h1, f1, n1, n2⟩ := hq
    have hR1 := b.hR.fr f1 fun i e e2 => b.dj i e2 e
    have hal := k_RAll (f := fl) (l := roots) (σ := σ1) (by omega)
    have hrc := k_RCollect (f := false) hR1 b.ok hf (by omega)
    simp -implicitDefEqProofs (maxSteps := 2000000) (disch := omega) [-getElem?_pos, a8, a9]
    refine hal.then fun r hq => ?_
    subst hq
    simp -implicitDefEqProofs (maxSteps := 2000000) (disch := omega) [-getElem?_pos]
    refine hrc.mono fun r σ2 hq => ?_
    obtain ⟨rfl, oT2, dT2, rs2, hR2, f2, hrs⟩ := hq
    have hcl : (colR s.os roots).length = roots.length := by simp [colR]
    have ha1 := k_RAll (f := false) (l := colR s.os roots) (σ := σ2) (by omega)
    have hs1 := k_RSameA (f := false) (g := false) (a := colR s.os roots) (b := colR s.os roots) (σ := σ2) (by omega)
    rw [decide_eq_true rfl] at hs1
    have hbs := both_step b h1 f1 (.inr n1) (.inr n2) f2 fun i e => (hrs i e).elim (fun e => .inl (.inl e)) .inr
    have hfin := fine_colR hf
    have hokn := ok_col (roots := roots) b.ok
    generalize colR s.os roots = cR at ha1 hs1 hcl hfin
    simp -implicitDefEqProofs (maxSteps := 2000000) (disch := omega) [-getElem?_pos]
    refine ha1.then fun r hq => ?_
    subst hq
    simp -implicitDefEqProofs (maxSteps := 2000000) (disch := omega) [-getElem?_pos]
    refine hs1.then fun r hq => ?_
    subst hq
    simp -implicitDefEqProofs (maxSteps := 2000000) (disch := omega) [-getElem?_pos]
    refine key _ σ2 ⟨colO s.os roots, IntKind.i64.wrap (s.runs + 1), oL1, oH1, dl1, dh1, oT2, dT2, rs2, cR⟩ ⟨hbs.1, hR2, hokn, hbs.2, hfin⟩ (by dsimp only; omega) (fun k hk => ?_) (by simp) (by simp)
    rw [← aK k hk]
    simp only [List.mem_cons, List.not_mem_nil, or_false] at hk
    rcases hk with rfl | rfl | rfl | rfl | rfl <;> simp
  show W Try.prog B (fstX colX) (QSeq Try.prog B (sndX colX) Q) ⟨E, σ⟩
  generalize sndX colX = R at main ⊢
  by_cases h0 : s.roots = []
  · have h0i : ¬ (0 : Int) < s.roots.length := by rw [h0]; simp
    have h0n : ¬ 0 < s.roots.length := by rw [h0]; simp
    have hm := main s.roots g
    simp -implicitDefEqProofs (maxSteps := 2000000) (disch := omega) [-getElem?_pos, colX, switX, bodyX, a4, tlX, fstX, sndX, blkX, lpX, thX, elX, e6, e8, e9, e11, c11, h0i, h0n]
    exact hm _ b.fr (by omega) (by simp [e6]) (by simp [e8]) (by simp [e9]) fun k hk => by simp only [List.mem_cons, List.not_mem_nil, or_false] at hk; rcases hk with rfl | rfl | rfl | rfl | rfl <;> simp
  · have h0n : 0 < s.roots.length := List.length_pos_iff.2 h0
    have h0i : (0 : Int) < s.roots.length := by omega
    simp -implicitDefEqProofs (maxSteps := 2000000) (disch := omega) [-getElem?_pos, colX, switX, bodyX, a4, tlX, fstX, sndX, blkX, lpX, thX, elX, e6, e8, e9, e11, c11, h0i, h0n]
    refine (hpk _).then fun r hq => ?_
    obtain ⟨q, hq, rfl⟩ := hq
    have hq' : q ≤ s.roots.length := by omega
    simp -implicitDefEqProofs (maxSteps := 2000000) (disch := omega) [-getElem?_pos, hq', e9]
    refine main (s.roots.take q) false _ (fun w hw => b.fr w (List.mem_of_mem_take hw)) (by simp; omega) (by simp [e6]) (by simp [e8]) (by simp [List.map_take]) fun k hk => by simp only [List.mem_cons, List.not_mem_nil, or_false] at hk; rcases hk with rfl | rfl | rfl | rfl | rfl <;> simp
end Go.Proofs.Ytiomciifhkbklaa
