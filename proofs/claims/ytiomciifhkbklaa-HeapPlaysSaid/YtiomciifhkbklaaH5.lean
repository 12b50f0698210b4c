/-
  A heap, walked: an object is moved, once. (Own work.)
-/
import Derived.Test.YtiomciifhkbklaaH4
set_option linter.unusedVariables false
set_option linter.unusedSimpArgs false
set_option maxHeartbeats 1000000
namespace Go.Proofs.Ytiomciifhkbklaa
open Go Go.Abs

/-- What was there stays, but for some objects. -/
structure Fr (σ σ' : Sg) (S : Nat → Prop) : Prop where
  len : σ.objs.length ≤ σ'.objs.length
  keep : ∀ i, i < σ.objs.length → ¬ S i → σ'.objs[i]? = σ.objs[i]?
  tlen : σ.toks.length ≤ σ'.toks.length
  tkeep : ∀ i, i < σ.toks.length → σ'.toks[i]? = σ.toks[i]?
theorem Fr.refl (σ : Sg) (S : Nat → Prop) : Fr σ σ S := ⟨Nat.le_refl _, fun _ _ _ => rfl, Nat.le_refl _, fun _ _ => rfl⟩
theorem Fr.trans {a b c : Sg} {S T U : Nat → Prop} (h : Fr a b S) (k : Fr b c T) (hS : ∀ i, i < a.objs.length → S i → U i) (hT : ∀ i, i < a.objs.length → T i → U i) : Fr a c U :=
  ⟨Nat.le_trans h.len k.len, fun i hi hn => by rw [k.keep i (Nat.lt_of_lt_of_le hi h.len) (fun t => hn (hT i hi t)), h.keep i hi (fun t => hn (hS i hi t))],
   Nat.le_trans h.tlen k.tlen, fun i hi => by rw [k.tkeep i (Nat.lt_of_lt_of_le hi h.tlen), h.tkeep i hi]⟩
theorem Fr.add (σ : Sg) (xs : List Ob) (ts : List Nat) (S : Nat → Prop) : Fr σ ⟨σ.objs ++ xs, σ.toks ++ ts⟩ S :=
  ⟨by simp, fun i hi _ => by show (σ.objs ++ xs)[i]? = _; rw [List.getElem?_append_left hi], by simp, fun i hi => by show (σ.toks ++ ts)[i]? = _; rw [List.getElem?_append_left hi]⟩
/-- Words that are copied. -/
inductive VT (σ : Sg) (o : Nat) : D → List Wd → Nat → Prop
  | none : VT σ o (.v (.sl (some 2) true [])) [] 0
  | msl {to : List Wd} {J : List D} {c : Nat} : 0 < c → σ.objs[o]? = some (.cells (fl to ++ J)) → (fl to ++ J).length = c * 2 → c ≤ maxLen → VT σ o (.msl o 0 to.length (some 2) (some c)) to c
theorem VT.on {σ σ' : Sg} {o : Nat} {d : D} {ws : List Wd} {c : Nat} (h : VT σ o d ws c) (k : 0 < c → σ'.objs[o]? = σ.objs[o]?) : VT σ' o d ws c := by
  cases h with
  | none => exact .none
  | msl h1 h2 h3 h4 => exact .msl h1 (by rw [k h1]; exact h2) h3 h4
theorem map_flv (ws : List Wd) : (flv ws).map D.v = fl ws := rfl
structure Cp (σ : Sg) (cp oF oT : Nat) (fr to : List Wd) (c : Nat) (dF dT : D) : Prop where
  cell : σ.objs[cp]? = some (.cells [dF, dT])
  vf : VW σ oF dF fr
  vt : VT σ oT dT to c
  n1 : oF ≠ cp
  n2 : oT ≠ cp
  n3 : oF ≠ oT
def headF (os : List Ho) (ord F : List Nat) (i : Nat) : Wd := if i ∈ ord then ⟨true, newp os F i⟩ else hdOf os i
/-- The half that is copied from, with where heads moved. -/
def fromW (os : List Ho) (ord F : List Nat) : List Wd := wdsH (headF os ord F) 0 os
def addW (os : List Ho) (ord : List Nat) (w : Wd) : List Wd := if w.p = true then (match idxAt os w.v with
  | some i => if i ∈ ord then [] else hdOf os i :: wOf os i
  | none => []) else []
theorem pickO_app (os : List Ho) (a b : List Nat) : pickO os (a ++ b) = pickO os a ++ pickO os b := by simp [pickO]
theorem newp_next {os : List Ho} {ord F : List Nat} {i : Nat} (h : ord ++ [i] <+: F) (hF : Okd os F) : newp os F i = tot (pickO os ord) := by
  have hq : F[ord.length]? = some i := by rw [pre_get h (by simp)]; simp
  rw [newp_get hF.nodup hq hF.lt]
  obtain ⟨t, rfl⟩ := h
  unfold offs
  rw [List.append_assoc, pickO_app, List.take_left' (pickO_len fun j hj => hF.lt j (by simp [hj]))]
theorem from_at {os : List Ho} {ord F : List Nat} {i : Nat} {o : Ho} (h : os[i]? = some o) : ∃ r, (fromW os ord F).drop (offs os i) = headF os ord F i :: (o.l ++ r) := by
  have := wdsH_at (headF os ord F) (j := 0) h
  rw [Nat.zero_add] at this
  exact ⟨_, this⟩
theorem from_set {os : List Ho} {ord F : List Nat} {i : Nat} (h : i < os.length) : (fromW os ord F).set (offs os i) ⟨true, newp os F i⟩ = fromW os (ord ++ [i]) F := by
  unfold fromW
  rw [wdsH_set _ _ h]
  refine wdsH_congr os 0 fun k _ _ => ?_
  simp only [headF, Nat.zero_add, List.mem_append, List.mem_singleton]
  by_cases hk : k = i
  · simp [hk]
  · simp [hk]
theorem k_Move {σ : Sg} {cp oF oT c : Nat} {os : List Ho} {ord F : List Nat} {to : List Wd} {dF dT : D} {w : Wd} (hC : Cp σ cp oF oT (fromW os ord F) to c dF dT) (ok : OkO os) (hw : fineW os w) (hord : Okd os ord) (hF : Okd os F)
    (hp : reach1 os ord w <+: F) (hto : to.length = tot (pickO os ord)) (hcap : c = tot os) :
    ACalls Try.prog 42 [.ptr cp 0, .v (wv w)] σ fun r σ' => r = .v (wv (turnW os F w)) ∧ (∃ dT', Cp σ' cp oF oT (fromW os (reach1 os ord w) F) (to ++ addW os ord w) c dF dT') ∧ Fr σ σ' (fun i => i = cp ∨ i = oF ∨ i = oT) := by
  obtain ⟨p, v⟩ := w
  have hc := hC.cell
  have hcl := (List.getElem?_eq_some_iff.1 hc).1
  have hon : ∀ {σ' : Sg}, (∀ (i : Nat) ob, σ.objs[i]? = some ob → σ'.objs[i]? = some ob) → Cp σ' cp oF oT (fromW os ord F) to c dF dT := fun {σ'} k => by
    refine ⟨k _ _ hc, hC.vf.on fun hn => ?_, hC.vt.on fun hn => ?_, hC.n1, hC.n2, hC.n3⟩
    · have := hC.vf
      generalize fromW os ord F = ws at this hn
      cases this with
      | nil => exact absurd rfl hn
      | msl w1 w2 w3 w4 => rw [w2]; exact k _ _ w2
    · have := hC.vt
      cases this with
      | none => exact absurd hn (by omega)
      | msl w1 w2 w3 w4 => rw [w2]; exact k _ _ w2
  refine acalls_fit Try.func42 (by kernel_rfl) c42m rfl (by simp [a42m]) fun hf => ?_
  clear hf
  cases p with
  | false =>
    have h1 : reach1 os ord ⟨false, v⟩ = ord := rfl
    have h2 : addW os ord ⟨false, v⟩ = [] := rfl
    have h3 : turnW os F ⟨false, v⟩ = ⟨false, v⟩ := rfl
    rw [h1, h2, h3, List.append_nil]
    simp -implicitDefEqProofs (maxSteps := 2000000) (disch := omega) [-getElem?_pos, a42m]
    exact ⟨_, _, WeakR.refl _ _ _, rfl, ⟨dT, hon on_app⟩, by simpa using Fr.add σ _ [] _⟩
  | true =>
    obtain ⟨i, hi⟩ := hw rfl
    obtain ⟨hil, hv⟩ := idxAt_iff.1 hi
    obtain ⟨o, ho⟩ : ∃ o, os[i]? = some o := ⟨_, List.getElem?_eq_getElem hil⟩
    dsimp only at hi hv
    subst hv
    obtain ⟨rr, hfa⟩ := from_at (ord := ord) (F := F) ho
    have hend := offs_end ho
    have hlf : (fromW os ord F).length = tot os := wdsH_len _ _ _
    have hosz : osz o = 1 + o.l.length := rfl
    have hwo : wOf os i = o.l := by simp [wOf, ho]
    have h3 : turnW os F ⟨true, offs os i⟩ = ⟨true, newp os F i⟩ := by simp [turnW, hi]
    rw [h3]
    have hvf := hC.vf
    have hvt := hC.vt
    have hsm := ok.small
    by_cases hm : i ∈ ord
    · have h1 : reach1 os ord ⟨true, offs os i⟩ = ord := by simp [reach1, hi, hm]
      have h2 : addW os ord ⟨true, offs os i⟩ = [] := by simp [addW, hi, hm]
      rw [h1, h2, List.append_nil]
      have hh : headF os ord F i = ⟨true, newp os F i⟩ := by simp [headF, hm]
      rw [hh] at hfa
      generalize hws : fromW os ord F = ws at hvf hfa hlf hon ⊢
      have hrow := fun J => fl_row (J := J) (get_drop hfa)
      have hlt := (List.getElem?_eq_some_iff.1 (get_drop hfa)).1
      cases hvf with
      | nil => simp at hlt
      | msl w1 w2 w3 w4 =>
      have hoFl := (List.getElem?_eq_some_iff.1 w2).1
      simp -implicitDefEqProofs (maxSteps := 2000000) (disch := omega) [-getElem?_pos, a42m, hc, List.getElem?_append_left, w2, hrow, mkAgg, allV]
      refine ⟨by omega, by rw [fl_len]; omega, ?_⟩
      refine (k_Moved true _ _).then fun r hr => ?_
      subst hr
      simp -implicitDefEqProofs (maxSteps := 2000000) (disch := omega) [-getElem?_pos]
      refine (k_At _ _).then fun r hr => ?_
      subst hr
      simp -implicitDefEqProofs (maxSteps := 2000000) (disch := omega) [-getElem?_pos]
      exact ⟨_, _, WeakR.refl _ _ _, rfl, ⟨dT, hon on_app⟩, by simpa using Fr.add σ _ [] _⟩
    · have h1 : reach1 os ord ⟨true, offs os i⟩ = ord ++ [i] := by simp [reach1, hi, hm]
      have hdo : hdOf os i = headW o := by simp [hdOf, ho]
      have h2 : addW os ord ⟨true, offs os i⟩ = headW o :: o.l := by simp [addW, hi, hm, hdo, hwo]
      rw [h1] at hp ⊢
      rw [h2]
      have hnx := newp_next hp hF
      have hh : headF os ord F i = headW o := by simp [headF, hm, hdo]
      have hset := from_set (ord := ord) (F := F) hil
      rw [hnx, ← hto] at hset ⊢
      rw [hh] at hfa
      have hok2 : Okd os (ord ++ [i]) := by
        have := reach1_ok hord ⟨true, offs os i⟩
        rwa [h1] at this
      have hfit : to.length + (1 + o.l.length) ≤ c := by
        have := tot_pick hok2
        rw [pickO_app, tot_app] at this
        have h5 : tot (pickO os [i]) = osz o := by simp [pickO, ho, tot]
        omega
      have hpa := headW_parts (ok.k o (List.mem_of_getElem? ho))
      have hkp := fun σ => k_Parts (headW o).p (headW o).v σ
      rw [hpa] at hkp
      have hkm := fun σ => k_Moved (headW o).p (headW o).v σ
      rw [show (headW o).p = false from rfl] at hkm
      have hpar : ∀ J : List D, ((fl (fromW os ord F) ++ J).drop (offs os i * 2)).take ((1 + o.l.length) * 2) = fl (headW o :: o.l) := fun J => by
        rw [fl_part (by omega), hfa, show headW o :: (o.l ++ rr) = (headW o :: o.l) ++ rr by simp, List.take_left' (by simp; omega)]
      have hks := ok.k o (List.mem_of_getElem? ho)
      have hnn : ((offs os i : Int) + o.l.length + 1).toNat - offs os i = 1 + o.l.length := by omega
      obtain ⟨Y, hY⟩ : ∃ Y, Y = headW o :: o.l := ⟨_, rfl⟩
      have hYl : Y.length = 1 + o.l.length := by rw [hY]; simp; omega
      have hch : chunk 2 (1 + o.l.length) (flv Y) = Y.map wv := by rw [← hYl]; exact chunk_fl Y
      rw [← hY] at hpar ⊢
      have hfit2 : to.length + Y.length ≤ c := by omega
      generalize hws : fromW os ord F = ws at hvf hfa hlf hpar hset
      have hrow := fun J => fl_row (J := J) (get_drop hfa)
      have hlt := (List.getElem?_eq_some_iff.1 (get_drop hfa)).1
      cases hvf with
      | nil => simp at hlt
      | msl w1 w2 w3 w4 =>
      rename_i J c1
      cases hvt with
      | none => omega
      | msl t1 t2 t3 t4 =>
      rename_i K
      have hoFl := (List.getElem?_eq_some_iff.1 w2).1
      have hoTl := (List.getElem?_eq_some_iff.1 t2).1
      have n1 := hC.n1
      have n2 := hC.n2
      have n3 := hC.n3
      simp -implicitDefEqProofs (maxSteps := 2000000) (disch := omega) [-getElem?_pos, a42m, hc, List.getElem?_append_left, w2, hrow, mkAgg, allV]
      refine ⟨by omega, by rw [fl_len]; omega, ?_⟩
      refine (hkm _).then fun r hr => ?_
      subst hr
      simp -implicitDefEqProofs (maxSteps := 2000000) (disch := omega) [-getElem?_pos, hc, List.getElem?_append_left, w2, hrow, mkAgg, allV]
      refine ⟨by omega, by rw [fl_len]; omega, ?_⟩
      refine (hkp _).then fun r hr => ?_
      subst hr
      have hap := put_app (ws := to) (ys := Y) (J := K)
      unfold putAt at hap
      have s1 : ∀ X : Ob, (σ.objs.set oT X)[cp]? = some (.cells [.msl oF 0 ws.length (some 2) (some c1), .msl oT 0 to.length (some 2) (some c)]) := fun X => by rw [List.getElem?_set_ne n2]; exact hc
      have s2 : ∀ X Y : Ob, ((σ.objs.set oT X).set cp Y)[cp]? = some Y := fun X Y => List.getElem?_set_self (by simpa using hcl)
      have s3 : ∀ X Y : Ob, ((σ.objs.set oT X).set cp Y)[oF]? = some (.cells (fl ws ++ J)) := fun X Y => by rw [List.getElem?_set_ne (Ne.symm n1), List.getElem?_set_ne (Ne.symm n3)]; exact w2
      have hcs : c1 ≥ tot os := by rw [← hlf]; have := w3; rw [List.length_append, fl_len] at this; omega
      have a1 : ∀ (X : Ob) xs, (σ.objs.set oT X ++ xs)[cp]? = some (.cells [.msl oF 0 ws.length (some 2) (some c1), .msl oT 0 to.length (some 2) (some c)]) := fun X xs => by rw [List.getElem?_append_left (by simpa using hcl), s1]
      have a2 : ∀ (X Y : Ob) xs, (σ.objs.set oT X ++ xs).set cp Y = (σ.objs.set oT X).set cp Y ++ xs := fun X Y xs => List.set_append_left _ _ (by simpa using hcl)
      have a3 : ∀ (X Y : Ob) xs, ((σ.objs.set oT X).set cp Y ++ xs)[cp]? = some Y := fun X Y xs => by rw [List.getElem?_append_left (by simpa using hcl), s2]
      have a4 : ∀ (X Y : Ob) xs, ((σ.objs.set oT X).set cp Y ++ xs)[oF]? = some (.cells (fl ws ++ J)) := fun X Y xs => by rw [List.getElem?_append_left (by simpa using hoFl), s3]
      have a5 : ∀ (X Y Z : Ob) xs, ((σ.objs.set oT X).set cp Y ++ xs).set oF Z = ((σ.objs.set oT X).set cp Y).set oF Z ++ xs := fun X Y Z xs => List.set_append_left _ _ (by simpa using hoFl)
      have hpr := put_row (ws := ws) (w := ⟨true, to.length⟩) (J := J) (i := offs os i) hlt
      replace hpr : List.take (offs os i * 2) (fl ws ++ J) ++ D.v (.bool true) :: D.v (.int .i64 to.length) :: List.drop (offs os i * 2 + 2) (fl ws ++ J) = fl (ws.set (offs os i) ⟨true, to.length⟩) ++ J := hpr
      have a6 : ∀ (X Y Z p q : Ob), (((σ.objs.set oT X).set cp Y).set oF Z ++ [p, q])[σ.objs.length + 1]? = some q := fun X Y Z p q => by rw [List.getElem?_append_right (by simp)]; simp
      have a7 : ∀ (X Y Z p q W : Ob), (((σ.objs.set oT X).set cp Y).set oF Z ++ [p, q]).set (σ.objs.length + 1) W = ((σ.objs.set oT X).set cp Y).set oF Z ++ [p, W] := fun X Y Z p q W => by rw [List.set_append_right _ _ (by simp)]; simp
      simp -implicitDefEqProofs (maxSteps := 2000000) (disch := omega) [-getElem?_pos, hc, List.getElem?_append_left, w2, t2, hrow, mkAgg, allV, hnn, hpar, allV_fl, rowsV, hch, flat_wv, map_flv, hap, hfit2, a1, a2, a3, a4, a5, List.set_append_left]
      have t3' : (fl to).length + K.length = c * 2 := by rw [← List.length_append]; exact t3
      refine ⟨by omega, by omega, fun h0 => absurd (List.length_eq_zero_iff.1 (by have h9 := fl_len ws; rw [h0, List.length_nil] at h9; omega)) w1, by rw [fl_len]; omega, by rw [t3']; omega, ?_⟩
      refine (k_At _ _).then fun r hr => ?_
      subst hr
      simp -implicitDefEqProofs (maxSteps := 2000000) (disch := omega) [-getElem?_pos, a1, a2, a3, a4, a5, hpr]
      refine ⟨by omega, by rw [fl_len]; omega, ?_⟩
      refine (k_At _ _).then fun r hr => ?_
      subst hr
      simp -implicitDefEqProofs (maxSteps := 2000000) (disch := omega) [-getElem?_pos, a6, a7]
      refine ⟨_, _, WeakR.refl _ _ _, rfl, ⟨.msl oT 0 (to ++ Y).length (some 2) (some c), ⟨?_, ?_, ?_, n1, n2, n3⟩⟩, ?_⟩
      · refine (List.getElem?_append_left (by simpa using hcl)).trans ?_
        rw [List.getElem?_set_ne n1, List.getElem?_set_self (by simpa using hcl), List.length_append]
      · rw [← hset]
        have := VW.msl (σ := ⟨((σ.objs.set oT (Ob.cells (fl (to ++ Y) ++ List.drop (Y.length * 2) K))).set cp (Ob.cells [D.msl oF 0 ws.length (some 2) (some c1), D.msl oT 0 (to.length + Y.length) (some 2) (some c)])).set oF (Ob.cells (fl (ws.set (offs os i) ⟨true, to.length⟩) ++ J)) ++
              [Ob.cells [D.v (V.bool true), D.v (V.int IntKind.i64 ↑(offs os i))], Ob.cells [D.v (V.bool true), D.v (V.int IntKind.i64 ↑to.length)]], σ.toks⟩) (o := oF) (ws := ws.set (offs os i) ⟨true, to.length⟩) (J := J) (c := c1)
          (by intro e; have := congrArg List.length e; simp at this; exact w1 this) ((List.getElem?_append_left (by simpa using hoFl)).trans (List.getElem?_set_self (by simpa using hoFl))) (by rw [← w3]; simp [fl_len]) w4
        rwa [List.length_set] at this
      · refine .msl (J := List.drop (Y.length * 2) K) t1 ((List.getElem?_append_left (by simpa using hoTl)).trans ?_) ?_ t4
        · rw [List.getElem?_set_ne n3, List.getElem?_set_ne (Ne.symm n2), List.getElem?_set_self hoTl]
        · rw [List.length_append, fl_len, List.length_drop, List.length_append]
          rw [fl_len] at t3'
          omega
      · refine ⟨by simp, fun j hj hn => ?_, Nat.le_refl _, fun j hj => rfl⟩
        refine (List.getElem?_append_left (by simpa using hj)).trans ?_
        rw [List.getElem?_set_ne (fun e => hn (.inr (.inl e.symm))), List.getElem?_set_ne (fun e => hn (.inl e.symm)), List.getElem?_set_ne (fun e => hn (.inr (.inr e.symm)))]
end Go.Proofs.Ytiomciifhkbklaa
