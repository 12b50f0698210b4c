/-
  A heap, walked: an object's kind and words; a word is set; a walk. (Own work.)
-/
import Derived.Test.YtiomciifhkbklaaH10
set_option linter.unusedVariables false
set_option linter.unusedSimpArgs false
set_option maxHeartbeats 1000000
namespace Go.Proofs.Ytiomciifhkbklaa
open Go Go.Abs

theorem k_CloneM {σ : Sg} {oS off cS : Nat} {cs : List D} {ys : List Wd} (hs : σ.objs[oS]? = some (.cells cs)) (hd : (cs.drop off).take (ys.length * 2) = fl ys) (ho : off + ys.length * 2 ≤ cs.length) (hl : ys.length ≤ 1000000) :
    ACalls Try.prog 30 [.msl oS off ys.length (some 2) (some cS)] σ fun r σ' => r = .v (.sl (some 2) false (ys.map wv)) ∧ σ' = σ := by
  refine acalls_fit Try.func30 (by kernel_rfl) c30 rfl (by simp [a30]) fun hf => ?_
  clear hf
  by_cases hz : ys = []
  · subst hz
    simp -implicitDefEqProofs (maxSteps := 2000000) (disch := omega) [-getElem?_pos, a30]
    exact ⟨.fin (.v (.sl (some 2) false [])) ⟨rfl, rfl⟩ .tsl, .fin (.v (.sl (some 2) false [])) ⟨rfl, rfl⟩ .snil⟩
  · have hz0 : ¬ ys.length = 0 := fun e => hz (List.length_eq_zero_iff.1 e)
    have hcs : ¬ cs = [] := by rintro rfl; simp at ho; omega
    simp -implicitDefEqProofs (maxSteps := 2000000) (disch := omega) [-getElem?_pos, a30, hz0, hz, hs, hd, ho, hcs, allV_fl, rowsV, chunk_fl]
    exact ⟨by omega, .fin (.v (.sl (some 2) false (ys.map wv))) ⟨rfl, rfl⟩ .tsl⟩
def objR (os : List Ho) (p : Int) : D := match idxAt os p with
  | some i => .tup [.v (.int .i64 ((os[i]?).getD ⟨0, []⟩).k), .v (.sl (some 2) false (((os[i]?).getD ⟨0, []⟩).l.map wv)), .v .inil]
  | none => .tup [.v (.int .i64 0), .v .snil, .v argErr]
theorem sizeO_some {os : List Ho} {p : Int} {i : Nat} {o : Ho} (hi : idxAt os p = some i) (ho : os[i]? = some o) : sizeO os p = .tup [.v (.int .i64 o.l.length), .v (.bool true)] := by simp [sizeO, hi, wOf, ho]
theorem sizeO_none {os : List Ho} {p : Int} (hi : idxAt os p = none) : sizeO os p = .tup [.v (.int .i64 0), .v (.bool false)] := by simp [sizeO, hi]
theorem objR_some {os : List Ho} {p : Int} {i : Nat} {o : Ho} (hi : idxAt os p = some i) (ho : os[i]? = some o) : objR os p = .tup [.v (.int .i64 o.k), .v (.sl (some 2) false (o.l.map wv)), .v .inil] := by simp [objR, hi, ho]
theorem objR_none {os : List Ho} {p : Int} (hi : idxAt os p = none) : objR os p = .tup [.v (.int .i64 0), .v .snil, .v argErr] := by simp [objR, hi]
theorem k_Object {σ : Sg} {hp oL oH : Nat} {half runs place : Int} {os : List Ho} {dl dh : D} (h : Hp σ hp oL oH half os runs dl dh) (ok : OkO os) :
    ACalls Try.prog 24 [.ptr hp 0, .v (.int .i64 place)] σ fun r σ' => r = objR os place ∧ σ' = σ := by
  have hs := k_Size (place := place) h ok
  have hc := h.cell
  have hlw := wds_len os
  have hsm := ok.small
  have hvw := h.vw
  refine acalls_fit Try.func24 (by kernel_rfl) c24 rfl (by simp [a24]) fun hf => ?_
  clear hf
  cases hi : idxAt os place with
  | none =>
    rw [sizeO_none hi] at hs
    rw [objR_none hi]
    simp -implicitDefEqProofs (maxSteps := 2000000) (disch := omega) [-getElem?_pos, a24]
    refine hs.then fun r hr => ?_
    subst hr
    simp -implicitDefEqProofs (maxSteps := 2000000) (disch := omega) [-getElem?_pos]
    exact .fin _ ⟨rfl, rfl⟩ (.refl _)
  | some i =>
    obtain ⟨hil, hv⟩ := idxAt_iff.1 hi
    obtain ⟨o, ho⟩ : ∃ o, os[i]? = some o := ⟨_, List.getElem?_eq_getElem hil⟩
    rw [sizeO_some hi ho] at hs
    rw [objR_some hi ho]
    subst hv
    have hend := offs_end ho
    have hosz : osz o = 1 + o.l.length := rfl
    have hks := ok.k o (List.mem_of_getElem? ho)
    have hpa := headW_parts hks
    have hkp := fun σ => k_Parts (headW o).p (headW o).v σ
    rw [hpa] at hkp
    have hat := wds_at ho
    generalize hws : wds os = ws at hvw hat hlw
    have hrow := fun J => fl_row (J := J) (get_drop hat)
    cases hvw with
    | nil => simp at hat
    | msl w1 w2 w3 w4 =>
    rename_i J c
    have hlt : offs os i < ws.length := by omega
    have hat2 : ws.drop (offs os i + 1) = o.l ++ wds (os.drop (i + 1)) := by rw [← List.drop_drop, hat]; rfl
    have hnn : ((offs os i : Int) + 1 + o.l.length - ((offs os i : Int) + 1)).toNat = o.l.length := by omega
    rw [List.length_append, fl_len] at w3
    have hcl := fun cS => k_CloneM (σ := σ) (oS := oL) (off := (offs os i + 1) * 2) (cS := cS) (ys := o.l) w2 (by rw [fl_part (by omega), hat2, List.take_left' rfl]) (by rw [List.length_append, fl_len]; omega) (by omega)
    simp -implicitDefEqProofs (maxSteps := 2000000) (disch := omega) [-getElem?_pos, a24, hc, hlt, w2, hrow, mkAgg, allV]
    refine hs.then fun r hr => ?_
    subst hr
    simp -implicitDefEqProofs (maxSteps := 2000000) (disch := omega) [-getElem?_pos, hc, hlt, w2, hrow, mkAgg, allV]
    refine ⟨by rw [fl_len]; omega, ?_⟩
    refine (hkp _).then fun r hr => ?_
    subst hr
    simp -implicitDefEqProofs (maxSteps := 2000000) (disch := omega) [-getElem?_pos, hc, hnn]
    refine ⟨by omega, by omega, by omega, ?_⟩
    refine (hcl _).then fun r hr => ?_
    subst hr
    simp -implicitDefEqProofs (maxSteps := 2000000) (disch := omega) [-getElem?_pos]
    exact .fin _ ⟨rfl, rfl⟩ (.refl _)
/-- A word of an object is set. -/
def setO (os : List Ho) (i j : Nat) (w : Wd) : List Ho := match os[i]? with
  | some o => os.set i ⟨o.k, o.l.set j w⟩
  | none => os
theorem setO_some {os : List Ho} {i j : Nat} {w : Wd} {o : Ho} (ho : os[i]? = some o) : setO os i j w = os.set i ⟨o.k, o.l.set j w⟩ := by simp [setO, ho]
theorem wds_set {os : List Ho} {i j : Nat} {w : Wd} {o : Ho} (ho : os[i]? = some o) (hj : j < o.l.length) : (wds os).set (offs os i + 1 + j) w = wds (setO os i j w) := by
  rw [setO_some ho]
  have hil := (List.getElem?_eq_some_iff.1 ho).1
  have ht : os = os.take i ++ o :: os.drop (i + 1) := by rw [← drop_cons ho, List.take_append_drop]
  have hl : (wds (os.take i)).length = offs os i := by rw [wds_len]; rfl
  rw [show os.set i ⟨o.k, o.l.set j w⟩ = os.take i ++ ⟨o.k, o.l.set j w⟩ :: os.drop (i + 1) by rw [List.set_eq_take_append_cons_drop, if_pos hil]]
  conv => lhs; rw [ht]
  rw [wds_app, wds_app, wds_cons, wds_cons]
  have ho2 : offs (os.take i ++ o :: os.drop (i + 1)) i = offs os i := by rw [← ht]
  rw [ho2, List.set_append_right _ _ (by omega), hl, show offs os i + 1 + j - offs os i = j + 1 by omega, List.set_cons_succ, List.set_append_left _ _ hj]
  simp [headW]
theorem hds_set {os : List Ho} {i j : Nat} {w : Wd} : hds (setO os i j w) = hds os := by
  cases ho : os[i]? with
  | none => simp [setO, ho]
  | some o =>
    rw [setO_some ho]
    have hil := (List.getElem?_eq_some_iff.1 ho).1
    have ht : os = os.take i ++ o :: os.drop (i + 1) := by rw [← drop_cons ho, List.take_append_drop]
    rw [List.set_eq_take_append_cons_drop, if_pos hil]
    conv => rhs; rw [ht]
    simp [hds_app, hds_cons]
theorem offs_set {os : List Ho} {i j k : Nat} {w : Wd} : offs (setO os i j w) k = offs os k := by
  cases ho : os[i]? with
  | none => simp [setO, ho]
  | some o =>
    rw [setO_some ho]
    unfold offs
    have key : ∀ (os : List Ho) (i k : Nat), os[i]? = some o → tot ((os.set i ⟨o.k, o.l.set j w⟩).take k) = tot (os.take k) := by
      intro os
      induction os with
      | nil => intro i k h; simp at h
      | cons a os ih =>
        intro i k h
        cases k with
        | zero => rfl
        | succ k =>
          cases i with
          | zero => simp at h; subst h; simp [tot, osz]
          | succ i => simp only [List.set_cons_succ, List.take_succ_cons, tot]; rw [ih i k (by simpa using h)]
    exact key os i k ho
theorem len_set {os : List Ho} {i j : Nat} {w : Wd} : (setO os i j w).length = os.length := by
  unfold setO
  split <;> simp
theorem tot_set {os : List Ho} {i j : Nat} {w : Wd} : tot (setO os i j w) = tot os := by
  have h1 := offs_set (os := os) (i := i) (j := j) (k := os.length) (w := w)
  unfold offs at h1
  rwa [List.take_length, List.take_of_length_le (by rw [len_set]; exact Nat.le_refl _)] at h1
theorem idxAt_set {os : List Ho} {i j : Nat} {w : Wd} {p : Int} : idxAt (setO os i j w) p = idxAt os p := by
  cases h : idxAt os p with
  | none =>
    cases h2 : idxAt (setO os i j w) p with
    | none => rfl
    | some q =>
      obtain ⟨h3, h4⟩ := idxAt_iff.1 h2
      rw [len_set] at h3
      rw [offs_set] at h4
      rw [idxAt_iff.2 ⟨h3, h4⟩] at h
      cases h
  | some q =>
    obtain ⟨h3, h4⟩ := idxAt_iff.1 h
    exact idxAt_iff.2 ⟨by rw [len_set]; exact h3, by rw [offs_set]; exact h4⟩
theorem fine_set {os : List Ho} {i j : Nat} {w u : Wd} : fineW (setO os i j w) u ↔ fineW os u := by simp only [fineW, idxAt_set]
theorem ok_set {os : List Ho} {i j : Nat} {w : Wd} (ok : OkO os) (hw : fineW os w) : OkO (setO os i j w) := by
  cases ho : os[i]? with
  | none => rw [show setO os i j w = os by simp [setO, ho]]; exact ok
  | some o =>
    have hom := List.mem_of_getElem? ho
    refine ⟨fun a ha => ?_, fun a ha u hu => fine_set.2 ?_, by rw [tot_set]; exact ok.small⟩
    · rw [setO_some ho] at ha
      rcases List.mem_or_eq_of_mem_set ha with ha | rfl
      · exact ok.k a ha
      · simpa using ok.k o hom
    · rw [setO_some ho] at ha
      rcases List.mem_or_eq_of_mem_set ha with ha | rfl
      · exact ok.fine a ha u hu
      · rcases List.mem_or_eq_of_mem_set hu with hu | rfl
        · exact ok.fine o hom u hu
        · exact hw
/-- What a walk meets, as it is written. -/
def walkV (os : List Ho) (far : Nat) (w : Wd) : V := .sl none false ((walkO os far w).map (.int .i64))
theorem walk_len (os : List Ho) : ∀ (far : Nat) (w : Wd), (walkO os far w).length ≤ 3 * 5 ^ far := by
  intro far
  induction far with
  | zero =>
    intro w
    unfold walkO
    split
    · split
      · simp
      · split <;> simp
    · simp
  | succ far ih =>
    intro w
    have hp : 0 < 5 ^ far := Nat.pow_pos (by decide)
    have key : ∀ l : List Wd, (l.flatMap (walkO os far)).length ≤ l.length * (3 * 5 ^ far) := by
      intro l
      induction l with
      | nil => simp
      | cons x l ih2 =>
        rw [List.flatMap_cons, List.length_append, List.length_cons, Nat.add_mul]
        have := ih x
        omega
    unfold walkO
    rw [Nat.pow_succ]
    split
    · split
      · simp; omega
      · split
        · simp; omega
        · rename_i o _
          have h1 := key (o.l.take 4)
          have h2 : (o.l.take 4).length ≤ 4 := by rw [List.length_take]; omega
          have h3 : (o.l.take 4).length * (3 * 5 ^ far) ≤ 4 * (3 * 5 ^ far) := Nat.mul_le_mul_right _ h2
          dsimp only
          rw [List.length_append]
          simp only [List.length_cons, List.length_nil]
          omega
    · simp; omega
end Go.Proofs.Ytiomciifhkbklaa
