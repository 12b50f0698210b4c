/-
  The document's heap: how it lies; At, Used, Fine. (Own work.)
-/
import Derived.Test.YtiomciifhkbklaaH14
import Derived.Test.YtiomciifhkbklaaF3
set_option linter.unusedVariables false
set_option linter.unusedSimpArgs false
set_option maxHeartbeats 1000000
namespace Go.Proofs.Ytiomciifhkbklaa
open Go Go.Abs

/-- An object's words, which may be written to: where they lie. -/
inductive VI (σ : Sg) (o : Nat) : D → List Wd → Prop
  | nil : VI σ o (.v .snil) []
  | emp : VI σ o (.v (.sl (some 2) true [])) []
  | msl {ws : List Wd} {J : List D} {c : Nat} : ws ≠ [] → σ.objs[o]? = some (.cells (fl ws ++ J)) → (fl ws ++ J).length = c * 2 → c ≤ maxLen → VI σ o (.msl o 0 ws.length (some 2) (some c)) ws
theorem VI.on {σ σ' : Sg} {o : Nat} {d : D} {ws : List Wd} (h : VI σ o d ws) (k : ws ≠ [] → σ'.objs[o]? = σ.objs[o]?) : VI σ' o d ws := by
  cases h with
  | nil => exact .nil
  | emp => exact .emp
  | msl h1 h2 h3 h4 => exact .msl h1 (by rw [k h1]; exact h2) h3 h4
theorem VI.lt {σ : Sg} {o : Nat} {d : D} {ws : List Wd} (h : VI σ o d ws) (k : ws ≠ []) : o < σ.objs.length := by
  cases h with
  | nil => exact absurd rfl k
  | emp => exact absurd rfl k
  | msl h1 h2 h3 h4 => exact (List.getElem?_eq_some_iff.1 h2).1
theorem wlen_VI {σ σ' : Sg} {o : Nat} {d : D} {ws : List Wd} {K : V → Prop} (h : VI σ o d ws) : WLen .sl d σ' K = K (.int .i64 ws.length) := by
  cases h with
  | nil => simp
  | emp => simp
  | msl w1 w2 w3 w4 => simp
structure Rr where
  id : Nat
  d : D
/-- Objects one behind the other, from a place on. -/
def cellsR : Nat → List Ho → List Rr → List D
  | p, o :: os, r :: rs => .v (.int .i64 p) :: .v (.int .i64 o.k) :: r.d :: cellsR (p + osz o) os rs
  | _, _, _ => []
theorem cellsR_len : ∀ {p : Nat} {os : List Ho} {rs : List Rr}, rs.length = os.length → (cellsR p os rs).length = os.length * 3
  | p, [], rs, h => by simp [cellsR]
  | p, o :: os, [], h => by simp at h
  | p, o :: os, r :: rs, h => by
    simp only [cellsR, List.length_cons]
    rw [cellsR_len (by simpa using h)]
    omega
theorem cellsR_drop : ∀ {p : Nat} {os : List Ho} {rs : List Rr} {i : Nat} {o : Ho} {r : Rr} {J : List D}, os[i]? = some o → rs[i]? = some r → ∃ K, (cellsR p os rs ++ J).drop (i * 3) = .v (.int .i64 (p + offs os i : Nat)) :: .v (.int .i64 o.k) :: r.d :: K
  | p, [], rs, i, o, r, J, h, _ => by simp at h
  | p, a :: os, [], i, o, r, J, _, h => by simp at h
  | p, a :: os, b :: rs, 0, o, r, J, h, h' => by
    simp at h h'
    subst h h'
    exact ⟨cellsR (p + osz a) os rs ++ J, by simp [cellsR, offs, tot]⟩
  | p, a :: os, b :: rs, i + 1, o, r, J, h, h' => by
    obtain ⟨K, hK⟩ := cellsR_drop (p := p + osz a) (J := J) (os := os) (rs := rs) (i := i) (by simpa using h) (by simpa using h')
    refine ⟨K, ?_⟩
    rw [show (i + 1) * 3 = i * 3 + 1 + 1 + 1 by omega]
    simp only [cellsR, List.cons_append, List.drop_succ_cons]
    rw [hK]
    have : offs (a :: os) (i + 1) = osz a + offs os i := by simp [offs, tot]
    rw [this, Nat.add_assoc]
theorem cellsR_app : ∀ {p : Nat} {os os2 : List Ho} {rs rs2 : List Rr}, rs.length = os.length → cellsR p (os ++ os2) (rs ++ rs2) = cellsR p os rs ++ cellsR (p + tot os) os2 rs2
  | p, [], os2, rs, rs2, h => by
    have : rs = [] := List.eq_nil_of_length_eq_zero (by simpa using h)
    subst this
    simp [cellsR, tot]
  | p, o :: os, os2, [], rs2, h => by simp at h
  | p, o :: os, os2, r :: rs, rs2, h => by
    simp only [cellsR, List.cons_append]
    rw [cellsR_app (by simpa using h), tot, Nat.add_assoc]
/-- A row of objects. -/
inductive VR (σ : Sg) (oT : Nat) : D → List Ho → List Rr → Prop
  | nil : VR σ oT (.v .snil) [] []
  | emp : VR σ oT (.v (.sl (some 3) true [])) [] []
  | msl {os : List Ho} {rs : List Rr} {J : List D} {c : Nat} : os ≠ [] → σ.objs[oT]? = some (.cells (cellsR 0 os rs ++ J)) → rs.length = os.length → (cellsR 0 os rs ++ J).length = c * 3 → c ≤ maxLen → VR σ oT (.msl oT 0 os.length (some 3) (some c)) os rs
theorem VR.on {σ σ' : Sg} {o : Nat} {d : D} {os : List Ho} {rs : List Rr} (h : VR σ o d os rs) (k : os ≠ [] → σ'.objs[o]? = σ.objs[o]?) : VR σ' o d os rs := by
  cases h with
  | nil => exact .nil
  | emp => exact .emp
  | msl h1 h2 h3 h4 h5 => exact .msl h1 (by rw [k h1]; exact h2) h3 h4 h5
theorem VR.lt {σ : Sg} {o : Nat} {d : D} {os : List Ho} {rs : List Rr} (h : VR σ o d os rs) (k : os ≠ []) : o < σ.objs.length := by
  cases h with
  | nil => exact absurd rfl k
  | emp => exact absurd rfl k
  | msl h1 h2 h3 h4 => exact (List.getElem?_eq_some_iff.1 h2).1
theorem VR.len {σ : Sg} {o : Nat} {d : D} {os : List Ho} {rs : List Rr} (h : VR σ o d os rs) : rs.length = os.length := by
  cases h with
  | nil => rfl
  | emp => rfl
  | msl h1 h2 h3 h4 => exact h3
theorem wlen_VR {σ σ' : Sg} {o : Nat} {d : D} {os : List Ho} {rs : List Rr} {K : V → Prop} (h : VR σ o d os rs) : WLen .sl d σ' K = K (.int .i64 os.length) := by
  cases h with
  | nil => simp
  | emp => simp
  | msl w1 w2 w3 w4 => simp
/-- The row, as a piece of memory: what reads of it give. -/
theorem VR.row {σ : Sg} {o : Nat} {d : D} {os : List Ho} {rs : List Rr} (h : VR σ o d os rs) {i : Nat} {x : Ho} (hi : os[i]? = some x) :
    ∃ (c : Nat) (cs : List D) (r : Rr), d = .msl o 0 os.length (some 3) (some c) ∧ σ.objs[o]? = some (.cells cs) ∧ rs[i]? = some r ∧ cs.length = c * 3 ∧ os.length ≤ c ∧
      cs[i * 3]? = some (.v (.int .i64 (offs os i))) ∧ cs[i * 3 + 1]? = some (.v (.int .i64 x.k)) ∧ cs[i * 3 + 2]? = some r.d ∧ (cs.drop (i * 3)).take 3 = [.v (.int .i64 (offs os i)), .v (.int .i64 x.k), r.d] := by
  cases h with
  | nil => simp at hi
  | emp => simp at hi
  | msl h1 h2 h3 h4 h5 =>
    rename_i J c
    have hlt := (List.getElem?_eq_some_iff.1 hi).1
    obtain ⟨r, hr⟩ : ∃ r, rs[i]? = some r := ⟨_, List.getElem?_eq_getElem (by omega)⟩
    obtain ⟨K, hK⟩ := cellsR_drop (p := 0) (J := J) hi hr
    rw [Nat.zero_add] at hK
    have hg : ∀ k, (cellsR 0 os rs ++ J)[i * 3 + k]? = ((cellsR 0 os rs ++ J).drop (i * 3))[k]? := fun k => by rw [List.getElem?_drop]
    refine ⟨c, _, r, rfl, h2, hr, h4, ?_, ?_, ?_, ?_, ?_⟩
    · rw [List.length_append, cellsR_len h3] at h4
      omega
    · have := hg 0
      rw [hK] at this
      simpa using this
    · rw [hg 1, hK]; rfl
    · rw [hg 2, hK]; rfl
    · rw [hK]; rfl
/-- The document's heap. -/
structure RH (σ : Sg) (m oT : Nat) (half : Int) (os : List Ho) (runs : Int) (dT : D) (rs : List Rr) : Prop where
  cell : σ.objs[m]? = some (.cells [.v (.int .i64 half), dT, .v (.int .i64 runs)])
  top : VR σ oT dT os rs
  inn : ∀ (i : Nat) o r, os[i]? = some o → rs[i]? = some r → VI σ r.id r.d o.l
  nT : os ≠ [] → oT ≠ m
  nm : ∀ (i : Nat) o r, os[i]? = some o → rs[i]? = some r → o.l ≠ [] → r.id ≠ m ∧ r.id ≠ oT
  nd : ∀ (i j : Nat) a b r q, os[i]? = some a → os[j]? = some b → rs[i]? = some r → rs[j]? = some q → a.l ≠ [] → b.l ≠ [] → r.id = q.id → i = j
/-- What it lies in. -/
def RS (m oT : Nat) (os : List Ho) (rs : List Rr) (i : Nat) : Prop := i = m ∨ i = oT ∧ os ≠ [] ∨ ∃ (k : Nat) (o : Ho) (r : Rr), os[k]? = some o ∧ rs[k]? = some r ∧ o.l ≠ [] ∧ i = r.id
theorem RH.on {σ σ' : Sg} {m oT : Nat} {half runs : Int} {os : List Ho} {dT : D} {rs : List Rr} (h : RH σ m oT half os runs dT rs) (k : ∀ i, RS m oT os rs i → σ'.objs[i]? = σ.objs[i]?) : RH σ' m oT half os runs dT rs :=
  ⟨(k m (.inl rfl)).trans h.cell, h.top.on fun hn => k _ (.inr (.inl ⟨rfl, hn⟩)), fun i o r h1 h2 => (h.inn i o r h1 h2).on fun hn => k _ (.inr (.inr ⟨i, o, r, h1, h2, hn, rfl⟩)), h.nT, h.nm, h.nd⟩
theorem RH.lt {σ : Sg} {m oT : Nat} {half runs : Int} {os : List Ho} {dT : D} {rs : List Rr} (h : RH σ m oT half os runs dT rs) {i : Nat} (hi : RS m oT os rs i) : i < σ.objs.length := by
  rcases hi with rfl | ⟨rfl, hn⟩ | ⟨k, o, r, h1, h2, hn, rfl⟩
  · exact (List.getElem?_eq_some_iff.1 h.cell).1
  · exact h.top.lt hn
  · exact (h.inn k o r h1 h2).lt hn
theorem RH.app {σ : Sg} {m oT : Nat} {half runs : Int} {os : List Ho} {dT : D} {rs : List Rr} (h : RH σ m oT half os runs dT rs) (xs : List Ob) (ts : List Nat) : RH ⟨σ.objs ++ xs, ts⟩ m oT half os runs dT rs :=
  h.on fun i hi => List.getElem?_append_left (h.lt hi)
theorem len_tot : ∀ os : List Ho, os.length ≤ tot os
  | [] => Nat.le_refl _
  | o :: os => by
    have := len_tot os
    simp only [List.length_cons, tot, osz]
    omega
def idxR (os : List Ho) (p : Int) : Int := match idxAt os p with
  | some i => i
  | none => -1
theorem k_RAt {σ : Sg} {m oT : Nat} {half runs place : Int} {os : List Ho} {dT : D} {rs : List Rr} (h : RH σ m oT half os runs dT rs) (hl : os.length ≤ 100000) :
    ACalls Try.prog 20 [.ptr m 0, .v (.int .i64 place)] σ fun r σ' => r = .v (.int .i64 (idxR os place)) ∧ σ' = σ := by
  have hc := h.cell
  have hwl : ∀ (σ' : Sg) (K : V → Prop), WLen .sl dT σ' K = K (.int .i64 os.length) := fun σ' K => wlen_VR h.top
  refine acalls_fit Try.func20 (by kernel_rfl) c20 rfl (by simp [a20]) fun hf => ?_
  clear hf
  simp -implicitDefEqProofs (maxSteps := 2000000) (disch := omega) [-getElem?_pos, a20]
  refine W_loop (α := Nat) 0 (fun x => os.length - x) (fun x => ⟨[(0, .ptr m 0), (1, .v (.int .i64 place)), (4, .v (.int .i64 0)), (5, .v (.int .i64 x))], σ⟩)
    (fun x => x ≤ os.length ∧ ∀ j, j < x → (offs os j : Int) ≠ place) (.eq (by simp)) ⟨Nat.zero_le _, fun j hj => by omega⟩ fun i ⟨hi, hn⟩ => ?_
  simp -implicitDefEqProofs (maxSteps := 2000000) (disch := omega) [-getElem?_pos, hc, hwl]
  refine .mk (fun hlt => ?_) fun hlt => ?_
  · have hlt' : i < os.length := by omega
    obtain ⟨x, hx⟩ : ∃ x, os[i]? = some x := ⟨_, List.getElem?_eq_getElem hlt'⟩
    obtain ⟨c, cs, r, rfl, h2, h3, h4, h5, h6, h7, h8, h9⟩ := h.top.row hx
    simp -implicitDefEqProofs (maxSteps := 2000000) (disch := omega) [-getElem?_pos, hc, h2, h6]
    refine ⟨hlt', .mk (fun he => ?_) fun he => ?_⟩
    · have hid : idxR os place = i := by
        have : idxAt os place = some i := idxAt_iff.2 ⟨hlt', he.symm⟩
        simp [idxR, this]
      rw [hid]
      simp -implicitDefEqProofs (maxSteps := 2000000) (disch := omega) [-getElem?_pos]
      exact .fin _ ⟨rfl, rfl⟩ (.refl _)
    · simp -implicitDefEqProofs (maxSteps := 2000000) (disch := omega) [-getElem?_pos]
      exact ⟨i + 1, ⟨hlt', fun j hj => by
        by_cases hji : j = i
        · rw [hji]; exact he
        · exact hn j (by omega)⟩, by dsimp only; omega, .eq (by simp)⟩
  · have hid : idxR os place = -1 := by
      have : idxAt os place = none := by
        cases hx : idxAt os place with
        | none => rfl
        | some j =>
          obtain ⟨h1, h2⟩ := idxAt_iff.1 hx
          exact absurd h2.symm (hn j (by omega))
      simp [idxR, this]
    rw [hid]
    simp -implicitDefEqProofs (maxSteps := 2000000) (disch := omega) [-getElem?_pos]
    exact .fin _ ⟨rfl, rfl⟩ (.refl _)
theorem k_RUsed {σ : Sg} {m oT : Nat} {half runs : Int} {os : List Ho} {dT : D} {rs : List Rr} (h : RH σ m oT half os runs dT rs) (hl : tot os ≤ 100000) :
    ACalls Try.prog 36 [.ptr m 0] σ fun r σ' => r = .v (.int .i64 (tot os)) ∧ σ' = σ := by
  have hc := h.cell
  have hwl : ∀ (σ' : Sg) (K : V → Prop), WLen .sl dT σ' K = K (.int .i64 os.length) := fun σ' K => wlen_VR h.top
  have hll : os.length ≤ tot os := len_tot os
  refine acalls_fit Try.func36 (by kernel_rfl) c36 rfl (by simp [a36]) fun hf => ?_
  clear hf
  simp -implicitDefEqProofs (maxSteps := 2000000) (disch := omega) [-getElem?_pos, a36]
  refine W_loop (α := Nat) 0 (fun x => os.length - x) (fun x => ⟨[(0, .ptr m 0), (3, .v (.int .i64 (tot (os.take x)))), (4, .v (.int .i64 x))], σ⟩)
    (fun x => x ≤ os.length) (.eq (by simp [tot])) (Nat.zero_le _) fun i hi => ?_
  simp -implicitDefEqProofs (maxSteps := 2000000) (disch := omega) [-getElem?_pos, hc, hwl]
  refine .mk (fun hlt => ?_) fun hlt => ?_
  · have hlt' : i < os.length := by omega
    obtain ⟨x, hx⟩ : ∃ x, os[i]? = some x := ⟨_, List.getElem?_eq_getElem hlt'⟩
    obtain ⟨c, cs, r, rfl, h2, h3, h4, h5, h6, h7, h8, h9⟩ := h.top.row hx
    have hwi : ∀ (σ' : Sg) (K : V → Prop), WLen .sl r.d σ' K = K (.int .i64 x.l.length) := fun σ' K => wlen_VI (h.inn i x r hx h3)
    have hoff := offs_succ hx
    have hend := offs_end hx
    have ho1 : tot (os.take i) = offs os i := rfl
    have ho2 : tot (os.take (i + 1)) = offs os (i + 1) := rfl
    have hosz : osz x = 1 + x.l.length := rfl
    rw [ho1]
    simp -implicitDefEqProofs (maxSteps := 2000000) (disch := omega) [-getElem?_pos, hc, h2, h8, hwi]
    refine ⟨hlt', i + 1, hlt', by dsimp only; omega, .eq (by simp [ho2, hoff, hosz]; omega)⟩
  · have hie : i = os.length := by omega
    subst hie
    rw [List.take_length]
    simp -implicitDefEqProofs (maxSteps := 2000000) (disch := omega) [-getElem?_pos]
    exact .fin _ ⟨rfl, rfl⟩ (.refl _)
theorem idxR_neg {os : List Ho} {w : Wd} (hp : w.p = true) : idxR os w.v < 0 ↔ ¬ fineW os w := by
  unfold idxR fineW
  cases hx : idxAt os w.v with
  | none => simp [hp, hx]
  | some i => simp [hp, hx]
theorem k_RFine {σ : Sg} {m oT : Nat} {half runs : Int} {os : List Ho} {dT : D} {rs : List Rr} {l : List Wd} {f : Bool} (h : RH σ m oT half os runs dT rs) (hl : os.length ≤ 100000) (hll : l.length ≤ 1000000) :
    ACalls Try.prog 21 [.ptr m 0, .v (.sl (some 2) f (l.map wv))] σ fun r σ' => r = .v (.bool (decide (∀ w ∈ l, fineW os w))) ∧ σ' = σ := by
  refine acalls_fit Try.func21 (by kernel_rfl) c21 rfl (by simp [a21]) fun hf => ?_
  clear hf
  simp -implicitDefEqProofs (maxSteps := 2000000) (disch := omega) [-getElem?_pos, a21]
  refine W_loop (α := Nat) 0 (fun x => l.length - x) (fun x => ⟨[(0, .ptr m 0), (1, .v (.sl (some 2) f (l.map wv))), (4, .v (.bool false)), (5, .v (.int .i64 x))], σ⟩)
    (fun x => x ≤ l.length ∧ ∀ w ∈ l.take x, fineW os w) (.eq (by simp)) ⟨Nat.zero_le _, by simp⟩ fun i ⟨hi, hn⟩ => ?_
  simp -implicitDefEqProofs (maxSteps := 2000000) (disch := omega) [-getElem?_pos]
  refine .mk (fun hlt => ?_) fun hlt => ?_
  · have hlt' : i < l.length := by omega
    obtain ⟨x, hx⟩ : ∃ x, l[i]? = some x := ⟨_, List.getElem?_eq_getElem hlt'⟩
    obtain ⟨p, v⟩ := x
    have hsn : (∀ w ∈ l.take (i + 1), fineW os w) ↔ fineW os ⟨p, v⟩ := by
      rw [List.take_add_one, hx]
      constructor
      · intro h; exact h _ (by simp)
      · intro h w hw
        rcases List.mem_append.1 hw with hw | hw
        · exact hn w hw
        · simp at hw; rw [hw]; exact h
    have hall : ¬ fineW os ⟨p, v⟩ → ¬ ∀ w ∈ l, fineW os w := fun h1 h2 => h1 (h2 _ (List.mem_of_getElem? hx))
    cases p with
    | false =>
      have hf0 : fineW os ⟨false, v⟩ := fun h => by cases h
      simp -implicitDefEqProofs (maxSteps := 2000000) (disch := omega) [-getElem?_pos, hx]
      exact ⟨hlt', i + 1, ⟨hlt', hsn.2 hf0⟩, by dsimp only; omega, .eq (by simp)⟩
    | true =>
      have hr := k_RAt (place := v) h hl
      simp -implicitDefEqProofs (maxSteps := 2000000) (disch := omega) [-getElem?_pos, hx]
      refine ⟨hlt', ?_⟩
      refine hr.then fun r hq => ?_
      subst hq
      have hneg := idxR_neg (os := os) (w := ⟨true, v⟩) rfl
      dsimp only at hneg
      by_cases h0 : idxR os v < 0
      · have hd : decide (∀ w ∈ l, fineW os w) = false := decide_eq_false (hall (hneg.1 h0))
        rw [hd]
        simp -implicitDefEqProofs (maxSteps := 2000000) (disch := omega) [-getElem?_pos, h0]
        exact .fin _ ⟨rfl, rfl⟩ (.refl _)
      · have h1 : fineW os ⟨true, v⟩ := Classical.byContradiction fun h => h0 (hneg.2 h)
        simp -implicitDefEqProofs (maxSteps := 2000000) (disch := omega) [-getElem?_pos, h0]
        exact ⟨i + 1, ⟨hlt', hsn.2 h1⟩, by dsimp only; omega, .eq (by simp)⟩
  · have hie : i = l.length := by omega
    subst hie
    rw [List.take_length] at hn
    rw [decide_eq_true hn]
    simp -implicitDefEqProofs (maxSteps := 2000000) (disch := omega) [-getElem?_pos]
    exact .fin _ ⟨rfl, rfl⟩ (.refl _)
end Go.Proofs.Ytiomciifhkbklaa
