/-
  A heap, walked: an object's size; whether words are fine. (Own work.)
-/
import Derived.Test.YtiomciifhkbklaaH3
set_option linter.unusedVariables false
set_option linter.unusedSimpArgs false
namespace Go.Proofs.Ytiomciifhkbklaa
open Go Go.Abs

theorem wds_ne {os : List Ho} : wds os ≠ [] ↔ os ≠ [] := by
  cases os with
  | nil => simp [wds]
  | cons o os => simp [wds_cons]
theorem hds_ne {os : List Ho} : hds os ≠ [] ↔ os ≠ [] := by
  cases os with
  | nil => simp [hds]
  | cons o os => simp [hds_cons]
theorem k_Size {σ : Sg} {hp oL oH : Nat} {half runs place : Int} {os : List Ho} {dl dh : D} (h : Hp σ hp oL oH half os runs dl dh) (ok : OkO os) :
    ACalls Try.prog 34 [.ptr hp 0, .v (.int .i64 place)] σ fun r σ' => r = sizeO os place ∧ σ' = σ := by
  have hc := h.cell
  have hlw := wds_len os
  have hlh := hds_len os
  refine acalls_fit Try.func34 (by kernel_rfl) c34 rfl (by simp [a34]) fun hf => ?_
  by_cases h0 : place < 0
  · simp -implicitDefEqProofs (maxSteps := 2000000) (disch := omega) [-getElem?_pos, a34, h0]
    exact .fin _ ⟨by simp [sizeO, idxAt_neg h0], rfl⟩ (.refl _)
  obtain ⟨p, rfl⟩ : ∃ p : Nat, place = p := ⟨place.toNat, by omega⟩
  have h0' : (0 : Int) ≤ p := by omega
  have hnone : tot os ≤ p → idxAt os p = none := fun hp => by
    cases hi : idxAt os p with
    | none => rfl
    | some i =>
      obtain ⟨h1, h2⟩ := idxAt_iff.1 hi
      obtain ⟨o, ho⟩ : ∃ o, os[i]? = some o := ⟨_, List.getElem?_eq_getElem h1⟩
      have := offs_end ho
      have : 0 < osz o := by simp [osz]; omega
      omega
  have hvw := h.vw
  have hvb := h.vb
  generalize hws : wds os = ws at hvw hlw
  generalize hhs : hds os = hs at hvb hlh
  cases hvw with
  | nil =>
    have ht : tot os = 0 := by simpa using hlw.symm
    simp -implicitDefEqProofs (maxSteps := 2000000) (disch := omega) [-getElem?_pos, a34, hc]
    exact .fin _ ⟨by simp [sizeO, hnone (by omega)], rfl⟩ (.refl _)
  | msl w1 w2 w3 w4 =>
  cases hvb with
  | nil =>
    have ht : tot os = 0 := by simpa using hlh.symm
    exact absurd (List.length_eq_zero_iff.1 (by omega)) w1
  | msl b1 b2 b3 b4 =>
  by_cases hp1 : tot os ≤ p
  · have hp1' : (ws.length : Int) ≤ p := by omega
    simp -implicitDefEqProofs (maxSteps := 2000000) (disch := omega) [-getElem?_pos, a34, hc, hp1']
    exact .fin _ ⟨by simp [sizeO, hnone hp1], rfl⟩ (.refl _)
  have hp1' : ¬ (ws.length : Int) ≤ p := by omega
  obtain ⟨b, hb⟩ : ∃ b, hs[p]? = some b := ⟨_, List.getElem?_eq_getElem (by omega)⟩
  have hbl : ∀ J : List D, (hs.map (fun b => D.v (.bool b)) ++ J)[p]? = some (.v (.bool b)) := fun J => by
    rw [List.getElem?_append_left (by simp; omega), List.getElem?_map, hb]
    rfl
  have hidx := hds_idx (os := os) (p := p)
  rw [hhs, hb] at hidx
  cases b with
  | false =>
    have hn : idxAt os p = none := by
      cases hi : idxAt os p with
      | none => rfl
      | some i => exact absurd (hidx.2 ⟨i, hi⟩) (by simp)
    simp -implicitDefEqProofs (maxSteps := 2000000) (disch := omega) [-getElem?_pos, a34, hc, hp1', b2, hbl]
    exact ⟨by omega, .fin _ ⟨by simp [sizeO, hn], rfl⟩ (.refl _)⟩
  | true =>
    obtain ⟨i, hi⟩ := hidx.1 rfl
    obtain ⟨h1, h2⟩ := idxAt_iff.1 hi
    obtain ⟨o, ho⟩ : ∃ o, os[i]? = some o := ⟨_, List.getElem?_eq_getElem h1⟩
    have hw : ws[p]? = some (headW o) := by
      have : p = offs os i := by omega
      rw [← hws, this]
      exact get_drop (wds_at ho)
    have hrow := fun J => fl_row (J := J) hw
    have hpa := headW_parts (ok.k o (List.mem_of_getElem? ho))
    have hkp := fun σ => k_Parts (headW o).p (headW o).v σ
    rw [hpa] at hkp
    simp -implicitDefEqProofs (maxSteps := 2000000) (disch := omega) [-getElem?_pos, a34, hc, hp1', b2, hbl, w2, hrow, mkAgg, allV]
    refine ⟨by omega, by omega, by rw [fl_len]; omega, ?_⟩
    refine (hkp _).then fun r hr => ?_
    subst hr
    simp -implicitDefEqProofs (maxSteps := 2000000) (disch := omega) [-getElem?_pos]
    exact .fin _ ⟨by simp [sizeO, hi, wOf, ho], rfl⟩ (.refl _)
theorem Hp.on {σ σ' : Sg} {hp oL oH : Nat} {half runs : Int} {os : List Ho} {dl dh : D} (h : Hp σ hp oL oH half os runs dl dh) (k : ∀ (i : Nat) ob, σ.objs[i]? = some ob → σ'.objs[i]? = some ob) : Hp σ' hp oL oH half os runs dl dh := by
  have kk : ∀ (i : Nat), (∃ ob, σ.objs[i]? = some ob) → σ'.objs[i]? = σ.objs[i]? := fun i ⟨ob, hob⟩ => by rw [hob]; exact k i ob hob
  refine ⟨k _ _ h.cell, h.vw.on fun hn => ?_, h.vb.on fun hn => ?_, h.n1, h.n2, h.n3⟩
  · have := h.vw
    generalize wds os = ws at this hn
    cases this with
    | nil => exact absurd rfl hn
    | msl w1 w2 w3 w4 => exact kk _ ⟨_, w2⟩
  · have := h.vb
    generalize hds os = hs at this hn
    cases this with
    | nil => exact absurd rfl hn
    | msl w1 w2 w3 w4 => exact kk _ ⟨_, w2⟩
theorem on_app {σ : Sg} {xs : List Ob} {ts : List Nat} (i : Nat) (ob : Ob) (h : σ.objs[i]? = some ob) : (⟨σ.objs ++ xs, ts⟩ : Sg).objs[i]? = some ob := by
  show (σ.objs ++ xs)[i]? = some ob
  rw [List.getElem?_append_left (List.getElem?_eq_some_iff.1 h).1]
  exact h
instance (os : List Ho) (w : Wd) : Decidable (fineW os w) := by
  unfold fineW
  exact decidable_of_iff (w.p = true → (idxAt os w.v).isSome = true) (by simp [Option.isSome_iff_exists])
theorem k_Fine1 {σ : Sg} {hp oL oH x : Nat} {half runs : Int} {os : List Ho} {dl dh : D} {w : Wd} (h : Hp σ hp oL oH half os runs dl dh) (ok : OkO os) (hx : σ.objs[x]? = some (.cells [.ptr hp 0])) :
    ACalls Try.prog 40 [.v (wv w), .ptr x 0] σ fun r σ' => r = .v (.bool (!decide (fineW os w))) ∧ σ' = σ := by
  obtain ⟨p, v⟩ := w
  have hs := fun xs ts => k_Size (place := v) (h.on (σ' := ⟨σ.objs ++ xs, ts⟩) on_app) ok
  have hxl := (List.getElem?_eq_some_iff.1 hx).1
  refine acalls_fit Try.func40 (by kernel_rfl) c40 rfl (by simp [a40]) fun hf => ?_
  cases p with
  | false =>
    simp -implicitDefEqProofs (maxSteps := 2000000) (disch := omega) [-getElem?_pos, a40]
    exact .fin _ ⟨by simp [fineW], rfl⟩ (.refl _)
  | true =>
    simp -implicitDefEqProofs (maxSteps := 2000000) (disch := omega) [-getElem?_pos, a40, hx, List.getElem?_append_left]
    refine (hs _ _).then fun r hr => ?_
    subst hr
    unfold sizeO
    cases hi : idxAt os v with
    | none =>
      simp -implicitDefEqProofs (maxSteps := 2000000) (disch := omega) [-getElem?_pos]
      exact .fin _ ⟨by simp [fineW, hi], rfl⟩ (.refl _)
    | some i =>
      simp -implicitDefEqProofs (maxSteps := 2000000) (disch := omega) [-getElem?_pos]
      exact .fin _ ⟨by simp [fineW, hi], rfl⟩ (.refl _)
theorem k_IndexFuncW {xs : List V} {f : Bool} {fd : D} {p : V → Bool} {σ : Sg} (hp : ∀ x ∈ xs, WCall Try.prog fd [.v x] σ fun r σ' => r = .v (.bool (p x)) ∧ σ' = σ) :
    ACalls Try.prog 46 [.v (.sl (some 2) f xs), fd] σ fun r σ' => r = .v (.int .i64 ((xs.findIdx? p).elim (-1) fun i => (i : Int))) ∧ σ' = σ := by
  refine acalls_fit Try.func46 (by kernel_rfl) c46 rfl (by simp [a46]) fun hf => ?_
  simp at hf
  simp -implicitDefEqProofs (maxSteps := 2000000) (disch := omega) [-getElem?_pos, a46]
  refine W_loop (α := Nat) 0 (fun i => xs.length - i) (fun i => ⟨[(0, .v (.sl (some 2) f xs)), (1, fd), (7, .v (.int .i64 xs.length)), (8, .v (.int .i64 i))], σ⟩) (fun i => i ≤ xs.length ∧ xs.findIdx? p = ((xs.drop i).findIdx? p).map fun k => k + i)
    (.eq (by simp)) ⟨by omega, by simp⟩ fun i ⟨hi, he⟩ => ?_
  simp -implicitDefEqProofs (maxSteps := 2000000) (disch := omega) [-getElem?_pos]
  refine .mk (fun h => ?_) fun h => ?_
  · simp -implicitDefEqProofs (maxSteps := 2000000) (disch := omega) [-getElem?_pos]
    refine ⟨by omega, fun x hx => ?_⟩
    refine (hp x (List.mem_of_getElem? hx)).then fun r hr => ?_
    subst hr
    have hdc := drop_cons hx
    rw [hdc, List.findIdx?_cons] at he
    simp -implicitDefEqProofs (maxSteps := 2000000) (disch := omega) [-getElem?_pos]
    refine .mk (fun hq => ?_) fun hq => ?_
    · rw [if_pos hq] at he
      simp -implicitDefEqProofs (maxSteps := 2000000) (disch := omega) [-getElem?_pos]
      refine .fin _ ⟨?_, rfl⟩ (.refl _)
      rw [he]
      simp
    · rw [if_neg hq] at he
      simp -implicitDefEqProofs (maxSteps := 2000000) (disch := omega) [-getElem?_pos]
      refine ⟨i + 1, ⟨by omega, ?_⟩, by dsimp only; omega, .eq (by simp)⟩
      rw [he]
      simp only [Option.map_map]
      congr 1
      funext k
      simp only [Function.comp]
      omega
  · simp -implicitDefEqProofs (maxSteps := 2000000) (disch := omega) [-getElem?_pos]
    refine .fin _ ⟨?_, rfl⟩ (.refl _)
    rw [he, List.drop_eq_nil_of_le (by omega)]
    rfl
theorem k_ContainsFuncW {xs : List V} {f : Bool} {fd : D} {p : V → Bool} {σ : Sg} (hp : ∀ x ∈ xs, WCall Try.prog fd [.v x] σ fun r σ' => r = .v (.bool (p x)) ∧ σ' = σ) :
    ACalls Try.prog 41 [.v (.sl (some 2) f xs), fd] σ fun r σ' => r = .v (.bool (xs.any p)) ∧ σ' = σ := by
  refine acalls_fit Try.func41 (by kernel_rfl) c41 rfl (by simp [a41]) fun hf => ?_
  simp -implicitDefEqProofs (maxSteps := 2000000) (disch := omega) [-getElem?_pos, a41]
  refine (k_IndexFuncW hp).then fun r hr => ?_
  subst hr
  simp -implicitDefEqProofs (maxSteps := 2000000) (disch := omega) [-getElem?_pos]
  refine .fin _ ⟨?_, rfl⟩ (.refl _)
  congr 2
  cases h : xs.findIdx? p with
  | none =>
    have h2 := List.findIdx?_eq_none_iff.1 h
    simp
    exact fun x hx => by simpa using h2 x hx
  | some i =>
    have h2 := List.findIdx?_eq_some_iff_getElem.1 h
    obtain ⟨hlt, hq, _⟩ := h2
    simp
    exact ⟨_, List.getElem_mem hlt, hq⟩

theorem k_Fine {σ : Sg} {hp oL oH : Nat} {half runs : Int} {os : List Ho} {dl dh : D} {l : List Wd} {f : Bool} (h : Hp σ hp oL oH half os runs dl dh) (ok : OkO os) :
    ACalls Try.prog 29 [.ptr hp 0, .v (.sl (some 2) f (l.map wv))] σ fun r σ' => r = .v (.bool (decide (∀ w ∈ l, fineW os w))) ∧ σ' = σ := by
  have hc : ∀ xs ts, xs[0]? = some (Ob.cells [.ptr hp 0]) → ACalls Try.prog 41 [.v (.sl (some 2) f (l.map wv)), .fn 40 [.ptr σ.objs.length 0]] ⟨σ.objs ++ xs, ts⟩ fun r σ' => r = .v (.bool (!decide (∀ w ∈ l, fineW os w))) ∧ σ' = ⟨σ.objs ++ xs, ts⟩ := fun xs ts h0 => by
    refine (k_ContainsFuncW (p := fun y => match y with | .agg [.bool p, .int _ v] => !decide (fineW os ⟨p, v⟩) | _ => false) fun y hy => ?_).mono fun r σ' hr => ?_
    · obtain ⟨w, _, rfl⟩ := List.mem_map.1 hy
      exact k_Fine1 (h.on on_app) ok (by show (σ.objs ++ xs)[σ.objs.length]? = _; rw [List.getElem?_append_right (Nat.le_refl _), Nat.sub_self]; exact h0)
    · obtain ⟨rfl, rfl⟩ := hr
      refine ⟨?_, rfl⟩
      congr 2
      rw [List.any_map]
      rw [Bool.eq_iff_iff]
      simp
  refine acalls_fit Try.func29 (by kernel_rfl) c29 rfl (by simp [a29]) fun hf => ?_
  simp at hf
  simp -implicitDefEqProofs (maxSteps := 2000000) (disch := omega) [-getElem?_pos, a29]
  refine (hc _ _ rfl).then fun r hr => ?_
  subst hr
  simp -implicitDefEqProofs (maxSteps := 2000000) (disch := omega) [-getElem?_pos]
  exact .fin _ ⟨rfl, rfl⟩ (.refl _)
theorem k_Used {σ : Sg} {hp oL oH : Nat} {half runs : Int} {os : List Ho} {dl dh : D} (h : Hp σ hp oL oH half os runs dl dh) : ACalls Try.prog 13 [.ptr hp 0] σ fun r σ' => r = .v (.int .i64 (tot os)) ∧ σ' = σ := by
  have hc := h.cell
  have hlw := wds_len os
  have hvw := h.vw
  generalize wds os = ws at hvw hlw
  refine acalls_fit Try.func13 (by kernel_rfl) c13 rfl (by simp [a13]) fun hf => ?_
  cases hvw with
  | nil =>
    have ht : tot os = 0 := by simpa using hlw.symm
    simp -implicitDefEqProofs (maxSteps := 2000000) (disch := omega) [-getElem?_pos, a13, hc]
    exact .fin _ ⟨by simp [ht], rfl⟩ (.refl _)
  | msl w1 w2 w3 w4 =>
    simp -implicitDefEqProofs (maxSteps := 2000000) (disch := omega) [-getElem?_pos, a13, hc]
    exact .fin _ ⟨by rw [hlw], rfl⟩ (.refl _)
theorem k_Runs {σ : Sg} {hp oL oH : Nat} {half runs : Int} {os : List Ho} {dl dh : D} (h : Hp σ hp oL oH half os runs dl dh) : ACalls Try.prog 27 [.ptr hp 0] σ fun r σ' => r = .v (.int .i64 runs) ∧ σ' = σ := by
  have hc := h.cell
  refine acalls_fit Try.func27 (by kernel_rfl) c27 rfl (by simp [a27]) fun hf => ?_
  simp -implicitDefEqProofs (maxSteps := 2000000) (disch := omega) [-getElem?_pos, a27, hc]
  exact .fin _ ⟨rfl, rfl⟩ (.refl _)
end Go.Proofs.Ytiomciifhkbklaa
