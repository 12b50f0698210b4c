/-
  The document's heap: what is reached. (Own work.)
-/
import Derived.Test.YtiomciifhkbklaaH17
set_option linter.unusedVariables false
set_option linter.unusedSimpArgs false
set_option maxHeartbeats 1000000
namespace Go.Proofs.Ytiomciifhkbklaa
open Go Go.Abs

def iv (n : Nat) : V := .int .i64 n
@[simp] theorem iv_shape (n : Nat) : (iv n).shape = none := rfl
@[simp] theorem iv_cells (n : Nat) : (iv n).cells = [iv n] := rfl
theorem VI.row {σ : Sg} {o : Nat} {d : D} {ws : List Wd} (h : VI σ o d ws) {i : Nat} {x : Wd} (hi : ws[i]? = some x) :
    ∃ (c : Nat) (cs : List D), d = .msl o 0 ws.length (some 2) (some c) ∧ σ.objs[o]? = some (.cells cs) ∧ cs[i * 2]? = some (.v (.bool x.p)) ∧ cs[i * 2 + 1]? = some (.v (.int .i64 x.v)) ∧ (cs.drop (i * 2)).take 2 = [.v (.bool x.p), .v (.int .i64 x.v)] ∧ ws.length * 2 ≤ cs.length := by
  cases h with
  | nil => simp at hi
  | emp => simp at hi
  | msl h1 h2 h3 h4 =>
    rename_i J c
    have hr := fl_row (J := J) hi
    have hg : ∀ k, k < 2 → (fl ws ++ J)[i * 2 + k]? = (((fl ws ++ J).drop (i * 2)).take 2)[k]? := fun k hk => by rw [List.getElem?_take_of_lt hk, List.getElem?_drop]
    refine ⟨c, _, rfl, h2, ?_, ?_, hr, by rw [List.length_append, fl_len]; omega⟩
    · have := hg 0 (by omega)
      rw [hr] at this
      simpa using this
    · rw [hg 1 (by omega), hr]; rfl
structure ISt where
  i : Nat
  ts : List Nat
theorem k_Met {σ : Sg} {ord : List Nat} {f : Bool} {n : Nat} (hl : ord.length ≤ 1000000) : ACalls Try.prog 45 [.v (.sl none f (ord.map iv)), .v (.int .i64 n)] σ fun r σ' => r = .v (.bool (decide (n ∈ ord))) ∧ σ' = σ := by
  refine acalls_fit Try.func45 (by kernel_rfl) c45 rfl (by simp [a45]) fun hf => ?_
  clear hf
  simp -implicitDefEqProofs (maxSteps := 2000000) (disch := omega) [-getElem?_pos, a45]
  refine W_loop (α := Nat) 0 (fun x => ord.length - x) (fun x => ⟨[(0, .v (.sl none f (ord.map iv))), (1, .v (.int .i64 n)), (4, .v (.bool false)), (5, .v (.int .i64 x))], σ⟩)
    (fun x => x ≤ ord.length ∧ n ∉ ord.take x) (.eq (by simp)) ⟨Nat.zero_le _, by simp⟩ fun i ⟨hi, hn⟩ => ?_
  simp -implicitDefEqProofs (maxSteps := 2000000) (disch := omega) [-getElem?_pos]
  refine .mk (fun hlt => ?_) fun hlt => ?_
  · have hlt' : i < ord.length := by omega
    obtain ⟨x, hx⟩ : ∃ x, ord[i]? = some x := ⟨_, List.getElem?_eq_getElem hlt'⟩
    by_cases he : x = n
    · subst he
      have hd : decide (x ∈ ord) = true := decide_eq_true (List.mem_of_getElem? hx)
      rw [hd]
      simp -implicitDefEqProofs (maxSteps := 2000000) (disch := omega) [-getElem?_pos, hx, iv]
      exact ⟨hlt', .fin _ ⟨rfl, rfl⟩ (.refl _)⟩
    · have he' : ¬ (x : Int) = n := by omega
      simp -implicitDefEqProofs (maxSteps := 2000000) (disch := omega) [-getElem?_pos, hx, iv, he', he]
      refine ⟨hlt', i + 1, ⟨hlt', ?_⟩, by dsimp only; omega, .eq (by simp)⟩
      rw [List.take_add_one, hx]
      simp only [Option.toList, List.mem_append, List.mem_singleton, not_or]
      exact ⟨hn, fun e => he e.symm⟩
  · have hie : i = ord.length := by omega
    subst hie
    rw [List.take_length] at hn
    rw [decide_eq_false hn]
    simp -implicitDefEqProofs (maxSteps := 2000000) (disch := omega) [-getElem?_pos]
    exact .fin _ ⟨rfl, rfl⟩ (.refl _)
theorem k_ReachA {σ : Sg} {m oT : Nat} {half runs : Int} {os : List Ho} {dT : D} {rs : List Rr} {ord : List Nat} {f g : Bool} {ws : List Wd}   (h : RH σ m oT half os runs dT rs) (hl : os.length ≤ 100000) (hord : Okd os ord) (hws : ∀ w ∈ ws, fineW os w) (hwl : ws.length ≤ 1000000)   :
    ACalls Try.prog 38 [.ptr m 0, .v (.sl none f (ord.map iv)), .v (.sl (some 2) g (ws.map wv))] σ fun r σ' => r = .v (.sl none false ((reachL os ord ws).map iv)) ∧ σ' = σ := by
  refine acalls_fit Try.func38 (by kernel_rfl) c38 rfl (by simp [a38]) fun hf => ?_
  clear hf
  skip
  simp -implicitDefEqProofs (maxSteps := 2000000) (disch := omega) [-getElem?_pos, a38]
  refine W_loop (α := ISt) ⟨0, []⟩ (fun x => ws.length - x.i) (fun x => ⟨[(0, .ptr m 0), (1, .v (.sl none false ((reachL os ord (ws.take x.i)).map iv))), (2, .v (.sl (some 2) g (ws.map wv))), (7, .v (.int .i64 x.i))], ⟨σ.objs, σ.toks ++ x.ts⟩⟩)
    (fun x => x.i ≤ ws.length) (.le2 (by simp) (by simp [reachL])) (Nat.zero_le _) fun ⟨i, ts⟩ hi => ?_
  dsimp only at hi ⊢
  simp -implicitDefEqProofs (maxSteps := 2000000) (disch := omega) [-getElem?_pos, wv]
  refine .mk (fun hlt => ?_) fun hlt => ?_
  · have hlt' : i < ws.length := by omega
    obtain ⟨x, hx⟩ : ∃ x, ws[i]? = some x := ⟨_, List.getElem?_eq_getElem hlt'⟩
    have hxf := hws x (List.mem_of_getElem? hx)
    have hsn : reachL os ord (ws.take (i + 1)) = reach1 os (reachL os ord (ws.take i)) x := by
      rw [List.take_add_one, hx]
      exact reachL_snoc os ord _ x
    have hokn : Okd os (reachL os ord (ws.take i)) := reachL_ok _ hord
    generalize reachL os ord (ws.take i) = od at hsn hokn
    obtain ⟨p, v⟩ := x
    skip
    cases p with
    | false =>
      have h1 : reach1 os od ⟨false, v⟩ = od := rfl
      rw [h1] at hsn
      simp -implicitDefEqProofs (maxSteps := 2000000) (disch := omega) [-getElem?_pos, hx, wv]
      exact ⟨hlt', ⟨i + 1, ts⟩, hlt', by dsimp only; omega, .eq (by simp [hsn])⟩
    | true =>
      obtain ⟨n, hn⟩ := hxf rfl
      dsimp only at hn
      have hr := k_RAt (place := v) (h.on (σ' := ⟨σ.objs, σ.toks ++ ts⟩) fun _ _ => rfl) hl
      have hid : idxR os v = n := by simp [idxR, hn]
      rw [hid] at hr
      have hml := hokn.len
      simp -implicitDefEqProofs (maxSteps := 2000000) (disch := omega) [-getElem?_pos, hx, wv]
      refine ⟨hlt',  ?_⟩
      refine hr.then fun r hq => ?_
      subst hq
      simp -implicitDefEqProofs (maxSteps := 2000000) (disch := omega) [-getElem?_pos]
      refine (k_Met (by omega)).then fun r hq => ?_
      subst hq
      by_cases hm : n ∈ od
      · have h1 : reach1 os od ⟨true, v⟩ = od := by simp [reach1, hn, hm]
        rw [h1] at hsn
        simp -implicitDefEqProofs (maxSteps := 2000000) (disch := omega) [-getElem?_pos, hm]
        exact ⟨⟨i + 1, ts⟩, hlt', by dsimp only; omega, .eq (by simp [hsn])⟩
      · have h1 : reach1 os od ⟨true, v⟩ = od ++ [n] := by simp [reach1, hn, hm]
        rw [h1] at hsn
        simp -implicitDefEqProofs (maxSteps := 2000000) (disch := omega) [-getElem?_pos, hm]
        refine ⟨by omega, by omega, ⟨i + 1, ts ++ [od.length + 1]⟩, hlt', by dsimp only; omega, .le2 (by simp) (by simp [hsn, iv])⟩
  · have hie : i = ws.length := by omega
    subst hie
    rw [List.take_length]
    simp -implicitDefEqProofs (maxSteps := 2000000) (disch := omega) [-getElem?_pos]
    exact .fin _ ⟨rfl, rfl⟩ (.refl _)


theorem k_ReachB {σ : Sg} {m oT : Nat} {half runs : Int} {os : List Ho} {dT : D} {rs : List Rr} {ord : List Nat} {f g : Bool} {ws : List Wd} {o : Nat} {dW : D} (h : RH σ m oT half os runs dT rs) (hl : os.length ≤ 100000) (hord : Okd os ord) (hws : ∀ w ∈ ws, fineW os w) (hwl : ws.length ≤ 1000000) (hv : VI σ o dW ws) :
    ACalls Try.prog 38 [.ptr m 0, .v (.sl none f (ord.map iv)), dW] σ fun r σ' => r = .v (.sl none false ((reachL os ord ws).map iv)) ∧ σ' = σ := by
  refine acalls_fit Try.func38 (by kernel_rfl) c38 rfl (by simp [a38]) fun hf => ?_
  clear hf
  have hwv : ∀ (σ' : Sg) (K : V → Prop), WLen .sl dW σ' K = K (.int .i64 ws.length) := fun σ' K => wlen_VI hv
  simp -implicitDefEqProofs (maxSteps := 2000000) (disch := omega) [-getElem?_pos, a38]
  refine W_loop (α := ISt) ⟨0, []⟩ (fun x => ws.length - x.i) (fun x => ⟨[(0, .ptr m 0), (1, .v (.sl none false ((reachL os ord (ws.take x.i)).map iv))), (2, dW), (7, .v (.int .i64 x.i))], ⟨σ.objs, σ.toks ++ x.ts⟩⟩)
    (fun x => x.i ≤ ws.length) (.le2 (by simp) (by simp [reachL])) (Nat.zero_le _) fun ⟨i, ts⟩ hi => ?_
  dsimp only at hi ⊢
  simp -implicitDefEqProofs (maxSteps := 2000000) (disch := omega) [-getElem?_pos, hwv]
  refine .mk (fun hlt => ?_) fun hlt => ?_
  · have hlt' : i < ws.length := by omega
    obtain ⟨x, hx⟩ : ∃ x, ws[i]? = some x := ⟨_, List.getElem?_eq_getElem hlt'⟩
    have hxf := hws x (List.mem_of_getElem? hx)
    have hsn : reachL os ord (ws.take (i + 1)) = reach1 os (reachL os ord (ws.take i)) x := by
      rw [List.take_add_one, hx]
      exact reachL_snoc os ord _ x
    have hokn : Okd os (reachL os ord (ws.take i)) := reachL_ok _ hord
    generalize reachL os ord (ws.take i) = od at hsn hokn
    obtain ⟨p, v⟩ := x
    obtain ⟨c, cs, rfl, h2, h3, h4, _⟩ := hv.row hx
    cases p with
    | false =>
      have h1 : reach1 os od ⟨false, v⟩ = od := rfl
      rw [h1] at hsn
      simp -implicitDefEqProofs (maxSteps := 2000000) (disch := omega) [-getElem?_pos, hx, h2, h3, h4]
      exact ⟨hlt', ⟨i + 1, ts⟩, hlt', by dsimp only; omega, .eq (by simp [hsn])⟩
    | true =>
      obtain ⟨n, hn⟩ := hxf rfl
      dsimp only at hn
      have hr := k_RAt (place := v) (h.on (σ' := ⟨σ.objs, σ.toks ++ ts⟩) fun _ _ => rfl) hl
      have hid : idxR os v = n := by simp [idxR, hn]
      rw [hid] at hr
      have hml := hokn.len
      simp -implicitDefEqProofs (maxSteps := 2000000) (disch := omega) [-getElem?_pos, hx, h2, h3, h4]
      refine ⟨hlt',  ?_⟩
      refine hr.then fun r hq => ?_
      subst hq
      simp -implicitDefEqProofs (maxSteps := 2000000) (disch := omega) [-getElem?_pos]
      refine (k_Met (by omega)).then fun r hq => ?_
      subst hq
      by_cases hm : n ∈ od
      · have h1 : reach1 os od ⟨true, v⟩ = od := by simp [reach1, hn, hm]
        rw [h1] at hsn
        simp -implicitDefEqProofs (maxSteps := 2000000) (disch := omega) [-getElem?_pos, hm]
        exact ⟨⟨i + 1, ts⟩, hlt', by dsimp only; omega, .eq (by simp [hsn])⟩
      · have h1 : reach1 os od ⟨true, v⟩ = od ++ [n] := by simp [reach1, hn, hm]
        rw [h1] at hsn
        simp -implicitDefEqProofs (maxSteps := 2000000) (disch := omega) [-getElem?_pos, hm]
        refine ⟨by omega, by omega, ⟨i + 1, ts ++ [od.length + 1]⟩, hlt', by dsimp only; omega, .le2 (by simp) (by simp [hsn, iv])⟩
  · have hie : i = ws.length := by omega
    subst hie
    rw [List.take_length]
    simp -implicitDefEqProofs (maxSteps := 2000000) (disch := omega) [-getElem?_pos]
    exact .fin _ ⟨rfl, rfl⟩ (.refl _)

end Go.Proofs.Ytiomciifhkbklaa
