/-
  Types: maps from numbers to types; how many nodes a putting in would make. (Own work.)
-/
import Derived.Test.YtkpnhcccocaakaaDoorT15
set_option linter.unusedVariables false
set_option linter.unusedSimpArgs false
namespace Go.Proofs.YtkpnhcccocaakaaDoor
open Go Go.Abs

structure NT where
  n : Int
  t : Tp
def mT (es : List NT) : Ob := .map (es.map fun e => (V.int .i64 e.n, D.v (encT e.t)))
def getT (n : Int) : List NT → Option Tp
  | [] => none
  | e :: es => if n = e.n then some e.t else getT n es
@[reducible] def zV : V := .agg [.int .i64 0, .int .i64 0, .snil, .snil, .int .i64 0]
def gotT (n : Int) (es : List NT) : D := ((getT n es).map fun t => D.v (encT t)).getD (.v zV)
theorem mfind_T (n : Int) : ∀ es : List NT, mfind (.int .i64 n) (es.map fun e => (V.int .i64 e.n, D.v (encT e.t))) = (getT n es).map fun t => D.v (encT t)
  | [] => rfl
  | e :: es => by
    have ih := mfind_T n es
    simp only [List.map_cons, mfind, getT, keq]
    by_cases h : n = e.n
    · simp [h]
    · simp [h, ih]
theorem keysOk_T : ∀ es : List NT, keysOk (.int .i64) (es.map fun e => (V.int .i64 e.n, D.v (encT e.t))) = true
  | [] => rfl
  | e :: es => by simp [keysOk_T es]
/-- What stands for such a map. -/
def MapIs (d : D) (es : List NT) (σ : Sg) : Prop := (d = .v .mnil ∧ es = []) ∨ ∃ o, d = .map o ∧ σ.objs[o]? = some (mT es)
theorem MapIs.app {d : D} {es : List NT} {σ : Sg} (h : MapIs d es σ) (r : List Ob) (tk : List Nat) : MapIs d es ⟨σ.objs ++ r, tk⟩ := by
  rcases h with h | ⟨o, h1, h2⟩
  · exact .inl h
  · exact .inr ⟨o, h1, by rw [List.getElem?_append_left (List.getElem?_eq_some_iff.1 h2).1]; exact h2⟩
theorem WX_mgetT {d : D} {es : List NT} {σ : Sg} {n : Int} {K : D → Sg → Prop} (h : MapIs d es σ) : WX (.mget (.int .i64) true zV) [d, .v (.int .i64 n)] σ K = K (.tup [gotT n es, .v (.bool (getT n es).isSome)]) σ := by
  rcases h with ⟨rfl, rfl⟩ | ⟨o, rfl, h⟩
  · rw [WX_mget_nil]
    simp [gotT, getT]
  · rw [WX_mget, h, mT, WMap_some, mfind_T, keysOk_T]
    simp [gotT]
theorem gotT_is (n : Int) (es : List NT) : ∃ a b c d e : V, gotT n es = .v (.agg [a, b, c, d, e]) ∧ ∀ x, getT n es = some x → encT x = .agg [a, b, c, d, e] := by
  unfold gotT
  cases h : getT n es with
  | none => exact ⟨_, _, _, _, _, rfl, fun x hx => by cases hx⟩
  | some x =>
    obtain ⟨k, n, l, ls, tl⟩ := x
    refine ⟨.int .i64 k, .int .i64 n, .sl (some 5) false (l.map encT), vS ls, .int .i64 tl, ?_, fun x hx => ?_⟩
    · rw [Option.map_some, encT_mk]; rfl
    · cases hx
      rw [encT_mk]
theorem MapIs.rd {d : D} {es : List NT} {σ : Sg} (h : MapIs d es σ) {r : Rd} (ho : r ∈ rdD d) : r.o < σ.objs.length := by
  rcases h with ⟨rfl, rfl⟩ | ⟨o', rfl, h⟩
  · simp [rdD] at ho
  · simp [rdD] at ho
    subst ho
    exact (List.getElem?_eq_some_iff.1 h).1
theorem keep_rd {d : D} {es : List NT} {σ : Sg} (h : MapIs d es σ) {pre : List Ob} {B C : Ob} {tk : List Nat} {rest : List Rd} (hr : ∀ r ∈ rest, r.o < σ.objs.length + pre.length) : KeepOn (rdD d ++ rest) ⟨σ.objs ++ (pre ++ [B]), tk⟩ ⟨σ.objs ++ (pre ++ [C]), tk⟩ := by
  intro r ho ob hob
  have hlt : r.o < (σ.objs ++ pre).length := by
    rw [List.length_append]
    rcases List.mem_append.1 ho with ho | ho
    · have := h.rd ho; omega
    · exact hr r ho
  left
  dsimp only at hob ⊢
  rw [← List.append_assoc, List.getElem?_append_left hlt] at hob ⊢
  exact hob
def CountOk (p : Nat) (dX dY : D) (tw : Bool) (X Y : List NT) (t : Tp) : Prop := ∀ {σ : Sg}, tbk t ≤ 1048576 → fineR t = true → σ.objs[p]? = some (.cells [dX, dY, .v (.bool tw)]) → MapIs dX X σ → MapIs dY Y σ →
  ACalls Tryd.prog 36 [.ptr p 0, .v (encT t)] σ fun r σ' => r = .v (.int .i64 (tnd t)) ∧ σ' = σ
theorem k_CountP (t : Tp) {p : Nat} {dX dY : D} {tw : Bool} {X Y : List NT} (hX1 : ∀ n x, getT n X = some x → tnd x = 1 ∧ tbk x ≤ 1048576) (hY1 : ∀ n x, getT n Y = some x → tnd x = 1 ∧ tbk x ≤ 1048576) : CountOk p dX dY tw X Y t := by
  refine Tp.ind (P := CountOk p dX dY tw X Y) (fun k n l ls tl ih => ?_) t
  intro σ he hfi hpo hMX hMY
  have hpl := (List.getElem?_eq_some_iff.1 hpo).1
  obtain ⟨hok, hfl⟩ := tfine hfi
  have hpn := okT_kinds hok
  have hn := tnd_le (.mk k n l ls tl)
  simp only [tbk, tnd] at he hn ⊢
  have hll := tbkL_len l
  have hp0 : ∀ r, (σ.objs ++ r)[p]? = some (.cells [dX, dY, .v (.bool tw)]) := fun r => by rw [List.getElem?_append_left hpl]; exact hpo
  have gX : ∀ r tk m K, WX (.mget (.int .i64) true zV) [dX, .v (.int .i64 m)] ⟨σ.objs ++ r, tk⟩ K = K (.tup [gotT m X, .v (.bool (getT m X).isSome)]) ⟨σ.objs ++ r, tk⟩ := fun r tk m K => WX_mgetT (hMX.app r tk)
  have gY : ∀ r tk m K, WX (.mget (.int .i64) true zV) [dY, .v (.int .i64 m)] ⟨σ.objs ++ r, tk⟩ K = K (.tup [gotT m Y, .v (.bool (getT m Y).isSome)]) ⟨σ.objs ++ r, tk⟩ := fun r tk m K => WX_mgetT (hMY.app r tk)
  obtain ⟨a1, a2, a3, a4, a5, hga, hgx⟩ := gotT_is n X
  obtain ⟨b1, b2, b3, b4, b5, hgb, hgy⟩ := gotT_is tl Y
  have hro := fun σ => k_IsRow (k := k) (n := n) (l := l) (ls := ls) (tl := tl) (σ := σ)
  have hnx := fun x σ (h : getT n X = some x) => k_Nodes x (σ := σ) (hX1 n x h).2
  have hny := fun x σ (h : getT tl Y = some x) => k_Nodes x (σ := σ) (hY1 tl x h).2
  rw [encT_mk] at hro ⊢
  refine acalls_fit Tryd.func36 (by kernel_rfl) c36 rfl (by simp [a36]) fun hf => ?_
  clear hf
  simp -implicitDefEqProofs (maxSteps := 2000000) (disch := omega) [-getElem?_pos, a36, hp0, gX, hga]
  cases hgn : getT n X with
  | some x =>
    have hx := hgx x hgn
    by_cases h7 : k = 7
    · subst h7
      have hl0 : l = [] := by
        simp only [partsN] at hpn
        exact List.eq_nil_of_length_eq_zero (by simp at hpn; omega)
      have hnx' := fun σ => hnx x σ hgn
      rw [hx, (hX1 n x hgn).1] at hnx'
      simp -implicitDefEqProofs (maxSteps := 2000000) (disch := omega) [-getElem?_pos]
      refine (hnx' _).then fun r hr => ?_
      subst hr
      simp -implicitDefEqProofs (maxSteps := 2000000) (disch := omega) [-getElem?_pos]
      exact .finS _ σ ⟨by rw [hl0]; simp [tndL], rfl⟩ (.refl _) (fun ob h => .inl h) (by simp) (by simp) (by simp) (by simp) (by simp)
    · simp -implicitDefEqProofs (maxSteps := 2000000) (disch := omega) [-getElem?_pos, h7]
      refine W_loop (α := Nat) 0 (fun i => l.length - i) (fun i => ⟨[(0, .ptr p 0), (3, .ptr σ.objs.length 0), (7, .v (.int .i64 (1 + tndL (l.take i) : Nat))), (31, .v (.sl (some 5) false (l.map encT))), (32, .v (.int .i64 l.length)), (33, .v (.int .i64 i))], ⟨σ.objs ++ [.cells [.v (.int .i64 k), .v (.int .i64 n), .v (.sl (some 5) false (l.map encT)), .v (.sl none false (ls.map .str)), .v (.int .i64 tl)]], σ.toks⟩⟩)
        (fun i => i ≤ l.length) (.dropX (ys := [_]) (by rfl) rfl (by simp) (by simp) (by simp [tndL]) (by simp [hpl]; omega)) (by omega) fun i hi => ?_
      have hnt := tndL_take l i
      simp -implicitDefEqProofs (maxSteps := 2000000) (disch := omega) [-getElem?_pos]
      refine .mk (fun h => ?_) fun h => ?_
      · simp -implicitDefEqProofs (maxSteps := 2000000) (disch := omega) [-getElem?_pos]
        refine ⟨by omega, ?_⟩
        intro x hx
        have hmx := List.mem_of_getElem? hx
        have hx1 := tbkL_mem hmx
        have hx2 := tndL_get hx
        have hx3 := tndL_take l (i + 1)
        have hc := fun r => ih x hmx (σ := ⟨σ.objs ++ r, σ.toks⟩) (by omega) (hfl x hmx) (hp0 r) (hMX.app r _) (hMY.app r _)
        generalize tnd x = d at *
        obtain ⟨k2, n2, l2, ls2, tl2⟩ := x
        rw [encT_mk] at hc ⊢
        simp -implicitDefEqProofs (maxSteps := 2000000) (disch := omega) [-getElem?_pos]
        refine (hc _).then fun r hr => ?_
        subst hr
        simp -implicitDefEqProofs (maxSteps := 2000000) (disch := omega) [-getElem?_pos]
        exact ⟨i + 1, by omega, by show l.length - (i + 1) < l.length - i; omega, .dropX (ys := [_]) (by rfl) rfl (by simp) (by simp) (by simp [hx2]; omega) (by simp [hpl]; omega)⟩
      have hil : i = l.length := by omega
      subst hil
      rw [List.take_of_length_le (by omega)] at hnt ⊢
      simp -implicitDefEqProofs (maxSteps := 2000000) (disch := omega) [-getElem?_pos, hp0, gY, hgb]
      cases hgm : getT tl Y with
      | none =>
        simp -implicitDefEqProofs (maxSteps := 2000000) (disch := omega) [-getElem?_pos]
        exact .finS _ σ ⟨by simp, rfl⟩ (.refl _) (fun ob h => .inl h) (by simp) (by simp) (by simp) (by simp) (by simp)
      | some y =>
        have hy := hgy y hgm
        have hny' := fun σ => hny y σ hgm
        rw [hy, (hY1 tl y hgm).1] at hny'
        simp -implicitDefEqProofs (maxSteps := 2000000) (disch := omega) [-getElem?_pos]
        refine (hro _).then fun r hr => ?_
        subst hr
        cases hrow : isRowN k with
        | false =>
          simp -implicitDefEqProofs (maxSteps := 2000000) (disch := omega) [-getElem?_pos]
          exact .finS _ σ ⟨by simp, rfl⟩ (.refl _) (fun ob h => .inl h) (by simp) (by simp) (by simp) (by simp) (by simp)
        | true =>
          by_cases htl : 0 ≤ tl
          rotate_left
          · simp -implicitDefEqProofs (maxSteps := 2000000) (disch := omega) [-getElem?_pos, htl]
            exact .finS _ σ ⟨by simp, rfl⟩ (.refl _) (fun ob h => .inl h) (by simp) (by simp) (by simp) (by simp) (by simp)
          · simp -implicitDefEqProofs (maxSteps := 2000000) (disch := omega) [-getElem?_pos, htl]
            refine (hny' _).then fun r hr => ?_
            subst hr
            simp -implicitDefEqProofs (maxSteps := 2000000) (disch := omega) [-getElem?_pos]
            exact .finS _ σ ⟨by simp, rfl⟩ (.refl _) (fun ob h => .inl h) (by simp) (by simp) (by simp) (by simp) (by simp)

  | none =>
    simp -implicitDefEqProofs (maxSteps := 2000000) (disch := omega) [-getElem?_pos]
    refine W_loop (α := Nat) 0 (fun i => l.length - i) (fun i => ⟨[(0, .ptr p 0), (3, .ptr σ.objs.length 0), (7, .v (.int .i64 (1 + tndL (l.take i) : Nat))), (31, .v (.sl (some 5) false (l.map encT))), (32, .v (.int .i64 l.length)), (33, .v (.int .i64 i))], ⟨σ.objs ++ [.cells [.v (.int .i64 k), .v (.int .i64 n), .v (.sl (some 5) false (l.map encT)), .v (.sl none false (ls.map .str)), .v (.int .i64 tl)]], σ.toks⟩⟩)
      (fun i => i ≤ l.length) (.dropX (ys := [_]) (by rfl) rfl (by simp) (by simp) (by simp [tndL]) (by simp [hpl]; omega)) (by omega) fun i hi => ?_
    have hnt := tndL_take l i
    simp -implicitDefEqProofs (maxSteps := 2000000) (disch := omega) [-getElem?_pos]
    refine .mk (fun h => ?_) fun h => ?_
    · simp -implicitDefEqProofs (maxSteps := 2000000) (disch := omega) [-getElem?_pos]
      refine ⟨by omega, ?_⟩
      intro x hx
      have hmx := List.mem_of_getElem? hx
      have hx1 := tbkL_mem hmx
      have hx2 := tndL_get hx
      have hx3 := tndL_take l (i + 1)
      have hc := fun r => ih x hmx (σ := ⟨σ.objs ++ r, σ.toks⟩) (by omega) (hfl x hmx) (hp0 r) (hMX.app r _) (hMY.app r _)
      generalize tnd x = d at *
      obtain ⟨k2, n2, l2, ls2, tl2⟩ := x
      rw [encT_mk] at hc ⊢
      simp -implicitDefEqProofs (maxSteps := 2000000) (disch := omega) [-getElem?_pos]
      refine (hc _).then fun r hr => ?_
      subst hr
      simp -implicitDefEqProofs (maxSteps := 2000000) (disch := omega) [-getElem?_pos]
      exact ⟨i + 1, by omega, by show l.length - (i + 1) < l.length - i; omega, .dropX (ys := [_]) (by rfl) rfl (by simp) (by simp) (by simp [hx2]; omega) (by simp [hpl]; omega)⟩
    have hil : i = l.length := by omega
    subst hil
    rw [List.take_of_length_le (by omega)] at hnt ⊢
    simp -implicitDefEqProofs (maxSteps := 2000000) (disch := omega) [-getElem?_pos, hp0, gY, hgb]
    cases hgm : getT tl Y with
    | none =>
      simp -implicitDefEqProofs (maxSteps := 2000000) (disch := omega) [-getElem?_pos]
      exact .finS _ σ ⟨by simp, rfl⟩ (.refl _) (fun ob h => .inl h) (by simp) (by simp) (by simp) (by simp) (by simp)
    | some y =>
      have hy := hgy y hgm
      have hny' := fun σ => hny y σ hgm
      rw [hy, (hY1 tl y hgm).1] at hny'
      simp -implicitDefEqProofs (maxSteps := 2000000) (disch := omega) [-getElem?_pos]
      refine (hro _).then fun r hr => ?_
      subst hr
      cases hrow : isRowN k with
      | false =>
        simp -implicitDefEqProofs (maxSteps := 2000000) (disch := omega) [-getElem?_pos]
        exact .finS _ σ ⟨by simp, rfl⟩ (.refl _) (fun ob h => .inl h) (by simp) (by simp) (by simp) (by simp) (by simp)
      | true =>
        by_cases htl : 0 ≤ tl
        rotate_left
        · simp -implicitDefEqProofs (maxSteps := 2000000) (disch := omega) [-getElem?_pos, htl]
          exact .finS _ σ ⟨by simp, rfl⟩ (.refl _) (fun ob h => .inl h) (by simp) (by simp) (by simp) (by simp) (by simp)
        · simp -implicitDefEqProofs (maxSteps := 2000000) (disch := omega) [-getElem?_pos, htl]
          refine (hny' _).then fun r hr => ?_
          subst hr
          simp -implicitDefEqProofs (maxSteps := 2000000) (disch := omega) [-getElem?_pos]
          exact .finS _ σ ⟨by simp, rfl⟩ (.refl _) (fun ob h => .inl h) (by simp) (by simp) (by simp) (by simp) (by simp)

end Go.Proofs.YtkpnhcccocaakaaDoor
