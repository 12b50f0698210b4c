/-
  Types: what stands for variables is put in; rows without labels too. (Own work.)
-/
import Derived.Test.YtkpnhcccocaakaaDoorU4
set_option linter.unusedVariables false
set_option linter.unusedSimpArgs false
namespace Go.Proofs.YtkpnhcccocaakaaDoor
open Go Go.Abs

/-- What stands for a slice that is appended to, and may be written to. -/
def HdIs (L : Nat) (hd : D) (xs : List V) (R : List Ob) : Prop :=
  (hd = .v .snil ∧ xs = []) ∨ ∃ o c rest, hd = .msl (L + o) 0 xs.length (some 5) (some c) ∧ 4 ≤ o ∧ R[o]? = some (.cells (cellsL xs ++ rest)) ∧ xs ≠ [] ∧ rest.length = (c - xs.length) * 5 ∧ xs.length ≤ c
theorem HdIs.len {L : Nat} {hd : D} {xs : List V} {R : List Ob} (h : HdIs L hd xs R) {σ : Sg} {K : V → Prop} : WLen .sl hd σ K = K (.int .i64 xs.length) := by
  rcases h with ⟨rfl, rfl⟩ | ⟨o, c, rest, rfl, _⟩ <;> rfl
theorem appm_step {os R r : List Ob} {tk : List Nat} {hd : D} {xs : List V} {K : D → Sg → Prop} (hs : ∀ x ∈ xs, x.shape = some 5) (hR : 4 ≤ R.length) (hb : (xs.length + 1) * 72 ≤ 140737488355328) (h : HdIs os.length hd xs R)
    (hK : ∀ (o c : Nat) (zc rest : List D) (R2 : List Ob), 4 ≤ o → zc.length = 5 → R2[o]? = some (.cells (cellsL xs ++ (zc ++ rest))) → rest.length = (c - (xs.length + 1)) * 5 → xs.length + 1 ≤ c → (∀ j, j ≠ o → j < (R ++ r).length → R2[j]? = (R ++ r)[j]?) → (R ++ r).length ≤ R2.length → (o < R.length ∨ (R ++ r).length ≤ o) →
      K (.msl (os.length + o) 0 (xs.length + 1) (some 5) (some c)) ⟨os ++ R2, tk⟩) :
    WApmV (some 5) 72 hd [zV] ⟨os ++ (R ++ r), tk⟩ K := by
  have hcl := cellsL_len hs
  have hz : (V.flat [zV]).map D.v = [.v (.int .i64 0), .v (.int .i64 0), .v .snil, .v .snil, .v (.int .i64 0)] := rfl
  rcases h with ⟨rfl, rfl⟩ | ⟨o, c, rest, rfl, ho, hob, hne, hrest, hxc⟩
  · refine ⟨fun h => (by cases h), fun _ => ⟨by simp, fun c hc hm => ?_⟩⟩
    have := hK (R ++ r).length c [.v (.int .i64 0), .v (.int .i64 0), .v .snil, .v .snil, .v (.int .i64 0)] (List.replicate ((c - 1) * 5) .junk) (R ++ r ++ [.cells ([.v (.int .i64 0), .v (.int .i64 0), .v .snil, .v .snil, .v (.int .i64 0)] ++ List.replicate ((c - 1) * 5) .junk)])
      (by rw [List.length_append]; omega) rfl (by rw [List.getElem?_append_right (Nat.le_refl _), Nat.sub_self]; rfl) (by simp) (by simpa using hc) (fun j hj hlt => by rw [List.getElem?_append_left hlt]) (by simp) (.inr (Nat.le_refl _))
    simp only [Sg.add, List.length_append, List.append_assoc] at this ⊢
    exact this
  · have hlt : o < R.length := (List.getElem?_eq_some_iff.1 hob).1
    have hget : (os ++ (R ++ r))[os.length + o]? = some (.cells (cellsL xs ++ rest)) := by rw [get_app, List.getElem?_append_left hlt]; exact hob
    refine ⟨rfl, ?_⟩
    unfold WApm1
    simp only [hget]
    have hlen : (cellsL xs ++ rest).length = c * 5 := by
      rw [List.length_append, hcl, hrest]
      omega
    refine ⟨fun hle => ⟨by rw [hlen]; simp only [shn, List.length_cons, List.length_nil] at hle ⊢; omega, ?_⟩, fun hgt => ⟨by rw [hlen]; simp only [shn]; omega, by simpa using hb, fun c' hc' hm => ?_⟩⟩
    · simp only [List.length_cons, List.length_nil] at hle
      have hput : putAt (cellsL xs ++ rest) (0 + xs.length * shn (some 5)) ((V.flat [zV]).map .v) = cellsL xs ++ ([.v (.int .i64 0), .v (.int .i64 0), .v .snil, .v .snil, .v (.int .i64 0)] ++ rest.drop 5) := by
        unfold putAt
        rw [hz]
        have e : 0 + xs.length * shn (some 5) = (cellsL xs).length := by rw [hcl]; simp [shn]
        rw [e, List.take_left]
        congr 2
        rw [List.length_cons, List.length_cons, List.length_cons, List.length_cons, List.length_cons, List.length_nil]
        rw [List.drop_append]
        simp
      rw [hput]
      have := hK o c [.v (.int .i64 0), .v (.int .i64 0), .v .snil, .v .snil, .v (.int .i64 0)] (rest.drop 5) ((R ++ r).set o (.cells (cellsL xs ++ ([.v (.int .i64 0), .v (.int .i64 0), .v .snil, .v .snil, .v (.int .i64 0)] ++ rest.drop 5))))
        ho rfl (by rw [List.getElem?_set_self (by rw [List.length_append]; omega)]) (by rw [List.length_drop]; omega) hle (fun j hj hlt => by rw [List.getElem?_set_ne (Ne.symm hj)]) (by simp) (.inl hlt)
      simp only [Sg.put]
      rw [List.set_append_right _ _ (by omega), Nat.add_sub_cancel_left]
      exact this
    · have htake : ((cellsL xs ++ rest).drop 0).take (xs.length * shn (some 5)) = cellsL xs := by
        rw [List.drop_zero]
        have e : xs.length * shn (some 5) = (cellsL xs).length := by rw [hcl]; rfl
        rw [e, List.take_left]
      rw [htake, hz]
      have := hK (R ++ r).length c' [.v (.int .i64 0), .v (.int .i64 0), .v .snil, .v .snil, .v (.int .i64 0)] (List.replicate ((c' - (xs.length + 1)) * 5) .junk) (R ++ r ++ [.cells (cellsL xs ++ ([.v (.int .i64 0), .v (.int .i64 0), .v .snil, .v .snil, .v (.int .i64 0)] ++ List.replicate ((c' - (xs.length + 1)) * 5) .junk))])
        (by rw [List.length_append]; omega) rfl (by rw [List.getElem?_append_right (Nat.le_refl _), Nat.sub_self]; rfl) (by simp) (by simpa using hc') (fun j hj hlt => by rw [List.getElem?_append_left hlt]) (by simp) (.inr (Nat.le_refl _))
      simp only [Sg.add, List.length_append, List.append_assoc, List.length_cons, List.length_nil] at this ⊢
      exact this
theorem encT_ones {l : List Tp} {c : V} (hc : c ∈ V.flat (l.map encT)) : c.one = true := by
  obtain ⟨x, hx, hc⟩ := List.mem_flatMap.1 hc
  obtain ⟨⟨k, n, l, ls, tl⟩, _, rfl⟩ := List.mem_map.1 hx
  rw [encT_mk] at hc
  simp only [V.cells, List.mem_cons, List.not_mem_nil, or_false] at hc
  rcases hc with rfl | rfl | rfl | rfl | rfl <;> rfl
structure PSt where
  i : Nat
  R : List Ob
  hd : D
theorem encI_shape (l : List Tp) (i : Nat) : ∀ x ∈ encI l i, x.shape = some 5 := by
  intro x hx
  obtain ⟨y, _, rfl⟩ := List.mem_map.1 hx
  exact encT_shape y
structure PInv (k n tl : Int) (l : List Tp) (ls : List Str) (l2 : List Tp) (L : Nat) (x : PSt) : Prop where
  hi : x.i ≤ l.length
  h4 : 4 ≤ x.R.length
  h0 : x.R[0]? = some (.cells [.v (.int .i64 k), .v (.int .i64 n), .v (.sl (some 5) false (l.map encT)), .v (.sl none false (ls.map .str)), .v (.int .i64 tl)])
  h1 : x.R[1]? = some (.cells [.v (.int .i64 0), .v (.int .i64 0), .v .snil, .v .snil, .v (.int .i64 0)])
  h3 : x.R[3]? = some (.cells [.v (.int .i64 k), .v (.int .i64 n), x.hd, .v (vS ls), .v (.int .i64 tl)])
  hH : HdIs L x.hd (encI l2 x.i) x.R
theorem pinv_next {k n tl : Int} {l : List Tp} {ls : List Str} {l2 : List Tp} {L i : Nat} {R R2 R3 : List Ob} {hd : D} {B : Ob} {o c : Nat} {zc rest w : List D} {v : V} (hinv : PInv k n tl l ls l2 L ⟨i, R, hd⟩) (hil : i < l.length) (ho : 4 ≤ o) (hzc : zc.length = 5)
    (hxl : (encI l2 i).length = i) (hrest : rest.length = (c - ((encI l2 i).length + 1)) * 5) (hxc : (encI l2 i).length + 1 ≤ c) (hj : ∀ j, j ≠ o → j < R.length + (0 + 1) → R2[j]? = (R ++ [B])[j]?) (hlen : R.length + (0 + 1) ≤ R2.length) (ho2 : o < R2.length)
    (hxn : encI l2 i ++ [v] = encI l2 (i + 1)) (hv : v.cells.map D.v = w) (hw : w.length = 5)
    (h3 : R3 = (R2.set o (.cells (List.take (i * 5) (cellsL (encI l2 i) ++ (zc ++ rest)) ++ (w ++ List.drop (i * 5 + 5) (cellsL (encI l2 i) ++ (zc ++ rest)))))).set 3 (.cells [.v (.int .i64 k), .v (.int .i64 n), .msl (L + o) 0 (i + 1) (some 5) (some c), .v (vS ls), .v (.int .i64 tl)])) :
    PInv k n tl l ls l2 L ⟨i + 1, R3, .msl (L + o) 0 (i + 1) (some 5) (some c)⟩ := by
  obtain ⟨hi, hR4, hR0, hR1, hR3, hH⟩ := hinv
  dsimp only at hi hR4 hR0 hR1 hR3 hH
  have hcl := cellsL_len (encI_shape l2 i)
  rw [hxl] at hcl hrest hxc
  have hl1 : (encI l2 (i + 1)).length = i + 1 := by rw [← hxn]; simp [hxl]
  have hcut : List.take (i * 5) (cellsL (encI l2 i) ++ (zc ++ rest)) ++ (w ++ List.drop (i * 5 + 5) (cellsL (encI l2 i) ++ (zc ++ rest))) = cellsL (encI l2 (i + 1)) ++ rest := by
    rw [← hxn, cellsL_snoc, hv, List.append_assoc, ← hcl, List.take_left, List.drop_append]
    congr 2
    rw [← hzc, Nat.add_sub_cancel_left, List.drop_left]
    rw [List.drop_eq_nil_of_le (by omega)]
    simp
  rw [hcut] at h3
  subst h3
  refine ⟨hil, by simp; omega, ?_, ?_, ?_, .inr ⟨o, c, rest, by rw [hl1], ho, ?_, ?_, by rw [hl1, hrest], by rw [hl1]; exact hxc⟩⟩
  · rw [List.getElem?_set_ne (by omega), List.getElem?_set_ne (by omega), hj 0 (by omega) (by omega), List.getElem?_append_left (by omega)]
    exact hR0
  · rw [List.getElem?_set_ne (by omega), List.getElem?_set_ne (by omega), hj 1 (by omega) (by omega), List.getElem?_append_left (by omega)]
    exact hR1
  · rw [List.getElem?_set_self (by rw [List.length_set]; omega)]
  · rw [List.getElem?_set_ne (by omega), List.getElem?_set_self ho2]
  · intro h
    rw [h] at hl1
    simp at hl1
theorem keepL_app (R xs : List Ob) : KeepL R (R ++ xs) = True := eq_true fun o ob h => by rw [List.getElem?_append_left (List.getElem?_eq_some_iff.1 h).1]; exact h
/-- A row without labels. -/
def bareY (Y : List NT) : Prop := ∀ n x, getT n Y = some x → ∃ r, x = .mk 4 0 [] [] r
def PutOk (p : Nat) (dX dY : D) (X Y : List NT) (t : Tp) : Prop := ∀ {σ : Sg}, tbk t ≤ 1048576 → fineR t = true → σ.objs[p]? = some (.cells [dX, dY, .v (.bool false)]) → MapIs dX X σ → MapIs dY Y σ →
  ACalls Tryd.prog 37 [.ptr p 0, .v (encT t)] σ fun r σ' => r = .v (encT (putT X Y t)) ∧ σ' = σ
set_option maxHeartbeats 4000000 in
theorem k_PutP (t : Tp) {p : Nat} {dX dY : D} {X Y : List NT} (hX1 : ∀ n x, getT n X = some x → tbk x ≤ 1048576) (hY1 : bareY Y) : PutOk p dX dY X Y t := by
  refine Tp.ind (P := PutOk p dX dY X Y) (fun k n l ls tl ih => ?_) t
  intro σ he hfi hpo hMX hMY
  have hpl := (List.getElem?_eq_some_iff.1 hpo).1
  have hset : σ.objs.set p (.cells [dX, dY, .v (.bool false)]) = σ.objs := by
    apply List.ext_getElem?
    intro j
    by_cases e : p = j
    · subst e
      rw [List.getElem?_set_self hpl]
      exact hpo.symm
    · rw [List.getElem?_set_ne e]
  obtain ⟨hok, hfl⟩ := tfine hfi
  have hpn := okT_kinds hok
  simp only [tbk] at he
  have hll := tbkL_len l
  have hnl := nsz_len ls
  obtain ⟨T, hT⟩ : ∃ T, T = putT X Y (.mk k n l ls tl) := ⟨_, rfl⟩
  rw [← hT]
  rw [putT] at hT
  have hp0 : ∀ r, (σ.objs ++ r)[p]? = some (.cells [dX, dY, .v (.bool false)]) := fun r => by rw [List.getElem?_append_left hpl]; exact hpo
  have gX : ∀ r tk m K, WX (.mget (.int .i64) true zV) [dX, .v (.int .i64 m)] ⟨σ.objs ++ r, tk⟩ K = K (.tup [gotT m X, .v (.bool (getT m X).isSome)]) ⟨σ.objs ++ r, tk⟩ := fun r tk m K => WX_mgetT (hMX.app r tk)
  have gY : ∀ r tk m K, WX (.mget (.int .i64) true zV) [dY, .v (.int .i64 m)] ⟨σ.objs ++ r, tk⟩ K = K (.tup [gotT m Y, .v (.bool (getT m Y).isSome)]) ⟨σ.objs ++ r, tk⟩ := fun r tk m K => WX_mgetT (hMY.app r tk)
  obtain ⟨a1, a2, a3, a4, a5, hga, hgx⟩ := gotT_is n X
  have hro := fun σ => k_IsRow (k := k) (n := n) (l := l) (ls := ls) (tl := tl) (σ := σ)
  have hcx := fun x σ (h : getT n X = some x) => k_Copied x (σ := σ) (hX1 n x h)
  rw [encT_mk] at hro ⊢
  refine acalls_fit Tryd.func37 (by kernel_rfl) c37m rfl (by simp [a37m]) fun hf => ?_
  clear hf
  simp -implicitDefEqProofs (maxSteps := 2000000) (disch := omega) [-getElem?_pos, a37m, hp0, gX, hga]
  cases hgn : getT n X with
  | some x =>
    have hx := hgx x hgn
    by_cases h7 : k = 7
    · subst h7
      have hcx' := fun σ => hcx x σ hgn
      have hTx : T = x := by rw [hT, putK, if_pos rfl, hgn]
      rw [hx] at hcx'
      simp -implicitDefEqProofs (maxSteps := 2000000) (disch := omega) [-getElem?_pos]
      refine (hcx' _).then fun r hr => ?_
      subst hr
      simp -implicitDefEqProofs (maxSteps := 2000000) (disch := omega) [-getElem?_pos]
      exact .finS _ σ ⟨by rw [hTx, hx], rfl⟩ (.refl _) (fun ob h => .inl h) (by simp) (by simp) (by simp) (by simp) (by simp)
    · have hT2 : T = .mk k n (putTL X Y l) ls (tlY Y k tl) := by rw [hT, putK, if_neg h7]
      simp -implicitDefEqProofs (maxSteps := 2000000) (disch := omega) [-getElem?_pos, h7]
      refine (k_CloneS (by omega)).then fun r hr => ?_
      subst hr
      simp -implicitDefEqProofs (maxSteps := 2000000) (disch := omega) [-getElem?_pos]
      refine W_loop (α := PSt) ⟨0, [_, _, _, _], .v .snil⟩ (fun x => l.length - x.i) (fun x => ⟨[(0, .ptr p 0), (3, .ptr σ.objs.length 0), (4, .ptr (σ.objs.length + 1) 0), (7, .ptr (σ.objs.length + 3) 0), (39, .v (.sl (some 5) false (l.map encT))), (40, .v (.int .i64 l.length)), (41, .v (.int .i64 x.i))], ⟨σ.objs ++ x.R, σ.toks⟩⟩)
        (fun x => PInv k n tl l ls (putTL X Y l) σ.objs.length x) (.eq (by simp)) ⟨by simp, by simp, by simp, by simp, by simp, .inl ⟨rfl, rfl⟩⟩ fun ⟨i, R, hd⟩ ⟨hi, hR4, hR0, hR1, hR3, hH⟩ => ?_
      dsimp only at hi hR4 hR0 hR1 hR3 hH ⊢
      have hxl := encI_len (l := putTL X Y l) (i := i) (by rw [putTL_eq, List.length_map]; exact hi)
      have hxs := encI_shape (putTL X Y l) i
      have g3 : ∀ r, (R ++ r)[3]? = some (.cells [.v (.int .i64 k), .v (.int .i64 n), hd, .v (vS ls), .v (.int .i64 tl)]) := fun r => by rw [List.getElem?_append_left (by omega)]; exact hR3
      simp -implicitDefEqProofs (maxSteps := 2000000) (disch := omega) [-getElem?_pos]
      refine .mk (fun h => ?_) fun h => ?_
      · simp -implicitDefEqProofs (maxSteps := 2000000) (disch := omega) [-getElem?_pos]
        refine ⟨by omega, fun x hx => ?_⟩
        have hmx := List.mem_of_getElem? hx
        have hx1 := tbkL_mem hmx
        have hc := fun r => ih x hmx (σ := ⟨σ.objs ++ r, σ.toks⟩) (by omega) (hfl x hmx) (hp0 r) (hMX.app r _) (hMY.app r _)
        have hxn : encI (putTL X Y l) i ++ [encT (putT X Y x)] = encI (putTL X Y l) (i + 1) := encI_step (by rw [putTL_eq, List.getElem?_map, hx]; rfl)
        generalize hu : putT X Y x = u at hc hxn
        obtain ⟨k2, n2, l2, ls2, tl2⟩ := x
        rw [encT_mk] at hc ⊢
        obtain ⟨k3, n3, l3, ls3, tl3⟩ := u
        rw [encT_mk (k := k3)] at hc hxn
        simp -implicitDefEqProofs (maxSteps := 2000000) (disch := omega) [-getElem?_pos, g3, hH.len]
        refine (hc _).then fun r hr => ?_
        subst hr
        simp -implicitDefEqProofs (maxSteps := 2000000) (disch := omega) [-getElem?_pos]
        refine appm_step hxs hR4 (by omega) hH fun o c zc rest R2 ho hzc hob hrest hxc hj hlen hor => ?_
        simp only [List.length_append, List.length_cons, List.length_nil] at hj hlen hor
        have g3b : R2[3]? = some (.cells [.v (.int .i64 k), .v (.int .i64 n), hd, .v (vS ls), .v (.int .i64 tl)]) := by rw [hj 3 (by omega) (by omega)]; exact g3 _
        simp -implicitDefEqProofs (maxSteps := 2000000) (disch := omega) [-getElem?_pos, g3b, hob, hxl]
        have ho2 : o < R2.length := (List.getElem?_eq_some_iff.1 hob).1
        refine ⟨by omega, ⟨by rw [cellsL_len hxs, hxl, hzc, hrest]; omega, ⟨i + 1, _, _⟩, pinv_next ⟨hi, hR4, hR0, hR1, hR3, hH⟩ h ho hzc hxl hrest hxc hj hlen ho2 hxn rfl rfl rfl, by show l.length - (i + 1) < l.length - i; omega, .eq2 rfl (by simp)⟩,
          by rw [cellsL_len hxs, hxl, hzc, hrest]; omega, ⟨i + 1, _, _⟩, pinv_next ⟨hi, hR4, hR0, hR1, hR3, hH⟩ h ho hzc hxl hrest hxc hj hlen ho2 hxn rfl rfl (List.set_comm _ _ (by omega)), by show l.length - (i + 1) < l.length - i; omega, .eq2 rfl (by simp)⟩
      · have hil : i = l.length := by omega
        subst hil
        rw [encI_all (Nat.le_of_eq (by rw [putTL_eq, List.length_map]))] at hH
        have g0 : ∀ r, (R ++ r)[0]? = some (Ob.cells [D.v (V.int IntKind.i64 k), D.v (V.int IntKind.i64 n), D.v (V.sl (some 5) false (List.map encT l)), D.v (V.sl none false (List.map V.str ls)), D.v (V.int IntKind.i64 tl)]) := fun r => by rw [List.getElem?_append_left (by omega)]; exact hR0
        have g1 : ∀ r, (R ++ r)[1]? = some (Ob.cells [.v (.int .i64 0), .v (.int .i64 0), .v .snil, .v .snil, .v (.int .i64 0)]) := fun r => by rw [List.getElem?_append_left (by omega)]; exact hR1
        cases hgm : getT tl Y with
        | none =>
          have htlY : tlY Y k tl = tl := by unfold tlY; rw [hgm]; split <;> rfl
          have hgb : gotT tl Y = .v zV := by unfold gotT; rw [hgm]; rfl
          rcases hH with ⟨rfl, hnil⟩ | ⟨o, c, rest, rfl, ho, hob, hne, hrest, hxc⟩
          · simp -implicitDefEqProofs (maxSteps := 2000000) (disch := omega) [-getElem?_pos, hp0, gY, hgb, hR0, hR1, hR3, g0, g1, g3, hgm, keepL_app]
            have hnl0 : putTL X Y l = [] := List.map_eq_nil_iff.1 hnil
            refine .finS (.v (encT T)) σ ⟨rfl, rfl⟩ ?_ (fun ob h => .inl h) (by simp) (by simp) (by simp) (by simp) (by simp)
            rw [hT2, hnl0, encT_mk, htlY]
            exact VLe.d (.agg ⟨.refl _, .refl _, .snil, .refl _, .refl _, trivial⟩ (by simp))
          · simp -implicitDefEqProofs (maxSteps := 2000000) (disch := omega) [-getElem?_pos, hp0, gY, hgb, hR0, hR1, hR3, g0, g1, g3, hgm, keepL_app]
            refine PostV.thawA ((putTL X Y l).map encT) (cellsL ((putTL X Y l).map encT) ++ rest) (.v (encT T)) ⟨rfl, rfl⟩ ?_ (by simp) ?_ ?_ ?_ (by simp) (fun x hx => by obtain ⟨y, _, rfl⟩ := List.mem_map.1 hx; exact encT_shape y) (fun c hc => ?_) (by omega) (by simp) (by simp)
            · rw [hT2, htlY]
              exact tp_leD (.refl _) (.refl _)
            · show (σ.objs ++ _)[σ.objs.length + o]? = _
              have hlo := (List.getElem?_eq_some_iff.1 hob).1
              rw [get_app, List.getElem?_append_left (by rw [List.length_set]; exact hlo), List.getElem?_set_ne (by omega)]
              exact hob
            · intro he
              have h1 := cellsL_len (xs := (putTL X Y l).map encT) (fun x hx => by obtain ⟨y, _, rfl⟩ := List.mem_map.1 hx; exact encT_shape y)
              rw [(List.append_eq_nil_iff.1 he).1, List.length_nil] at h1
              exact hne (List.length_eq_zero_iff.1 (by omega))
            · have h1 := cellsL_len (xs := (putTL X Y l).map encT) (fun x hx => by obtain ⟨y, _, rfl⟩ := List.mem_map.1 hx; exact encT_shape y)
              rw [List.length_map] at h1
              rw [show (putTL X Y l).length * shn (some 5) = (cellsL ((putTL X Y l).map encT)).length from h1.symm, List.take_left]
              rfl
            · exact encT_ones hc

        | some y =>
          obtain ⟨yr, rfl⟩ := hY1 _ _ hgm
          have hgb : gotT tl Y = .v (.agg [.int .i64 4, .int .i64 0, .sl (some 5) false [], .sl none false [], .int .i64 yr]) := by unfold gotT; rw [hgm, Option.map_some, encT_mk]; rfl
          have g31 : ∀ C r, (R.set 3 C ++ r)[1]? = some (Ob.cells [.v (.int .i64 0), .v (.int .i64 0), .v .snil, .v .snil, .v (.int .i64 0)]) := fun C r => by rw [List.getElem?_append_left (by rw [List.length_set]; omega), List.getElem?_set_ne (by omega)]; exact hR1
          have g32 : ∀ C r Z, ((R.set 3 C ++ r).set 1 Z)[1]? = some Z := fun C r Z => List.getElem?_set_self (by rw [List.length_append, List.length_set]; omega)
          rcases hH with ⟨rfl, hnil⟩ | ⟨o, c, rest, rfl, ho, hob, hne, hrest, hxc⟩
          · simp -implicitDefEqProofs (maxSteps := 2000000) (disch := omega) [-getElem?_pos, hp0, gY, hgb, hR0, hR1, hR3, g0, g1, g3, hgm, keepL_app]
            refine (hro _).then fun r hr => ?_
            subst hr
            cases hrow : isRowN k with
            | false =>
              have htlY : tlY Y k tl = tl := by unfold tlY; rw [if_neg fun hh => by rw [hrow] at hh; exact absurd hh.1 (by simp)]
              simp -implicitDefEqProofs (maxSteps := 2000000) (disch := omega) [-getElem?_pos, hrow, hp0, hR0, hR1, hR3, g0, g1, g3]
              have hnl0 : putTL X Y l = [] := List.map_eq_nil_iff.1 hnil
              refine .finS (.v (encT T)) σ ⟨rfl, rfl⟩ ?_ (fun ob h => .inl h) (by simp) (by simp) (by simp) (by simp) (by simp)
              rw [hT2, hnl0, encT_mk, htlY]
              exact VLe.d (.agg ⟨.refl _, .refl _, .snil, .refl _, .refl _, trivial⟩ (by simp))
            | true =>
              by_cases htl : 0 ≤ tl
              rotate_left
              · have htlY : tlY Y k tl = tl := by unfold tlY; rw [if_neg fun hh => htl hh.2]
                simp -implicitDefEqProofs (maxSteps := 2000000) (disch := omega) [-getElem?_pos, htl, hrow, hp0, hR0, hR1, hR3, g0, g1, g3]
                have hnl0 : putTL X Y l = [] := List.map_eq_nil_iff.1 hnil
                refine .finS (.v (encT T)) σ ⟨rfl, rfl⟩ ?_ (fun ob h => .inl h) (by simp) (by simp) (by simp) (by simp) (by simp)
                rw [hT2, hnl0, encT_mk, htlY]
                exact VLe.d (.agg ⟨.refl _, .refl _, .snil, .refl _, .refl _, trivial⟩ (by simp))
              · have htlY : tlY Y k tl = yr := by unfold tlY; rw [if_pos ⟨hrow, htl⟩, hgm]
                simp -implicitDefEqProofs (maxSteps := 2000000) (disch := omega) [-getElem?_pos, g0, htl, hrow]
                refine W_loop (α := Nat) 0 (fun i => i) (fun _ => ⟨[(0, .ptr p 0), (3, .ptr σ.objs.length 0), (4, .ptr (σ.objs.length + 1) 0), (7, .ptr (σ.objs.length + 3) 0), (10, .ptr (σ.objs.length + R.length) 0), (77, .v (.sl none false [])), (78, .v (.int .i64 0)), (79, .v (.int .i64 0))],
                    ⟨σ.objs ++ (R ++ [.cells [.v (.int .i64 4), .v (.int .i64 0), .v (.sl (some 5) false []), .v (.sl none false []), .v (.int .i64 yr)]]), σ.toks⟩⟩) (fun _ => True) (.eq (by simp)) trivial fun _ _ => ?_
                simp -implicitDefEqProofs (maxSteps := 2000000) (disch := omega) [-getElem?_pos, g3]
                have hnl2 : (putTL X Y l).length = ls.length := by
                  rw [putTL_eq, List.length_map]
                  simp only [isRowN, decide_eq_true_eq] at hrow
                  have h45 : partsN k ls = ls.length := by unfold partsN; rcases hrow with rfl | rfl <;> simp
                  rw [h45] at hpn
                  omega
                have hisS : isS ls = true := by
                  unfold okT at hok
                  rw [if_pos hrow] at hok
                  simp only [Bool.and_eq_true] at hok
                  exact hok.2.1.2
                refine (k_SortedT (k := k) (n := n) (tl := yr) (l := putTL X Y l) (ls := ls) (hd := .v .snil) (by dsimp only; rw [get_app, get_app_set (by omega)]) (.inl ⟨rfl, List.map_eq_nil_iff.1 hnil⟩) hisS hnl2 (by omega)).mono fun r σ' hr => ?_
                obtain ⟨rfl, ⟨h1, h2, rfl⟩ | rfl⟩ := hr
                · simp -implicitDefEqProofs (maxSteps := 2000000) (disch := omega) [-getElem?_pos, hp0, hset, hpl, g31, g32]
                  refine .finS (.v (encT T)) σ ⟨rfl, rfl⟩ ?_ (fun ob h => .inl h) (by simp) (by simp) (by simp) (by simp) (by simp)
                  rw [hT2, h1, h2, encT_mk, htlY]
                  exact VLe.d (.agg ⟨.refl _, .refl _, .snil, .snil, .refl _, trivial⟩ (by simp))
                · simp -implicitDefEqProofs (maxSteps := 2000000) (disch := omega) [-getElem?_pos, hp0, hset, hpl, g31, g32]
                  refine .finS (.v (encT T)) σ ⟨rfl, rfl⟩ ?_ (fun ob h => .inl h) (by simp) (by simp) (by simp) (by simp) (by simp)
                  rw [hT2, htlY]
                  exact tp_leD .tsl .tsl
          · simp -implicitDefEqProofs (maxSteps := 2000000) (disch := omega) [-getElem?_pos, hp0, gY, hgb, hR0, hR1, hR3, g0, g1, g3, hgm, keepL_app]
            refine (hro _).then fun r hr => ?_
            subst hr
            cases hrow : isRowN k with
            | false =>
              have htlY : tlY Y k tl = tl := by unfold tlY; rw [if_neg fun hh => by rw [hrow] at hh; exact absurd hh.1 (by simp)]
              simp -implicitDefEqProofs (maxSteps := 2000000) (disch := omega) [-getElem?_pos, hrow, hp0, hR0, hR1, hR3, g0, g1, g3]
              refine PostV.thawA ((putTL X Y l).map encT) (cellsL ((putTL X Y l).map encT) ++ rest) (.v (encT T)) ⟨rfl, rfl⟩ ?_ (by simp) ?_ ?_ ?_ (by simp) (fun x hx => by obtain ⟨y, _, rfl⟩ := List.mem_map.1 hx; exact encT_shape y) (fun c hc => ?_) (by omega) (by simp) (by simp)
              · rw [hT2, htlY]
                exact tp_leD (.refl _) (.refl _)
              · show (σ.objs ++ _)[σ.objs.length + o]? = _
                have hlo := (List.getElem?_eq_some_iff.1 hob).1
                rw [get_app, List.getElem?_append_left (by rw [List.length_set]; exact hlo), List.getElem?_set_ne (by omega)]
                exact hob
              · intro he
                have h1 := cellsL_len (xs := (putTL X Y l).map encT) (fun x hx => by obtain ⟨y, _, rfl⟩ := List.mem_map.1 hx; exact encT_shape y)
                rw [(List.append_eq_nil_iff.1 he).1, List.length_nil] at h1
                exact hne (List.length_eq_zero_iff.1 (by omega))
              · have h1 := cellsL_len (xs := (putTL X Y l).map encT) (fun x hx => by obtain ⟨y, _, rfl⟩ := List.mem_map.1 hx; exact encT_shape y)
                rw [List.length_map] at h1
                rw [show (putTL X Y l).length * shn (some 5) = (cellsL ((putTL X Y l).map encT)).length from h1.symm, List.take_left]
                rfl
              · exact encT_ones hc
            | true =>
              by_cases htl : 0 ≤ tl
              rotate_left
              · have htlY : tlY Y k tl = tl := by unfold tlY; rw [if_neg fun hh => htl hh.2]
                simp -implicitDefEqProofs (maxSteps := 2000000) (disch := omega) [-getElem?_pos, htl, hrow, hp0, hR0, hR1, hR3, g0, g1, g3]
                refine PostV.thawA ((putTL X Y l).map encT) (cellsL ((putTL X Y l).map encT) ++ rest) (.v (encT T)) ⟨rfl, rfl⟩ ?_ (by simp) ?_ ?_ ?_ (by simp) (fun x hx => by obtain ⟨y, _, rfl⟩ := List.mem_map.1 hx; exact encT_shape y) (fun c hc => ?_) (by omega) (by simp) (by simp)
                · rw [hT2, htlY]
                  exact tp_leD (.refl _) (.refl _)
                · show (σ.objs ++ _)[σ.objs.length + o]? = _
                  have hlo := (List.getElem?_eq_some_iff.1 hob).1
                  rw [get_app, List.getElem?_append_left (by rw [List.length_set]; exact hlo), List.getElem?_set_ne (by omega)]
                  exact hob
                · intro he
                  have h1 := cellsL_len (xs := (putTL X Y l).map encT) (fun x hx => by obtain ⟨y, _, rfl⟩ := List.mem_map.1 hx; exact encT_shape y)
                  rw [(List.append_eq_nil_iff.1 he).1, List.length_nil] at h1
                  exact hne (List.length_eq_zero_iff.1 (by omega))
                · have h1 := cellsL_len (xs := (putTL X Y l).map encT) (fun x hx => by obtain ⟨y, _, rfl⟩ := List.mem_map.1 hx; exact encT_shape y)
                  rw [List.length_map] at h1
                  rw [show (putTL X Y l).length * shn (some 5) = (cellsL ((putTL X Y l).map encT)).length from h1.symm, List.take_left]
                  rfl
                · exact encT_ones hc
              · have htlY : tlY Y k tl = yr := by unfold tlY; rw [if_pos ⟨hrow, htl⟩, hgm]
                simp -implicitDefEqProofs (maxSteps := 2000000) (disch := omega) [-getElem?_pos, g0, htl, hrow]
                refine W_loop (α := Nat) 0 (fun i => i) (fun _ => ⟨[(0, .ptr p 0), (3, .ptr σ.objs.length 0), (4, .ptr (σ.objs.length + 1) 0), (7, .ptr (σ.objs.length + 3) 0), (10, .ptr (σ.objs.length + R.length) 0), (77, .v (.sl none false [])), (78, .v (.int .i64 0)), (79, .v (.int .i64 0))],
                    ⟨σ.objs ++ (R ++ [.cells [.v (.int .i64 4), .v (.int .i64 0), .v (.sl (some 5) false []), .v (.sl none false []), .v (.int .i64 yr)]]), σ.toks⟩⟩) (fun _ => True) (.eq (by simp)) trivial fun _ _ => ?_
                simp -implicitDefEqProofs (maxSteps := 2000000) (disch := omega) [-getElem?_pos, g3]
                have hnl2 : (putTL X Y l).length = ls.length := by
                  rw [putTL_eq, List.length_map]
                  simp only [isRowN, decide_eq_true_eq] at hrow
                  have h45 : partsN k ls = ls.length := by unfold partsN; rcases hrow with rfl | rfl <;> simp
                  rw [h45] at hpn
                  omega
                have hisS : isS ls = true := by
                  unfold okT at hok
                  rw [if_pos hrow] at hok
                  simp only [Bool.and_eq_true] at hok
                  exact hok.2.1.2
                refine (k_SortedT (k := k) (n := n) (tl := yr) (l := putTL X Y l) (ls := ls) (hd := .msl (σ.objs.length + o) 0 (putTL X Y l).length (some 5) (some c)) (by dsimp only; rw [get_app, get_app_set (by omega)]) (.inr ⟨_, _, rest, rfl, by omega, by dsimp only; rw [get_app, List.getElem?_append_left (by rw [List.length_set]; exact (List.getElem?_eq_some_iff.1 hob).1), List.getElem?_set_ne (by omega)]; exact hob⟩) hisS hnl2 (by omega)).mono fun r σ' hr => ?_
                obtain ⟨rfl, ⟨h1, h2, rfl⟩ | rfl⟩ := hr
                · simp -implicitDefEqProofs (maxSteps := 2000000) (disch := omega) [-getElem?_pos, hp0, hset, hpl, g31, g32]
                  refine .finS (.v (encT T)) σ ⟨rfl, rfl⟩ ?_ (fun ob h => .inl h) (by simp) (by simp) (by simp) (by simp) (by simp)
                  rw [hT2, h1, h2, encT_mk, htlY]
                  exact VLe.d (.agg ⟨.refl _, .refl _, .snil, .snil, .refl _, trivial⟩ (by simp))
                · simp -implicitDefEqProofs (maxSteps := 2000000) (disch := omega) [-getElem?_pos, hp0, hset, hpl, g31, g32]
                  refine .finS (.v (encT T)) σ ⟨rfl, rfl⟩ ?_ (fun ob h => .inl h) (by simp) (by simp) (by simp) (by simp) (by simp)
                  rw [hT2, htlY]
                  exact tp_leD .tsl .tsl

  | none =>
    have hT2 : T = .mk k n (putTL X Y l) ls (tlY Y k tl) := by rw [hT, putK, hgn]; split <;> rfl
    simp -implicitDefEqProofs (maxSteps := 2000000) (disch := omega) [-getElem?_pos]
    refine (k_CloneS (by omega)).then fun r hr => ?_
    subst hr
    simp -implicitDefEqProofs (maxSteps := 2000000) (disch := omega) [-getElem?_pos]
    refine W_loop (α := PSt) ⟨0, [_, _, _, _], .v .snil⟩ (fun x => l.length - x.i) (fun x => ⟨[(0, .ptr p 0), (3, .ptr σ.objs.length 0), (4, .ptr (σ.objs.length + 1) 0), (7, .ptr (σ.objs.length + 3) 0), (39, .v (.sl (some 5) false (l.map encT))), (40, .v (.int .i64 l.length)), (41, .v (.int .i64 x.i))], ⟨σ.objs ++ x.R, σ.toks⟩⟩)
      (fun x => PInv k n tl l ls (putTL X Y l) σ.objs.length x) (.eq (by simp)) ⟨by simp, by simp, by simp, by simp, by simp, .inl ⟨rfl, rfl⟩⟩ fun ⟨i, R, hd⟩ ⟨hi, hR4, hR0, hR1, hR3, hH⟩ => ?_
    dsimp only at hi hR4 hR0 hR1 hR3 hH ⊢
    have hxl := encI_len (l := putTL X Y l) (i := i) (by rw [putTL_eq, List.length_map]; exact hi)
    have hxs := encI_shape (putTL X Y l) i
    have g3 : ∀ r, (R ++ r)[3]? = some (.cells [.v (.int .i64 k), .v (.int .i64 n), hd, .v (vS ls), .v (.int .i64 tl)]) := fun r => by rw [List.getElem?_append_left (by omega)]; exact hR3
    simp -implicitDefEqProofs (maxSteps := 2000000) (disch := omega) [-getElem?_pos]
    refine .mk (fun h => ?_) fun h => ?_
    · simp -implicitDefEqProofs (maxSteps := 2000000) (disch := omega) [-getElem?_pos]
      refine ⟨by omega, fun x hx => ?_⟩
      have hmx := List.mem_of_getElem? hx
      have hx1 := tbkL_mem hmx
      have hc := fun r => ih x hmx (σ := ⟨σ.objs ++ r, σ.toks⟩) (by omega) (hfl x hmx) (hp0 r) (hMX.app r _) (hMY.app r _)
      have hxn : encI (putTL X Y l) i ++ [encT (putT X Y x)] = encI (putTL X Y l) (i + 1) := encI_step (by rw [putTL_eq, List.getElem?_map, hx]; rfl)
      generalize hu : putT X Y x = u at hc hxn
      obtain ⟨k2, n2, l2, ls2, tl2⟩ := x
      rw [encT_mk] at hc ⊢
      obtain ⟨k3, n3, l3, ls3, tl3⟩ := u
      rw [encT_mk (k := k3)] at hc hxn
      simp -implicitDefEqProofs (maxSteps := 2000000) (disch := omega) [-getElem?_pos, g3, hH.len]
      refine (hc _).then fun r hr => ?_
      subst hr
      simp -implicitDefEqProofs (maxSteps := 2000000) (disch := omega) [-getElem?_pos]
      refine appm_step hxs hR4 (by omega) hH fun o c zc rest R2 ho hzc hob hrest hxc hj hlen hor => ?_
      simp only [List.length_append, List.length_cons, List.length_nil] at hj hlen hor
      have g3b : R2[3]? = some (.cells [.v (.int .i64 k), .v (.int .i64 n), hd, .v (vS ls), .v (.int .i64 tl)]) := by rw [hj 3 (by omega) (by omega)]; exact g3 _
      simp -implicitDefEqProofs (maxSteps := 2000000) (disch := omega) [-getElem?_pos, g3b, hob, hxl]
      have ho2 : o < R2.length := (List.getElem?_eq_some_iff.1 hob).1
      refine ⟨by omega, ⟨by rw [cellsL_len hxs, hxl, hzc, hrest]; omega, ⟨i + 1, _, _⟩, pinv_next ⟨hi, hR4, hR0, hR1, hR3, hH⟩ h ho hzc hxl hrest hxc hj hlen ho2 hxn rfl rfl rfl, by show l.length - (i + 1) < l.length - i; omega, .eq2 rfl (by simp)⟩,
        by rw [cellsL_len hxs, hxl, hzc, hrest]; omega, ⟨i + 1, _, _⟩, pinv_next ⟨hi, hR4, hR0, hR1, hR3, hH⟩ h ho hzc hxl hrest hxc hj hlen ho2 hxn rfl rfl (List.set_comm _ _ (by omega)), by show l.length - (i + 1) < l.length - i; omega, .eq2 rfl (by simp)⟩
    · have hil : i = l.length := by omega
      subst hil
      rw [encI_all (Nat.le_of_eq (by rw [putTL_eq, List.length_map]))] at hH
      have g0 : ∀ r, (R ++ r)[0]? = some (Ob.cells [D.v (V.int IntKind.i64 k), D.v (V.int IntKind.i64 n), D.v (V.sl (some 5) false (List.map encT l)), D.v (V.sl none false (List.map V.str ls)), D.v (V.int IntKind.i64 tl)]) := fun r => by rw [List.getElem?_append_left (by omega)]; exact hR0
      have g1 : ∀ r, (R ++ r)[1]? = some (Ob.cells [.v (.int .i64 0), .v (.int .i64 0), .v .snil, .v .snil, .v (.int .i64 0)]) := fun r => by rw [List.getElem?_append_left (by omega)]; exact hR1
      cases hgm : getT tl Y with
      | none =>
        have htlY : tlY Y k tl = tl := by unfold tlY; rw [hgm]; split <;> rfl
        have hgb : gotT tl Y = .v zV := by unfold gotT; rw [hgm]; rfl
        rcases hH with ⟨rfl, hnil⟩ | ⟨o, c, rest, rfl, ho, hob, hne, hrest, hxc⟩
        · simp -implicitDefEqProofs (maxSteps := 2000000) (disch := omega) [-getElem?_pos, hp0, gY, hgb, hR0, hR1, hR3, g0, g1, g3, hgm, keepL_app]
          have hnl0 : putTL X Y l = [] := List.map_eq_nil_iff.1 hnil
          refine .finS (.v (encT T)) σ ⟨rfl, rfl⟩ ?_ (fun ob h => .inl h) (by simp) (by simp) (by simp) (by simp) (by simp)
          rw [hT2, hnl0, encT_mk, htlY]
          exact VLe.d (.agg ⟨.refl _, .refl _, .snil, .refl _, .refl _, trivial⟩ (by simp))
        · simp -implicitDefEqProofs (maxSteps := 2000000) (disch := omega) [-getElem?_pos, hp0, gY, hgb, hR0, hR1, hR3, g0, g1, g3, hgm, keepL_app]
          refine PostV.thawA ((putTL X Y l).map encT) (cellsL ((putTL X Y l).map encT) ++ rest) (.v (encT T)) ⟨rfl, rfl⟩ ?_ (by simp) ?_ ?_ ?_ (by simp) (fun x hx => by obtain ⟨y, _, rfl⟩ := List.mem_map.1 hx; exact encT_shape y) (fun c hc => ?_) (by omega) (by simp) (by simp)
          · rw [hT2, htlY]
            exact tp_leD (.refl _) (.refl _)
          · show (σ.objs ++ _)[σ.objs.length + o]? = _
            have hlo := (List.getElem?_eq_some_iff.1 hob).1
            rw [get_app, List.getElem?_append_left (by rw [List.length_set]; exact hlo), List.getElem?_set_ne (by omega)]
            exact hob
          · intro he
            have h1 := cellsL_len (xs := (putTL X Y l).map encT) (fun x hx => by obtain ⟨y, _, rfl⟩ := List.mem_map.1 hx; exact encT_shape y)
            rw [(List.append_eq_nil_iff.1 he).1, List.length_nil] at h1
            exact hne (List.length_eq_zero_iff.1 (by omega))
          · have h1 := cellsL_len (xs := (putTL X Y l).map encT) (fun x hx => by obtain ⟨y, _, rfl⟩ := List.mem_map.1 hx; exact encT_shape y)
            rw [List.length_map] at h1
            rw [show (putTL X Y l).length * shn (some 5) = (cellsL ((putTL X Y l).map encT)).length from h1.symm, List.take_left]
            rfl
          · exact encT_ones hc

      | some y =>
        obtain ⟨yr, rfl⟩ := hY1 _ _ hgm
        have hgb : gotT tl Y = .v (.agg [.int .i64 4, .int .i64 0, .sl (some 5) false [], .sl none false [], .int .i64 yr]) := by unfold gotT; rw [hgm, Option.map_some, encT_mk]; rfl
        have g31 : ∀ C r, (R.set 3 C ++ r)[1]? = some (Ob.cells [.v (.int .i64 0), .v (.int .i64 0), .v .snil, .v .snil, .v (.int .i64 0)]) := fun C r => by rw [List.getElem?_append_left (by rw [List.length_set]; omega), List.getElem?_set_ne (by omega)]; exact hR1
        have g32 : ∀ C r Z, ((R.set 3 C ++ r).set 1 Z)[1]? = some Z := fun C r Z => List.getElem?_set_self (by rw [List.length_append, List.length_set]; omega)
        rcases hH with ⟨rfl, hnil⟩ | ⟨o, c, rest, rfl, ho, hob, hne, hrest, hxc⟩
        · simp -implicitDefEqProofs (maxSteps := 2000000) (disch := omega) [-getElem?_pos, hp0, gY, hgb, hR0, hR1, hR3, g0, g1, g3, hgm, keepL_app]
          refine (hro _).then fun r hr => ?_
          subst hr
          cases hrow : isRowN k with
          | false =>
            have htlY : tlY Y k tl = tl := by unfold tlY; rw [if_neg fun hh => by rw [hrow] at hh; exact absurd hh.1 (by simp)]
            simp -implicitDefEqProofs (maxSteps := 2000000) (disch := omega) [-getElem?_pos, hrow, hp0, hR0, hR1, hR3, g0, g1, g3]
            have hnl0 : putTL X Y l = [] := List.map_eq_nil_iff.1 hnil
            refine .finS (.v (encT T)) σ ⟨rfl, rfl⟩ ?_ (fun ob h => .inl h) (by simp) (by simp) (by simp) (by simp) (by simp)
            rw [hT2, hnl0, encT_mk, htlY]
            exact VLe.d (.agg ⟨.refl _, .refl _, .snil, .refl _, .refl _, trivial⟩ (by simp))
          | true =>
            by_cases htl : 0 ≤ tl
            rotate_left
            · have htlY : tlY Y k tl = tl := by unfold tlY; rw [if_neg fun hh => htl hh.2]
              simp -implicitDefEqProofs (maxSteps := 2000000) (disch := omega) [-getElem?_pos, htl, hrow, hp0, hR0, hR1, hR3, g0, g1, g3]
              have hnl0 : putTL X Y l = [] := List.map_eq_nil_iff.1 hnil
              refine .finS (.v (encT T)) σ ⟨rfl, rfl⟩ ?_ (fun ob h => .inl h) (by simp) (by simp) (by simp) (by simp) (by simp)
              rw [hT2, hnl0, encT_mk, htlY]
              exact VLe.d (.agg ⟨.refl _, .refl _, .snil, .refl _, .refl _, trivial⟩ (by simp))
            · have htlY : tlY Y k tl = yr := by unfold tlY; rw [if_pos ⟨hrow, htl⟩, hgm]
              simp -implicitDefEqProofs (maxSteps := 2000000) (disch := omega) [-getElem?_pos, g0, htl, hrow]
              refine W_loop (α := Nat) 0 (fun i => i) (fun _ => ⟨[(0, .ptr p 0), (3, .ptr σ.objs.length 0), (4, .ptr (σ.objs.length + 1) 0), (7, .ptr (σ.objs.length + 3) 0), (10, .ptr (σ.objs.length + R.length) 0), (77, .v (.sl none false [])), (78, .v (.int .i64 0)), (79, .v (.int .i64 0))],
                  ⟨σ.objs ++ (R ++ [.cells [.v (.int .i64 4), .v (.int .i64 0), .v (.sl (some 5) false []), .v (.sl none false []), .v (.int .i64 yr)]]), σ.toks⟩⟩) (fun _ => True) (.eq (by simp)) trivial fun _ _ => ?_
              simp -implicitDefEqProofs (maxSteps := 2000000) (disch := omega) [-getElem?_pos, g3]
              have hnl2 : (putTL X Y l).length = ls.length := by
                rw [putTL_eq, List.length_map]
                simp only [isRowN, decide_eq_true_eq] at hrow
                have h45 : partsN k ls = ls.length := by unfold partsN; rcases hrow with rfl | rfl <;> simp
                rw [h45] at hpn
                omega
              have hisS : isS ls = true := by
                unfold okT at hok
                rw [if_pos hrow] at hok
                simp only [Bool.and_eq_true] at hok
                exact hok.2.1.2
              refine (k_SortedT (k := k) (n := n) (tl := yr) (l := putTL X Y l) (ls := ls) (hd := .v .snil) (by dsimp only; rw [get_app, get_app_set (by omega)]) (.inl ⟨rfl, List.map_eq_nil_iff.1 hnil⟩) hisS hnl2 (by omega)).mono fun r σ' hr => ?_
              obtain ⟨rfl, ⟨h1, h2, rfl⟩ | rfl⟩ := hr
              · simp -implicitDefEqProofs (maxSteps := 2000000) (disch := omega) [-getElem?_pos, hp0, hset, hpl, g31, g32]
                refine .finS (.v (encT T)) σ ⟨rfl, rfl⟩ ?_ (fun ob h => .inl h) (by simp) (by simp) (by simp) (by simp) (by simp)
                rw [hT2, h1, h2, encT_mk, htlY]
                exact VLe.d (.agg ⟨.refl _, .refl _, .snil, .snil, .refl _, trivial⟩ (by simp))
              · simp -implicitDefEqProofs (maxSteps := 2000000) (disch := omega) [-getElem?_pos, hp0, hset, hpl, g31, g32]
                refine .finS (.v (encT T)) σ ⟨rfl, rfl⟩ ?_ (fun ob h => .inl h) (by simp) (by simp) (by simp) (by simp) (by simp)
                rw [hT2, htlY]
                exact tp_leD .tsl .tsl
        · simp -implicitDefEqProofs (maxSteps := 2000000) (disch := omega) [-getElem?_pos, hp0, gY, hgb, hR0, hR1, hR3, g0, g1, g3, hgm, keepL_app]
          refine (hro _).then fun r hr => ?_
          subst hr
          cases hrow : isRowN k with
          | false =>
            have htlY : tlY Y k tl = tl := by unfold tlY; rw [if_neg fun hh => by rw [hrow] at hh; exact absurd hh.1 (by simp)]
            simp -implicitDefEqProofs (maxSteps := 2000000) (disch := omega) [-getElem?_pos, hrow, hp0, hR0, hR1, hR3, g0, g1, g3]
            refine PostV.thawA ((putTL X Y l).map encT) (cellsL ((putTL X Y l).map encT) ++ rest) (.v (encT T)) ⟨rfl, rfl⟩ ?_ (by simp) ?_ ?_ ?_ (by simp) (fun x hx => by obtain ⟨y, _, rfl⟩ := List.mem_map.1 hx; exact encT_shape y) (fun c hc => ?_) (by omega) (by simp) (by simp)
            · rw [hT2, htlY]
              exact tp_leD (.refl _) (.refl _)
            · show (σ.objs ++ _)[σ.objs.length + o]? = _
              have hlo := (List.getElem?_eq_some_iff.1 hob).1
              rw [get_app, List.getElem?_append_left (by rw [List.length_set]; exact hlo), List.getElem?_set_ne (by omega)]
              exact hob
            · intro he
              have h1 := cellsL_len (xs := (putTL X Y l).map encT) (fun x hx => by obtain ⟨y, _, rfl⟩ := List.mem_map.1 hx; exact encT_shape y)
              rw [(List.append_eq_nil_iff.1 he).1, List.length_nil] at h1
              exact hne (List.length_eq_zero_iff.1 (by omega))
            · have h1 := cellsL_len (xs := (putTL X Y l).map encT) (fun x hx => by obtain ⟨y, _, rfl⟩ := List.mem_map.1 hx; exact encT_shape y)
              rw [List.length_map] at h1
              rw [show (putTL X Y l).length * shn (some 5) = (cellsL ((putTL X Y l).map encT)).length from h1.symm, List.take_left]
              rfl
            · exact encT_ones hc
          | true =>
            by_cases htl : 0 ≤ tl
            rotate_left
            · have htlY : tlY Y k tl = tl := by unfold tlY; rw [if_neg fun hh => htl hh.2]
              simp -implicitDefEqProofs (maxSteps := 2000000) (disch := omega) [-getElem?_pos, htl, hrow, hp0, hR0, hR1, hR3, g0, g1, g3]
              refine PostV.thawA ((putTL X Y l).map encT) (cellsL ((putTL X Y l).map encT) ++ rest) (.v (encT T)) ⟨rfl, rfl⟩ ?_ (by simp) ?_ ?_ ?_ (by simp) (fun x hx => by obtain ⟨y, _, rfl⟩ := List.mem_map.1 hx; exact encT_shape y) (fun c hc => ?_) (by omega) (by simp) (by simp)
              · rw [hT2, htlY]
                exact tp_leD (.refl _) (.refl _)
              · show (σ.objs ++ _)[σ.objs.length + o]? = _
                have hlo := (List.getElem?_eq_some_iff.1 hob).1
                rw [get_app, List.getElem?_append_left (by rw [List.length_set]; exact hlo), List.getElem?_set_ne (by omega)]
                exact hob
              · intro he
                have h1 := cellsL_len (xs := (putTL X Y l).map encT) (fun x hx => by obtain ⟨y, _, rfl⟩ := List.mem_map.1 hx; exact encT_shape y)
                rw [(List.append_eq_nil_iff.1 he).1, List.length_nil] at h1
                exact hne (List.length_eq_zero_iff.1 (by omega))
              · have h1 := cellsL_len (xs := (putTL X Y l).map encT) (fun x hx => by obtain ⟨y, _, rfl⟩ := List.mem_map.1 hx; exact encT_shape y)
                rw [List.length_map] at h1
                rw [show (putTL X Y l).length * shn (some 5) = (cellsL ((putTL X Y l).map encT)).length from h1.symm, List.take_left]
                rfl
              · exact encT_ones hc
            · have htlY : tlY Y k tl = yr := by unfold tlY; rw [if_pos ⟨hrow, htl⟩, hgm]
              simp -implicitDefEqProofs (maxSteps := 2000000) (disch := omega) [-getElem?_pos, g0, htl, hrow]
              refine W_loop (α := Nat) 0 (fun i => i) (fun _ => ⟨[(0, .ptr p 0), (3, .ptr σ.objs.length 0), (4, .ptr (σ.objs.length + 1) 0), (7, .ptr (σ.objs.length + 3) 0), (10, .ptr (σ.objs.length + R.length) 0), (77, .v (.sl none false [])), (78, .v (.int .i64 0)), (79, .v (.int .i64 0))],
                  ⟨σ.objs ++ (R ++ [.cells [.v (.int .i64 4), .v (.int .i64 0), .v (.sl (some 5) false []), .v (.sl none false []), .v (.int .i64 yr)]]), σ.toks⟩⟩) (fun _ => True) (.eq (by simp)) trivial fun _ _ => ?_
              simp -implicitDefEqProofs (maxSteps := 2000000) (disch := omega) [-getElem?_pos, g3]
              have hnl2 : (putTL X Y l).length = ls.length := by
                rw [putTL_eq, List.length_map]
                simp only [isRowN, decide_eq_true_eq] at hrow
                have h45 : partsN k ls = ls.length := by unfold partsN; rcases hrow with rfl | rfl <;> simp
                rw [h45] at hpn
                omega
              have hisS : isS ls = true := by
                unfold okT at hok
                rw [if_pos hrow] at hok
                simp only [Bool.and_eq_true] at hok
                exact hok.2.1.2
              refine (k_SortedT (k := k) (n := n) (tl := yr) (l := putTL X Y l) (ls := ls) (hd := .msl (σ.objs.length + o) 0 (putTL X Y l).length (some 5) (some c)) (by dsimp only; rw [get_app, get_app_set (by omega)]) (.inr ⟨_, _, rest, rfl, by omega, by dsimp only; rw [get_app, List.getElem?_append_left (by rw [List.length_set]; exact (List.getElem?_eq_some_iff.1 hob).1), List.getElem?_set_ne (by omega)]; exact hob⟩) hisS hnl2 (by omega)).mono fun r σ' hr => ?_
              obtain ⟨rfl, ⟨h1, h2, rfl⟩ | rfl⟩ := hr
              · simp -implicitDefEqProofs (maxSteps := 2000000) (disch := omega) [-getElem?_pos, hp0, hset, hpl, g31, g32]
                refine .finS (.v (encT T)) σ ⟨rfl, rfl⟩ ?_ (fun ob h => .inl h) (by simp) (by simp) (by simp) (by simp) (by simp)
                rw [hT2, h1, h2, encT_mk, htlY]
                exact VLe.d (.agg ⟨.refl _, .refl _, .snil, .snil, .refl _, trivial⟩ (by simp))
              · simp -implicitDefEqProofs (maxSteps := 2000000) (disch := omega) [-getElem?_pos, hp0, hset, hpl, g31, g32]
                refine .finS (.v (encT T)) σ ⟨rfl, rfl⟩ ?_ (fun ob h => .inl h) (by simp) (by simp) (by simp) (by simp) (by simp)
                rw [hT2, htlY]
                exact tp_leD .tsl .tsl

end Go.Proofs.YtkpnhcccocaakaaDoor
