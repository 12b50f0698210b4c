/-
  The document's heap: it is collected. (Own work.)
-/
import Derived.Test.YtiomciifhkbklaaH19
set_option linter.unusedVariables false
set_option linter.unusedSimpArgs false
set_option maxHeartbeats 2000000
namespace Go.Proofs.Ytiomciifhkbklaa
open Go Go.Abs

structure OSt where
  i : Nat
  ord : List Nat
structure P2St where
  σ : Sg
  i : Nat
structure N3St where
  σ : Sg
  i : Nat
  oN : Nat
  dN : D
  rs : List Rr
def nxO (os : List Ho) (F : List Nat) (i : Nat) : List Ho := (pickO os (F.take i)).map (turnO os F)
/-- A row of objects with their words. -/
structure RB (σ : Sg) (base oT : Nat) (os : List Ho) (dT : D) (rs : List Rr) : Prop where
  top : VR σ oT dT os rs
  inn : ∀ (i : Nat) o r, os[i]? = some o → rs[i]? = some r → VI σ r.id r.d o.l
  gT : os ≠ [] → base ≤ oT
  nm : ∀ (i : Nat) o r, os[i]? = some o → rs[i]? = some r → o.l ≠ [] → base ≤ r.id ∧ r.id ≠ oT
  nd : ∀ (i j : Nat) a b r q, os[i]? = some a → os[j]? = some b → rs[i]? = some r → rs[j]? = some q → a.l ≠ [] → b.l ≠ [] → r.id = q.id → i = j
theorem RB.fr {σ σ' : Sg} {base oT : Nat} {os : List Ho} {dT : D} {rs : List Rr} {S : Nat → Prop} (h : RB σ base oT os dT rs) (k : Fr σ σ' S) (hS : ∀ i, base ≤ i → ¬ S i) : RB σ' base oT os dT rs :=
  ⟨h.top.on fun hn => k.keep _ (h.top.lt hn) (hS _ (h.gT hn)), fun i o r h1 h2 => (h.inn i o r h1 h2).fr k fun hn => hS _ (h.nm i o r h1 h2 hn).1, h.gT, h.nm, h.nd⟩
theorem snoc_get {α : Type} {l : List α} {x y : α} {i : Nat} (h : (l ++ [x])[i]? = some y) : i < l.length ∧ l[i]? = some y ∨ i = l.length ∧ y = x := by
  by_cases hi : i < l.length
  · rw [List.getElem?_append_left hi] at h
    exact .inl ⟨hi, h⟩
  · rw [List.getElem?_append_right (by omega)] at h
    have := (List.getElem?_eq_some_iff.1 h).1
    simp at this
    have h0 : i = l.length := by omega
    subst h0
    simp at h
    exact .inr ⟨rfl, h.symm⟩
/-- One more. -/
theorem RB.snoc {σ σ' : Sg} {base oN oN' id : Nat} {os : List Ho} {dN dN' d : D} {rs : List Rr} {o : Ho} (h : RB σ base oN os dN rs) (hv : VI σ id d o.l) (hb : base ≤ id) (hid : o.l ≠ [] → (os ≠ [] → id ≠ oN) ∧ ∀ (i : Nat) a r, os[i]? = some a → rs[i]? = some r → a.l ≠ [] → r.id ≠ id)
    (ht : VR σ' oN' dN' (os ++ [o]) (rs ++ [⟨id, d⟩])) (hf : Fr σ σ' (fun i => i = oN ∧ os ≠ [])) (ho : oN' = oN ∧ os ≠ [] ∨ oN' = σ.objs.length) (hbl : base ≤ σ.objs.length) : RB σ' base oN' (os ++ [o]) dN' (rs ++ [⟨id, d⟩]) := by
  have hrl := h.top.len
  refine ⟨ht, fun i a r h1 h2 => ?_, fun _ => ?_, fun i a r h1 h2 hn => ?_, fun i j a b r q h1 h2 h3 h4 hn hn' he => ?_⟩
  · rcases snoc_get h1 with ⟨g1, g2⟩ | ⟨g1, g2⟩
    · rw [List.getElem?_append_left (by omega)] at h2
      exact (h.inn i a r g2 h2).fr hf fun hn e => (h.nm i a r g2 h2 hn).2 e.1
    · subst g1 g2
      rw [← hrl] at h2
      simp at h2
      subst h2
      exact hv.fr hf fun hn e => (hid hn).1 e.2 e.1
  · rcases ho with ⟨e, e2⟩ | e
    · rw [e]; exact h.gT e2
    · omega
  · rcases snoc_get h1 with ⟨g1, g2⟩ | ⟨g1, g2⟩
    · rw [List.getElem?_append_left (by omega)] at h2
      obtain ⟨e1, e2⟩ := h.nm i a r g2 h2 hn
      refine ⟨e1, ?_⟩
      have := (h.inn i a r g2 h2).lt hn
      rcases ho with ⟨e, _⟩ | e
      · rw [e]; exact e2
      · omega
    · subst g1 g2
      rw [← hrl] at h2
      simp at h2
      subst h2
      refine ⟨hb, ?_⟩
      have := hv.lt hn
      rcases ho with ⟨e, e2⟩ | e
      · rw [e]; exact (hid hn).1 e2
      · dsimp only; omega
  · rcases snoc_get h1 with ⟨g1, g2⟩ | ⟨g1, g2⟩
    · rw [List.getElem?_append_left (by omega)] at h3
      rcases snoc_get h2 with ⟨k1, k2⟩ | ⟨k1, k2⟩
      · rw [List.getElem?_append_left (by omega)] at h4
        exact h.nd i j a b r q g2 k2 h3 h4 hn hn' he
      · subst k1 k2
        rw [← hrl] at h4
        simp at h4
        subst h4
        exact absurd he ((hid hn').2 i a r g2 h3 hn)
    · subst g1 g2
      rw [← hrl] at h3
      simp at h3
      subst h3
      rcases snoc_get h2 with ⟨k1, k2⟩ | ⟨k1, k2⟩
      · rw [List.getElem?_append_left (by omega)] at h4
        exact absurd he.symm ((hid hn).2 j b q k2 h4 hn')
      · omega
theorem VI.cell {σ : Sg} {o : Nat} {d : D} {ws : List Wd} (h : VI σ o d ws) : d.cells = [d] ∧ d.lies = true := by
  cases h <;> exact ⟨rfl, rfl⟩
theorem VR.cell {σ : Sg} {o : Nat} {d : D} {os : List Ho} {rs : List Rr} (h : VR σ o d os rs) : d.cells = [d] ∧ d.lies = true := by
  cases h <;> exact ⟨rfl, rfl⟩
theorem lies_v {x : V} : (D.v x).lies = true := rfl
theorem cells_int {k : IntKind} {n : Int} : (D.v (.int k n)).cells = [.v (.int k n)] := rfl
theorem k_RCollect {σ : Sg} {m oT : Nat} {half runs : Int} {os : List Ho} {dT : D} {rs : List Rr} {roots : List Wd} {f : Bool} (h : RH σ m oT half os runs dT rs) (ok : OkO os) (hr : ∀ w ∈ roots, fineW os w) (hrl : roots.length ≤ 1000000) :
    ACalls Try.prog 25 [.ptr m 0, .v (.sl (some 2) f (roots.map wv))] σ fun r σ' => r = .v (.sl (some 2) false ((colR os roots).map wv)) ∧
      ∃ oT' dT' rs', RH σ' m oT' half (colO os roots) (IntKind.i64.wrap (runs + 1)) dT' rs' ∧ Fr σ σ' (fun i => i = m) ∧ ∀ i, RS m oT' (colO os roots) rs' i → i = m ∨ σ.objs.length ≤ i := by
  have hc := h.cell
  have hml := (List.getElem?_eq_some_iff.1 hc).1
  have hsm := ok.small
  have hlo := len_tot os
  have hwl : ∀ (σ' : Sg) (K : V → Prop), WLen .sl dT σ' K = K (.int .i64 os.length) := fun σ' K => wlen_VR h.top
  obtain ⟨F, hFd⟩ : ∃ F, F = ordF os roots := ⟨_, rfl⟩
  have hFo : Okd os F := hFd ▸ ordF_ok os roots
  have hFl := hFo.len
  have hre := k_ReachA (f := false) (g := f) (ord := []) (ws := roots) h (by omega) ⟨by simp, by simp⟩ hr hrl
  refine acalls_fit Try.func25 (by kernel_rfl) c25m rfl (by simp [a25m]) fun hf => ?_
  clear hf
  simp -implicitDefEqProofs (maxSteps := 2000000) (disch := omega) [-getElem?_pos, a25m, -WX_mkvec]
  refine (hre.args (ds := [.ptr m 0, .v .snil, .v (.sl (some 2) f (roots.map wv))]) rfl fun i d d' hd hd' => by
    match i with
    | 0 => cases hd; cases hd'; exact .refl _
    | 1 => cases hd; cases hd'; exact .snil
    | 2 => cases hd; cases hd'; exact .refl _
    | n + 3 => simp at hd).then fun r hq => ?_
  subst hq
  simp -implicitDefEqProofs (maxSteps := 2000000) (disch := omega) [-getElem?_pos, -WX_mkvec]
  refine W_loop (α := OSt) ⟨0, reachL os [] roots⟩ (fun x => os.length - x.i) (fun x => ⟨[(0, .ptr m 0), (1, .v (.sl (some 2) f (roots.map wv))), (5, .v (.sl none false (x.ord.map iv))), (6, .v (.int .i64 x.i))], σ⟩)
    (fun x => x.i ≤ x.ord.length ∧ Okd os x.ord ∧ scanO os (os.length - x.i) x.ord x.i = F) (.eq (by simp)) ⟨Nat.zero_le _, reachL_ok _ ⟨by simp, by simp⟩, hFd.symm⟩ fun ⟨i, ord⟩ ⟨hi, hord, hsc⟩ => ?_
  dsimp only at hi hord hsc ⊢
  have hol := hord.len
  simp -implicitDefEqProofs (maxSteps := 2000000) (disch := omega) [-getElem?_pos, -WX_mkvec]
  refine .mk (fun hlt => ?_) fun hlt => ?_
  · have hlt' : i < ord.length := by omega
    obtain ⟨j, hj⟩ : ∃ j, ord[i]? = some j := ⟨_, List.getElem?_eq_getElem hlt'⟩
    have hjl := hord.lt j (List.mem_of_getElem? hj)
    obtain ⟨x, hx⟩ : ∃ x, os[j]? = some x := ⟨_, List.getElem?_eq_getElem hjl⟩
    obtain ⟨c, cs, r, rfl, h2, h3, h4, h5, h6, h7, h8, h9⟩ := h.top.row hx
    have hks := ok.k x (List.mem_of_getElem? hx)
    have hrb := k_ReachB (f := false) (g := false) (ord := ord) h (by omega) hord (ok.fine x (List.mem_of_getElem? hx)) (by omega) (h.inn j x r hx h3)
    have hwo : wOf os j = x.l := by simp [wOf, hx]
    rw [show os.length - i = (os.length - (i + 1)) + 1 by omega, scanO, hj] at hsc
    dsimp only at hsc
    rw [hwo] at hsc
    simp -implicitDefEqProofs (maxSteps := 2000000) (disch := omega) [-getElem?_pos, hj, iv, hc, h2, h8, -WX_mkvec]
    refine ⟨hlt', hjl, ?_⟩
    refine hrb.then fun r hq => ?_
    subst hq
    simp -implicitDefEqProofs (maxSteps := 2000000) (disch := omega) [-getElem?_pos, -WX_mkvec]
    have hpl := (reachL_pre os x.l ord).length_le
    exact ⟨⟨i + 1, reachL os ord x.l⟩, ⟨by dsimp only; omega, reachL_ok _ hord, hsc⟩, by dsimp only; omega, .eq (by simp)⟩
  have hie : i = ord.length := by omega
  rw [scanO_end (by omega)] at hsc
  subst hsc
  subst hie
  simp -implicitDefEqProofs (maxSteps := 2000000) (disch := omega) [-getElem?_pos, hc, hwl, -WX_mkvec]
  refine mkvec_PI (F := ord) (by omega) fun dP σ1 hP1 hF1 => ?_
  simp -implicitDefEqProofs (maxSteps := 2000000) (disch := omega) [-getElem?_pos, -WX_mkvec]
  refine W_loop (α := P2St) ⟨σ1, 0⟩ (fun x => ord.length - x.i) (fun x => ⟨[(0, .ptr m 0), (1, .v (.sl (some 2) f (roots.map wv))), (5, .v (.sl none false (ord.map iv))), (7, .v (.int .i64 (tot (pickO os (ord.take x.i))))), (8, dP), (9, .v (.int .i64 x.i))], x.σ⟩)
    (fun x => x.i ≤ ord.length ∧ PI x.σ σ.objs.length dP os ord x.i ∧ Fr σ x.σ (fun _ => False)) (.eq (by simp [pickO, tot])) ⟨Nat.zero_le _, hP1, hF1⟩ fun ⟨σ2, i⟩ ⟨hi, hP2, hF2⟩ => ?_
  dsimp only at hi hP2 hF2 ⊢
  have h2 := h.fr hF2 fun _ _ e => e
  have hc2 := h2.cell
  simp -implicitDefEqProofs (maxSteps := 2000000) (disch := omega) [-getElem?_pos]
  refine .mk (fun hlt => ?_) fun hlt => ?_
  · have hlt' : i < ord.length := by omega
    obtain ⟨j, hj⟩ : ∃ j, ord[i]? = some j := ⟨_, List.getElem?_eq_getElem hlt'⟩
    have hjl := hord.lt j (List.mem_of_getElem? hj)
    obtain ⟨x, hx⟩ : ∃ x, os[j]? = some x := ⟨_, List.getElem?_eq_getElem hjl⟩
    obtain ⟨c, cs, r, hdT, g2, g3, g4, g5, g6, g7, g8, g9⟩ := h2.top.row hx
    have hwi : ∀ (σ' : Sg) (K : V → Prop), WLen .sl r.d σ' K = K (.int .i64 x.l.length) := fun σ' K => wlen_VI (h2.inn j x r hx g3)
    have htk : ord.take (i + 1) = ord.take i ++ [j] := by rw [List.take_add_one, hj]; rfl
    have hnp : newp os ord j = tot (pickO os (ord.take i)) := newp_next (by rw [← htk]; exact List.take_prefix _ _) hord
    have hps := plc_set hj hjl
    rw [hnp] at hps
    have hpt : tot (pickO os (ord.take (i + 1))) = tot (pickO os (ord.take i)) + osz x := by
      rw [htk, pickO_app, tot_app]
      simp [pickO, hx, tot]
    have hosz : osz x = 1 + x.l.length := rfl
    have htp : tot (pickO os (ord.take i)) + osz x ≤ tot os := by
      rw [← hpt]
      exact tot_pick ⟨(hord.nodup).sublist (List.take_sublist _ _), fun k hk => hord.lt k (List.mem_of_mem_take hk)⟩
    have hml2 := (List.getElem?_eq_some_iff.1 hc2).1
    cases hP2 with
    | nil => simp at hx
    | msl q1 q2 =>
    have hpl := (List.getElem?_eq_some_iff.1 q2).1
    have hmP : m ≠ σ.objs.length := by omega
    have hTP : oT ≠ σ.objs.length := by
      have := h.top.lt (by rintro rfl; simp at hx)
      omega
    have e1 : ∀ X : Ob, (σ2.objs.set σ.objs.length X)[m]? = σ2.objs[m]? := fun X => List.getElem?_set_ne (Ne.symm hmP)
    have e2 : ∀ X : Ob, (σ2.objs.set σ.objs.length X)[oT]? = σ2.objs[oT]? := fun X => List.getElem?_set_ne (Ne.symm hTP)
    subst hdT
    have hpll := plc_len os ord i
    simp -implicitDefEqProofs (maxSteps := 2000000) (disch := omega) [-getElem?_pos, hj, iv, q2, hpll, hps, e1, e2, hc2, g2, g8, hwi]
    refine ⟨hlt', hjl, by omega, hlt', hjl, ⟨⟨_, _⟩, i + 1⟩, ⟨hlt', .msl q1 (by simp [hpl]), ?_⟩, by dsimp only; omega, .eq (by simp [hpt, hosz]; omega)⟩
    exact hF2.trans (Fr.set (S := fun k => k = σ.objs.length) rfl) (fun _ _ e => e) fun k hk e => by omega
  have hie : i = ord.length := by omega
  subst hie
  have hPL : PL σ2 σ.objs.length dP os ord := by
    cases hP2 with
    | nil => exact .nil
    | msl q1 q2 => exact .msl q1 q2
  obtain ⟨base, hbase⟩ : ∃ base, base = σ2.objs.length := ⟨_, rfl⟩
  have hb0 : σ.objs.length ≤ base := by have := hF2.len; omega
  rw [List.take_length]
  simp -implicitDefEqProofs (maxSteps := 2000000) (disch := omega) [-getElem?_pos]
  refine W_loop (α := N3St) ⟨σ2, 0, base, .v .snil, []⟩ (fun x => ord.length - x.i) (fun x => ⟨[(0, .ptr m 0), (1, .v (.sl (some 2) f (roots.map wv))), (5, .v (.sl none false (ord.map iv))), (8, dP), (10, x.dN), (11, .v (.int .i64 x.i))], x.σ⟩)
    (fun x => x.i ≤ ord.length ∧ RB x.σ base x.oN (nxO os ord x.i) x.dN x.rs ∧ Fr σ2 x.σ (fun _ => False)) (.eq (by simp)) ⟨Nat.zero_le _, ⟨.nil, fun i o r h1 => by simp [nxO, pickO] at h1, fun e => absurd rfl e, fun i o r h1 => by simp [nxO, pickO] at h1, fun i j a b r q h1 => by simp [nxO, pickO] at h1⟩, .refl _ _⟩ fun ⟨σ3, i, oN, dN, rsN⟩ ⟨hi, hB3, hF3⟩ => ?_
  dsimp only at hi hB3 hF3 ⊢
  have hP3 := hPL.fr hF3 fun _ e => e
  have h3 := h2.fr hF3 fun _ _ e => e
  have hc3 := h3.cell
  simp -implicitDefEqProofs (maxSteps := 2000000) (disch := omega) [-getElem?_pos]
  refine .mk (fun hlt => ?_) fun hlt => ?_
  · have hlt' : i < ord.length := by omega
    obtain ⟨j, hj⟩ : ∃ j, ord[i]? = some j := ⟨_, List.getElem?_eq_getElem hlt'⟩
    have hjm := List.mem_of_getElem? hj
    have hjl := hord.lt j hjm
    obtain ⟨x, hx⟩ : ∃ x, os[j]? = some x := ⟨_, List.getElem?_eq_getElem hjl⟩
    obtain ⟨c, cs, r, hdT, g2, g3, g4, g5, g6, g7, g8, g9⟩ := h3.top.row hx
    obtain ⟨cp, hdP, p2, p3⟩ := hP3.row hjl hjm
    have hpl := (List.getElem?_eq_some_iff.1 p2).1
    have hTl := (List.getElem?_eq_some_iff.1 g2).1
    have hml3 := (List.getElem?_eq_some_iff.1 hc3).1
    have hks := ok.k x (List.mem_of_getElem? hx)
    have hwo : wOf os j = x.l := by simp [wOf, hx]
    have hcl := ordF_closed os roots
    rw [← hFd] at hcl
    have htb := fun X => k_TurnB (oP := σ.objs.length) (F := ord) (oW := r.id) (dW := r.d) (ws := x.l) (h3.app [X] σ3.toks) (by omega) (hP3.on fun _ => List.getElem?_append_left hpl) ((h3.inn j x r hx g3).on fun hn => List.getElem?_append_left ((h3.inn j x r hx g3).lt hn))
      (fun w hw => ⟨ok.fine x (List.mem_of_getElem? hx) w hw, hcl j hjm w (by rw [hwo]; exact hw)⟩) (by omega)
    subst hdT
    subst hdP
    obtain ⟨A, hA⟩ : ∃ A, A = mkAgg [.v (.int .i64 (offs os j)), .v (.int .i64 x.k), r.d] := ⟨_, rfl⟩
    have hA1 : A.cells = [.v (.int .i64 (offs os j)), .v (.int .i64 x.k), r.d] := by rw [hA, mkAgg_cells]
    have hA2 : A.lies = true := by rw [hA, mkAgg_lies]
    simp -implicitDefEqProofs (maxSteps := 2000000) (disch := omega) [-getElem?_pos, hj, iv, hc3, g2, g9, ← hA, hA1, hA2, List.getElem?_append_left, p2, p3, cells_int, -mkAgg, -D.cells, -D.lies]
    refine ⟨hlt', hjl, by omega, hlt', hjl, ?_⟩
    refine (htb _).mono fun rd σ4 hq => ?_
    obtain ⟨id, hV4, hid4, hFr4⟩ := hq
    obtain ⟨hr1, hr2⟩ := hV4.cell
    have hk1 : σ4.objs[σ.objs.length]? = some (.cells cp) := (hFr4.keep _ (by simp; omega) fun e => e).trans ((List.getElem?_append_left hpl).trans p2)
    have hk2 : σ4.objs[σ3.objs.length]? = some (.cells [.v (.int .i64 (offs os j)), .v (.int .i64 x.k), r.d]) := (hFr4.keep _ (by simp) fun e => e).trans List.getElem?_concat_length
    have hFr34 : Fr σ3 σ4 (fun _ => False) := by
      have g1 : Fr σ3 ⟨σ3.objs ++ [.cells [.v (.int .i64 (offs os j)), .v (.int .i64 x.k), r.d]], σ3.toks⟩ (fun _ => False) := by simpa using Fr.add σ3 _ [] _
      exact g1.trans hFr4 (fun _ _ e => e) fun _ _ e => e
    have hdN := hB3.top.on (σ' := ⟨σ4.objs ++ [.cells [.v (.int .i64 (newp os ord j)), .v (.int .i64 x.k), rd]], σ4.toks⟩) fun hn => by
      have := hB3.top.lt hn
      exact (List.getElem?_append_left (by have := hFr34.len; omega)).trans (hFr34.keep _ this fun e => e)
    obtain ⟨B, hB⟩ : ∃ B, B = mkAgg [.v (.int .i64 (newp os ord j)), .v (.int .i64 x.k), rd] := ⟨_, rfl⟩
    have hB1 : B.cells = [.v (.int .i64 (newp os ord j)), .v (.int .i64 x.k), rd] := by rw [hB, mkAgg_cells]
    have hB2 : B.lies = true := by rw [hB, mkAgg_lies]
    have hk3 : ∀ X : Ob, (σ3.objs ++ [X])[σ.objs.length]? = some (.cells cp) := fun X => (List.getElem?_append_left hpl).trans p2
    simp -implicitDefEqProofs (maxSteps := 2000000) (disch := omega) [-getElem?_pos, hk1, hk2, hk3, p3, cells_int, lies_v, hr1, hr2, ← hB, hB1, hB2, -mkAgg, -D.cells, -D.lies]
    have htk : ord.take (i + 1) = ord.take i ++ [j] := by rw [List.take_add_one, hj]; rfl
    have hnp : newp os ord j = tot (pickO os (ord.take i)) := newp_next (by rw [← htk]; exact List.take_prefix _ _) hord
    have hnx : nxO os ord (i + 1) = nxO os ord i ++ [turnO os ord x] := by
      unfold nxO
      rw [htk, pickO_app, List.map_append]
      simp [pickO, hx]
    have htn : tot (nxO os ord i) = newp os ord j := by rw [hnp]; exact tot_turn _ _ _
    have hrw : rowD (tot (nxO os ord i)) (turnO os ord x) rd = [.v (.int .i64 (newp os ord j)), .v (.int .i64 x.k), rd] := by rw [htn]; rfl
    have hnl : (nxO os ord i).length ≤ 100000 := by
      unfold nxO
      rw [List.length_map, pickO_len fun k hk => hord.lt k (List.mem_of_mem_take hk), List.length_take]
      omega
    have hl3 := hF3.len
    have hl34 := hFr34.len
    have hid5 : σ3.objs.length < id := by simp at hid4; omega
    have hFrX : Fr σ3 ⟨σ4.objs ++ [.cells [.v (.int .i64 (newp os ord j)), .v (.int .i64 x.k), rd]], σ4.toks⟩ (fun _ => False) := by
      have g1 : Fr σ4 ⟨σ4.objs ++ [.cells [.v (.int .i64 (newp os ord j)), .v (.int .i64 x.k), rd]], σ4.toks⟩ (fun _ => False) := by simpa using Fr.add σ4 _ [] _
      exact hFr34.trans g1 (fun _ _ e => e) fun _ _ e => e
    have hVX : VI ⟨σ4.objs ++ [.cells [.v (.int .i64 (newp os ord j)), .v (.int .i64 x.k), rd]], σ4.toks⟩ id rd (turnO os ord x).l := hV4.on fun hn => List.getElem?_append_left (hV4.lt hn)
    rw [← hrw] at hdN ⊢
    rw [← hrw] at hFrX hVX
    refine appd_VR (os := nxO os ord i) (rs := rsN) (o := turnO os ord x) (r := ⟨id, rd⟩) hdN hnl fun o' d' σ5 f1 f2 f3 => ?_
    have hB5 := (hB3.fr hFrX fun _ _ e => e).snoc hVX (by omega) (fun hn => ⟨fun hn2 => by have := hB3.top.lt hn2; omega, fun k a q k1 k2 k3 => by have := (hB3.inn k a q k1 k2).lt k3; omega⟩) f1 f2 f3 (by simp; omega)
    have hF5 := (hF3.trans hFrX (U := fun _ => False) (fun _ _ e => e) fun _ _ e => e).trans f2 (U := fun _ => False) (fun _ _ e => e) fun k hk e => by
      have := hB3.gT e.2
      omega
    rw [← hnx] at hB5
    simp -implicitDefEqProofs (maxSteps := 2000000) (disch := omega) [-getElem?_pos, -mkAgg, -D.cells, -D.lies]
    exact ⟨⟨σ5, i + 1, o', d', rsN ++ [⟨id, rd⟩]⟩, ⟨hlt', hB5, hF5⟩, by dsimp only; omega, .eq (by simp)⟩
  · have hie : i = ord.length := by omega
    subst hie
    have hta := k_TurnA (g := f) (ws := roots) h3 (by omega) hP3 (fun w hw => ⟨hr w hw, by rw [hFd]; exact ordF_roots os roots w hw⟩) hrl
    have hml3 := (List.getElem?_eq_some_iff.1 hc3).1
    have hs3 : ∀ X : Ob, (σ3.objs.set m X)[m]? = some X := fun X => List.getElem?_set_self hml3
    have hnew : nxO os ord ord.length = colO os roots := by
      unfold nxO
      rw [List.take_length, hFd]
      rfl
    rw [hnew] at hB3
    simp -implicitDefEqProofs (maxSteps := 2000000) (disch := omega) [-getElem?_pos]
    refine hta.then fun r hq => ?_
    subst hq
    obtain ⟨hN1, hN2⟩ := hB3.top.cell
    simp -implicitDefEqProofs (maxSteps := 2000000) (disch := omega) [-getElem?_pos, hc3, hs3, hN1, hN2, cells_int, lies_v, -mkAgg, -D.cells, -D.lies]
    refine ⟨_, _, WeakR.refl _ _ _, by rw [hFd, colR, List.map_map], oN, dN, rsN, ?_, ?_, ?_⟩
    · have hfs : Fr σ3 ⟨σ3.objs.set m (Ob.cells [.v (.int .i64 half), dN, .v (.int .i64 (IntKind.i64.wrap (runs + 1)))]), σ3.toks⟩ (fun k => k = m) := Fr.set rfl
      have hb := hB3.fr hfs fun k hk e => by omega
      exact ⟨hs3 _, hb.top, hb.inn, fun hn e => by have := hb.gT hn; omega, fun k a q k1 k2 k3 => ⟨fun e => by have := (hb.nm k a q k1 k2 k3).1; omega, (hb.nm k a q k1 k2 k3).2⟩, hb.nd⟩
    · exact (hF2.trans hF3 (U := fun k => k = m) (fun _ _ e => e.elim) fun _ _ e => e.elim).trans (Fr.set (S := fun k => k = m) rfl) (fun _ _ e => e) fun _ _ e => e
    · rintro k (e | ⟨e, hn⟩ | ⟨q, a, z, k1, k2, k3, e⟩)
      · exact .inl e
      · have := hB3.gT hn
        exact .inr (by omega)
      · have := (hB3.nm q a z k1 k2 k3).1
        exact .inr (by omega)
end Go.Proofs.Ytiomciifhkbklaa
