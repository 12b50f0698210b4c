/-
  bushellaw18.CloseTells: for every input the law returns true, and each argument reads behind the call as it read before. Condition: the arguments are of the bulk that the second form grants.
-/
import Derived.Test.YtppdghfpbliaeaaB22
import Derived.Test.YtppdghfpbliaeaaB27
set_option linter.unusedVariables false
set_option linter.unusedSimpArgs false
namespace Go.Proofs.Ytppdghfpbliaeaa
open Go Go.Abs

def CloseRP (σ : Sg) (e : Co) (r : D) (σ' : Sg) : Prop := r = .tup [.v (.sl (some 9) false ((closeL e).map encU)), .v (.int .i64 (closeE e))] ∧ Grew σ σ'
def CloseRPre (σ : Sg) (e : Co) (r : D) (σ' : Sg) : Prop := CloseRP σ e r σ' ∨ ∃ o sh xs cs cp d2 r', (∀ x ∈ xs, V.shape x = sh) ∧ (∀ c ∈ V.flat xs, c.one = true) ∧ r = .tup [.msl o 0 xs.length sh cp, .v d2] ∧ σ'.objs[o]? = some (.cells cs) ∧ cs ≠ [] ∧ cs.take (xs.length * shn sh) = (V.flat xs).map .v ∧ D.Le (.tup [.v (.sl sh false xs), .v d2]) r' ∧ CloseRP σ e r' (σ'.put o (.cells []))
set_option maxHeartbeats 2000000 in
theorem k_RClose (e : Co) {σ : Sg} (he : csz e ≤ 1048576) : ACalls Try.prog 10 [.v (encC e)] σ (CloseRP σ e) := by
  refine ACalls.thaw2 (?_ : ACalls Try.prog 10 [.v (encC e)] σ (CloseRPre σ e))
  have hcw := wk_len e ⟨[fu0], false⟩
  have hnl := fun σ => k_Nameless e (σ := σ) he
  have hfr := fun σ => k_RFree e (σ := σ) he
  have hwk := fun c o cap rest σ => k_RWalk e (c := c) (o := o) (cap := cap) (rest := rest) (w := ⟨[fu0], false⟩) (σ := σ) he (by simp; omega)
  have hbad : (cw e).2.bad = nl e := by have := wk_bad e ⟨[fu0], false⟩; simpa [cw] using this
  cases e with
  | mk k n s t ns l =>
  rw [encC_mk] at hfr hwk hnl ⊢
  refine acalls_fit Try.func10 (by kernel_rfl) c10m rfl (by simp [a10m]) fun hf => ?_
  clear hf
  obtain ⟨e0, he0⟩ : ∃ e0, e0 = Co.mk k n s t ns l := ⟨_, rfl⟩
  rw [← he0] at hfr hwk hcw hnl hbad ⊢
  simp -implicitDefEqProofs (maxSteps := 2000000) (disch := omega) [-getElem?_pos, a10m]
  refine (hnl _).then fun r hr => ?_
  subst hr
  simp -implicitDefEqProofs (maxSteps := 2000000) (disch := omega) [-getElem?_pos]
  refine (hfr _).then fun r hr => ?_
  subst hr
  simp -implicitDefEqProofs (maxSteps := 2000000) (disch := omega) [-getElem?_pos]
  by_cases hfe : ofS (fvs e0) = []
  rotate_left
  · have hE : closeE e0 = 4 := by
      unfold closeE
      rw [if_pos hfe]
    have hpos : 0 < (ofS (fvs e0)).length := List.length_pos_iff.2 hfe
    simp -implicitDefEqProofs (maxSteps := 2000000) (disch := omega) [-getElem?_pos, hfe, hpos]
    refine ⟨.tup [.v (.sl (some 9) false ((closeL e0).map encU)), .v (.int .i64 (closeE e0))], _, weakR_le ?_, .inl ⟨rfl, Grew.add _ _⟩⟩
    rw [show closeL e0 = [] by simp [closeL, hE], hE]
    exact .tup2 .snil (.refl _)
  simp -implicitDefEqProofs (maxSteps := 2000000) (disch := omega) [-getElem?_pos, hfe]
  cases hnle : nl e0 with
  | true =>
    have hE : closeE e0 = 4 := by
      unfold closeE
      rw [if_neg (by simp [hfe]), hbad, hnle]
      rfl
    simp -implicitDefEqProofs (maxSteps := 2000000) (disch := omega) [-getElem?_pos]
    refine ⟨.tup [.v (.sl (some 9) false ((closeL e0).map encU)), .v (.int .i64 (closeE e0))], _, weakR_le ?_, .inl ⟨rfl, Grew.add _ _⟩⟩
    rw [show closeL e0 = [] by simp [closeL, hE], hE]
    exact .tup2 .snil (.refl _)
  | false =>
  rw [hnle] at hbad
  simp -implicitDefEqProofs (maxSteps := 2000000) (disch := omega) [-getElem?_pos]
  refine (hwk (σ.objs.length + 2) (σ.objs.length + 1) 1 [] _ ⟨by simp [fu0], by simp [funD, fuV, fu0, capV, partV, V.flat], by omega, by simp, by simp⟩).mono fun r σ1 hr => ?_
  obtain ⟨rfl, o', cap', rest', hC, hF, ho'⟩ := hr
  obtain ⟨W, hW⟩ : ∃ W, W = cw e0 := ⟨_, rfl⟩
  have hW' : wk e0 ⟨[fu0], false⟩ = W := hW.symm
  rw [hW'] at hC hcw ⊢
  have hLe : closeE e0 = if 2000 < W.2.fs.length then 6 else 0 := by
    unfold closeE
    rw [if_neg (by simp [hfe]), hbad, hW]
    rfl
  have hLl : closeL e0 = if closeE e0 = 0 then setPart W.2.fs 0 W.1 else [] := by
    unfold closeL
    rw [hW]
  clear hW hW' hbad
  obtain ⟨p, fs, bad⟩ := W
  cases p with
  | mk k1 n1 s1 t1 ns1 l1 =>
  rw [encC_mk]
  dsimp only at hC hcw hLe hLl
  obtain ⟨z1, z2, z3, z4, z5⟩ := hC
  obtain ⟨f1, f2, ts1, f3⟩ := hF
  simp only [List.length_append, List.length_cons, List.length_nil] at f1 f2 f3 ho' hcw
  have hcl := (List.getElem?_eq_some_iff.1 z1).1
  have hol := (List.getElem?_eq_some_iff.1 z2).1
  have a1 : ∀ X, (σ1.objs ++ X)[σ.objs.length + 2]? = some (Ob.cells [D.msl o' 0 fs.length (some 9) (some cap')]) := fun X => by rw [List.getElem?_append_left hcl, z1]
  have a2 : ∀ X, (σ1.objs ++ X)[o']? = some (Ob.cells (funD fs ++ rest')) := fun X => by rw [List.getElem?_append_left hol, z2]
  have hG : ∀ X, Grew σ ⟨σ1.objs ++ X, σ1.toks⟩ := fun X => ⟨by simp; omega, fun i hi => by
    dsimp only
    rw [List.getElem?_append_left (by omega), f2 i (by omega) (by omega) (by omega), List.getElem?_append_left hi], ts1, f3⟩
  simp -implicitDefEqProofs (maxSteps := 2000000) (disch := omega) [-getElem?_pos, a1, a2]
  refine .mk (fun hn => ?_) fun hn => ?_
  · rw [if_pos (by omega)] at hLe
    simp -implicitDefEqProofs (maxSteps := 2000000) (disch := omega) [-getElem?_pos]
    refine ⟨.tup [.v (.sl (some 9) false ((closeL e0).map encU)), .v (.int .i64 (closeE e0))], _, weakR_le ?_, .inl ⟨rfl, hG _⟩⟩
    rw [hLl, hLe]
    exact .tup2 .snil (.refl _)
  rw [if_neg (by omega)] at hLe
  rw [if_pos hLe] at hLl
  have hfl := funD_len fs
  simp -implicitDefEqProofs (maxSteps := 2000000) (disch := omega) [-getElem?_pos, a1, a2]
  refine ⟨by omega, by omega, ?_⟩
  have hput := putPart fs 0 (.mk k1 n1 s1 t1 ns1 l1) rest' (by omega)
  rw [← hLl] at hput
  simp only [putAt, coV_mk, List.map_cons, List.map_nil, List.append_assoc, List.cons_append, List.nil_append, List.length_cons, List.length_nil, Nat.zero_mul, Nat.zero_add, Nat.reduceAdd] at hput
  rw [hput]
  have a3 : ∀ X Y, (σ1.objs.set o' X ++ Y)[σ.objs.length + 2]? = some (Ob.cells [D.msl o' 0 fs.length (some 9) (some cap')]) := fun X Y => by rw [List.getElem?_append_left (by simpa using hcl), List.getElem?_set_ne z3, z1]
  have hlen : (closeL e0).length = fs.length := by rw [hLl, setPart_len]
  have hfl2 := funD_len (closeL e0)
  simp -implicitDefEqProofs (maxSteps := 2000000) (disch := omega) [-getElem?_pos, a3]
  refine ⟨_, _, WeakR.refl _ _ _, .inr ⟨o', some 9, (closeL e0).map fuE, funD (closeL e0) ++ rest', some cap', .int .i64 0, .tup [.v (.sl (some 9) false ((closeL e0).map encU)), .v (.int .i64 (closeE e0))], fun x hx => ?_, flat_one fun x hx => ?_, by rw [List.length_map, hlen], by simp [List.getElem?_append_left, hol], ?_, ?_, ?_, rfl, ?_⟩⟩
  · obtain ⟨f, _, rfl⟩ := List.mem_map.1 hx
    exact fuE_shape f
  · obtain ⟨f, _, rfl⟩ := List.mem_map.1 hx
    exact fuV_one
  · intro e
    have := congrArg List.length e
    simp only [List.length_append, List.length_nil] at this
    omega
  · rw [List.length_map, flat_fuE]
    exact List.take_left' (by rw [hfl2]; rfl)
  · rw [hLe]
    exact .tup2 (fus_le _).d (.refl _)
  · refine ⟨by simp [Sg.put]; omega, fun i hi => ?_, ts1, f3⟩
    simp only [Sg.put]
    rw [List.getElem?_set_ne (by omega), List.getElem?_append_left (by simp; omega), List.getElem?_set_ne (by omega), f2 i (by omega) (by omega) (by omega), List.getElem?_append_left hi]

theorem closeE_ge (e : Co) : 0 ≤ closeE e ∧ closeE e ≤ 11 := by
  unfold closeE
  split
  · omega
  split
  · omega
  split <;> omega
theorem wk_part (e : Co) : ∀ w, ∃ N, (wk e w).2.fs = w.fs ++ N ∧ ∀ f ∈ N, csz (f.part.getD co0) ≤ csz e := by
  refine Co.ind (P := fun e => ∀ w, ∃ N, (wk e w).2.fs = w.fs ++ N ∧ ∀ f ∈ N, csz (f.part.getD co0) ≤ csz e) (fun k n s t ns l ih w => ?_) e
  have hL : ∀ (l : List Co) (w : Ws), (∀ x ∈ l, ∀ w, ∃ N, (wk x w).2.fs = w.fs ++ N ∧ ∀ f ∈ N, csz (f.part.getD co0) ≤ csz x) → ∃ N, (wkL l w).2.fs = w.fs ++ N ∧ ∀ f ∈ N, csz (f.part.getD co0) ≤ cszL l := by
    intro l
    induction l with
    | nil => intro w _; exact ⟨[], by simp [wkL], by simp⟩
    | cons x l ih2 =>
      intro w h
      obtain ⟨N1, e1, p1⟩ := h x (by simp) w
      obtain ⟨N2, e2, p2⟩ := ih2 (wk x w).2 fun y hy => h y (by simp [hy])
      refine ⟨N1 ++ N2, by simp only [wkL]; rw [e2, e1, List.append_assoc], fun f hf => ?_⟩
      simp only [cszL]
      rcases List.mem_append.1 hf with hf | hf
      · have := p1 f hf; omega
      · have := p2 f hf; omega
  obtain ⟨N, e1, p1⟩ := hL l (if isFun k then ⟨w.fs ++ [fuOf (.mk k n s t ns l)], w.bad || badOf (.mk k n s t ns l)⟩ else w) ih
  have hle : cszL l ≤ csz (.mk k n s t ns l) := by simp only [csz]; omega
  have hpos := csz_pos (.mk k n s t ns l)
  cases hk : isFun k with
  | false =>
    simp only [hk, Bool.false_eq_true, if_false] at e1
    refine ⟨N, ?_, fun f hf => Nat.le_trans (p1 f hf) hle⟩
    simp only [wk, hk, Bool.false_eq_true, if_false]
    exact e1
  | true =>
    simp only [hk, if_true] at e1
    have hmap := wkL_map (g := csz) l ⟨w.fs ++ [fuOf (.mk k n s t ns l)], w.bad || badOf (.mk k n s t ns l)⟩ fun x _ w => wk_csz x w
    cases hr : (wkL l ⟨w.fs ++ [fuOf (.mk k n s t ns l)], w.bad || badOf (.mk k n s t ns l)⟩).1 with
    | nil =>
      refine ⟨fuOf (.mk k n s t ns l) :: N, ?_, fun f hf => ?_⟩
      · simp only [wk, hk, if_true, hr]
        rw [e1, List.append_assoc]
        rfl
      · rcases List.mem_cons.1 hf with rfl | hf
        · simpa [fuOf, co0, csz, nsz, cszL] using hpos
        · exact Nat.le_trans (p1 f hf) hle
    | cons x r =>
      rw [hr] at hmap
      have hx : csz x ≤ cszL l := by
        have := cszL_map hmap
        simp only [cszL] at this
        omega
      refine ⟨{ fuOf (.mk k n s t ns l) with part := some x } :: N, ?_, fun f hf => ?_⟩
      · simp only [wk, hk, if_true, hr]
        rw [e1, List.append_assoc]
        exact setPart_app _ _ _ _
      · rcases List.mem_cons.1 hf with rfl | hf
        · exact Nat.le_trans hx hle
        · exact Nat.le_trans (p1 f hf) hle
theorem close_part {e : Co} : ∀ f ∈ closeL e, csz (f.part.getD co0) ≤ csz e := by
  intro f hf
  unfold closeL at hf
  split at hf
  · obtain ⟨N, h1, h2⟩ := wk_part e ⟨[fu0], false⟩
    have h3 : (cw e).2.fs = fu0 :: N := h1
    rw [h3] at hf
    rcases List.mem_cons.1 (show f ∈ { fu0 with part := some (cw e).1 } :: N from hf) with rfl | hf
    · exact Nat.le_of_eq (wk_csz e _)
    · exact h2 f hf
  · cases hf
theorem close_len2 (e : Co) : (closeL e).length ≤ 2000 := by
  by_cases h0 : closeE e = 0
  · exact close_len h0
  · simp [closeL, h0]
set_option maxHeartbeats 2000000 in
theorem k_CloseTells (e : Co) {σ : Sg} (he : csz e ≤ 1048576) : ACalls Try.prog 3 [.v (encC e)] σ fun r _ => r = .v (.bool true) := by
  have ff := fun σ => k_Few (e := e) (σ := σ) he
  have fc := fun σ => k_Close e (σ := σ) he
  have fr := fun σ => k_RClose e (σ := σ) he
  obtain ⟨e0, he0⟩ : ∃ e0, e0 = e := ⟨_, rfl⟩
  cases e with
  | mk k n s t ns l =>
  rw [encC_mk] at ff fc fr ⊢
  rw [← he0] at fc fr he
  refine acalls_fit Try.func3 (by kernel_rfl) c3 rfl (by simp [a3]) fun hf => ?_
  clear hf
  simp -implicitDefEqProofs (maxSteps := 2000000) (disch := omega) [-getElem?_pos, a3]
  refine k_Up.mono fun r σ1 hr => ?_
  obtain ⟨rfl, hG⟩ := hr
  have g0 := hG.get (i := σ.objs.length) (x := .cells [.v (.int .i64 k), .v (.int .i64 n), .v (.str s), .v (.str t), .v (.sl none false (ns.map .str)), .v (.sl (some 6) false (l.map encC))]) (by simp)
  simp -implicitDefEqProofs (maxSteps := 2000000) (disch := omega) [-getElem?_pos, g0]
  refine (ff _).then fun r hr => ?_
  obtain ⟨q1, rfl⟩ := hr
  cases q1 with
  | false =>
    simp -implicitDefEqProofs (maxSteps := 2000000) (disch := omega) [-getElem?_pos]
    exact ⟨_, _, weakR_le (.refl _), rfl⟩
  | true =>
  simp -implicitDefEqProofs (maxSteps := 2000000) (disch := omega) [-getElem?_pos, g0]
  refine (fc _).mono fun r σ2 hr => ?_
  obtain ⟨rfl, hG2⟩ := hr
  have g2 := hG2.get g0
  simp -implicitDefEqProofs (maxSteps := 2000000) (disch := omega) [-getElem?_pos, g2]
  refine (fr _).mono fun r σ3 hr => ?_
  obtain ⟨rfl, hG3⟩ := hr
  simp -implicitDefEqProofs (maxSteps := 2000000) (disch := omega) [-getElem?_pos]
  have hge := closeE_ge e0
  refine (k_Code hge.1 hge.2).then fun r hr => ?_
  subst hr
  simp -implicitDefEqProofs (maxSteps := 2000000) (disch := omega) [-getElem?_pos]
  have hpart := close_part (e := e0)
  have hll := close_len2 e0
  generalize closeL e0 = L at *
  refine W_loop (α := Nat) 0 (fun i => L.length - i) (fun i => ⟨[(3, .v (.bool true)), (5, .v (.sl (some 9) false (L.map encU))), (7, .v (.sl (some 9) false (L.map encU))), (9, .v (.int .i64 i))], σ3⟩) (fun i => i ≤ L.length) (.eq (by simp)) (by simp) fun i hi => ?_
  simp -implicitDefEqProofs (maxSteps := 2000000) (disch := omega) [-getElem?_pos]
  refine .mk (fun h => ?_) fun h => ?_
  rotate_left
  · simp -implicitDefEqProofs (maxSteps := 2000000) (disch := omega) [-getElem?_pos]
    exact ⟨_, _, weakR_le (.refl _), rfl⟩
  obtain ⟨f, hf⟩ : ∃ f, L[i]? = some f := ⟨_, List.getElem?_eq_getElem h⟩
  have hp := hpart f (List.mem_of_getElem? hf)
  obtain ⟨p, hp0⟩ : ∃ p, p = f.part.getD co0 := ⟨_, rfl⟩
  obtain ⟨C, hC⟩ : ∃ C, C = f.caps.getD [] := ⟨_, rfl⟩
  rw [← hp0] at hp
  have hsm := fun σ => k_RSame p p (σ := σ) (by omega)
  have hE : encU f = .agg (.str f.s :: .str f.t :: vS C :: coV p) := by rw [hC, hp0]; rfl
  cases p with
  | mk k1 n1 s1 t1 ns1 l1 =>
  rw [coV_mk] at hE
  rw [encC_mk] at hsm
  simp -implicitDefEqProofs (maxSteps := 2000000) (disch := omega) [-getElem?_pos, hf, hE]
  refine ⟨h, k_RTexts.then fun r hr => ?_⟩
  subst hr
  simp -implicitDefEqProofs (maxSteps := 2000000) (disch := omega) [-getElem?_pos, hf, hE]
  refine ⟨h, (hsm _).then fun r hr => ?_⟩
  subst hr
  simp -implicitDefEqProofs (maxSteps := 2000000) (disch := omega) [-getElem?_pos]
  exact ⟨i + 1, by omega, by show L.length - (i + 1) < L.length - i; omega, .eq (by simp)⟩

namespace closeTells
set_option maxRecDepth 100000 in
theorem lifted (os : Os) (started : os.Started) (H : Type) (enc : TypeId × Value → H) (F : Stop.Interp) :
    ReturnsInHanded {} Try.checked os 3 .any ((Rows.OpenSpec.upto Rows.closeTellsSpec).pre6 enc Try.prog Try.f3 Rows.closeTellsUptoRow.domain false) (((Rows.OpenSpec.upto Rows.closeTellsSpec).at F).post enc Try.prog Try.f3 false true false false) := by
  refine returnsInHanded_of_cond (C := Try.checked) (s := Rows.OpenSpec.upto Rows.closeTellsSpec) (k := Rows.uptoSmall) rfl own started (by kernel_rfl) Try.func3
    (OpenSpec.witness (enc := enc) (C := Try.checked) (s := Rows.OpenSpec.upto Rows.closeTellsSpec) (k := Rows.uptoSmall) rfl false ⟨#[], #[.agg #[.int .i64 0, .int .i64 0, .string .empty, .string .empty, .slice none 0 0, .slice none 0 0]], []⟩ 8 (by kernel_rfl) (by kernel_rfl) (by kernel_rfl)
      (x := ([.agg [.lit (.int .i64 0), .lit (.int .i64 0), .lit (.string []), .lit (.string []), .nil, .nil]], [], [])) (by kernel_rfl) rfl (by kernel_rfl)) ?_
  intro W base args ds gs before hval hW _ hk _
  refine law_calls (T := [3, 2, 4, 9, 22, 25, 23]) (by kernel_rfl) laidOut (by kernel_rfl) (rt := 4) rfl (by kernel_rfl) hval _ rfl hW (fun ds hl => ?_) fun xs hxs hbk => ?_
  · match ds, hl with
    | [_], _ => rfl
  · replace hbk := Nat.le_trans hbk (of_decide_eq_true hk)
    match xs, hxs with
    | [_], ⟨a1, _⟩ =>
      obtain ⟨e, rfl⟩ := core_of _ (Nat.le_refl _) a1
      simp only [V.bulkL, bulk_co] at hbk
      exact k_CloseTells e (by omega)

theorem proved : Rows.CloseTellsUptoSaid :=
  OpenClaim.holds_of_cond 3 Try.f3 rfl rfl rfl rfl rfl rfl rfl ⟨rfl, rfl, rfl, rfl, rfl⟩ rfl rfl rfl rfl rfl (by kernel_rfl) Try.func3 (by kernel_rfl)
    (of_decide_eq_true (by kernel_rfl)) (by unfold Func.isWrapper; first | (rw [if_pos (by decide +kernel)]; kernel_rfl) | (rw [if_neg (by decide +kernel)]; exact ⟨rfl, rfl⟩))
    (fun os started H enc _ F => lifted os started H enc F)
end closeTells
end Go.Proofs.Ytppdghfpbliaeaa
