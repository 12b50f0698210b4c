/-
  Core expressions, walked: cases. (Own work.)
-/
import Derived.Test.YtbifjffjibnjjaaDoorK14
set_option linter.unusedVariables false
set_option linter.unusedSimpArgs false
set_option maxHeartbeats 2000000
namespace Go.Proofs.YtbifjffjibnjjaaDoor
open Go Go.Abs

theorem kind5 {v : Vl} (h : kindW v = 5) : ∃ n w, v = .tag n w := by cases v <;> simp [kindW] at h; exact ⟨_, _, rfl⟩
theorem cases_stuck {R : Rec} {env : En} {t : Str} {ns : List Str} {l : List Co} {m : Ms} {v : Vl} {m2 : Ms} (h : R (prt l 0) env m = ⟨some v, m2⟩) (hk : ¬ kindW v = 5) : casesM R env t ns l m = stuckM m2 := by
  unfold casesM
  rw [h]
  simp only [Rs.bind]
  cases v <;> first | rfl | exact absurd rfl hk
theorem arms_stuck {R : Rec} {env : En} {l : List Co} {t : Str} {n : Int} {w : Vl} {x : Str} {ns : List Str} {i : Nat} {below : Int} {m m2 : Ms} {v : Vl} (h : R (prt l (1 + 2 * i)) env m = ⟨some v, m2⟩) (hk : ¬ kindW v = 1) : armsM R env l t n w (x :: ns) i below m = stuckM m2 := by
  rw [armsM, h]
  simp only [Rs.bind]
  cases v <;> first | rfl | exact absurd rfl hk
structure CaS where
  i : Nat
  below : Nat
  m : Ms
  φ : Nat → Nat
  ψ : Nat → Nat
  τ : Sg
structure CaI (mo tt g : Nat) (φ2 ψ2 : Nat → Nat) (m2 : Ms) (σb : Sg) (L : Nat) (env : En) (l : List Co) (t : Str) (n : Int) (w : Vl) (ns : List Str) (x : CaS) : Prop where
  i : x.i ≤ ns.length
  b : x.below ≤ x.i
  eq : armsM (evM g) env l t n w ns 0 0 m2 = armsM (evM g) env l t n w (ns.drop x.i) x.i x.below x.m
  aft : Aft mo tt φ2 ψ2 m2 σb x.φ x.ψ x.m x.τ
  fuel : x.m.fuel ≤ m2.fuel
  st : m2.st.length ≤ x.m.st.length
  ok : okM (L + (m2.fuel - x.m.fuel)) x.m
theorem k_Cases {mo tt g : Nat} {φ ψ : Nat → Nat} {m : Ms} {L : Nat} {env : En} {n : Int} {s t : Str} {ns : List Str} {l : List Co} {σ : Sg} (hR : EvCt mo tt g) (h : Okm mo tt φ ψ m L σ) (hc : okC L (.mk 14 n s t ns l)) (hlen : l.length = 1 + 2 * ns.length + (if t = [] then 0 else 1)) (hen : okE m.st.length L env) (hf0 : m.fuel < g) :
    ACalls Tryd.prog 52 [.ptr mo 0, .v (.agg [.int .i64 14, .int .i64 n, .str s, .str t, .sl none false (ns.map .str), .sl (some 6) false (l.map encC)]), .v (encN φ env)] σ (Outc mo tt φ ψ m σ (casesM (evM g) env t ns l m)) := by
  have hS := h.sto
  have hml := hS.mlt
  have hhi := h.hi
  have hnl : ns.length ≤ 4000001 := by
    have := hc.num.2.2
    omega
  have hpr := fun i => hc.prt i
  obtain ⟨a, ha⟩ : ∃ a, l[0]? = some a := ⟨_, List.getElem?_eq_getElem (by omega)⟩
  have hpa : prt l 0 = a := by unfold prt; rw [ha]; rfl
  obtain ⟨a0, a1, a2, a3, a4, a5, hca⟩ := list6 (show (coV a).length = 6 by cases a; rfl)
  have hea : encC a = .agg [a0, a1, a2, a3, a4, a5] := by rw [encC_coV, hca]
  have hok0 := hpr 0
  rw [hpa] at hok0
  have hev := fun xs : List Ob => hR a env m φ ψ ⟨σ.objs ++ xs, σ.toks⟩ L ⟨hS.add _, h.ok, h.lo, h.hi⟩ hok0 hen hf0
  rw [hea] at hev
  refine acalls_fit Tryd.func52 (by kernel_rfl) c52K rfl (by simp [a52K]) fun hfit => ?_
  clear hfit
  simp -implicitDefEqProofs (maxSteps := 2000000) (disch := omega) [-getElem?_pos, a52K]

  simp -implicitDefEqProofs (maxSteps := 2000000) (disch := omega) [-getElem?_pos, ha, hea]
  refine ⟨by omega, ?_⟩
  refine (hev _).mono fun r σ2 ⟨φ2, ψ2, hr, hA⟩ => ?_
  have hA2 := hA.back hS
  obtain ⟨hf2, hs2, hv2, he2, hO2⟩ := h.after hok0 hen hA2
  generalize hrs : evM g a env m = rs at hr hA hA2 hf2 hs2 hv2 he2 hO2
  obtain ⟨v, m2⟩ := rs
  dsimp only at hr hA hA2 hf2 hs2 hv2 he2 hO2
  have h0 : σ2.objs[σ.objs.length]? = some _ := hA.loc hS (j := 0) rfl
  have h1 : σ2.objs[σ.objs.length + 1]? = some _ := hA.loc hS (j := 1) rfl
  have hl0 := (List.getElem?_eq_some_iff.1 h0).1
  have hl1 := (List.getElem?_eq_some_iff.1 h1).1
  have hol := hA2.objs
  cases v with
  | none =>
    subst hr
    unfold resW zW
    rw [show casesM (evM g) env t ns l m = ⟨none, m2⟩ by unfold casesM; rw [hpa, hrs]; rfl]
    simp -implicitDefEqProofs (maxSteps := 2000000) (disch := omega) [-getElem?_pos, h0, h1, hl1, List.getElem?_append_left, List.set_append_left]
    exact ⟨_, _, WeakR.refl _ _ _, φ2, ψ2, rfl, (hA2.put _ (by omega) h1 (by omega)).add _⟩
  | some v =>
    subst hr
    obtain ⟨v1, v2, v3, v4, v5, hcv⟩ := celW_kind (φ := φ2) v
    have hvv : encW φ2 v = .agg [.int .i64 (kindW v), v1, v2, v3, v4, v5] := by unfold encW; rw [hcv]
    rw [show resW φ2 (some v) = .tup [.v (encW φ2 v), .v (.bool true)] from rfl, hvv]
    have hen2 := encN_ext (fun k hk => hA2.fe k hk) hen
    simp -implicitDefEqProofs (maxSteps := 2000000) (disch := omega) [-getElem?_pos, h0, h1, hl1]
    refine .mk (fun hk => ?_) fun hk => ?_
    · obtain ⟨tn, w, rfl⟩ := kind5 hk
      simp only [celW] at hcv
      cases hcv
      simp -implicitDefEqProofs (maxSteps := 2000000) (disch := omega) [-getElem?_pos, h0, h1, hl1, List.getElem?_append_left]
      have hkt : kindW (.tag tn w) = 5 := rfl
      simp only [hkt]
      have hAb := hA2.add [Ob.cells [D.v (V.int .i64 5), D.v (V.int .i64 tn), D.v (V.str []), D.v (V.sl (some 6) false [.agg (celW φ2 w)]), D.v V.pnil, D.v V.pnil]]
      have hSb := hAb.sto
      have hvt : okV m2.st.length (L + (m.fuel - m2.fuel)) (.tag tn w) := hv2 _ rfl
      have hvw : okV m2.st.length (L + (m.fuel - m2.fuel)) w := by simpa only [okV] using hvt
      have hcs : casesM (evM g) env t ns l m = armsM (evM g) env l t tn w ns 0 0 m2 := by unfold casesM; rw [hpa, hrs]; rfl
      rw [hcs]
      obtain ⟨w0, w1, w2, w3, w4, w5, hcw⟩ := list6 (celW_len (φ := φ2) w)
      have b0 := (List.getElem?_append_left (l₂ := [Ob.cells [D.v (V.int .i64 5), D.v (V.int .i64 tn), D.v (V.str []), D.v (V.sl (some 6) false [.agg (celW φ2 w)]), D.v V.pnil, D.v V.pnil]]) hl0).trans h0
      have b1 := (List.getElem?_append_left (l₂ := [Ob.cells [D.v (V.int .i64 5), D.v (V.int .i64 tn), D.v (V.str []), D.v (V.sl (some 6) false [.agg (celW φ2 w)]), D.v V.pnil, D.v V.pnil]]) hl1).trans h1
      have b8 : (σ2.objs ++ [Ob.cells [D.v (V.int .i64 5), D.v (V.int .i64 tn), D.v (V.str []), D.v (V.sl (some 6) false [.agg (celW φ2 w)]), D.v V.pnil, D.v V.pnil]])[σ2.objs.length]? = some (Ob.cells [D.v (V.int .i64 5), D.v (V.int .i64 tn), D.v (V.str []), D.v (V.sl (some 6) false [.agg (celW φ2 w)]), D.v V.pnil, D.v V.pnil]) := by
        rw [List.getElem?_append_right (Nat.le_refl _), Nat.sub_self]
        rfl
      refine W_loop (α := CaS) ⟨0, 0, m2, φ2, ψ2, ⟨σ2.objs ++ [Ob.cells [D.v (V.int .i64 5), D.v (V.int .i64 tn), D.v (V.str []), D.v (V.sl (some 6) false [.agg (celW φ2 w)]), D.v V.pnil, D.v V.pnil]], σ2.toks⟩⟩ (fun x => ns.length - x.i) (fun x => ⟨[(0, .ptr mo 0), (2, .v (encN φ env)), (4, .ptr σ.objs.length 0), (6, .ptr (σ.objs.length + 1) 0), (7, .v (.bool false)), (8, .ptr σ2.objs.length 0), (10, .v (.int .i64 x.below)), (36, .v (.sl none false (ns.map .str))), (37, .v (.int .i64 ns.length)), (38, .v (.int .i64 x.i))], x.τ⟩)
        (fun x => CaI mo tt g φ2 ψ2 m2 ⟨σ2.objs ++ [Ob.cells [D.v (V.int .i64 5), D.v (V.int .i64 tn), D.v (V.str []), D.v (V.sl (some 6) false [.agg (celW φ2 w)]), D.v V.pnil, D.v V.pnil]], σ2.toks⟩ (L + (m.fuel - m2.fuel)) env l t tn w ns x)
        (.eq2 (by simp) (by simp)) ⟨Nat.zero_le _, Nat.le_refl _, by simp, Aft.refl hSb, Nat.le_refl _, Nat.le_refl _, hO2.ok.mono (by omega)⟩ fun x hx => ?_
      have hxi := hx.i
      have hxb := hx.b
      have hxf := hx.fuel
      have hAx := hAb.trans hx.aft hs2
      have g0 := hx.aft.kept hSb b0 (by omega)
      have g1 := hx.aft.kept hSb b1 (by omega)
      have g8 := hx.aft.kept hSb b8 (by omega)
      have hg0 := (List.getElem?_eq_some_iff.1 g0).1
      have hg1 := (List.getElem?_eq_some_iff.1 g1).1
      have hg8 := (List.getElem?_eq_some_iff.1 g8).1
      rw [hcw] at g8
      have hSx := hx.aft.sto
      have hox := hO2.hi
      have hlx := hO2.lo
      have hex := encN_ext (φ := φ) (φ' := x.φ) (fun k hk => hAx.fe k hk) hen
      have hst := hx.st
      have hOx : Okm mo tt x.φ x.ψ x.m (L + (m.fuel - m2.fuel) + (m2.fuel - x.m.fuel)) x.τ := ⟨hSx, hx.ok, by omega, by omega⟩
      have henx : okE x.m.st.length (L + (m.fuel - m2.fuel) + (m2.fuel - x.m.fuel)) env := he2.mono hst (by omega)
      have hwx : celW x.φ w = [w0, w1, w2, w3, w4, w5] := by rw [celW_ext (fun k hk => hx.aft.fe k hk) hvw, hcw]
      simp -implicitDefEqProofs (maxSteps := 2000000) (disch := omega) [-getElem?_pos]
      refine .mk (fun hi => ?_) fun hi => ?_
      · obtain ⟨nm, hnm⟩ : ∃ nm, ns[x.i]? = some nm := ⟨_, List.getElem?_eq_getElem hi⟩
        obtain ⟨p, hp⟩ : ∃ p, l[1 + 2 * x.i]? = some p := ⟨_, List.getElem?_eq_getElem (by omega)⟩
        have hpp : prt l (1 + 2 * x.i) = p := by unfold prt; rw [hp]; rfl
        have hokp := hpr (1 + 2 * x.i)
        rw [hpp] at hokp
        obtain ⟨p0, p1, p2, p3, p4, p5, hcp⟩ := list6 (show (coV p).length = 6 by cases p; rfl)
        have hep : encC p = .agg [p0, p1, p2, p3, p4, p5] := by rw [encC_coV, hcp]
        have hep2 := hR p env x.m x.φ x.ψ x.τ _ hOx (hokp.mono (by omega)) henx (by omega)
        rw [hep, hex] at hep2
        have hdn := drop_cons hnm
        have heq := hx.eq
        rw [hdn] at heq
        have hidx : ((1 : Int) + 2 * (x.i : Int)).toNat = 1 + 2 * x.i := by omega
        simp -implicitDefEqProofs (maxSteps := 2000000) (disch := omega) [-getElem?_pos, hnm, g0, hidx, hp, hep]
        refine ⟨by omega, ?_⟩
        repeat refine ⟨by omega, ?_⟩
        refine hep2.mono fun r σ3 ⟨φ3, ψ3, hr3, hA3⟩ => ?_
        obtain ⟨hf3, hs3, hv3, he3, hO3⟩ := hOx.after (hokp.mono (by omega)) henx hA3
        generalize hrs3 : evM g p env x.m = rs at hr3 hA3 hf3 hs3 hv3 he3 hO3
        obtain ⟨u, m3⟩ := rs
        dsimp only at hr3 hA3 hf3 hs3 hv3 he3 hO3
        have hA3s := hAx.trans hA3 (Nat.le_trans hs2 hst)
        have f0 := hA3.kept hSx g0 (by omega)
        have f1 := hA3.kept hSx g1 (by omega)
        have f8 := hA3.kept hSx g8 (by omega)
        have hf0l := (List.getElem?_eq_some_iff.1 f0).1
        have hf1l := (List.getElem?_eq_some_iff.1 f1).1
        have hf8l := (List.getElem?_eq_some_iff.1 f8).1
        cases u with
        | none =>
          subst hr3
          unfold resW zW
          rw [heq, show armsM (evM g) env l t tn w (nm :: ns.drop (x.i + 1)) x.i x.below x.m = ⟨none, m3⟩ by rw [armsM, hpp, hrs3]; rfl]
          simp -implicitDefEqProofs (maxSteps := 2000000) (disch := omega) [-getElem?_pos, f1, hf1l, List.getElem?_append_left, List.set_append_left]
          exact ⟨_, _, WeakR.refl _ _ _, φ3, ψ3, rfl, (hA3s.put _ (by omega) f1 (by omega)).add _⟩
        | some u =>
          subst hr3
          obtain ⟨u1, u2, u3, u4, u5, hcu⟩ := celW_kind (φ := φ3) u
          have huu : encW φ3 u = .agg [.int .i64 (kindW u), u1, u2, u3, u4, u5] := by unfold encW; rw [hcu]
          rw [show resW φ3 (some u) = .tup [.v (encW φ3 u), .v (.bool true)] from rfl, huu]
          simp -implicitDefEqProofs (maxSteps := 2000000) (disch := omega) [-getElem?_pos, f1, hf1l, List.getElem?_append_left]
          refine .mk (fun hk1 => ?_) fun hk1 => ?_
          · obtain ⟨z, rfl⟩ := kind1 hk1
            simp only [celW] at hcu
            cases hcu
            simp -implicitDefEqProofs (maxSteps := 2000000) (disch := omega) [-getElem?_pos, f1, hf1l, f8, hf8l, List.getElem?_append_left]
            refine .mk (fun hz => ?_) fun hz => ?_
            · subst hz
              obtain ⟨q, hq⟩ : ∃ q, l[2 + 2 * x.i]? = some q := ⟨_, List.getElem?_eq_getElem (by omega)⟩
              have hpq : prt l (2 + 2 * x.i) = q := by unfold prt; rw [hq]; rfl
              have hokq := hpr (2 + 2 * x.i)
              rw [hpq] at hokq
              obtain ⟨q0, q1, q2, q3, q4, q5, hcq⟩ := list6 (show (coV q).length = 6 by cases q; rfl)
              have heq2 : encC q = .agg [q0, q1, q2, q3, q4, q5] := by rw [encC_coV, hcq]
              have hcw3 : celW φ3 w = [w0, w1, w2, w3, w4, w5] := by rw [celW_ext (fun k hk => hA3.fe k hk) (hvw.mono hst (Nat.le_add_right _ (m2.fuel - x.m.fuel))), hwx]
              have hev4 := fun xs : List Ob => hR q (.cons nm w env) m3 φ3 ψ3 ⟨σ3.objs ++ xs, σ3.toks⟩ _ ⟨hO3.sto.add xs, hO3.ok, hO3.lo, hO3.hi⟩ (hokq.mono (by omega)) ⟨hvw.mono (by omega) (by omega), he3⟩ (by omega)
              have henc : encN φ3 (.cons nm w env) = .box (some 8) (.agg [.str nm, w0, w1, w2, w3, w4, w5, encN φ env]) 0 := by
                simp only [encN, hcw3, List.cons_append, List.nil_append]
                rw [encN_ext (φ := φ) (φ' := φ3) (fun k hk => hA3s.fe k hk) hen]
              rw [heq2, henc] at hev4
              rw [heq, show armsM (evM g) env l t z w (nm :: ns.drop (x.i + 1)) x.i x.below x.m = evM g q (.cons nm w env) m3 by rw [armsM, hpp, hrs3]; simp [Rs.bind, hpq]]
              have hidx2 : ((2 : Int) + 2 * (x.i : Int)).toNat = 2 + 2 * x.i := by omega
              have hnc := encN_cells (φ := φ) env
              have hno := encN_one (φ := φ) env
              simp only [V.cells] at hnc
              simp only [V.one] at hno
              simp -implicitDefEqProofs (maxSteps := 2000000) (disch := omega) [-getElem?_pos, f0, hf0l, f8, hf8l, List.getElem?_append_left, hidx2, hq, heq2, hnc, hno]
              refine ⟨by omega, by omega, one6 (hcw ▸ celW_one (φ := φ2) w), ?_⟩
              refine (hev4 _).mono fun r σ4 ⟨φ4, ψ4, hr4, hA4⟩ => ?_
              have hA4b := hA4.back hO3.sto
              have h14 := hA4b.kept hO3.sto f1 (by omega)
              have hl14 := (List.getElem?_eq_some_iff.1 h14).1
              obtain ⟨y0, y1, y2, y3, y4, y5, w9, hr5⟩ := resW_cells φ4 (evM g q (.cons nm w env) m3).v
              subst hr4
              rw [hr5]
              simp -implicitDefEqProofs (maxSteps := 2000000) (disch := omega) [-getElem?_pos, h14, hl14, List.getElem?_set_self]
              exact ⟨_, _, WeakR.refl _ _ _, φ4, ψ4, hr5.symm, (hA3s.trans hA4b (by omega)).put _ (by omega) h14 (by omega)⟩

            · simp -implicitDefEqProofs (maxSteps := 2000000) (disch := omega) [-getElem?_pos, f8, hf8l, List.getElem?_append_left]
              refine .mk (fun hlt => ?_) fun hlt => ?_
              · simp -implicitDefEqProofs (maxSteps := 2000000) (disch := omega) [-getElem?_pos]
                refine ⟨⟨x.i + 1, x.below + 1, m3, φ3, ψ3, ⟨σ3.objs ++ [.cells [.v (.int .i64 (kindW (Vl.int z))), .v (.int .i64 z), .v (.str []), .v .snil, .v .pnil, .v .pnil]], σ3.toks⟩⟩, ⟨by dsimp only; omega, by dsimp only; omega, ?_, (hx.aft.trans hA3 hst).add _, by dsimp only; omega, by dsimp only; omega, hO3.ok.mono (by dsimp only; omega)⟩, by dsimp only; omega, .eq (by simp)⟩
                rw [heq, armsM, hpp, hrs3]
                simp [Rs.bind, hz, hlt]
              · simp -implicitDefEqProofs (maxSteps := 2000000) (disch := omega) [-getElem?_pos]
                refine ⟨⟨x.i + 1, x.below, m3, φ3, ψ3, ⟨σ3.objs ++ [.cells [.v (.int .i64 (kindW (Vl.int z))), .v (.int .i64 z), .v (.str []), .v .snil, .v .pnil, .v .pnil]], σ3.toks⟩⟩, ⟨by dsimp only; omega, by dsimp only; omega, ?_, (hx.aft.trans hA3 hst).add _, by dsimp only; omega, by dsimp only; omega, hO3.ok.mono (by dsimp only; omega)⟩, by dsimp only; omega, .eq (by simp)⟩
                rw [heq, armsM, hpp, hrs3]
                simp [Rs.bind, hz, hlt]
          · rw [heq, arms_stuck (hpp ▸ hrs3) hk1]
            simp -implicitDefEqProofs (maxSteps := 2000000) (disch := omega) [-getElem?_pos]
            refine (k_Stuck (hO3.sto.add _)).mono fun r σ4 ⟨φ4, ψ4, hr4, hA4⟩ => ?_
            have hA4b := hA4.back hO3.sto
            have h14 := hA4b.kept hO3.sto f1 (by omega)
            have hl14 := (List.getElem?_eq_some_iff.1 h14).1
            obtain ⟨y0, y1, y2, y3, y4, y5, w9, hr5⟩ := resW_cells φ4 (stuckM (α := Vl) m3).v
            subst hr4
            rw [hr5]
            simp -implicitDefEqProofs (maxSteps := 2000000) (disch := omega) [-getElem?_pos, h14, hl14, List.getElem?_set_self]
            exact ⟨_, _, WeakR.refl _ _ _, φ4, ψ4, hr5.symm, (hA3s.trans hA4b (by omega)).put _ (by omega) h14 (by omega)⟩

      · have hie : x.i = ns.length := by omega
        have heq := hx.eq
        rw [hie, List.drop_length] at heq
        rw [heq]
        simp -implicitDefEqProofs (maxSteps := 2000000) (disch := omega) [-getElem?_pos, g0]
        refine .mk (fun ht => ?_) fun ht => ?_
        · rw [show armsM (evM g) env l t tn w [] ns.length x.below x.m = stuckM x.m by rw [armsM, if_pos ht]]
          simp -implicitDefEqProofs (maxSteps := 2000000) (disch := omega) [-getElem?_pos]
          refine (k_Stuck hSx).mono fun r σ4 ⟨φ4, ψ4, hr4, hA4⟩ => ?_
          have hA4b := hA4
          have h14 := hA4b.kept hSx g1 (by omega)
          have hl14 := (List.getElem?_eq_some_iff.1 h14).1
          obtain ⟨y0, y1, y2, y3, y4, y5, w9, hr5⟩ := resW_cells φ4 (stuckM (α := Vl) x.m).v
          subst hr4
          rw [hr5]
          simp -implicitDefEqProofs (maxSteps := 2000000) (disch := omega) [-getElem?_pos, h14, hl14, List.getElem?_set_self]
          exact ⟨_, _, WeakR.refl _ _ _, φ4, ψ4, hr5.symm, (hAx.trans hA4b (by omega)).put _ (by omega) h14 (by omega)⟩

        · have hll : l.length = 2 + 2 * ns.length := by rw [hlen, if_neg ht]; omega
          obtain ⟨q, hq⟩ : ∃ q, l[l.length - 1]? = some q := ⟨_, List.getElem?_eq_getElem (by omega)⟩
          have hpq : prt l (l.length - 1) = q := by unfold prt; rw [hq]; rfl
          have hokq := hpr (l.length - 1)
          rw [hpq] at hokq
          obtain ⟨q0, q1, q2, q3, q4, q5, hcq⟩ := list6 (show (coV q).length = 6 by cases q; rfl)
          have heq2 : encC q = .agg [q0, q1, q2, q3, q4, q5] := by rw [encC_coV, hcq]
          have hAs := hAx.put (.cells [.v (.int .i64 5), .v (.int .i64 (IntKind.i64.wrap (tn - x.below))), .v (.str []), .v (.sl (some 6) false [.agg [w0, w1, w2, w3, w4, w5]]), .v .pnil, .v .pnil]) (by omega) g8 (by omega)
          have hev4 := hR q (.cons t (.tag (IntKind.i64.wrap (tn - x.below)) w) env) x.m x.φ x.ψ _ _ ⟨hAs.sto, hOx.ok, hOx.lo, hOx.hi⟩ (hokq.mono (by omega)) ⟨hvw.mono hst (by omega), henx⟩ (by omega)
          have henc : encN x.φ (.cons t (.tag (IntKind.i64.wrap (tn - x.below)) w) env) = .box (some 8) (.agg [.str t, .int .i64 5, .int .i64 (IntKind.i64.wrap (tn - x.below)), .str [], .sl (some 6) false [.agg [w0, w1, w2, w3, w4, w5]], .pnil, .pnil, encN φ env]) 0 := by
            simp only [encN, celW, hwx, List.cons_append, List.nil_append, hex]
          rw [heq2, henc] at hev4
          rw [show armsM (evM g) env l t tn w [] ns.length x.below x.m = evM g q (.cons t (.tag (IntKind.i64.wrap (tn - x.below)) w) env) x.m by rw [armsM, if_neg ht, hpq]]
          have hidx3 : ((l.length : Int) - 1).toNat = l.length - 1 := by omega
          have hnc := encN_cells (φ := φ) env
          have hno := encN_one (φ := φ) env
          simp only [V.cells] at hnc
          simp only [V.one] at hno
          have i0 : (x.τ.objs.set σ2.objs.length (.cells [.v (.int .i64 5), .v (.int .i64 (IntKind.i64.wrap (tn - x.below))), .v (.str []), .v (.sl (some 6) false [.agg [w0, w1, w2, w3, w4, w5]]), .v .pnil, .v .pnil]))[σ.objs.length]? = _ := (List.getElem?_set_ne (by omega)).trans g0
          have i1 : (x.τ.objs.set σ2.objs.length (.cells [.v (.int .i64 5), .v (.int .i64 (IntKind.i64.wrap (tn - x.below))), .v (.str []), .v (.sl (some 6) false [.agg [w0, w1, w2, w3, w4, w5]]), .v .pnil, .v .pnil]))[σ.objs.length + 1]? = _ := (List.getElem?_set_ne (by omega)).trans g1
          simp -implicitDefEqProofs (maxSteps := 2000000) (disch := omega) [-getElem?_pos, g8, hg8, g0, g1, i0, i1, List.getElem?_set_self, hidx3, hq, heq2, hnc, hno]
          repeat refine ⟨by omega, ?_⟩
          refine (hev4).mono fun r σ4 ⟨φ4, ψ4, hr4, hA4⟩ => ?_
          have hA4b := hA4
          have h14 := hA4b.kept hAs.sto i1 (by omega)
          have hl14 := (List.getElem?_eq_some_iff.1 h14).1
          obtain ⟨y0, y1, y2, y3, y4, y5, w9, hr5⟩ := resW_cells φ4 (evM g q (.cons t (.tag (IntKind.i64.wrap (tn - x.below)) w) env) x.m).v
          subst hr4
          rw [hr5]
          simp -implicitDefEqProofs (maxSteps := 2000000) (disch := omega) [-getElem?_pos, h14, hl14, List.getElem?_set_self]
          exact ⟨_, _, WeakR.refl _ _ _, φ4, ψ4, hr5.symm, (hAs.trans hA4b (by omega)).put _ (by omega) h14 (by omega)⟩

    · rw [cases_stuck (hpa ▸ hrs) hk]
      simp -implicitDefEqProofs (maxSteps := 2000000) (disch := omega) [-getElem?_pos, h0, h1, hl1]
      refine (k_Stuck (hO2.sto.add _)).mono fun r σ3 ⟨φ3, ψ3, hr3, hA3⟩ => ?_
      have hA3b := hA3.back hO2.sto
      have h13 := hA3b.kept hO2.sto h1 (by omega)
      have hl13 := (List.getElem?_eq_some_iff.1 h13).1
      obtain ⟨x0, x1, x2, x3, x4, x5, w0, hr2⟩ := resW_cells φ3 (stuckM (α := Vl) m2).v
      subst hr3
      rw [hr2]
      simp -implicitDefEqProofs (maxSteps := 2000000) (disch := omega) [-getElem?_pos, h13, hl13, List.getElem?_set_self]
      exact ⟨_, _, WeakR.refl _ _ _, φ3, ψ3, hr2.symm, (hA2.trans hA3b hs2).put _ (by omega) h13 (by omega)⟩

end Go.Proofs.YtbifjffjibnjjaaDoor
