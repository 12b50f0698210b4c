/-
  Closed functions: the reference's walk of a function with a name; all of it. (Own work.)
-/
import Derived.Test.YtppdghfpbliaeaaB26
set_option linter.unusedVariables false
set_option linter.unusedSimpArgs false
namespace Go.Proofs.Ytppdghfpbliaeaa
open Go Go.Abs

set_option maxHeartbeats 2000000 in
theorem rwalk7a {n : Int} {s t : Str} {ns : List Str} {l : List Co} (hl1 : 1 < l.length) (ih : ∀ x ∈ l, RWalkOk x) : RWalkOk (.mk 7 n s t ns l) := by
  have hk : isFun 7 = true := by decide
  intro c o cap rest w σ he hw hC
  have hC0 := hC
  obtain ⟨hc, ho, hne, hfit, hroom⟩ := hC
  have hcl := (List.getElem?_eq_some_iff.1 hc).1
  have hol := (List.getElem?_eq_some_iff.1 ho).1
  have hnl := nsz_len ns
  have hll := cszL_len l
  have he' := he
  have hw' := hw
  simp only [csz] at he' hw'
  have he2 : csz (.mk 4 0 t [] [] (l.take 1)) ≤ 1048576 := by
    have := cszL_take l 1
    simp only [csz, nsz, List.length_nil]
    omega
  have hfr := fun σ => k_RFree (.mk 4 0 t [] [] (l.take 1)) (σ := σ) he2
  have hFl : (ofS (fvs (.mk 4 0 t [] [] (l.take 1)))).length ≤ 1048576 := by
    have h1 := ofS_len (fvs (.mk 4 0 t [] [] (l.take 1)))
    have h2 := fvs_len (.mk 4 0 t [] [] (l.take 1))
    omega
  have hFp : (ofS (fvs (.mk 4 0 t [] [] (l.take 1)))).filter (fun y => !decide (y = s)) = capsOf (.mk 7 n s t ns l) := by simp [capsOf]
  obtain ⟨F, hF⟩ : ∃ F, F = ofS (fvs (.mk 4 0 t [] [] (l.take 1))) := ⟨_, rfl⟩
  rw [← hF] at hfr hFp hFl
  rw [encC_mk] at hfr ⊢
  have le1 : D.Le (.v (.agg [.int .i64 4, .int .i64 0, .str t, .str [], .snil, .sl (some 6) false ((l.take 1).map encC)])) (.v (.agg [.int .i64 4, .int .i64 0, .str t, .str [], .sl none false (([] : List Str).map .str), .sl (some 6) false ((l.take 1).map encC)])) :=
    VLe.d (.agg ⟨.refl _, .refl _, .refl _, .refl _, .snil, .refl _, trivial⟩ (by simp))
  refine acalls_fit Try.func36 (by kernel_rfl) c36m rfl (by simp [a36m]) fun hf => ?_
  clear hf
  have hl1i : (1 : Int) < l.length := by omega
  simp -implicitDefEqProofs (maxSteps := 2000000) (disch := omega) [-getElem?_pos, a36m, List.getElem?_append_left, hc, hl1i]
  refine ⟨by omega, ?_⟩
  rw [← List.map_take]
  refine ((hfr _).arg1 le1).then fun r hr => ?_
  subst hr
  obtain ⟨A, a0, a1, a2, a3⟩ := filts [] (fun y : Str => !decide (y = s)) F
  simp only [List.nil_append, List.length_nil, Nat.zero_add] at a1 a2 a3
  simp -implicitDefEqProofs (maxSteps := 2000000) (disch := omega) [-getElem?_pos]
  obtain ⟨TS, hTS1, hTS2⟩ : ∃ TS, (F = [] → TS = σ.toks) ∧ (F ≠ [] → TS = σ.toks ++ [(A F.length).length]) := by
    by_cases hF0 : F = []
    · exact ⟨_, fun _ => rfl, fun h => absurd hF0 h⟩
    · exact ⟨_, fun h => absurd h hF0, fun _ => rfl⟩
  refine W_loop (α := Nat) 0 (fun i => F.length - i) (fun i => ⟨[(0, .ptr c 0), (3, .ptr σ.objs.length 0), (4, .ptr (σ.objs.length + 1) 0), (5, .ptr (σ.objs.length + 2) 0), (6, .v (.int .i64 w.fs.length)), (7, .ptr (σ.objs.length + 3) 0), (9, .v (vS F)), (10, .v (.int .i64 i))],
      if i < F.length then ⟨σ.objs ++ [.cells [.v (.int .i64 7), .v (.int .i64 n), .v (.str s), .v (.str t), .v (.sl none false (ns.map .str)), .v (.sl (some 6) false (l.map encC))], .cells [.v (.int .i64 0), .v (.int .i64 0), .v (.str []), .v (.str []), .v .snil, .v .snil], .cells [.v (.int .i64 7), .v (.int .i64 w.fs.length), .v (.str s), .v (.str t), .v (.sl none false (ns.map .str)), .v .snil], .cells [.v (.str s), .v (.str t), .tsl σ.toks.length none ((A i).map .str), .v (.int .i64 0), .v (.int .i64 0), .v (.str []), .v (.str []), .v .snil, .v .snil], .cells [.v (.int .i64 4), .v (.int .i64 0), .v (.str t), .v (.str []), .v .snil, .v (.sl (some 6) false ((l.take 1).map encC))]], σ.toks ++ [(A i).length]⟩
      else ⟨σ.objs ++ [.cells [.v (.int .i64 7), .v (.int .i64 n), .v (.str s), .v (.str t), .v (.sl none false (ns.map .str)), .v (.sl (some 6) false (l.map encC))], .cells [.v (.int .i64 0), .v (.int .i64 0), .v (.str []), .v (.str []), .v .snil, .v .snil], .cells [.v (.int .i64 7), .v (.int .i64 w.fs.length), .v (.str s), .v (.str t), .v (.sl none false (ns.map .str)), .v .snil], .cells [.v (.str s), .v (.str t), .v (vS (A F.length)), .v (.int .i64 0), .v (.int .i64 0), .v (.str []), .v (.str []), .v .snil, .v .snil], .cells [.v (.int .i64 4), .v (.int .i64 0), .v (.str t), .v (.str []), .v .snil, .v (.sl (some 6) false ((l.take 1).map encC))]], TS⟩⟩) (fun i => i ≤ F.length) ?_ (by simp) fun i hi => ?_
  · by_cases hF0 : F = []
    · rw [if_neg (by simp [hF0]), hTS1 hF0]
      refine Weak.cellLe (σ.objs.length + 3) 2 (.v (vS (A F.length))) [.v (.str s), .v (.str t), .v .snil, .v (.int .i64 0), .v (.int .i64 0), .v (.str []), .v (.str []), .v .snil, .v .snil] (by simp) rfl ?_ (by simp) (by simp)
      rw [a2 _ (Nat.le_refl _), hF0]
      exact .snil
    · rw [if_pos (List.length_pos_iff.2 hF0)]
      exact .tokE (σ.objs.length + 3) 2 none [.v (.str s), .v (.str t), .v .snil, .v (.int .i64 0), .v (.int .i64 0), .v (.str []), .v (.str []), .v .snil, .v .snil] (by simp) rfl (by simp [a0]) (by simp)
  by_cases hil : i < F.length
  · rw [if_pos hil]
    obtain ⟨y, hy⟩ : ∃ y, F[i]? = some y := ⟨_, List.getElem?_eq_getElem hil⟩
    have hA1 := a1 i y hy
    have hA3 := a3 i
    simp -implicitDefEqProofs (maxSteps := 2000000) (disch := omega) [-getElem?_pos, hil, hy]
    refine .mk (fun hys => ?_) fun hys => ?_
    · have hA2 : A (i + 1) = A i := by rw [hA1]; simp [hys]
      simp -implicitDefEqProofs (maxSteps := 2000000) (disch := omega) [-getElem?_pos, hil, hy]
      refine ⟨i + 1, by omega, by show F.length - (i + 1) < F.length - i; omega, ?_⟩
      dsimp only
      by_cases hn : i + 1 < F.length
      · rw [if_pos hn]
        exact .eq2 (by simp [hA2]) (by simp [hA2])
      · rw [if_neg hn]
        have hAe : A F.length = A i := by rw [← hA2]; congr 1; omega
        have hF0 : F ≠ [] := by rintro rfl; simp at hil
        refine Weak.cellLe (σ.objs.length + 3) 2 (.v (vS (A F.length))) [.v (.str s), .v (.str t), .tsl σ.toks.length none ((A i).map .str), .v (.int .i64 0), .v (.int .i64 0), .v (.str []), .v (.str []), .v .snil, .v .snil] (by simp) rfl ?_ (by simp [hTS2 hF0, hAe]) (by simp)
        rw [hAe]
        exact .tsl
    · have hA2 : A (i + 1) = A i ++ [y] := by rw [hA1]; simp [hys]
      clear hA1
      have hA1 := hA2
      simp -implicitDefEqProofs (maxSteps := 2000000) (disch := omega) [-getElem?_pos, hil, hy]
      refine ⟨by omega, i + 1, by omega, by show F.length - (i + 1) < F.length - i; omega, ?_⟩
      dsimp only
      by_cases hn : i + 1 < F.length
      · rw [if_pos hn]
        exact .eq2 (by simp [hA1]) (by simp [hA1])
      · rw [if_neg hn]
        have hAe : A F.length = A i ++ [y] := by rw [← hA1]; congr 1; omega
        have hF0 : F ≠ [] := by rintro rfl; simp at hil
        refine Weak.cellLe (σ.objs.length + 3) 2 (.v (vS (A F.length))) [.v (.str s), .v (.str t), .tsl σ.toks.length none ((A i).map .str ++ [.str y]), .v (.int .i64 0), .v (.int .i64 0), .v (.str []), .v (.str []), .v .snil, .v .snil] (by simp) rfl ?_ (by simp [hTS2 hF0, hAe]) (by simp)
        rw [hAe]
        rw [show vS (A i ++ [y]) = .sl none false ((A i).map .str ++ [.str y]) by simp]
        exact .tsl


  rw [if_neg hil]
  obtain ⟨OS0, hOS0⟩ : ∃ OS0, OS0 = σ.objs ++ [Ob.cells [.v (.int .i64 7), .v (.int .i64 n), .v (.str s), .v (.str t), .v (.sl none false (ns.map .str)), .v (.sl (some 6) false (l.map encC))], .cells [.v (.int .i64 0), .v (.int .i64 0), .v (.str []), .v (.str []), .v .snil, .v .snil], .cells [.v (.int .i64 7), .v (.int .i64 w.fs.length), .v (.str s), .v (.str t), .v (.sl none false (ns.map .str)), .v .snil], .cells [.v (.str s), .v (.str t), .v (vS (A F.length)), .v (.int .i64 0), .v (.int .i64 0), .v (.str []), .v (.str []), .v .snil, .v .snil], .cells [.v (.int .i64 4), .v (.int .i64 0), .v (.str t), .v (.str []), .v .snil, .v (.sl (some 6) false ((l.take 1).map encC))]] := ⟨_, rfl⟩
  rw [← hOS0]
  have q0 : OS0[σ.objs.length]? = some (.cells [.v (.int .i64 7), .v (.int .i64 n), .v (.str s), .v (.str t), .v (.sl none false (ns.map .str)), .v (.sl (some 6) false (l.map encC))]) := by rw [hOS0]; simp
  have q1 : OS0[σ.objs.length + 1]? = some (.cells [.v (.int .i64 0), .v (.int .i64 0), .v (.str []), .v (.str []), .v .snil, .v .snil]) := by rw [hOS0]; simp
  have q2 : OS0[σ.objs.length + 2]? = some (.cells [.v (.int .i64 7), .v (.int .i64 w.fs.length), .v (.str s), .v (.str t), .v (.sl none false (ns.map .str)), .v .snil]) := by rw [hOS0]; simp
  have q3 : OS0[σ.objs.length + 3]? = some (.cells [.v (.str s), .v (.str t), .v (vS (A F.length)), .v (.int .i64 0), .v (.int .i64 0), .v (.str []), .v (.str []), .v .snil, .v .snil]) := by rw [hOS0]; simp
  have qo : ∀ i, i < σ.objs.length → OS0[i]? = σ.objs[i]? := fun i hi => by rw [hOS0]; exact List.getElem?_append_left hi
  have ql : OS0.length = σ.objs.length + 5 := by rw [hOS0]; simp
  have qc : OS0[c]? = some (.cells [.msl o 0 w.fs.length (some 9) (some cap)]) := by rw [qo c hcl, hc]
  have qp : OS0[o]? = some (.cells (funD w.fs ++ rest)) := by rw [qo o hol, ho]
  clear hOS0
  have hTS : ∃ ts, TS = σ.toks ++ ts := by
    by_cases hF0 : F = []
    · exact ⟨[], by rw [hTS1 hF0]; simp⟩
    · exact ⟨_, hTS2 hF0⟩
  have hfd := funD_len w.fs
  rw [a2 _ (Nat.le_refl _), hFp] at q3
  clear hTS1 hTS2 a0 a1 a2 a3
  have qcl : c < OS0.length := by omega
  have qpl : o < OS0.length := by omega
  simp -implicitDefEqProofs (maxSteps := 2000000) (disch := omega) [-getElem?_pos, hil, qc, q3, qp]
  refine .mk (fun hcp => ?_) fun hcp => ?_
  · simp -implicitDefEqProofs (maxSteps := 2000000) (disch := omega) [-getElem?_pos, hil, qc, q3, qp, qcl, qpl]
    refine ⟨by omega, ?_⟩
    have hX : funD w.fs ++ (List.map D.v (V.flat [V.agg [V.str s, V.str t, vS (capsOf (.mk 7 n s t ns l)), V.int IntKind.i64 0, V.int IntKind.i64 0, V.str [], V.str [], V.snil, V.snil]]) ++ List.drop (w.fs.length * 9 + (V.flat [V.agg [V.str s, V.str t, vS (capsOf (.mk 7 n s t ns l)), V.int IntKind.i64 0, V.int IntKind.i64 0, V.str [], V.str [], V.snil, V.snil]]).length) (funD w.fs ++ rest)) = funD (w.fs ++ [fuOf (.mk 7 n s t ns l)]) ++ rest.drop 9 := by
      rw [funD_app, funD1]
      simp [fuOf, fuV, partV, capV, V.flat, drop_fun]
    rw [hX]
    obtain ⟨OS, hOS⟩ : ∃ OS, OS = (OS0.set o (Ob.cells (funD (w.fs ++ [fuOf (.mk 7 n s t ns l)]) ++ rest.drop 9))).set c (Ob.cells [D.msl o 0 (w.fs.length + 1) (some 9) (some cap)]) := ⟨_, rfl⟩
    rw [← hOS]
    have hget : ∀ i, i ≠ c → i ≠ o → OS[i]? = OS0[i]? := fun i h1 h2 => by rw [hOS, List.getElem?_set_ne (Ne.symm h1), List.getElem?_set_ne (Ne.symm h2)]
    have hOl : OS.length = OS0.length := by rw [hOS]; simp
    have hCO0 : CloR ⟨OS, TS⟩ c o cap (rest.drop 9) (w.fs ++ [fuOf (.mk 7 n s t ns l)]) := by
      refine ⟨?_, ?_, hne, by simpa using hcp, by simp; omega⟩
      · dsimp only
        rw [hOS, List.getElem?_set_self (by rw [List.length_set]; omega)]
        simp
      · dsimp only
        rw [hOS, List.getElem?_set_ne (Ne.symm hne), List.getElem?_set_self (by omega)]
    have ho20 : o = o ∨ σ.objs.length + 3 ≤ o := .inl rfl
    obtain ⟨cap1, hcap1⟩ : ∃ cap1, cap1 = cap := ⟨_, rfl⟩
    obtain ⟨rest1, hrest1⟩ : ∃ rest1, rest1 = rest.drop 9 := ⟨_, rfl⟩
    obtain ⟨o1, ho1⟩ : ∃ o1, o1 = o := ⟨_, rfl⟩
    rw [← hcap1, ← hrest1, ← ho1] at hCO0
    have ho2 : o1 = o ∨ σ.objs.length + 3 ≤ o1 := .inl ho1
    have hO0 : OS[σ.objs.length]? = some (.cells [.v (.int .i64 7), .v (.int .i64 n), .v (.str s), .v (.str t), .v (.sl none false (ns.map .str)), .v (.sl (some 6) false (l.map encC))]) := by rw [hget _ (by omega) (by omega), q0]
    have hO1 : OS[σ.objs.length + 1]? = some (.cells [.v (.int .i64 0), .v (.int .i64 0), .v (.str []), .v (.str []), .v .snil, .v .snil]) := by rw [hget _ (by omega) (by omega), q1]
    have hO2 : OS[σ.objs.length + 2]? = some (.cells [.v (.int .i64 7), .v (.int .i64 w.fs.length), .v (.str s), .v (.str t), .v (.sl none false (ns.map .str)), .v .snil]) := by rw [hget _ (by omega) (by omega), q2]
    have hFO : Frm σ ⟨OS, TS⟩ c o := ⟨by dsimp only; omega, fun i hi h1 h2 => by dsimp only; rw [hget i (by omega) (by omega), qo i hi], hTS⟩
    have hLO : σ.objs.length + 3 ≤ OS.length := by omega
    clear hOS hget hX
    obtain ⟨w1, hw1⟩ : ∃ w1 : Ws, w1 = ⟨w.fs ++ [fuOf (.mk 7 n s t ns l)], w.bad || badOf (.mk 7 n s t ns l)⟩ := ⟨_, rfl⟩
    have hCO : CloR ⟨OS, TS⟩ c o1 cap1 rest1 w1.fs := by rw [hw1]; exact hCO0
    have hwl : 6 * w1.fs.length + cszL l ≤ 1048600 := by rw [hw1]; simp; omega
    have hos : o < σ.objs.length := hol
    have hwf : w.fs.length < w1.fs.length := by rw [hw1]; simp
    refine W_loop (α := WSt) ⟨⟨OS.set (σ.objs.length + 2) (.cells [.v (.int .i64 7), .v (.int .i64 (w.fs.length : Int)), .v (.str s), .v (.str t), .v (.sl none false (ns.map .str)), .tsl TS.length (some 6) []]), TS ++ [0]⟩, 0, o1, cap1, rest1⟩ (fun x => l.length - x.i)
      (fun x => ⟨[(0, .ptr c 0), (3, .ptr σ.objs.length 0), (4, .ptr (σ.objs.length + 1) 0), (5, .ptr (σ.objs.length + 2) 0), (6, .v (.int .i64 (w.fs.length : Int))), (11, .v (.int .i64 x.i))], x.τ⟩)
      (RIn σ c o TS.length 7 n (w.fs.length : Int) s t ns l w1) (.tokE (σ.objs.length + 2) 5 (some 6) _ hO2 rfl rfl (by simp))
      ⟨by simp, ?_, ?_, ?_, ?_, ?_, ?_, ho2, ?_⟩ fun x hx => ?_
    · exact hCO.mono (List.getElem?_set_ne (by omega)) (List.getElem?_set_ne (by omega))
    · dsimp only
      rw [List.getElem?_set_ne (by omega)]
      exact hO0
    · dsimp only
      rw [List.getElem?_set_ne (by omega)]
      exact hO1
    · dsimp only
      rw [List.getElem?_set_self (by omega)]
      simp [wkL]
    · simp [wkL]
    · obtain ⟨f1, f2, ts, f3⟩ := hFO
      refine ⟨by simp; omega, fun i hi h1 h2 => ?_, ts ++ [0], by dsimp only at f3 ⊢; rw [f3, List.append_assoc]⟩
      dsimp only
      rw [List.getElem?_set_ne (by omega)]
      exact f2 i hi h1 h2
    · dsimp only
      rw [List.length_set]
      exact hLO
    obtain ⟨τ, i, ox, capx, restx⟩ := x
    obtain ⟨x1, x2, x0, x3, x4, x5, x6, x7, x8⟩ := hx
    dsimp only at x1 x2 x0 x3 x4 x5 x6 x7 x8 ⊢
    simp -implicitDefEqProofs (maxSteps := 2000000) (disch := omega) [-getElem?_pos, x0]
    refine .mk (fun h => ?_) fun h => ?_
    · simp -implicitDefEqProofs (maxSteps := 2000000) (disch := omega) [-getElem?_pos, x0]
      refine ⟨by omega, ?_⟩
      intro x hx
      have hx1 := cszL_mem (List.mem_of_getElem? hx)
      have hwg := wkL_get (w := w1) hx
      have hwn := wkL_len (l.take i) w1
      have hcg := cszL_get hx
      have hct := cszL_take l (i + 1)
      have hcall := fun σ h => ih x (List.mem_of_getElem? hx) (c := c) (o := ox) (cap := capx) (rest := restx) (w := (wkL (l.take i) w1).2) (σ := σ) (by omega) (by omega) h
      have zcl := (List.getElem?_eq_some_iff.1 x2.hc).1
      have zol := (List.getElem?_eq_some_iff.1 x2.ho).1
      have zne := x2.ne
      refine (hcall _ x2).mono fun r σ' hr => ?_
      obtain ⟨rfl, o', cap', rest', hC', hF', ho'⟩ := hr
      obtain ⟨g1, g2, ts, g3⟩ := hF'
      have y0 : σ'.objs[σ.objs.length]? = some (.cells [.v (.int .i64 7), .v (.int .i64 n), .v (.str s), .v (.str t), .v (.sl none false (ns.map .str)), .v (.sl (some 6) false (l.map encC))]) := by
        rw [g2 _ (by omega) (by omega) (by omega)]
        exact x0
      have y4 : σ'.objs[σ.objs.length + 2]? = some (.cells [.v (.int .i64 7), .v (.int .i64 (w.fs.length : Int)), .v (.str s), .v (.str t), .v (.sl none false (ns.map .str)), .tsl TS.length (some 6) ((wkL (l.take i) w1).1.map encC)]) := by
        rw [g2 _ (by omega) (by omega) (by omega)]
        exact x4
      have y3 : σ'.objs[σ.objs.length + 1]? = some (.cells [.v (.int .i64 0), .v (.int .i64 0), .v (.str []), .v (.str []), .v .snil, .v .snil]) := by
        rw [g2 _ (by omega) (by omega) (by omega)]
        exact x3
      have ytl := (List.getElem?_eq_some_iff.1 x5).1
      have y5 : σ'.toks[TS.length]? = some (wkL (l.take i) w1).1.length := by
        rw [g3, List.getElem?_append_left ytl]
        exact x5
      have y4' : ∀ r, (σ'.objs ++ r)[σ.objs.length + 2]? = some (.cells [.v (.int .i64 7), .v (.int .i64 (w.fs.length : Int)), .v (.str s), .v (.str t), .v (.sl none false (ns.map .str)), .tsl TS.length (some 6) ((wkL (l.take i) w1).1.map encC)]) := fun r => by rw [List.getElem?_append_left (by omega), y4]
      obtain ⟨p, hp⟩ : ∃ p, p = (wk x (wkL (l.take i) w1).2).1 := ⟨_, rfl⟩
      have hpe : encC (wk x (wkL (l.take i) w1).2).1 = encC p := by rw [hp]
      rw [hpe]
      obtain ⟨p0, hp0⟩ : ∃ p0, p0 = encC p := ⟨_, rfl⟩
      rw [← hp] at hwg
      have hp1 : encC p = .agg (coV p) := encC_coV p
      cases p with
      | mk k3 n3 s3 t3 ns3 l3 =>
      rw [encC_mk] at hp0 ⊢
      simp -implicitDefEqProofs (maxSteps := 2000000) (disch := omega) [-getElem?_pos, y4', y5]
      have hol' := (List.getElem?_eq_some_iff.1 hC'.ho).1
      have hTl : σ.toks.length ≤ TS.length := by
        obtain ⟨ts0, h0⟩ := hFO.toks
        have h1 := congrArg List.length h0
        simp only [List.length_append] at h1
        omega
      refine ⟨by rw [hwn.2.2, List.length_take]; omega, ⟨⟨_, _⟩, i + 1, o', cap', rest'⟩, ⟨by dsimp only; omega, ?_, ?_, ?_, ?_, ?_, ⟨?_, fun j hj h1 h2 => ?_, ?_⟩, ?_, ?_⟩, by dsimp only; omega, .eq (by simp)⟩
      · dsimp only
        rw [hwg]
        exact hC'.mono (by dsimp only; rw [List.getElem?_append_left (by rw [List.length_set]; omega), List.getElem?_set_ne (by omega)]) (by dsimp only; rw [List.getElem?_append_left (by rw [List.length_set]; omega), List.getElem?_set_ne (by omega)])
      · dsimp only
        rw [List.getElem?_append_left (by rw [List.length_set]; omega), List.getElem?_set_ne (by omega)]
        exact y0
      · dsimp only
        rw [List.getElem?_append_left (by rw [List.length_set]; omega), List.getElem?_set_ne (by omega)]
        exact y3
      · dsimp only
        rw [List.getElem?_append_left (by rw [List.length_set]; omega), List.getElem?_set_self (by omega), hwg]
        simp [encC_mk]
      · dsimp only
        rw [List.getElem?_set_self (by rw [g3, List.length_append]; omega), hwg]
        simp
      · dsimp only
        rw [List.length_append, List.length_set]
        omega
      · dsimp only
        rw [List.getElem?_append_left (by rw [List.length_set]; omega), List.getElem?_set_ne (by omega), g2 j (by omega) h1 (by omega)]
        exact x6.objs j hj h1 h2
      · obtain ⟨ts1, h1⟩ := x6.toks
        refine ⟨(ts1 ++ ts).set (TS.length - σ.toks.length) ((wkL (l.take i) w1).1.length + 1), ?_⟩
        dsimp only
        rw [g3, h1, List.append_assoc, List.set_append_right _ _ hTl]
      · dsimp only
        omega
      · dsimp only
        rw [List.length_append, List.length_set]
        omega

    have hil : i = l.length := by omega
    subst hil
    rw [List.take_length] at x2 x4 x5
    have hwn := wkL_len l w1
    have hwc := hwn.2.2
    obtain ⟨z1, z2, z3, z4, z5⟩ := x2
    have zcl := (List.getElem?_eq_some_iff.1 z1).1
    have zol := (List.getElem?_eq_some_iff.1 z2).1
    have hfl2 := funD_len (wkL l w1).2.fs
    have hge : (0 : Int) ≤ w.fs.length := by omega
    cases hr : (wkL l w1).1 with
    | nil =>
      rw [hr] at x4
      simp -implicitDefEqProofs (maxSteps := 2000000) (disch := omega) [-getElem?_pos, x3, x4]
      have hwk : wk (.mk 7 n s t ns l) w = (.mk 7 w.fs.length s t ns [], (wkL l w1).2) := by rw [hw1] at hr ⊢; simp [wk, hk, hr]
      refine ⟨.v (encC (wk (.mk 7 n s t ns l) w).1), _, weakR_le ?_, ⟨rfl, ox, capx, restx, ?_, ⟨?_, fun j hj h1 h2 => ?_, x6.toks⟩, ?_⟩⟩
      · rw [hwk, encC_coV, coV_mk]
        exact le_coV
      · rw [hwk]
        exact CloR.mono ⟨z1, z2, z3, z4, z5⟩ (List.getElem?_set_ne (by omega)) (List.getElem?_set_ne (by omega))
      · dsimp only
        rw [List.length_set]
        omega
      · dsimp only
        rw [List.getElem?_set_ne (by omega)]
        exact x6.objs j hj h1 h2
      · omega
    | cons y r =>
      rw [hr] at x4
      obtain ⟨y0, hy0⟩ : ∃ y0, y0 = y := ⟨_, rfl⟩
      cases y with
      | mk k3 n3 s3 t3 ns3 l3 =>
      rw [List.map_cons, encC_mk] at x4
      have hset1 : ∀ X Y, ((τ.objs.set ox X).set (σ.objs.length + 1) Y)[σ.objs.length + 1]? = some Y := fun X Y => List.getElem?_set_self (by rw [List.length_set]; omega)
      have hx3 : ∀ X, (τ.objs.set ox X)[σ.objs.length + 1]? = some (.cells [.v (.int .i64 0), .v (.int .i64 0), .v (.str []), .v (.str []), .v .snil, .v .snil]) := fun X => by rw [List.getElem?_set_ne (by omega), x3]
      have hx4 : ∀ X, (τ.objs.set ox X)[σ.objs.length + 2]? = τ.objs[σ.objs.length + 2]? := fun X => List.getElem?_set_ne (by omega)
      simp -implicitDefEqProofs (maxSteps := 2000000) (disch := omega) [-getElem?_pos, hx3, hx4, x3, x4, z1, z2, hset1]
      refine ⟨by omega, by rw [hfl2]; omega, ?_⟩
      have hpp := putPart (wkL l w1).2.fs w.fs.length (.mk k3 n3 s3 t3 ns3 l3) restx (by omega)
      simp only [coV_mk, putAt, List.map_cons, List.map_nil, List.length_cons, List.length_nil, Nat.zero_add, Nat.reduceAdd, List.cons_append, List.nil_append, List.append_assoc] at hpp
      have hwk : wk (.mk 7 n s t ns l) w = (.mk 7 w.fs.length s t ns (wkL l w1).1, ⟨setPart (wkL l w1).2.fs w.fs.length (.mk k3 n3 s3 t3 ns3 l3), (wkL l w1).2.bad⟩) := by rw [hw1] at hr ⊢; simp [wk, hk, hr]
      rw [hpp]
      refine ⟨.v (encC (wk (.mk 7 n s t ns l) w).1), _, weakR_le ?_, ⟨rfl, ox, capx, restx, ?_, ⟨?_, fun j hj h1 h2 => ?_, x6.toks⟩, ?_⟩⟩
      · rw [hwk, encC_coV, coV_mk, hr, List.map_cons, encC_mk]
        exact le_coV
      · rw [hwk]
        refine ⟨?_, ?_, z3, ?_, ?_⟩
        · dsimp only
          rw [List.getElem?_set_ne (by omega), List.getElem?_set_ne (by omega), setPart_len]
          exact z1
        · dsimp only
          rw [List.getElem?_set_ne (by omega), List.getElem?_set_self zol]
        · rw [setPart_len]
          exact z4
        · rw [setPart_len]
          exact z5
      · dsimp only
        rw [List.length_set, List.length_set]
        omega
      · dsimp only
        rw [List.getElem?_set_ne (by omega), List.getElem?_set_ne (by omega)]
        exact x6.objs j hj h1 h2
      · omega



  · simp -implicitDefEqProofs (maxSteps := 2000000) (disch := omega) [-getElem?_pos, hil, qc, q3, qp, qcl, qpl]
    refine ⟨by omega, by omega, ?_⟩
    intro c' hc1 hc2
    have qc' : ∀ r, (OS0 ++ r)[c]? = some (.cells [.msl o 0 w.fs.length (some 9) (some cap)]) := fun r => by rw [List.getElem?_append_left qcl, qc]
    simp -implicitDefEqProofs (maxSteps := 2000000) (disch := omega) [-getElem?_pos, qc']
    have hX : funD w.fs ++ (List.map D.v (V.flat [V.agg [V.str s, V.str t, vS (capsOf (.mk 7 n s t ns l)), V.int IntKind.i64 0, V.int IntKind.i64 0, V.str [], V.str [], V.snil, V.snil]]) ++ List.replicate ((c' - (w.fs.length + 1)) * 9) D.junk) = funD (w.fs ++ [fuOf (.mk 7 n s t ns l)]) ++ List.replicate ((c' - (w.fs.length + 1)) * 9) D.junk := by
      rw [funD_app, funD1]
      simp [fuOf, fuV, partV, capV, V.flat]
    rw [hX]
    obtain ⟨OS, hOS⟩ : ∃ OS, OS = OS0.set c (Ob.cells [D.msl OS0.length 0 (w.fs.length + 1) (some 9) (some c')]) ++ [Ob.cells (funD (w.fs ++ [fuOf (.mk 7 n s t ns l)]) ++ List.replicate ((c' - (w.fs.length + 1)) * 9) D.junk)] := ⟨_, rfl⟩
    rw [← hOS]
    have hget : ∀ i, i < OS0.length → i ≠ c → OS[i]? = OS0[i]? := fun i h0 h1 => by rw [hOS, List.getElem?_append_left (by simpa using h0), List.getElem?_set_ne (Ne.symm h1)]
    have hOl : OS.length = OS0.length + 1 := by rw [hOS]; simp
    have hCO0 : CloR ⟨OS, TS⟩ c OS0.length c' (List.replicate ((c' - (w.fs.length + 1)) * 9) D.junk) (w.fs ++ [fuOf (.mk 7 n s t ns l)]) := by
      refine ⟨?_, ?_, by omega, by simpa using hc1, by simp; omega⟩
      · dsimp only
        rw [hOS, List.getElem?_append_left (by simpa using qcl), List.getElem?_set_self qcl]
        simp
      · dsimp only
        rw [hOS, List.getElem?_append_right (by simp)]
        simp
    obtain ⟨cap1, hcap1⟩ : ∃ cap1, cap1 = c' := ⟨_, rfl⟩
    obtain ⟨rest1, hrest1⟩ : ∃ rest1, rest1 = List.replicate ((c' - (w.fs.length + 1)) * 9) D.junk := ⟨_, rfl⟩
    obtain ⟨o1, ho1⟩ : ∃ o1, o1 = OS0.length := ⟨_, rfl⟩
    rw [← hrest1, ← hcap1, ← ho1] at hCO0
    have ho2 : o1 = o ∨ σ.objs.length + 3 ≤ o1 := .inr (by omega)
    have hO0 : OS[σ.objs.length]? = some (.cells [.v (.int .i64 7), .v (.int .i64 n), .v (.str s), .v (.str t), .v (.sl none false (ns.map .str)), .v (.sl (some 6) false (l.map encC))]) := by rw [hget _ (by omega) (by omega), q0]
    have hO1 : OS[σ.objs.length + 1]? = some (.cells [.v (.int .i64 0), .v (.int .i64 0), .v (.str []), .v (.str []), .v .snil, .v .snil]) := by rw [hget _ (by omega) (by omega), q1]
    have hO2 : OS[σ.objs.length + 2]? = some (.cells [.v (.int .i64 7), .v (.int .i64 w.fs.length), .v (.str s), .v (.str t), .v (.sl none false (ns.map .str)), .v .snil]) := by rw [hget _ (by omega) (by omega), q2]
    have hFO : Frm σ ⟨OS, TS⟩ c o := ⟨by dsimp only; omega, fun i hi h1 h2 => by dsimp only; rw [hget i (by omega) (by omega), qo i hi], hTS⟩
    have hLO : σ.objs.length + 3 ≤ OS.length := by omega
    clear hOS hget hX
    obtain ⟨w1, hw1⟩ : ∃ w1 : Ws, w1 = ⟨w.fs ++ [fuOf (.mk 7 n s t ns l)], w.bad || badOf (.mk 7 n s t ns l)⟩ := ⟨_, rfl⟩
    have hCO : CloR ⟨OS, TS⟩ c o1 cap1 rest1 w1.fs := by rw [hw1]; exact hCO0
    have hwl : 6 * w1.fs.length + cszL l ≤ 1048600 := by rw [hw1]; simp; omega
    have hos : o < σ.objs.length := hol
    have hwf : w.fs.length < w1.fs.length := by rw [hw1]; simp
    refine W_loop (α := WSt) ⟨⟨OS.set (σ.objs.length + 2) (.cells [.v (.int .i64 7), .v (.int .i64 (w.fs.length : Int)), .v (.str s), .v (.str t), .v (.sl none false (ns.map .str)), .tsl TS.length (some 6) []]), TS ++ [0]⟩, 0, o1, cap1, rest1⟩ (fun x => l.length - x.i)
      (fun x => ⟨[(0, .ptr c 0), (3, .ptr σ.objs.length 0), (4, .ptr (σ.objs.length + 1) 0), (5, .ptr (σ.objs.length + 2) 0), (6, .v (.int .i64 (w.fs.length : Int))), (11, .v (.int .i64 x.i))], x.τ⟩)
      (RIn σ c o TS.length 7 n (w.fs.length : Int) s t ns l w1) (.tokE (σ.objs.length + 2) 5 (some 6) _ hO2 rfl rfl (by simp))
      ⟨by simp, ?_, ?_, ?_, ?_, ?_, ?_, ho2, ?_⟩ fun x hx => ?_
    · exact hCO.mono (List.getElem?_set_ne (by omega)) (List.getElem?_set_ne (by omega))
    · dsimp only
      rw [List.getElem?_set_ne (by omega)]
      exact hO0
    · dsimp only
      rw [List.getElem?_set_ne (by omega)]
      exact hO1
    · dsimp only
      rw [List.getElem?_set_self (by omega)]
      simp [wkL]
    · simp [wkL]
    · obtain ⟨f1, f2, ts, f3⟩ := hFO
      refine ⟨by simp; omega, fun i hi h1 h2 => ?_, ts ++ [0], by dsimp only at f3 ⊢; rw [f3, List.append_assoc]⟩
      dsimp only
      rw [List.getElem?_set_ne (by omega)]
      exact f2 i hi h1 h2
    · dsimp only
      rw [List.length_set]
      exact hLO
    obtain ⟨τ, i, ox, capx, restx⟩ := x
    obtain ⟨x1, x2, x0, x3, x4, x5, x6, x7, x8⟩ := hx
    dsimp only at x1 x2 x0 x3 x4 x5 x6 x7 x8 ⊢
    simp -implicitDefEqProofs (maxSteps := 2000000) (disch := omega) [-getElem?_pos, x0]
    refine .mk (fun h => ?_) fun h => ?_
    · simp -implicitDefEqProofs (maxSteps := 2000000) (disch := omega) [-getElem?_pos, x0]
      refine ⟨by omega, ?_⟩
      intro x hx
      have hx1 := cszL_mem (List.mem_of_getElem? hx)
      have hwg := wkL_get (w := w1) hx
      have hwn := wkL_len (l.take i) w1
      have hcg := cszL_get hx
      have hct := cszL_take l (i + 1)
      have hcall := fun σ h => ih x (List.mem_of_getElem? hx) (c := c) (o := ox) (cap := capx) (rest := restx) (w := (wkL (l.take i) w1).2) (σ := σ) (by omega) (by omega) h
      have zcl := (List.getElem?_eq_some_iff.1 x2.hc).1
      have zol := (List.getElem?_eq_some_iff.1 x2.ho).1
      have zne := x2.ne
      refine (hcall _ x2).mono fun r σ' hr => ?_
      obtain ⟨rfl, o', cap', rest', hC', hF', ho'⟩ := hr
      obtain ⟨g1, g2, ts, g3⟩ := hF'
      have y0 : σ'.objs[σ.objs.length]? = some (.cells [.v (.int .i64 7), .v (.int .i64 n), .v (.str s), .v (.str t), .v (.sl none false (ns.map .str)), .v (.sl (some 6) false (l.map encC))]) := by
        rw [g2 _ (by omega) (by omega) (by omega)]
        exact x0
      have y4 : σ'.objs[σ.objs.length + 2]? = some (.cells [.v (.int .i64 7), .v (.int .i64 (w.fs.length : Int)), .v (.str s), .v (.str t), .v (.sl none false (ns.map .str)), .tsl TS.length (some 6) ((wkL (l.take i) w1).1.map encC)]) := by
        rw [g2 _ (by omega) (by omega) (by omega)]
        exact x4
      have y3 : σ'.objs[σ.objs.length + 1]? = some (.cells [.v (.int .i64 0), .v (.int .i64 0), .v (.str []), .v (.str []), .v .snil, .v .snil]) := by
        rw [g2 _ (by omega) (by omega) (by omega)]
        exact x3
      have ytl := (List.getElem?_eq_some_iff.1 x5).1
      have y5 : σ'.toks[TS.length]? = some (wkL (l.take i) w1).1.length := by
        rw [g3, List.getElem?_append_left ytl]
        exact x5
      have y4' : ∀ r, (σ'.objs ++ r)[σ.objs.length + 2]? = some (.cells [.v (.int .i64 7), .v (.int .i64 (w.fs.length : Int)), .v (.str s), .v (.str t), .v (.sl none false (ns.map .str)), .tsl TS.length (some 6) ((wkL (l.take i) w1).1.map encC)]) := fun r => by rw [List.getElem?_append_left (by omega), y4]
      obtain ⟨p, hp⟩ : ∃ p, p = (wk x (wkL (l.take i) w1).2).1 := ⟨_, rfl⟩
      have hpe : encC (wk x (wkL (l.take i) w1).2).1 = encC p := by rw [hp]
      rw [hpe]
      obtain ⟨p0, hp0⟩ : ∃ p0, p0 = encC p := ⟨_, rfl⟩
      rw [← hp] at hwg
      have hp1 : encC p = .agg (coV p) := encC_coV p
      cases p with
      | mk k3 n3 s3 t3 ns3 l3 =>
      rw [encC_mk] at hp0 ⊢
      simp -implicitDefEqProofs (maxSteps := 2000000) (disch := omega) [-getElem?_pos, y4', y5]
      have hol' := (List.getElem?_eq_some_iff.1 hC'.ho).1
      have hTl : σ.toks.length ≤ TS.length := by
        obtain ⟨ts0, h0⟩ := hFO.toks
        have h1 := congrArg List.length h0
        simp only [List.length_append] at h1
        omega
      refine ⟨by rw [hwn.2.2, List.length_take]; omega, ⟨⟨_, _⟩, i + 1, o', cap', rest'⟩, ⟨by dsimp only; omega, ?_, ?_, ?_, ?_, ?_, ⟨?_, fun j hj h1 h2 => ?_, ?_⟩, ?_, ?_⟩, by dsimp only; omega, .eq (by simp)⟩
      · dsimp only
        rw [hwg]
        exact hC'.mono (by dsimp only; rw [List.getElem?_append_left (by rw [List.length_set]; omega), List.getElem?_set_ne (by omega)]) (by dsimp only; rw [List.getElem?_append_left (by rw [List.length_set]; omega), List.getElem?_set_ne (by omega)])
      · dsimp only
        rw [List.getElem?_append_left (by rw [List.length_set]; omega), List.getElem?_set_ne (by omega)]
        exact y0
      · dsimp only
        rw [List.getElem?_append_left (by rw [List.length_set]; omega), List.getElem?_set_ne (by omega)]
        exact y3
      · dsimp only
        rw [List.getElem?_append_left (by rw [List.length_set]; omega), List.getElem?_set_self (by omega), hwg]
        simp [encC_mk]
      · dsimp only
        rw [List.getElem?_set_self (by rw [g3, List.length_append]; omega), hwg]
        simp
      · dsimp only
        rw [List.length_append, List.length_set]
        omega
      · dsimp only
        rw [List.getElem?_append_left (by rw [List.length_set]; omega), List.getElem?_set_ne (by omega), g2 j (by omega) h1 (by omega)]
        exact x6.objs j hj h1 h2
      · obtain ⟨ts1, h1⟩ := x6.toks
        refine ⟨(ts1 ++ ts).set (TS.length - σ.toks.length) ((wkL (l.take i) w1).1.length + 1), ?_⟩
        dsimp only
        rw [g3, h1, List.append_assoc, List.set_append_right _ _ hTl]
      · dsimp only
        omega
      · dsimp only
        rw [List.length_append, List.length_set]
        omega

    have hil : i = l.length := by omega
    subst hil
    rw [List.take_length] at x2 x4 x5
    have hwn := wkL_len l w1
    have hwc := hwn.2.2
    obtain ⟨z1, z2, z3, z4, z5⟩ := x2
    have zcl := (List.getElem?_eq_some_iff.1 z1).1
    have zol := (List.getElem?_eq_some_iff.1 z2).1
    have hfl2 := funD_len (wkL l w1).2.fs
    have hge : (0 : Int) ≤ w.fs.length := by omega
    cases hr : (wkL l w1).1 with
    | nil =>
      rw [hr] at x4
      simp -implicitDefEqProofs (maxSteps := 2000000) (disch := omega) [-getElem?_pos, x3, x4]
      have hwk : wk (.mk 7 n s t ns l) w = (.mk 7 w.fs.length s t ns [], (wkL l w1).2) := by rw [hw1] at hr ⊢; simp [wk, hk, hr]
      refine ⟨.v (encC (wk (.mk 7 n s t ns l) w).1), _, weakR_le ?_, ⟨rfl, ox, capx, restx, ?_, ⟨?_, fun j hj h1 h2 => ?_, x6.toks⟩, ?_⟩⟩
      · rw [hwk, encC_coV, coV_mk]
        exact le_coV
      · rw [hwk]
        exact CloR.mono ⟨z1, z2, z3, z4, z5⟩ (List.getElem?_set_ne (by omega)) (List.getElem?_set_ne (by omega))
      · dsimp only
        rw [List.length_set]
        omega
      · dsimp only
        rw [List.getElem?_set_ne (by omega)]
        exact x6.objs j hj h1 h2
      · omega
    | cons y r =>
      rw [hr] at x4
      obtain ⟨y0, hy0⟩ : ∃ y0, y0 = y := ⟨_, rfl⟩
      cases y with
      | mk k3 n3 s3 t3 ns3 l3 =>
      rw [List.map_cons, encC_mk] at x4
      have hset1 : ∀ X Y, ((τ.objs.set ox X).set (σ.objs.length + 1) Y)[σ.objs.length + 1]? = some Y := fun X Y => List.getElem?_set_self (by rw [List.length_set]; omega)
      have hx3 : ∀ X, (τ.objs.set ox X)[σ.objs.length + 1]? = some (.cells [.v (.int .i64 0), .v (.int .i64 0), .v (.str []), .v (.str []), .v .snil, .v .snil]) := fun X => by rw [List.getElem?_set_ne (by omega), x3]
      have hx4 : ∀ X, (τ.objs.set ox X)[σ.objs.length + 2]? = τ.objs[σ.objs.length + 2]? := fun X => List.getElem?_set_ne (by omega)
      simp -implicitDefEqProofs (maxSteps := 2000000) (disch := omega) [-getElem?_pos, hx3, hx4, x3, x4, z1, z2, hset1]
      refine ⟨by omega, by rw [hfl2]; omega, ?_⟩
      have hpp := putPart (wkL l w1).2.fs w.fs.length (.mk k3 n3 s3 t3 ns3 l3) restx (by omega)
      simp only [coV_mk, putAt, List.map_cons, List.map_nil, List.length_cons, List.length_nil, Nat.zero_add, Nat.reduceAdd, List.cons_append, List.nil_append, List.append_assoc] at hpp
      have hwk : wk (.mk 7 n s t ns l) w = (.mk 7 w.fs.length s t ns (wkL l w1).1, ⟨setPart (wkL l w1).2.fs w.fs.length (.mk k3 n3 s3 t3 ns3 l3), (wkL l w1).2.bad⟩) := by rw [hw1] at hr ⊢; simp [wk, hk, hr]
      rw [hpp]
      refine ⟨.v (encC (wk (.mk 7 n s t ns l) w).1), _, weakR_le ?_, ⟨rfl, ox, capx, restx, ?_, ⟨?_, fun j hj h1 h2 => ?_, x6.toks⟩, ?_⟩⟩
      · rw [hwk, encC_coV, coV_mk, hr, List.map_cons, encC_mk]
        exact le_coV
      · rw [hwk]
        refine ⟨?_, ?_, z3, ?_, ?_⟩
        · dsimp only
          rw [List.getElem?_set_ne (by omega), List.getElem?_set_ne (by omega), setPart_len]
          exact z1
        · dsimp only
          rw [List.getElem?_set_ne (by omega), List.getElem?_set_self zol]
        · rw [setPart_len]
          exact z4
        · rw [setPart_len]
          exact z5
      · dsimp only
        rw [List.length_set, List.length_set]
        omega
      · dsimp only
        rw [List.getElem?_set_ne (by omega), List.getElem?_set_ne (by omega)]
        exact x6.objs j hj h1 h2
      · omega




set_option maxHeartbeats 2000000 in
theorem rwalk7b {n : Int} {s t : Str} {ns : List Str} {l : List Co} (hl1 : ¬ 1 < l.length) (ih : ∀ x ∈ l, RWalkOk x) : RWalkOk (.mk 7 n s t ns l) := by
  have hk : isFun 7 = true := by decide
  intro c o cap rest w σ he hw hC
  have hC0 := hC
  obtain ⟨hc, ho, hne, hfit, hroom⟩ := hC
  have hcl := (List.getElem?_eq_some_iff.1 hc).1
  have hol := (List.getElem?_eq_some_iff.1 ho).1
  have hnl := nsz_len ns
  have hll := cszL_len l
  have he' := he
  have hw' := hw
  simp only [csz] at he' hw'
  have he2 : csz (.mk 4 0 t [] [] (l.take 1)) ≤ 1048576 := by
    have := cszL_take l 1
    simp only [csz, nsz, List.length_nil]
    omega
  have hfr := fun σ => k_RFree (.mk 4 0 t [] [] (l.take 1)) (σ := σ) he2
  have hFl : (ofS (fvs (.mk 4 0 t [] [] (l.take 1)))).length ≤ 1048576 := by
    have h1 := ofS_len (fvs (.mk 4 0 t [] [] (l.take 1)))
    have h2 := fvs_len (.mk 4 0 t [] [] (l.take 1))
    omega
  have hFp : (ofS (fvs (.mk 4 0 t [] [] (l.take 1)))).filter (fun y => !decide (y = s)) = capsOf (.mk 7 n s t ns l) := by simp [capsOf]
  obtain ⟨F, hF⟩ : ∃ F, F = ofS (fvs (.mk 4 0 t [] [] (l.take 1))) := ⟨_, rfl⟩
  rw [← hF] at hfr hFp hFl
  have htk : l.take 1 = l := List.take_of_length_le (by omega)
  rw [htk] at hfr
  rw [encC_mk] at hfr ⊢
  have le1 : D.Le (.v (.agg [.int .i64 4, .int .i64 0, .str t, .str [], .snil, .sl (some 6) false (l.map encC)])) (.v (.agg [.int .i64 4, .int .i64 0, .str t, .str [], .sl none false (([] : List Str).map .str), .sl (some 6) false (l.map encC)])) :=
    VLe.d (.agg ⟨.refl _, .refl _, .refl _, .refl _, .snil, .refl _, trivial⟩ (by simp))
  refine acalls_fit Try.func36 (by kernel_rfl) c36m rfl (by simp [a36m]) fun hf => ?_
  clear hf
  have hl1i : ¬ (1 : Int) < l.length := by omega
  simp -implicitDefEqProofs (maxSteps := 2000000) (disch := omega) [-getElem?_pos, a36m, List.getElem?_append_left, hc, hl1i]
  refine ((hfr _).arg1 le1).then fun r hr => ?_
  subst hr
  obtain ⟨A, a0, a1, a2, a3⟩ := filts [] (fun y : Str => !decide (y = s)) F
  simp only [List.nil_append, List.length_nil, Nat.zero_add] at a1 a2 a3
  simp -implicitDefEqProofs (maxSteps := 2000000) (disch := omega) [-getElem?_pos]
  obtain ⟨TS, hTS1, hTS2⟩ : ∃ TS, (F = [] → TS = σ.toks) ∧ (F ≠ [] → TS = σ.toks ++ [(A F.length).length]) := by
    by_cases hF0 : F = []
    · exact ⟨_, fun _ => rfl, fun h => absurd hF0 h⟩
    · exact ⟨_, fun h => absurd h hF0, fun _ => rfl⟩
  refine W_loop (α := Nat) 0 (fun i => F.length - i) (fun i => ⟨[(0, .ptr c 0), (3, .ptr σ.objs.length 0), (4, .ptr (σ.objs.length + 1) 0), (5, .ptr (σ.objs.length + 2) 0), (6, .v (.int .i64 w.fs.length)), (7, .ptr (σ.objs.length + 3) 0), (9, .v (vS F)), (10, .v (.int .i64 i))],
      if i < F.length then ⟨σ.objs ++ [.cells [.v (.int .i64 7), .v (.int .i64 n), .v (.str s), .v (.str t), .v (.sl none false (ns.map .str)), .v (.sl (some 6) false (l.map encC))], .cells [.v (.int .i64 0), .v (.int .i64 0), .v (.str []), .v (.str []), .v .snil, .v .snil], .cells [.v (.int .i64 7), .v (.int .i64 w.fs.length), .v (.str s), .v (.str t), .v (.sl none false (ns.map .str)), .v .snil], .cells [.v (.str s), .v (.str t), .tsl σ.toks.length none ((A i).map .str), .v (.int .i64 0), .v (.int .i64 0), .v (.str []), .v (.str []), .v .snil, .v .snil], .cells [.v (.int .i64 4), .v (.int .i64 0), .v (.str t), .v (.str []), .v .snil, .v (.sl (some 6) false (l.map encC))]], σ.toks ++ [(A i).length]⟩
      else ⟨σ.objs ++ [.cells [.v (.int .i64 7), .v (.int .i64 n), .v (.str s), .v (.str t), .v (.sl none false (ns.map .str)), .v (.sl (some 6) false (l.map encC))], .cells [.v (.int .i64 0), .v (.int .i64 0), .v (.str []), .v (.str []), .v .snil, .v .snil], .cells [.v (.int .i64 7), .v (.int .i64 w.fs.length), .v (.str s), .v (.str t), .v (.sl none false (ns.map .str)), .v .snil], .cells [.v (.str s), .v (.str t), .v (vS (A F.length)), .v (.int .i64 0), .v (.int .i64 0), .v (.str []), .v (.str []), .v .snil, .v .snil], .cells [.v (.int .i64 4), .v (.int .i64 0), .v (.str t), .v (.str []), .v .snil, .v (.sl (some 6) false (l.map encC))]], TS⟩⟩) (fun i => i ≤ F.length) ?_ (by simp) fun i hi => ?_
  · by_cases hF0 : F = []
    · rw [if_neg (by simp [hF0]), hTS1 hF0]
      refine Weak.cellLe (σ.objs.length + 3) 2 (.v (vS (A F.length))) [.v (.str s), .v (.str t), .v .snil, .v (.int .i64 0), .v (.int .i64 0), .v (.str []), .v (.str []), .v .snil, .v .snil] (by simp) rfl ?_ (by simp) (by simp)
      rw [a2 _ (Nat.le_refl _), hF0]
      exact .snil
    · rw [if_pos (List.length_pos_iff.2 hF0)]
      exact .tokE (σ.objs.length + 3) 2 none [.v (.str s), .v (.str t), .v .snil, .v (.int .i64 0), .v (.int .i64 0), .v (.str []), .v (.str []), .v .snil, .v .snil] (by simp) rfl (by simp [a0]) (by simp)
  by_cases hil : i < F.length
  · rw [if_pos hil]
    obtain ⟨y, hy⟩ : ∃ y, F[i]? = some y := ⟨_, List.getElem?_eq_getElem hil⟩
    have hA1 := a1 i y hy
    have hA3 := a3 i
    simp -implicitDefEqProofs (maxSteps := 2000000) (disch := omega) [-getElem?_pos, hil, hy]
    refine .mk (fun hys => ?_) fun hys => ?_
    · have hA2 : A (i + 1) = A i := by rw [hA1]; simp [hys]
      simp -implicitDefEqProofs (maxSteps := 2000000) (disch := omega) [-getElem?_pos, hil, hy]
      refine ⟨i + 1, by omega, by show F.length - (i + 1) < F.length - i; omega, ?_⟩
      dsimp only
      by_cases hn : i + 1 < F.length
      · rw [if_pos hn]
        exact .eq2 (by simp [hA2]) (by simp [hA2])
      · rw [if_neg hn]
        have hAe : A F.length = A i := by rw [← hA2]; congr 1; omega
        have hF0 : F ≠ [] := by rintro rfl; simp at hil
        refine Weak.cellLe (σ.objs.length + 3) 2 (.v (vS (A F.length))) [.v (.str s), .v (.str t), .tsl σ.toks.length none ((A i).map .str), .v (.int .i64 0), .v (.int .i64 0), .v (.str []), .v (.str []), .v .snil, .v .snil] (by simp) rfl ?_ (by simp [hTS2 hF0, hAe]) (by simp)
        rw [hAe]
        exact .tsl
    · have hA2 : A (i + 1) = A i ++ [y] := by rw [hA1]; simp [hys]
      clear hA1
      have hA1 := hA2
      simp -implicitDefEqProofs (maxSteps := 2000000) (disch := omega) [-getElem?_pos, hil, hy]
      refine ⟨by omega, i + 1, by omega, by show F.length - (i + 1) < F.length - i; omega, ?_⟩
      dsimp only
      by_cases hn : i + 1 < F.length
      · rw [if_pos hn]
        exact .eq2 (by simp [hA1]) (by simp [hA1])
      · rw [if_neg hn]
        have hAe : A F.length = A i ++ [y] := by rw [← hA1]; congr 1; omega
        have hF0 : F ≠ [] := by rintro rfl; simp at hil
        refine Weak.cellLe (σ.objs.length + 3) 2 (.v (vS (A F.length))) [.v (.str s), .v (.str t), .tsl σ.toks.length none ((A i).map .str ++ [.str y]), .v (.int .i64 0), .v (.int .i64 0), .v (.str []), .v (.str []), .v .snil, .v .snil] (by simp) rfl ?_ (by simp [hTS2 hF0, hAe]) (by simp)
        rw [hAe]
        rw [show vS (A i ++ [y]) = .sl none false ((A i).map .str ++ [.str y]) by simp]
        exact .tsl


  rw [if_neg hil]
  obtain ⟨OS0, hOS0⟩ : ∃ OS0, OS0 = σ.objs ++ [Ob.cells [.v (.int .i64 7), .v (.int .i64 n), .v (.str s), .v (.str t), .v (.sl none false (ns.map .str)), .v (.sl (some 6) false (l.map encC))], .cells [.v (.int .i64 0), .v (.int .i64 0), .v (.str []), .v (.str []), .v .snil, .v .snil], .cells [.v (.int .i64 7), .v (.int .i64 w.fs.length), .v (.str s), .v (.str t), .v (.sl none false (ns.map .str)), .v .snil], .cells [.v (.str s), .v (.str t), .v (vS (A F.length)), .v (.int .i64 0), .v (.int .i64 0), .v (.str []), .v (.str []), .v .snil, .v .snil], .cells [.v (.int .i64 4), .v (.int .i64 0), .v (.str t), .v (.str []), .v .snil, .v (.sl (some 6) false (l.map encC))]] := ⟨_, rfl⟩
  rw [← hOS0]
  have q0 : OS0[σ.objs.length]? = some (.cells [.v (.int .i64 7), .v (.int .i64 n), .v (.str s), .v (.str t), .v (.sl none false (ns.map .str)), .v (.sl (some 6) false (l.map encC))]) := by rw [hOS0]; simp
  have q1 : OS0[σ.objs.length + 1]? = some (.cells [.v (.int .i64 0), .v (.int .i64 0), .v (.str []), .v (.str []), .v .snil, .v .snil]) := by rw [hOS0]; simp
  have q2 : OS0[σ.objs.length + 2]? = some (.cells [.v (.int .i64 7), .v (.int .i64 w.fs.length), .v (.str s), .v (.str t), .v (.sl none false (ns.map .str)), .v .snil]) := by rw [hOS0]; simp
  have q3 : OS0[σ.objs.length + 3]? = some (.cells [.v (.str s), .v (.str t), .v (vS (A F.length)), .v (.int .i64 0), .v (.int .i64 0), .v (.str []), .v (.str []), .v .snil, .v .snil]) := by rw [hOS0]; simp
  have qo : ∀ i, i < σ.objs.length → OS0[i]? = σ.objs[i]? := fun i hi => by rw [hOS0]; exact List.getElem?_append_left hi
  have ql : OS0.length = σ.objs.length + 5 := by rw [hOS0]; simp
  have qc : OS0[c]? = some (.cells [.msl o 0 w.fs.length (some 9) (some cap)]) := by rw [qo c hcl, hc]
  have qp : OS0[o]? = some (.cells (funD w.fs ++ rest)) := by rw [qo o hol, ho]
  clear hOS0
  have hTS : ∃ ts, TS = σ.toks ++ ts := by
    by_cases hF0 : F = []
    · exact ⟨[], by rw [hTS1 hF0]; simp⟩
    · exact ⟨_, hTS2 hF0⟩
  have hfd := funD_len w.fs
  rw [a2 _ (Nat.le_refl _), hFp] at q3
  clear hTS1 hTS2 a0 a1 a2 a3
  have qcl : c < OS0.length := by omega
  have qpl : o < OS0.length := by omega
  simp -implicitDefEqProofs (maxSteps := 2000000) (disch := omega) [-getElem?_pos, hil, qc, q3, qp]
  refine .mk (fun hcp => ?_) fun hcp => ?_
  · simp -implicitDefEqProofs (maxSteps := 2000000) (disch := omega) [-getElem?_pos, hil, qc, q3, qp, qcl, qpl]
    refine ⟨by omega, ?_⟩
    have hX : funD w.fs ++ (List.map D.v (V.flat [V.agg [V.str s, V.str t, vS (capsOf (.mk 7 n s t ns l)), V.int IntKind.i64 0, V.int IntKind.i64 0, V.str [], V.str [], V.snil, V.snil]]) ++ List.drop (w.fs.length * 9 + (V.flat [V.agg [V.str s, V.str t, vS (capsOf (.mk 7 n s t ns l)), V.int IntKind.i64 0, V.int IntKind.i64 0, V.str [], V.str [], V.snil, V.snil]]).length) (funD w.fs ++ rest)) = funD (w.fs ++ [fuOf (.mk 7 n s t ns l)]) ++ rest.drop 9 := by
      rw [funD_app, funD1]
      simp [fuOf, fuV, partV, capV, V.flat, drop_fun]
    rw [hX]
    obtain ⟨OS, hOS⟩ : ∃ OS, OS = (OS0.set o (Ob.cells (funD (w.fs ++ [fuOf (.mk 7 n s t ns l)]) ++ rest.drop 9))).set c (Ob.cells [D.msl o 0 (w.fs.length + 1) (some 9) (some cap)]) := ⟨_, rfl⟩
    rw [← hOS]
    have hget : ∀ i, i ≠ c → i ≠ o → OS[i]? = OS0[i]? := fun i h1 h2 => by rw [hOS, List.getElem?_set_ne (Ne.symm h1), List.getElem?_set_ne (Ne.symm h2)]
    have hOl : OS.length = OS0.length := by rw [hOS]; simp
    have hCO0 : CloR ⟨OS, TS⟩ c o cap (rest.drop 9) (w.fs ++ [fuOf (.mk 7 n s t ns l)]) := by
      refine ⟨?_, ?_, hne, by simpa using hcp, by simp; omega⟩
      · dsimp only
        rw [hOS, List.getElem?_set_self (by rw [List.length_set]; omega)]
        simp
      · dsimp only
        rw [hOS, List.getElem?_set_ne (Ne.symm hne), List.getElem?_set_self (by omega)]
    have ho20 : o = o ∨ σ.objs.length + 3 ≤ o := .inl rfl
    obtain ⟨cap1, hcap1⟩ : ∃ cap1, cap1 = cap := ⟨_, rfl⟩
    obtain ⟨rest1, hrest1⟩ : ∃ rest1, rest1 = rest.drop 9 := ⟨_, rfl⟩
    obtain ⟨o1, ho1⟩ : ∃ o1, o1 = o := ⟨_, rfl⟩
    rw [← hcap1, ← hrest1, ← ho1] at hCO0
    have ho2 : o1 = o ∨ σ.objs.length + 3 ≤ o1 := .inl ho1
    have hO0 : OS[σ.objs.length]? = some (.cells [.v (.int .i64 7), .v (.int .i64 n), .v (.str s), .v (.str t), .v (.sl none false (ns.map .str)), .v (.sl (some 6) false (l.map encC))]) := by rw [hget _ (by omega) (by omega), q0]
    have hO1 : OS[σ.objs.length + 1]? = some (.cells [.v (.int .i64 0), .v (.int .i64 0), .v (.str []), .v (.str []), .v .snil, .v .snil]) := by rw [hget _ (by omega) (by omega), q1]
    have hO2 : OS[σ.objs.length + 2]? = some (.cells [.v (.int .i64 7), .v (.int .i64 w.fs.length), .v (.str s), .v (.str t), .v (.sl none false (ns.map .str)), .v .snil]) := by rw [hget _ (by omega) (by omega), q2]
    have hFO : Frm σ ⟨OS, TS⟩ c o := ⟨by dsimp only; omega, fun i hi h1 h2 => by dsimp only; rw [hget i (by omega) (by omega), qo i hi], hTS⟩
    have hLO : σ.objs.length + 3 ≤ OS.length := by omega
    clear hOS hget hX
    obtain ⟨w1, hw1⟩ : ∃ w1 : Ws, w1 = ⟨w.fs ++ [fuOf (.mk 7 n s t ns l)], w.bad || badOf (.mk 7 n s t ns l)⟩ := ⟨_, rfl⟩
    have hCO : CloR ⟨OS, TS⟩ c o1 cap1 rest1 w1.fs := by rw [hw1]; exact hCO0
    have hwl : 6 * w1.fs.length + cszL l ≤ 1048600 := by rw [hw1]; simp; omega
    have hos : o < σ.objs.length := hol
    have hwf : w.fs.length < w1.fs.length := by rw [hw1]; simp
    refine W_loop (α := WSt) ⟨⟨OS.set (σ.objs.length + 2) (.cells [.v (.int .i64 7), .v (.int .i64 (w.fs.length : Int)), .v (.str s), .v (.str t), .v (.sl none false (ns.map .str)), .tsl TS.length (some 6) []]), TS ++ [0]⟩, 0, o1, cap1, rest1⟩ (fun x => l.length - x.i)
      (fun x => ⟨[(0, .ptr c 0), (3, .ptr σ.objs.length 0), (4, .ptr (σ.objs.length + 1) 0), (5, .ptr (σ.objs.length + 2) 0), (6, .v (.int .i64 (w.fs.length : Int))), (11, .v (.int .i64 x.i))], x.τ⟩)
      (RIn σ c o TS.length 7 n (w.fs.length : Int) s t ns l w1) (.tokE (σ.objs.length + 2) 5 (some 6) _ hO2 rfl rfl (by simp))
      ⟨by simp, ?_, ?_, ?_, ?_, ?_, ?_, ho2, ?_⟩ fun x hx => ?_
    · exact hCO.mono (List.getElem?_set_ne (by omega)) (List.getElem?_set_ne (by omega))
    · dsimp only
      rw [List.getElem?_set_ne (by omega)]
      exact hO0
    · dsimp only
      rw [List.getElem?_set_ne (by omega)]
      exact hO1
    · dsimp only
      rw [List.getElem?_set_self (by omega)]
      simp [wkL]
    · simp [wkL]
    · obtain ⟨f1, f2, ts, f3⟩ := hFO
      refine ⟨by simp; omega, fun i hi h1 h2 => ?_, ts ++ [0], by dsimp only at f3 ⊢; rw [f3, List.append_assoc]⟩
      dsimp only
      rw [List.getElem?_set_ne (by omega)]
      exact f2 i hi h1 h2
    · dsimp only
      rw [List.length_set]
      exact hLO
    obtain ⟨τ, i, ox, capx, restx⟩ := x
    obtain ⟨x1, x2, x0, x3, x4, x5, x6, x7, x8⟩ := hx
    dsimp only at x1 x2 x0 x3 x4 x5 x6 x7 x8 ⊢
    simp -implicitDefEqProofs (maxSteps := 2000000) (disch := omega) [-getElem?_pos, x0]
    refine .mk (fun h => ?_) fun h => ?_
    · simp -implicitDefEqProofs (maxSteps := 2000000) (disch := omega) [-getElem?_pos, x0]
      refine ⟨by omega, ?_⟩
      intro x hx
      have hx1 := cszL_mem (List.mem_of_getElem? hx)
      have hwg := wkL_get (w := w1) hx
      have hwn := wkL_len (l.take i) w1
      have hcg := cszL_get hx
      have hct := cszL_take l (i + 1)
      have hcall := fun σ h => ih x (List.mem_of_getElem? hx) (c := c) (o := ox) (cap := capx) (rest := restx) (w := (wkL (l.take i) w1).2) (σ := σ) (by omega) (by omega) h
      have zcl := (List.getElem?_eq_some_iff.1 x2.hc).1
      have zol := (List.getElem?_eq_some_iff.1 x2.ho).1
      have zne := x2.ne
      refine (hcall _ x2).mono fun r σ' hr => ?_
      obtain ⟨rfl, o', cap', rest', hC', hF', ho'⟩ := hr
      obtain ⟨g1, g2, ts, g3⟩ := hF'
      have y0 : σ'.objs[σ.objs.length]? = some (.cells [.v (.int .i64 7), .v (.int .i64 n), .v (.str s), .v (.str t), .v (.sl none false (ns.map .str)), .v (.sl (some 6) false (l.map encC))]) := by
        rw [g2 _ (by omega) (by omega) (by omega)]
        exact x0
      have y4 : σ'.objs[σ.objs.length + 2]? = some (.cells [.v (.int .i64 7), .v (.int .i64 (w.fs.length : Int)), .v (.str s), .v (.str t), .v (.sl none false (ns.map .str)), .tsl TS.length (some 6) ((wkL (l.take i) w1).1.map encC)]) := by
        rw [g2 _ (by omega) (by omega) (by omega)]
        exact x4
      have y3 : σ'.objs[σ.objs.length + 1]? = some (.cells [.v (.int .i64 0), .v (.int .i64 0), .v (.str []), .v (.str []), .v .snil, .v .snil]) := by
        rw [g2 _ (by omega) (by omega) (by omega)]
        exact x3
      have ytl := (List.getElem?_eq_some_iff.1 x5).1
      have y5 : σ'.toks[TS.length]? = some (wkL (l.take i) w1).1.length := by
        rw [g3, List.getElem?_append_left ytl]
        exact x5
      have y4' : ∀ r, (σ'.objs ++ r)[σ.objs.length + 2]? = some (.cells [.v (.int .i64 7), .v (.int .i64 (w.fs.length : Int)), .v (.str s), .v (.str t), .v (.sl none false (ns.map .str)), .tsl TS.length (some 6) ((wkL (l.take i) w1).1.map encC)]) := fun r => by rw [List.getElem?_append_left (by omega), y4]
      obtain ⟨p, hp⟩ : ∃ p, p = (wk x (wkL (l.take i) w1).2).1 := ⟨_, rfl⟩
      have hpe : encC (wk x (wkL (l.take i) w1).2).1 = encC p := by rw [hp]
      rw [hpe]
      obtain ⟨p0, hp0⟩ : ∃ p0, p0 = encC p := ⟨_, rfl⟩
      rw [← hp] at hwg
      have hp1 : encC p = .agg (coV p) := encC_coV p
      cases p with
      | mk k3 n3 s3 t3 ns3 l3 =>
      rw [encC_mk] at hp0 ⊢
      simp -implicitDefEqProofs (maxSteps := 2000000) (disch := omega) [-getElem?_pos, y4', y5]
      have hol' := (List.getElem?_eq_some_iff.1 hC'.ho).1
      have hTl : σ.toks.length ≤ TS.length := by
        obtain ⟨ts0, h0⟩ := hFO.toks
        have h1 := congrArg List.length h0
        simp only [List.length_append] at h1
        omega
      refine ⟨by rw [hwn.2.2, List.length_take]; omega, ⟨⟨_, _⟩, i + 1, o', cap', rest'⟩, ⟨by dsimp only; omega, ?_, ?_, ?_, ?_, ?_, ⟨?_, fun j hj h1 h2 => ?_, ?_⟩, ?_, ?_⟩, by dsimp only; omega, .eq (by simp)⟩
      · dsimp only
        rw [hwg]
        exact hC'.mono (by dsimp only; rw [List.getElem?_append_left (by rw [List.length_set]; omega), List.getElem?_set_ne (by omega)]) (by dsimp only; rw [List.getElem?_append_left (by rw [List.length_set]; omega), List.getElem?_set_ne (by omega)])
      · dsimp only
        rw [List.getElem?_append_left (by rw [List.length_set]; omega), List.getElem?_set_ne (by omega)]
        exact y0
      · dsimp only
        rw [List.getElem?_append_left (by rw [List.length_set]; omega), List.getElem?_set_ne (by omega)]
        exact y3
      · dsimp only
        rw [List.getElem?_append_left (by rw [List.length_set]; omega), List.getElem?_set_self (by omega), hwg]
        simp [encC_mk]
      · dsimp only
        rw [List.getElem?_set_self (by rw [g3, List.length_append]; omega), hwg]
        simp
      · dsimp only
        rw [List.length_append, List.length_set]
        omega
      · dsimp only
        rw [List.getElem?_append_left (by rw [List.length_set]; omega), List.getElem?_set_ne (by omega), g2 j (by omega) h1 (by omega)]
        exact x6.objs j hj h1 h2
      · obtain ⟨ts1, h1⟩ := x6.toks
        refine ⟨(ts1 ++ ts).set (TS.length - σ.toks.length) ((wkL (l.take i) w1).1.length + 1), ?_⟩
        dsimp only
        rw [g3, h1, List.append_assoc, List.set_append_right _ _ hTl]
      · dsimp only
        omega
      · dsimp only
        rw [List.length_append, List.length_set]
        omega

    have hil : i = l.length := by omega
    subst hil
    rw [List.take_length] at x2 x4 x5
    have hwn := wkL_len l w1
    have hwc := hwn.2.2
    obtain ⟨z1, z2, z3, z4, z5⟩ := x2
    have zcl := (List.getElem?_eq_some_iff.1 z1).1
    have zol := (List.getElem?_eq_some_iff.1 z2).1
    have hfl2 := funD_len (wkL l w1).2.fs
    have hge : (0 : Int) ≤ w.fs.length := by omega
    cases hr : (wkL l w1).1 with
    | nil =>
      rw [hr] at x4
      simp -implicitDefEqProofs (maxSteps := 2000000) (disch := omega) [-getElem?_pos, x3, x4]
      have hwk : wk (.mk 7 n s t ns l) w = (.mk 7 w.fs.length s t ns [], (wkL l w1).2) := by rw [hw1] at hr ⊢; simp [wk, hk, hr]
      refine ⟨.v (encC (wk (.mk 7 n s t ns l) w).1), _, weakR_le ?_, ⟨rfl, ox, capx, restx, ?_, ⟨?_, fun j hj h1 h2 => ?_, x6.toks⟩, ?_⟩⟩
      · rw [hwk, encC_coV, coV_mk]
        exact le_coV
      · rw [hwk]
        exact CloR.mono ⟨z1, z2, z3, z4, z5⟩ (List.getElem?_set_ne (by omega)) (List.getElem?_set_ne (by omega))
      · dsimp only
        rw [List.length_set]
        omega
      · dsimp only
        rw [List.getElem?_set_ne (by omega)]
        exact x6.objs j hj h1 h2
      · omega
    | cons y r =>
      rw [hr] at x4
      obtain ⟨y0, hy0⟩ : ∃ y0, y0 = y := ⟨_, rfl⟩
      cases y with
      | mk k3 n3 s3 t3 ns3 l3 =>
      rw [List.map_cons, encC_mk] at x4
      have hset1 : ∀ X Y, ((τ.objs.set ox X).set (σ.objs.length + 1) Y)[σ.objs.length + 1]? = some Y := fun X Y => List.getElem?_set_self (by rw [List.length_set]; omega)
      have hx3 : ∀ X, (τ.objs.set ox X)[σ.objs.length + 1]? = some (.cells [.v (.int .i64 0), .v (.int .i64 0), .v (.str []), .v (.str []), .v .snil, .v .snil]) := fun X => by rw [List.getElem?_set_ne (by omega), x3]
      have hx4 : ∀ X, (τ.objs.set ox X)[σ.objs.length + 2]? = τ.objs[σ.objs.length + 2]? := fun X => List.getElem?_set_ne (by omega)
      simp -implicitDefEqProofs (maxSteps := 2000000) (disch := omega) [-getElem?_pos, hx3, hx4, x3, x4, z1, z2, hset1]
      refine ⟨by omega, by rw [hfl2]; omega, ?_⟩
      have hpp := putPart (wkL l w1).2.fs w.fs.length (.mk k3 n3 s3 t3 ns3 l3) restx (by omega)
      simp only [coV_mk, putAt, List.map_cons, List.map_nil, List.length_cons, List.length_nil, Nat.zero_add, Nat.reduceAdd, List.cons_append, List.nil_append, List.append_assoc] at hpp
      have hwk : wk (.mk 7 n s t ns l) w = (.mk 7 w.fs.length s t ns (wkL l w1).1, ⟨setPart (wkL l w1).2.fs w.fs.length (.mk k3 n3 s3 t3 ns3 l3), (wkL l w1).2.bad⟩) := by rw [hw1] at hr ⊢; simp [wk, hk, hr]
      rw [hpp]
      refine ⟨.v (encC (wk (.mk 7 n s t ns l) w).1), _, weakR_le ?_, ⟨rfl, ox, capx, restx, ?_, ⟨?_, fun j hj h1 h2 => ?_, x6.toks⟩, ?_⟩⟩
      · rw [hwk, encC_coV, coV_mk, hr, List.map_cons, encC_mk]
        exact le_coV
      · rw [hwk]
        refine ⟨?_, ?_, z3, ?_, ?_⟩
        · dsimp only
          rw [List.getElem?_set_ne (by omega), List.getElem?_set_ne (by omega), setPart_len]
          exact z1
        · dsimp only
          rw [List.getElem?_set_ne (by omega), List.getElem?_set_self zol]
        · rw [setPart_len]
          exact z4
        · rw [setPart_len]
          exact z5
      · dsimp only
        rw [List.length_set, List.length_set]
        omega
      · dsimp only
        rw [List.getElem?_set_ne (by omega), List.getElem?_set_ne (by omega)]
        exact x6.objs j hj h1 h2
      · omega



  · simp -implicitDefEqProofs (maxSteps := 2000000) (disch := omega) [-getElem?_pos, hil, qc, q3, qp, qcl, qpl]
    refine ⟨by omega, by omega, ?_⟩
    intro c' hc1 hc2
    have qc' : ∀ r, (OS0 ++ r)[c]? = some (.cells [.msl o 0 w.fs.length (some 9) (some cap)]) := fun r => by rw [List.getElem?_append_left qcl, qc]
    simp -implicitDefEqProofs (maxSteps := 2000000) (disch := omega) [-getElem?_pos, qc']
    have hX : funD w.fs ++ (List.map D.v (V.flat [V.agg [V.str s, V.str t, vS (capsOf (.mk 7 n s t ns l)), V.int IntKind.i64 0, V.int IntKind.i64 0, V.str [], V.str [], V.snil, V.snil]]) ++ List.replicate ((c' - (w.fs.length + 1)) * 9) D.junk) = funD (w.fs ++ [fuOf (.mk 7 n s t ns l)]) ++ List.replicate ((c' - (w.fs.length + 1)) * 9) D.junk := by
      rw [funD_app, funD1]
      simp [fuOf, fuV, partV, capV, V.flat]
    rw [hX]
    obtain ⟨OS, hOS⟩ : ∃ OS, OS = OS0.set c (Ob.cells [D.msl OS0.length 0 (w.fs.length + 1) (some 9) (some c')]) ++ [Ob.cells (funD (w.fs ++ [fuOf (.mk 7 n s t ns l)]) ++ List.replicate ((c' - (w.fs.length + 1)) * 9) D.junk)] := ⟨_, rfl⟩
    rw [← hOS]
    have hget : ∀ i, i < OS0.length → i ≠ c → OS[i]? = OS0[i]? := fun i h0 h1 => by rw [hOS, List.getElem?_append_left (by simpa using h0), List.getElem?_set_ne (Ne.symm h1)]
    have hOl : OS.length = OS0.length + 1 := by rw [hOS]; simp
    have hCO0 : CloR ⟨OS, TS⟩ c OS0.length c' (List.replicate ((c' - (w.fs.length + 1)) * 9) D.junk) (w.fs ++ [fuOf (.mk 7 n s t ns l)]) := by
      refine ⟨?_, ?_, by omega, by simpa using hc1, by simp; omega⟩
      · dsimp only
        rw [hOS, List.getElem?_append_left (by simpa using qcl), List.getElem?_set_self qcl]
        simp
      · dsimp only
        rw [hOS, List.getElem?_append_right (by simp)]
        simp
    obtain ⟨cap1, hcap1⟩ : ∃ cap1, cap1 = c' := ⟨_, rfl⟩
    obtain ⟨rest1, hrest1⟩ : ∃ rest1, rest1 = List.replicate ((c' - (w.fs.length + 1)) * 9) D.junk := ⟨_, rfl⟩
    obtain ⟨o1, ho1⟩ : ∃ o1, o1 = OS0.length := ⟨_, rfl⟩
    rw [← hrest1, ← hcap1, ← ho1] at hCO0
    have ho2 : o1 = o ∨ σ.objs.length + 3 ≤ o1 := .inr (by omega)
    have hO0 : OS[σ.objs.length]? = some (.cells [.v (.int .i64 7), .v (.int .i64 n), .v (.str s), .v (.str t), .v (.sl none false (ns.map .str)), .v (.sl (some 6) false (l.map encC))]) := by rw [hget _ (by omega) (by omega), q0]
    have hO1 : OS[σ.objs.length + 1]? = some (.cells [.v (.int .i64 0), .v (.int .i64 0), .v (.str []), .v (.str []), .v .snil, .v .snil]) := by rw [hget _ (by omega) (by omega), q1]
    have hO2 : OS[σ.objs.length + 2]? = some (.cells [.v (.int .i64 7), .v (.int .i64 w.fs.length), .v (.str s), .v (.str t), .v (.sl none false (ns.map .str)), .v .snil]) := by rw [hget _ (by omega) (by omega), q2]
    have hFO : Frm σ ⟨OS, TS⟩ c o := ⟨by dsimp only; omega, fun i hi h1 h2 => by dsimp only; rw [hget i (by omega) (by omega), qo i hi], hTS⟩
    have hLO : σ.objs.length + 3 ≤ OS.length := by omega
    clear hOS hget hX
    obtain ⟨w1, hw1⟩ : ∃ w1 : Ws, w1 = ⟨w.fs ++ [fuOf (.mk 7 n s t ns l)], w.bad || badOf (.mk 7 n s t ns l)⟩ := ⟨_, rfl⟩
    have hCO : CloR ⟨OS, TS⟩ c o1 cap1 rest1 w1.fs := by rw [hw1]; exact hCO0
    have hwl : 6 * w1.fs.length + cszL l ≤ 1048600 := by rw [hw1]; simp; omega
    have hos : o < σ.objs.length := hol
    have hwf : w.fs.length < w1.fs.length := by rw [hw1]; simp
    refine W_loop (α := WSt) ⟨⟨OS.set (σ.objs.length + 2) (.cells [.v (.int .i64 7), .v (.int .i64 (w.fs.length : Int)), .v (.str s), .v (.str t), .v (.sl none false (ns.map .str)), .tsl TS.length (some 6) []]), TS ++ [0]⟩, 0, o1, cap1, rest1⟩ (fun x => l.length - x.i)
      (fun x => ⟨[(0, .ptr c 0), (3, .ptr σ.objs.length 0), (4, .ptr (σ.objs.length + 1) 0), (5, .ptr (σ.objs.length + 2) 0), (6, .v (.int .i64 (w.fs.length : Int))), (11, .v (.int .i64 x.i))], x.τ⟩)
      (RIn σ c o TS.length 7 n (w.fs.length : Int) s t ns l w1) (.tokE (σ.objs.length + 2) 5 (some 6) _ hO2 rfl rfl (by simp))
      ⟨by simp, ?_, ?_, ?_, ?_, ?_, ?_, ho2, ?_⟩ fun x hx => ?_
    · exact hCO.mono (List.getElem?_set_ne (by omega)) (List.getElem?_set_ne (by omega))
    · dsimp only
      rw [List.getElem?_set_ne (by omega)]
      exact hO0
    · dsimp only
      rw [List.getElem?_set_ne (by omega)]
      exact hO1
    · dsimp only
      rw [List.getElem?_set_self (by omega)]
      simp [wkL]
    · simp [wkL]
    · obtain ⟨f1, f2, ts, f3⟩ := hFO
      refine ⟨by simp; omega, fun i hi h1 h2 => ?_, ts ++ [0], by dsimp only at f3 ⊢; rw [f3, List.append_assoc]⟩
      dsimp only
      rw [List.getElem?_set_ne (by omega)]
      exact f2 i hi h1 h2
    · dsimp only
      rw [List.length_set]
      exact hLO
    obtain ⟨τ, i, ox, capx, restx⟩ := x
    obtain ⟨x1, x2, x0, x3, x4, x5, x6, x7, x8⟩ := hx
    dsimp only at x1 x2 x0 x3 x4 x5 x6 x7 x8 ⊢
    simp -implicitDefEqProofs (maxSteps := 2000000) (disch := omega) [-getElem?_pos, x0]
    refine .mk (fun h => ?_) fun h => ?_
    · simp -implicitDefEqProofs (maxSteps := 2000000) (disch := omega) [-getElem?_pos, x0]
      refine ⟨by omega, ?_⟩
      intro x hx
      have hx1 := cszL_mem (List.mem_of_getElem? hx)
      have hwg := wkL_get (w := w1) hx
      have hwn := wkL_len (l.take i) w1
      have hcg := cszL_get hx
      have hct := cszL_take l (i + 1)
      have hcall := fun σ h => ih x (List.mem_of_getElem? hx) (c := c) (o := ox) (cap := capx) (rest := restx) (w := (wkL (l.take i) w1).2) (σ := σ) (by omega) (by omega) h
      have zcl := (List.getElem?_eq_some_iff.1 x2.hc).1
      have zol := (List.getElem?_eq_some_iff.1 x2.ho).1
      have zne := x2.ne
      refine (hcall _ x2).mono fun r σ' hr => ?_
      obtain ⟨rfl, o', cap', rest', hC', hF', ho'⟩ := hr
      obtain ⟨g1, g2, ts, g3⟩ := hF'
      have y0 : σ'.objs[σ.objs.length]? = some (.cells [.v (.int .i64 7), .v (.int .i64 n), .v (.str s), .v (.str t), .v (.sl none false (ns.map .str)), .v (.sl (some 6) false (l.map encC))]) := by
        rw [g2 _ (by omega) (by omega) (by omega)]
        exact x0
      have y4 : σ'.objs[σ.objs.length + 2]? = some (.cells [.v (.int .i64 7), .v (.int .i64 (w.fs.length : Int)), .v (.str s), .v (.str t), .v (.sl none false (ns.map .str)), .tsl TS.length (some 6) ((wkL (l.take i) w1).1.map encC)]) := by
        rw [g2 _ (by omega) (by omega) (by omega)]
        exact x4
      have y3 : σ'.objs[σ.objs.length + 1]? = some (.cells [.v (.int .i64 0), .v (.int .i64 0), .v (.str []), .v (.str []), .v .snil, .v .snil]) := by
        rw [g2 _ (by omega) (by omega) (by omega)]
        exact x3
      have ytl := (List.getElem?_eq_some_iff.1 x5).1
      have y5 : σ'.toks[TS.length]? = some (wkL (l.take i) w1).1.length := by
        rw [g3, List.getElem?_append_left ytl]
        exact x5
      have y4' : ∀ r, (σ'.objs ++ r)[σ.objs.length + 2]? = some (.cells [.v (.int .i64 7), .v (.int .i64 (w.fs.length : Int)), .v (.str s), .v (.str t), .v (.sl none false (ns.map .str)), .tsl TS.length (some 6) ((wkL (l.take i) w1).1.map encC)]) := fun r => by rw [List.getElem?_append_left (by omega), y4]
      obtain ⟨p, hp⟩ : ∃ p, p = (wk x (wkL (l.take i) w1).2).1 := ⟨_, rfl⟩
      have hpe : encC (wk x (wkL (l.take i) w1).2).1 = encC p := by rw [hp]
      rw [hpe]
      obtain ⟨p0, hp0⟩ : ∃ p0, p0 = encC p := ⟨_, rfl⟩
      rw [← hp] at hwg
      have hp1 : encC p = .agg (coV p) := encC_coV p
      cases p with
      | mk k3 n3 s3 t3 ns3 l3 =>
      rw [encC_mk] at hp0 ⊢
      simp -implicitDefEqProofs (maxSteps := 2000000) (disch := omega) [-getElem?_pos, y4', y5]
      have hol' := (List.getElem?_eq_some_iff.1 hC'.ho).1
      have hTl : σ.toks.length ≤ TS.length := by
        obtain ⟨ts0, h0⟩ := hFO.toks
        have h1 := congrArg List.length h0
        simp only [List.length_append] at h1
        omega
      refine ⟨by rw [hwn.2.2, List.length_take]; omega, ⟨⟨_, _⟩, i + 1, o', cap', rest'⟩, ⟨by dsimp only; omega, ?_, ?_, ?_, ?_, ?_, ⟨?_, fun j hj h1 h2 => ?_, ?_⟩, ?_, ?_⟩, by dsimp only; omega, .eq (by simp)⟩
      · dsimp only
        rw [hwg]
        exact hC'.mono (by dsimp only; rw [List.getElem?_append_left (by rw [List.length_set]; omega), List.getElem?_set_ne (by omega)]) (by dsimp only; rw [List.getElem?_append_left (by rw [List.length_set]; omega), List.getElem?_set_ne (by omega)])
      · dsimp only
        rw [List.getElem?_append_left (by rw [List.length_set]; omega), List.getElem?_set_ne (by omega)]
        exact y0
      · dsimp only
        rw [List.getElem?_append_left (by rw [List.length_set]; omega), List.getElem?_set_ne (by omega)]
        exact y3
      · dsimp only
        rw [List.getElem?_append_left (by rw [List.length_set]; omega), List.getElem?_set_self (by omega), hwg]
        simp [encC_mk]
      · dsimp only
        rw [List.getElem?_set_self (by rw [g3, List.length_append]; omega), hwg]
        simp
      · dsimp only
        rw [List.length_append, List.length_set]
        omega
      · dsimp only
        rw [List.getElem?_append_left (by rw [List.length_set]; omega), List.getElem?_set_ne (by omega), g2 j (by omega) h1 (by omega)]
        exact x6.objs j hj h1 h2
      · obtain ⟨ts1, h1⟩ := x6.toks
        refine ⟨(ts1 ++ ts).set (TS.length - σ.toks.length) ((wkL (l.take i) w1).1.length + 1), ?_⟩
        dsimp only
        rw [g3, h1, List.append_assoc, List.set_append_right _ _ hTl]
      · dsimp only
        omega
      · dsimp only
        rw [List.length_append, List.length_set]
        omega

    have hil : i = l.length := by omega
    subst hil
    rw [List.take_length] at x2 x4 x5
    have hwn := wkL_len l w1
    have hwc := hwn.2.2
    obtain ⟨z1, z2, z3, z4, z5⟩ := x2
    have zcl := (List.getElem?_eq_some_iff.1 z1).1
    have zol := (List.getElem?_eq_some_iff.1 z2).1
    have hfl2 := funD_len (wkL l w1).2.fs
    have hge : (0 : Int) ≤ w.fs.length := by omega
    cases hr : (wkL l w1).1 with
    | nil =>
      rw [hr] at x4
      simp -implicitDefEqProofs (maxSteps := 2000000) (disch := omega) [-getElem?_pos, x3, x4]
      have hwk : wk (.mk 7 n s t ns l) w = (.mk 7 w.fs.length s t ns [], (wkL l w1).2) := by rw [hw1] at hr ⊢; simp [wk, hk, hr]
      refine ⟨.v (encC (wk (.mk 7 n s t ns l) w).1), _, weakR_le ?_, ⟨rfl, ox, capx, restx, ?_, ⟨?_, fun j hj h1 h2 => ?_, x6.toks⟩, ?_⟩⟩
      · rw [hwk, encC_coV, coV_mk]
        exact le_coV
      · rw [hwk]
        exact CloR.mono ⟨z1, z2, z3, z4, z5⟩ (List.getElem?_set_ne (by omega)) (List.getElem?_set_ne (by omega))
      · dsimp only
        rw [List.length_set]
        omega
      · dsimp only
        rw [List.getElem?_set_ne (by omega)]
        exact x6.objs j hj h1 h2
      · omega
    | cons y r =>
      rw [hr] at x4
      obtain ⟨y0, hy0⟩ : ∃ y0, y0 = y := ⟨_, rfl⟩
      cases y with
      | mk k3 n3 s3 t3 ns3 l3 =>
      rw [List.map_cons, encC_mk] at x4
      have hset1 : ∀ X Y, ((τ.objs.set ox X).set (σ.objs.length + 1) Y)[σ.objs.length + 1]? = some Y := fun X Y => List.getElem?_set_self (by rw [List.length_set]; omega)
      have hx3 : ∀ X, (τ.objs.set ox X)[σ.objs.length + 1]? = some (.cells [.v (.int .i64 0), .v (.int .i64 0), .v (.str []), .v (.str []), .v .snil, .v .snil]) := fun X => by rw [List.getElem?_set_ne (by omega), x3]
      have hx4 : ∀ X, (τ.objs.set ox X)[σ.objs.length + 2]? = τ.objs[σ.objs.length + 2]? := fun X => List.getElem?_set_ne (by omega)
      simp -implicitDefEqProofs (maxSteps := 2000000) (disch := omega) [-getElem?_pos, hx3, hx4, x3, x4, z1, z2, hset1]
      refine ⟨by omega, by rw [hfl2]; omega, ?_⟩
      have hpp := putPart (wkL l w1).2.fs w.fs.length (.mk k3 n3 s3 t3 ns3 l3) restx (by omega)
      simp only [coV_mk, putAt, List.map_cons, List.map_nil, List.length_cons, List.length_nil, Nat.zero_add, Nat.reduceAdd, List.cons_append, List.nil_append, List.append_assoc] at hpp
      have hwk : wk (.mk 7 n s t ns l) w = (.mk 7 w.fs.length s t ns (wkL l w1).1, ⟨setPart (wkL l w1).2.fs w.fs.length (.mk k3 n3 s3 t3 ns3 l3), (wkL l w1).2.bad⟩) := by rw [hw1] at hr ⊢; simp [wk, hk, hr]
      rw [hpp]
      refine ⟨.v (encC (wk (.mk 7 n s t ns l) w).1), _, weakR_le ?_, ⟨rfl, ox, capx, restx, ?_, ⟨?_, fun j hj h1 h2 => ?_, x6.toks⟩, ?_⟩⟩
      · rw [hwk, encC_coV, coV_mk, hr, List.map_cons, encC_mk]
        exact le_coV
      · rw [hwk]
        refine ⟨?_, ?_, z3, ?_, ?_⟩
        · dsimp only
          rw [List.getElem?_set_ne (by omega), List.getElem?_set_ne (by omega), setPart_len]
          exact z1
        · dsimp only
          rw [List.getElem?_set_ne (by omega), List.getElem?_set_self zol]
        · rw [setPart_len]
          exact z4
        · rw [setPart_len]
          exact z5
      · dsimp only
        rw [List.length_set, List.length_set]
        omega
      · dsimp only
        rw [List.getElem?_set_ne (by omega), List.getElem?_set_ne (by omega)]
        exact x6.objs j hj h1 h2
      · omega




theorem k_RWalk (e : Co) : RWalkOk e := by
  refine Co.ind (P := RWalkOk) (fun k n s t ns l ih => ?_) e
  cases hk : isFun k with
  | false => exact rwalkF hk ih
  | true =>
    rcases (show k = 4 ∨ k = 7 by simpa [isFun] using hk) with rfl | rfl
    · exact rwalk4 ih
    · by_cases hl1 : 1 < l.length
      · exact rwalk7a hl1 ih
      · exact rwalk7b hl1 ih
end Go.Proofs.Ytppdghfpbliaeaa
