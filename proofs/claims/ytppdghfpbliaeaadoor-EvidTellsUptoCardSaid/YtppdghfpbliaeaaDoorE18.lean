/-
  The law EvidTells, walked. (Own work.)
-/
import Derived.Test.YtppdghfpbliaeaaDoorE17
import Derived.Test.YtppdghfpbliaeaaDoorE6
set_option linter.unusedVariables false
set_option linter.unusedSimpArgs false
namespace Go.Proofs.YtppdghfpbliaeaaDoor
open Go Go.Abs

theorem keep_snoc {a b : List Ob} {ts : List Nat} (h : ∃ r, b = a ++ r) : Keep ⟨a, ts⟩ ⟨b, ts⟩ := by
  obtain ⟨r, rfl⟩ := h
  intro o ob ho
  exact (List.getElem?_append_left (List.getElem?_eq_some_iff.1 ho).1).trans ho
set_option maxHeartbeats 4000000 in
theorem k_EvidTells {t : Tp} {s : Str} {N row : Int} {label : Str} {kn : List (Int × Str)} {vs : List Int} {ll : List (List Str)} (he : tbk t ≤ 1048576) (hll : ∀ n, (lkOf ll n).length ≤ 1048576) :
    ACalls Tryd.prog 4 [.v (encT t), .v (.str s), .v (.agg [.int .i64 N, .int .i64 row, .str label]), .v (.sl (some 2) false (kn.map vN)), .v (vI vs), .v (vSS ll)] ⟨[], []⟩ RT := by
  have hfew := fun σ => k_TFew t (σ := σ) he
  have hof := fun σ => k_Of13 t (s := s) (σ := σ) (Nat.le_trans (tsz_tbk t) he)
  have hmay := fun σ => k_RMay t (σ := σ) he
  obtain ⟨k, n, l, ls, tl⟩ := t
  have hok : okOf (.mk k n l ls tl) s = (isRowN k && (fineS (.mk k n l ls tl) 0).1 && !decide (s = [])) := rfl
  have hV : ofV (.mk k n l ls tl) s = if okOf (.mk k n l ls tl) s = true then .agg [.int .i64 (offs ls s), .int .i64 tl, .str (if 0 ≤ tl then s else [])] else .agg [.int .i64 0, .int .i64 0, .str []] := rfl
  have hE : ofE (.mk k n l ls tl) s = if okOf (.mk k n l ls tl) s = true then .inil else .iface 47 (.int .i64 1) := rfl
  rw [encT_mk] at hfew hof hmay ⊢
  refine acalls_fit Tryd.func4 (by kernel_rfl) c4 rfl (by simp [a4]) fun hf => ?_
  clear hf
  simp -implicitDefEqProofs (maxSteps := 2000000) (disch := omega) [-getElem?_pos, a4]
  refine k_Up13.then fun r hr => ?_
  subst hr
  simp -implicitDefEqProofs (maxSteps := 2000000) (disch := omega) [-getElem?_pos]
  refine (hfew _).then fun r hr => ?_
  obtain ⟨m, rfl⟩ := hr
  by_cases hm : m < 0
  · simp -implicitDefEqProofs (maxSteps := 2000000) (disch := omega) [-getElem?_pos, hm]
    exact .fin _ rfl (.refl _)
  by_cases hs : (s.length : Int) ≤ 100
  rotate_left
  · simp -implicitDefEqProofs (maxSteps := 2000000) (disch := omega) [-getElem?_pos, hm, hs]
    exact .fin _ rfl (.refl _)
  by_cases hlb : (label.length : Int) ≤ 100
  rotate_left
  · simp -implicitDefEqProofs (maxSteps := 2000000) (disch := omega) [-getElem?_pos, hm, hs, hlb]
    exact .fin _ rfl (.refl _)
  by_cases hkn : (kn.length : Int) ≤ 50
  rotate_left
  · simp -implicitDefEqProofs (maxSteps := 2000000) (disch := omega) [-getElem?_pos, hm, hs, hlb, hkn]
    exact .fin _ rfl (.refl _)
  by_cases hkv : kn.length ≤ vs.length
  rotate_left
  · have hkv' : vs.length < kn.length := by omega
    simp -implicitDefEqProofs (maxSteps := 2000000) (disch := omega) [-getElem?_pos, hm, hs, hlb, hkn, hkv']
    exact .fin _ rfl (.refl _)
  have hkv' : ¬ vs.length < kn.length := by omega
  have hnm : nameOf row label = 36 :: (Lib.itoa row ++ 46 :: label) := by simp [nameOf]
  have hname := fun σ => k_Name (row := row) (label := label) (σ := σ) (by omega)
  have hterm := fun σ => k_Term (N := N) (row := row) (label := label) (σ := σ) (by omega)
  rw [hnm] at hname
  simp -implicitDefEqProofs (maxSteps := 2000000) (disch := omega) [-getElem?_pos, hm, hs, hlb, hkn, hkv']
  refine (hof _).then fun r hr => ?_
  subst hr
  generalize hfi : (fineS (.mk k n l ls tl) 0).1 = fi at *
  cases fi with
  | false =>
    rw [Bool.and_false, Bool.false_and] at hok
    rw [hok, if_neg (by simp)] at hV hE
    rw [hV, hE]
    simp -implicitDefEqProofs (maxSteps := 2000000) (disch := omega) [-getElem?_pos]
    refine (hmay _).then fun r hr => ?_
    subst hr
    simp -implicitDefEqProofs (maxSteps := 2000000) (disch := omega) [-getElem?_pos]
    refine ⟨by kernel_rfl, ?_⟩
    refine k_Itoa.then fun r hr => ?_
    obtain ⟨rfl, hln⟩ := hr
    simp -implicitDefEqProofs (maxSteps := 2000000) (disch := omega) [-getElem?_pos]
    refine ⟨by omega, by omega, by omega, ?_⟩
    refine (hname _).then fun r hr => ?_
    subst hr
    simp -implicitDefEqProofs (maxSteps := 2000000) (disch := omega) [-getElem?_pos]
    refine (hterm _).then fun r hr => ?_
    subst hr
    by_cases hrow : row < 0
    · have hT : termV N row label = coV 1 N [] .snil := by rw [termV, if_pos hrow]
      rw [hT]
      simp -implicitDefEqProofs (maxSteps := 2000000) (disch := omega) [-getElem?_pos, hrow, coV]
      exact tells_L0 (p := 4) (q := 7) he hll hkv (by omega) (by rfl) (by rfl) (by rfl) (by rfl) (by rfl) (.inl rfl) (.eq (by simp [hfi]))
    by_cases hN : N = 0
    · have hT : termV N row label = coV 3 0 (36 :: (Lib.itoa row ++ 46 :: label)) .snil := by rw [termV, if_neg hrow, if_pos hN, hnm]
      rw [hT]
      simp -implicitDefEqProofs (maxSteps := 2000000) (disch := omega) [-getElem?_pos, hrow, hN, coV]
      exact tells_L0 (p := 4) (q := 7) he hll hkv (by omega) (by rfl) (by rfl) (by rfl) (by rfl) (by rfl) (.inl rfl) (.eq (by simp [hfi]))
    have hT : termV N row label = coV 16 0 [43] (.sl (some 6) true [coV 3 0 (36 :: (Lib.itoa row ++ 46 :: label)) .snil, coV 1 N [] .snil]) := by rw [termV, if_neg hrow, if_neg hN, hnm]
    rw [hT]
    simp -implicitDefEqProofs (maxSteps := 2000000) (disch := omega) [-getElem?_pos, hrow, hN, coV]
    exact tells_L0 (p := 4) (q := 7) he hll hkv (by omega) (by rfl) (by rfl) (by rfl) (by rfl) (by rfl) (.inr ⟨_, _, rfl⟩) (.eq (by simp [hfi]))

  | true =>
  by_cases h4 : k = 4
  · subst h4
    by_cases hs0 : s = []
    · have hok' : okOf (.mk 4 n l ls tl) s = false := by rw [hok]; simp [isRowN, hs0]
      rw [hok', if_neg (by simp)] at hV hE
      rw [hV, hE]
      simp -implicitDefEqProofs (maxSteps := 2000000) (disch := omega) [-getElem?_pos]
      refine (hmay _).then fun r hr => ?_
      subst hr
      simp -implicitDefEqProofs (maxSteps := 2000000) (disch := omega) [-getElem?_pos, hs0]
      refine ⟨by kernel_rfl, ?_⟩
      refine k_Itoa.then fun r hr => ?_
      obtain ⟨rfl, hln⟩ := hr
      simp -implicitDefEqProofs (maxSteps := 2000000) (disch := omega) [-getElem?_pos]
      refine ⟨by omega, by omega, by omega, ?_⟩
      refine (hname _).then fun r hr => ?_
      subst hr
      simp -implicitDefEqProofs (maxSteps := 2000000) (disch := omega) [-getElem?_pos]
      refine (hterm _).then fun r hr => ?_
      subst hr
      by_cases hrow : row < 0
      · have hT : termV N row label = coV 1 N [] .snil := by rw [termV, if_pos hrow]
        rw [hT]
        simp -implicitDefEqProofs (maxSteps := 2000000) (disch := omega) [-getElem?_pos, hrow, coV]
        exact tells_L0 (p := 4) (q := 7) he hll hkv (by omega) (by rfl) (by rfl) (by rfl) (by rfl) (by rfl) (.inl rfl) (.eq (by simp [hfi]))
      by_cases hN : N = 0
      · have hT : termV N row label = coV 3 0 (36 :: (Lib.itoa row ++ 46 :: label)) .snil := by rw [termV, if_neg hrow, if_pos hN, hnm]
        rw [hT]
        simp -implicitDefEqProofs (maxSteps := 2000000) (disch := omega) [-getElem?_pos, hrow, hN, coV]
        exact tells_L0 (p := 4) (q := 7) he hll hkv (by omega) (by rfl) (by rfl) (by rfl) (by rfl) (by rfl) (.inl rfl) (.eq (by simp [hfi]))
      have hT : termV N row label = coV 16 0 [43] (.sl (some 6) true [coV 3 0 (36 :: (Lib.itoa row ++ 46 :: label)) .snil, coV 1 N [] .snil]) := by rw [termV, if_neg hrow, if_neg hN, hnm]
      rw [hT]
      simp -implicitDefEqProofs (maxSteps := 2000000) (disch := omega) [-getElem?_pos, hrow, hN, coV]
      exact tells_L0 (p := 4) (q := 7) he hll hkv (by omega) (by rfl) (by rfl) (by rfl) (by rfl) (by rfl) (.inr ⟨_, _, rfl⟩) (.eq (by simp [hfi]))

    have hok' : okOf (.mk 4 n l ls tl) s = true := by rw [hok]; simp [isRowN, hs0]
    rw [hok', if_pos rfl] at hV hE
    rw [hV, hE]
    simp -implicitDefEqProofs (maxSteps := 2000000) (disch := omega) [-getElem?_pos]
    refine (hmay _).then fun r hr => ?_
    subst hr
    simp -implicitDefEqProofs (maxSteps := 2000000) (disch := omega) [-getElem?_pos, hs0]
    refine ⟨k_ROffset.then fun r hr => ?_, keep_snoc ⟨[_], rfl⟩, k_ROffset.then fun r hr => ?_⟩
    all_goals
      subst hr
      simp -implicitDefEqProofs (maxSteps := 2000000) (disch := omega) [-getElem?_pos, hs0]
      try refine ⟨keep_snoc ⟨[_], rfl⟩, ?_⟩
      refine .mk (fun htl => ?_) fun htl => ?_
      · rw [if_pos htl]
        simp -implicitDefEqProofs (maxSteps := 2000000) (disch := omega) [-getElem?_pos, hs0, htl]
        refine k_Itoa.then fun r hr => ?_
        obtain ⟨rfl, hln⟩ := hr
        simp -implicitDefEqProofs (maxSteps := 2000000) (disch := omega) [-getElem?_pos]
        refine ⟨by omega, by omega, by omega, ?_⟩
        refine (hname _).then fun r hr => ?_
        subst hr
        simp -implicitDefEqProofs (maxSteps := 2000000) (disch := omega) [-getElem?_pos]
        refine (hterm _).then fun r hr => ?_
        subst hr
        by_cases hrow : row < 0
        · have hT : termV N row label = coV 1 N [] .snil := by rw [termV, if_pos hrow]
          rw [hT]
          simp -implicitDefEqProofs (maxSteps := 2000000) (disch := omega) [-getElem?_pos, hrow, coV]
          exact tells_L0 (p := 5) (q := 8) he hll hkv (by omega) (by rfl) (by rfl) (by rfl) (by rfl) (by rfl) (.inl rfl) (.eq (by simp [hfi]))
        by_cases hN : N = 0
        · have hT : termV N row label = coV 3 0 (36 :: (Lib.itoa row ++ 46 :: label)) .snil := by rw [termV, if_neg hrow, if_pos hN, hnm]
          rw [hT]
          simp -implicitDefEqProofs (maxSteps := 2000000) (disch := omega) [-getElem?_pos, hrow, hN, coV]
          exact tells_L0 (p := 5) (q := 8) he hll hkv (by omega) (by rfl) (by rfl) (by rfl) (by rfl) (by rfl) (.inl rfl) (.eq (by simp [hfi]))
        have hT : termV N row label = coV 16 0 [43] (.sl (some 6) true [coV 3 0 (36 :: (Lib.itoa row ++ 46 :: label)) .snil, coV 1 N [] .snil]) := by rw [termV, if_neg hrow, if_neg hN, hnm]
        rw [hT]
        simp -implicitDefEqProofs (maxSteps := 2000000) (disch := omega) [-getElem?_pos, hrow, hN, coV]
        exact tells_L0 (p := 5) (q := 8) he hll hkv (by omega) (by rfl) (by rfl) (by rfl) (by rfl) (by rfl) (.inr ⟨_, _, rfl⟩) (.eq (by simp [hfi]))

      · rw [if_neg htl]
        simp -implicitDefEqProofs (maxSteps := 2000000) (disch := omega) [-getElem?_pos, hs0, htl]
        refine k_Itoa.then fun r hr => ?_
        obtain ⟨rfl, hln⟩ := hr
        simp -implicitDefEqProofs (maxSteps := 2000000) (disch := omega) [-getElem?_pos]
        refine ⟨by omega, by omega, by omega, ?_⟩
        refine (hname _).then fun r hr => ?_
        subst hr
        simp -implicitDefEqProofs (maxSteps := 2000000) (disch := omega) [-getElem?_pos]
        refine (hterm _).then fun r hr => ?_
        subst hr
        by_cases hrow : row < 0
        · have hT : termV N row label = coV 1 N [] .snil := by rw [termV, if_pos hrow]
          rw [hT]
          simp -implicitDefEqProofs (maxSteps := 2000000) (disch := omega) [-getElem?_pos, hrow, coV]
          exact tells_L0 (p := 5) (q := 8) he hll hkv (by omega) (by rfl) (by rfl) (by rfl) (by rfl) (by rfl) (.inl rfl) (.eq (by simp [hfi]))
        by_cases hN : N = 0
        · have hT : termV N row label = coV 3 0 (36 :: (Lib.itoa row ++ 46 :: label)) .snil := by rw [termV, if_neg hrow, if_pos hN, hnm]
          rw [hT]
          simp -implicitDefEqProofs (maxSteps := 2000000) (disch := omega) [-getElem?_pos, hrow, hN, coV]
          exact tells_L0 (p := 5) (q := 8) he hll hkv (by omega) (by rfl) (by rfl) (by rfl) (by rfl) (by rfl) (.inl rfl) (.eq (by simp [hfi]))
        have hT : termV N row label = coV 16 0 [43] (.sl (some 6) true [coV 3 0 (36 :: (Lib.itoa row ++ 46 :: label)) .snil, coV 1 N [] .snil]) := by rw [termV, if_neg hrow, if_neg hN, hnm]
        rw [hT]
        simp -implicitDefEqProofs (maxSteps := 2000000) (disch := omega) [-getElem?_pos, hrow, hN, coV]
        exact tells_L0 (p := 5) (q := 8) he hll hkv (by omega) (by rfl) (by rfl) (by rfl) (by rfl) (by rfl) (.inr ⟨_, _, rfl⟩) (.eq (by simp [hfi]))


  by_cases h5 : k = 5
  · subst h5
    by_cases hs0 : s = []
    · have hok' : okOf (.mk 5 n l ls tl) s = false := by rw [hok]; simp [isRowN, hs0]
      rw [hok', if_neg (by simp)] at hV hE
      rw [hV, hE]
      simp -implicitDefEqProofs (maxSteps := 2000000) (disch := omega) [-getElem?_pos]
      refine (hmay _).then fun r hr => ?_
      subst hr
      simp -implicitDefEqProofs (maxSteps := 2000000) (disch := omega) [-getElem?_pos, hs0]
      refine ⟨by kernel_rfl, ?_⟩
      refine k_Itoa.then fun r hr => ?_
      obtain ⟨rfl, hln⟩ := hr
      simp -implicitDefEqProofs (maxSteps := 2000000) (disch := omega) [-getElem?_pos]
      refine ⟨by omega, by omega, by omega, ?_⟩
      refine (hname _).then fun r hr => ?_
      subst hr
      simp -implicitDefEqProofs (maxSteps := 2000000) (disch := omega) [-getElem?_pos]
      refine (hterm _).then fun r hr => ?_
      subst hr
      by_cases hrow : row < 0
      · have hT : termV N row label = coV 1 N [] .snil := by rw [termV, if_pos hrow]
        rw [hT]
        simp -implicitDefEqProofs (maxSteps := 2000000) (disch := omega) [-getElem?_pos, hrow, coV]
        exact tells_L0 (p := 4) (q := 7) he hll hkv (by omega) (by rfl) (by rfl) (by rfl) (by rfl) (by rfl) (.inl rfl) (.eq (by simp [hfi]))
      by_cases hN : N = 0
      · have hT : termV N row label = coV 3 0 (36 :: (Lib.itoa row ++ 46 :: label)) .snil := by rw [termV, if_neg hrow, if_pos hN, hnm]
        rw [hT]
        simp -implicitDefEqProofs (maxSteps := 2000000) (disch := omega) [-getElem?_pos, hrow, hN, coV]
        exact tells_L0 (p := 4) (q := 7) he hll hkv (by omega) (by rfl) (by rfl) (by rfl) (by rfl) (by rfl) (.inl rfl) (.eq (by simp [hfi]))
      have hT : termV N row label = coV 16 0 [43] (.sl (some 6) true [coV 3 0 (36 :: (Lib.itoa row ++ 46 :: label)) .snil, coV 1 N [] .snil]) := by rw [termV, if_neg hrow, if_neg hN, hnm]
      rw [hT]
      simp -implicitDefEqProofs (maxSteps := 2000000) (disch := omega) [-getElem?_pos, hrow, hN, coV]
      exact tells_L0 (p := 4) (q := 7) he hll hkv (by omega) (by rfl) (by rfl) (by rfl) (by rfl) (by rfl) (.inr ⟨_, _, rfl⟩) (.eq (by simp [hfi]))

    have hok' : okOf (.mk 5 n l ls tl) s = true := by rw [hok]; simp [isRowN, hs0]
    rw [hok', if_pos rfl] at hV hE
    rw [hV, hE]
    simp -implicitDefEqProofs (maxSteps := 2000000) (disch := omega) [-getElem?_pos]
    refine (hmay _).then fun r hr => ?_
    subst hr
    simp -implicitDefEqProofs (maxSteps := 2000000) (disch := omega) [-getElem?_pos, hs0]
    refine ⟨k_ROffset.then fun r hr => ?_, keep_snoc ⟨[_], rfl⟩, k_ROffset.then fun r hr => ?_⟩
    all_goals
      subst hr
      simp -implicitDefEqProofs (maxSteps := 2000000) (disch := omega) [-getElem?_pos, hs0]
      try refine ⟨keep_snoc ⟨[_], rfl⟩, ?_⟩
      refine .mk (fun htl => ?_) fun htl => ?_
      · rw [if_pos htl]
        simp -implicitDefEqProofs (maxSteps := 2000000) (disch := omega) [-getElem?_pos, hs0, htl]
        refine k_Itoa.then fun r hr => ?_
        obtain ⟨rfl, hln⟩ := hr
        simp -implicitDefEqProofs (maxSteps := 2000000) (disch := omega) [-getElem?_pos]
        refine ⟨by omega, by omega, by omega, ?_⟩
        refine (hname _).then fun r hr => ?_
        subst hr
        simp -implicitDefEqProofs (maxSteps := 2000000) (disch := omega) [-getElem?_pos]
        refine (hterm _).then fun r hr => ?_
        subst hr
        by_cases hrow : row < 0
        · have hT : termV N row label = coV 1 N [] .snil := by rw [termV, if_pos hrow]
          rw [hT]
          simp -implicitDefEqProofs (maxSteps := 2000000) (disch := omega) [-getElem?_pos, hrow, coV]
          exact tells_L0 (p := 5) (q := 8) he hll hkv (by omega) (by rfl) (by rfl) (by rfl) (by rfl) (by rfl) (.inl rfl) (.eq (by simp [hfi]))
        by_cases hN : N = 0
        · have hT : termV N row label = coV 3 0 (36 :: (Lib.itoa row ++ 46 :: label)) .snil := by rw [termV, if_neg hrow, if_pos hN, hnm]
          rw [hT]
          simp -implicitDefEqProofs (maxSteps := 2000000) (disch := omega) [-getElem?_pos, hrow, hN, coV]
          exact tells_L0 (p := 5) (q := 8) he hll hkv (by omega) (by rfl) (by rfl) (by rfl) (by rfl) (by rfl) (.inl rfl) (.eq (by simp [hfi]))
        have hT : termV N row label = coV 16 0 [43] (.sl (some 6) true [coV 3 0 (36 :: (Lib.itoa row ++ 46 :: label)) .snil, coV 1 N [] .snil]) := by rw [termV, if_neg hrow, if_neg hN, hnm]
        rw [hT]
        simp -implicitDefEqProofs (maxSteps := 2000000) (disch := omega) [-getElem?_pos, hrow, hN, coV]
        exact tells_L0 (p := 5) (q := 8) he hll hkv (by omega) (by rfl) (by rfl) (by rfl) (by rfl) (by rfl) (.inr ⟨_, _, rfl⟩) (.eq (by simp [hfi]))

      · rw [if_neg htl]
        simp -implicitDefEqProofs (maxSteps := 2000000) (disch := omega) [-getElem?_pos, hs0, htl]
        refine k_Itoa.then fun r hr => ?_
        obtain ⟨rfl, hln⟩ := hr
        simp -implicitDefEqProofs (maxSteps := 2000000) (disch := omega) [-getElem?_pos]
        refine ⟨by omega, by omega, by omega, ?_⟩
        refine (hname _).then fun r hr => ?_
        subst hr
        simp -implicitDefEqProofs (maxSteps := 2000000) (disch := omega) [-getElem?_pos]
        refine (hterm _).then fun r hr => ?_
        subst hr
        by_cases hrow : row < 0
        · have hT : termV N row label = coV 1 N [] .snil := by rw [termV, if_pos hrow]
          rw [hT]
          simp -implicitDefEqProofs (maxSteps := 2000000) (disch := omega) [-getElem?_pos, hrow, coV]
          exact tells_L0 (p := 5) (q := 8) he hll hkv (by omega) (by rfl) (by rfl) (by rfl) (by rfl) (by rfl) (.inl rfl) (.eq (by simp [hfi]))
        by_cases hN : N = 0
        · have hT : termV N row label = coV 3 0 (36 :: (Lib.itoa row ++ 46 :: label)) .snil := by rw [termV, if_neg hrow, if_pos hN, hnm]
          rw [hT]
          simp -implicitDefEqProofs (maxSteps := 2000000) (disch := omega) [-getElem?_pos, hrow, hN, coV]
          exact tells_L0 (p := 5) (q := 8) he hll hkv (by omega) (by rfl) (by rfl) (by rfl) (by rfl) (by rfl) (.inl rfl) (.eq (by simp [hfi]))
        have hT : termV N row label = coV 16 0 [43] (.sl (some 6) true [coV 3 0 (36 :: (Lib.itoa row ++ 46 :: label)) .snil, coV 1 N [] .snil]) := by rw [termV, if_neg hrow, if_neg hN, hnm]
        rw [hT]
        simp -implicitDefEqProofs (maxSteps := 2000000) (disch := omega) [-getElem?_pos, hrow, hN, coV]
        exact tells_L0 (p := 5) (q := 8) he hll hkv (by omega) (by rfl) (by rfl) (by rfl) (by rfl) (by rfl) (.inr ⟨_, _, rfl⟩) (.eq (by simp [hfi]))


  have hrn : isRowN k = false := by simp [isRowN, h4, h5]
  rw [hrn, Bool.false_and, Bool.false_and] at hok
  rw [hok, if_neg (by simp)] at hV hE
  rw [hV, hE]
  simp -implicitDefEqProofs (maxSteps := 2000000) (disch := omega) [-getElem?_pos]
  refine (hmay _).then fun r hr => ?_
  subst hr
  simp -implicitDefEqProofs (maxSteps := 2000000) (disch := omega) [-getElem?_pos, h4, h5]
  refine ⟨by kernel_rfl, ?_⟩
  refine k_Itoa.then fun r hr => ?_
  obtain ⟨rfl, hln⟩ := hr
  simp -implicitDefEqProofs (maxSteps := 2000000) (disch := omega) [-getElem?_pos]
  refine ⟨by omega, by omega, by omega, ?_⟩
  refine (hname _).then fun r hr => ?_
  subst hr
  simp -implicitDefEqProofs (maxSteps := 2000000) (disch := omega) [-getElem?_pos]
  refine (hterm _).then fun r hr => ?_
  subst hr
  by_cases hrow : row < 0
  · have hT : termV N row label = coV 1 N [] .snil := by rw [termV, if_pos hrow]
    rw [hT]
    simp -implicitDefEqProofs (maxSteps := 2000000) (disch := omega) [-getElem?_pos, hrow, coV]
    exact tells_L0 (p := 4) (q := 7) he hll hkv (by omega) (by rfl) (by rfl) (by rfl) (by rfl) (by rfl) (.inl rfl) (.eq (by simp [hfi]))
  by_cases hN : N = 0
  · have hT : termV N row label = coV 3 0 (36 :: (Lib.itoa row ++ 46 :: label)) .snil := by rw [termV, if_neg hrow, if_pos hN, hnm]
    rw [hT]
    simp -implicitDefEqProofs (maxSteps := 2000000) (disch := omega) [-getElem?_pos, hrow, hN, coV]
    exact tells_L0 (p := 4) (q := 7) he hll hkv (by omega) (by rfl) (by rfl) (by rfl) (by rfl) (by rfl) (.inl rfl) (.eq (by simp [hfi]))
  have hT : termV N row label = coV 16 0 [43] (.sl (some 6) true [coV 3 0 (36 :: (Lib.itoa row ++ 46 :: label)) .snil, coV 1 N [] .snil]) := by rw [termV, if_neg hrow, if_neg hN, hnm]
  rw [hT]
  simp -implicitDefEqProofs (maxSteps := 2000000) (disch := omega) [-getElem?_pos, hrow, hN, coV]
  exact tells_L0 (p := 4) (q := 7) he hll hkv (by omega) (by rfl) (by rfl) (by rfl) (by rfl) (by rfl) (.inr ⟨_, _, rfl⟩) (.eq (by simp [hfi]))

end Go.Proofs.YtppdghfpbliaeaaDoor
