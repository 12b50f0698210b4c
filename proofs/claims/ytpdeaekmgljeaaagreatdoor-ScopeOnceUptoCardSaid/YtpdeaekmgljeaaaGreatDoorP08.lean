/-
  ScopeOnce, walked: the example; the law. (Own work.)
-/
import Derived.Test.YtpdeaekmgljeaaaGreatDoorP07
import Derived.Test.YtpdeaekmgljeaaaGreatDoorCards
import Derived.Test.YtpdeaekmgljeaaaGreatDoorTie
import Derived.Deep.DeepHandedRow
import Derived.Lib.LaidTab
import Derived.LaidHandle
import Derived.LaidLaws
set_option linter.unusedVariables false
set_option linter.unusedSimpArgs false
set_option maxHeartbeats 4000000
namespace Go.Proofs.YtpdeaekmgljeaaaGreatDoor
open Go Go.Abs
def ex8a : Ex := .mk 3 0 0 [97] [] [] [] []
def ex8 : Ex := .mk 4 0 0 [97] [] [] [] [.mk 4 0 0 [97] [] [] [] [ex8a]]
def ex8v : Ex := .mk 3 3 0 [97] [] [] [] []
theorem ex8_le : VLes [.int .i64 4, .int .i64 0, .int .i64 0, .str [97], .str [], .snil, .snil, .sl (some 8) true [.agg [.int .i64 4, .int .i64 0, .int .i64 0, .str [97], .str [], .snil, .snil, .sl (some 8) true [.agg [.int .i64 3, .int .i64 0, .int .i64 0, .str [97], .str [], .snil, .snil, .snil]]]]] (celE ex8) :=
  ⟨.refl _, .refl _, .refl _, .refl _, .refl _, .snil, .snil, exs_le ⟨⟨.refl _, .refl _, .refl _, .refl _, .refl _, .snil, .snil, exs_le ⟨⟨.refl _, .refl _, .refl _, .refl _, .refl _, .snil, .snil, .snil, trivial⟩, trivial⟩, trivial⟩, trivial⟩, trivial⟩
theorem ex8v_le : VLes [.int .i64 3, .int .i64 3, .int .i64 0, .str [97], .str [], .snil, .snil, .snil] (celE ex8v) := ⟨.refl _, .refl _, .refl _, .refl _, .refl _, .snil, .snil, .snil, trivial⟩
def ex8n : Ex := .mk 4 0 0 [118, 48] [] [] [] [.mk 4 0 0 [118, 49] [] [] [] [.mk 3 0 0 [118, 49] [] [] [] []]]
theorem itoa01 : Lib.itoa ((0 : Nat) : Int) = [48] ∧ Lib.itoa ((1 : Nat) : Int) = [49] := by
  refine ⟨?_, ?_⟩ <;> (rw [itoa_nat, Lib.decDigits]; rfl)
theorem num8 : numberD ex8 = .tup [.v (encE ex8n), .v (vS [[97], [97]]), .v .inil] := by
  have hm : mayB ex8 = true := by kernel_rfl
  have hg : goN ex8 [] r0 = ⟨ex8n, ⟨[[97], [97]], []⟩⟩ := by
    have h0 : asR r0 = [118, 48] := by show [118] ++ Lib.itoa ((0 : Nat) : Int) = _; rw [itoa01.1]; rfl
    have h1 : asR ⟨[[97]], []⟩ = [118, 49] := by show [118] ++ Lib.itoa ((1 : Nat) : Int) = _; rw [itoa01.2]; rfl
    have e0 : headN 4 0 [97] [] [] [] r0 = ⟨[118, 48], [], [], ([97], [118, 48]), zF, [], ⟨[[97]], []⟩⟩ := by unfold headN; rw [if_neg (by decide), if_pos (.inl rfl), h0]; rfl
    have e1 : headN 4 0 [97] [] [] [([97], [118, 48])] ⟨[[97]], []⟩ = ⟨[118, 49], [], [], ([97], [118, 49]), zF, [], ⟨[[97], [97]], []⟩⟩ := by unfold headN; simp [h1, bindR]
    have i0 : innerN 4 ⟨[118, 48], [], [], ([97], [118, 48]), zF, [], ⟨[[97]], []⟩⟩ [] 0 = [([97], [118, 48])] := rfl
    have i1 : innerN 4 ⟨[118, 49], [], [], ([97], [118, 49]), zF, [], ⟨[[97], [97]], []⟩⟩ [([97], [118, 48])] 0 = [([97], [118, 48]), ([97], [118, 49])] := rfl
    have e2 : headN 3 0 [97] [] [] [([97], [118, 48]), ([97], [118, 49])] ⟨[[97], [97]], []⟩ = ⟨[118, 49], [], [], zF, zF, [], ⟨[[97], [97]], []⟩⟩ := rfl
    simp only [ex8, ex8a, ex8n, goN, goL, e0, e1, i0, i1, e2]
  unfold numberD
  rw [if_pos hm, hg]
theorem chk8 : checkD ex8v = spotV 3 4 := by
  have hm : mayB ex8v = true := by kernel_rfl
  unfold checkD
  rw [if_pos hm]
  rfl
theorem k_Up8 {σ : Sg} : ACalls Tryz.prog 13 [] σ fun r σ' => r = .v (.bool true) ∧ σ' = σ := by
  have e1 := fun σ => (k_Number (e := ex8) (σ := σ) (by decide)).arg1 (ex_le ex8_le).d
  have e2 := fun σ => (k_Check (e := ex8v) (σ := σ) (by decide)).arg1 (ex_le ex8v_le).d
  have ko := fun σ => k_OfSpotI (q := 3) (k := 4) (σ := σ)
  rw [num8] at e1
  rw [chk8] at e2
  unfold ex8n at e1
  unfold spotV at e2 ko
  rw [encE_mk] at e1
  refine acalls_fit Tryz.func13 (by kernel_rfl) c13 rfl (by simp [a13]) fun hf => ?_
  clear hf
  simp -implicitDefEqProofs (maxSteps := 2000000) (disch := omega) [-getElem?_pos, a13]
  refine (e1 _).then fun r hr => ?_
  subst hr
  simp -implicitDefEqProofs (maxSteps := 2000000) (disch := omega) [-getElem?_pos]
  refine (e2 _).then fun r hr => ?_
  subst hr
  simp -implicitDefEqProofs (maxSteps := 2000000) (disch := omega) [-getElem?_pos]
  refine (ko _).then fun r hr => ?_
  subst hr
  simp -implicitDefEqProofs (maxSteps := 2000000) (disch := omega) [-getElem?_pos, encE_mk]
  exact .fin _ ⟨rfl, rfl⟩ (.refl _)
structure OnceF (e : Ex) (y : Ex) (old : List Str) (free : List Int) : Prop where
  bnd : bndrs y = vNs 0 old.length
  ol : old.length ≤ 160000
  sz : csz y ≤ 1048576
  num : numberD y = .tup [.v (encE y), .v (vS (goN y [] r0).r.old), .v .inil] ∨ free ≠ []
  chk : checkD y = .v .inil ∨ free ≠ []
  fr : free = [] ↔ fvs e = []
  fry : free = [] → fvs y = []
  any : ∃ z o d, numberD y = .tup [.v (encE z), .v (vS o), d] ∧ (d = .v .inil ∨ d = errArg)
theorem may_fineB {e : Ex} (h : mayB e = true) : fineB e = true := by
  unfold mayB at h
  simp only [Bool.and_eq_true] at h
  exact h.2.2
theorem onceF {e : Ex} (hm : mayB e = true) (hs : csz e ≤ 160000) : OnceF e (goN e [] r0).e (goN e [] r0).r.old (goN e [] r0).r.free := by
  have hmy : (goN e [] r0).r.free = [] → mayB (goN e [] r0).e = true := fun h => goN_may hm (by omega) ((free_nil (fine_sound e (may_fineB hm))).1 h)
  have hfi := may_fineB hm
  have hb := (goN_bndrs e [] r0).2
  have hl := (goN_len e [] r0).1
  have hz := goN_size e hfi [] r0 (by simp [r0]; omega) (fun f hf => by cases hf)
  have hn : nds e ≤ 1500 := by
    unfold mayB at hm
    simp only [Bool.and_eq_true, decide_eq_true_eq] at hm
    exact hm.2.1
  have hag := again_nil e
  have haf := again_free e [] r0 r0 rfl
  have h0 : r0.old.length = 0 := rfl
  rw [h0] at hb hl
  refine ⟨by simpa using hb, by omega, by omega, ?_, ?_, free_nil (fine_sound e hfi), fun h => ?_, ?_⟩
  · by_cases hf : (goN e [] r0).r.free = []
    · left
      unfold numberD
      rw [if_pos (hmy hf)]
      have : (goN (goN e [] r0).e [] r0).e = (goN e [] r0).e := hag
      rw [this]
    · exact .inr hf
  · by_cases hf : (goN e [] r0).r.free = []
    · left
      unfold checkD
      rw [if_pos (hmy hf)]
      have : (goN (goN e [] r0).e [] r0).r.free = [] := haf hf
      rw [this]
    · exact .inr hf
  · have : (goN (goN e [] r0).e [] r0).r.free = [] := haf h
    exact (free_nil (goN_sound e (fine_sound e hfi) [] r0)).1 this
  · unfold numberD
    cases mayB (goN e [] r0).e with
    | true => exact ⟨_, _, _, rfl, .inl rfl⟩
    | false => exact ⟨_, _, _, rfl, .inr rfl⟩
theorem k_Once {e : Ex} {σ : Sg} (he : csz e ≤ 1048576) : ACalls Tryz.prog 6 [.v (encE e)] σ fun r σ' => r = .v (.bool true) ∧ σ' = σ := by
  have ku := fun σ => k_Up8 (σ := σ)
  have kf := fun σ => k_FewB (e := e) (σ := σ) he
  have kn := fun σ => k_Number (e := e) (σ := σ) he
  have kc := fun σ => k_Check (e := e) (σ := σ) he
  have kfr := fun σ => k_Free e (σ := σ) he
  cases e with
  | mk k p n s t ls ns l =>
  rw [encE_mk] at kf kn kc kfr ⊢
  refine acalls_fit Tryz.func6 (by kernel_rfl) c6 rfl (by simp [a6]) fun hf => ?_
  clear hf
  simp -implicitDefEqProofs (maxSteps := 2000000) (disch := omega) [-getElem?_pos, a6]
  refine (ku _).then fun r hr => ?_
  subst hr
  simp -implicitDefEqProofs (maxSteps := 2000000) (disch := omega) [-getElem?_pos]
  refine (kf _).then fun r hr => ?_
  obtain ⟨b, rfl, hb⟩ := hr
  cases b with
  | false =>
    simp -implicitDefEqProofs (maxSteps := 2000000) (disch := omega) [-getElem?_pos]
    exact .fin _ ⟨rfl, rfl⟩ (.refl _)
  | true =>
  have hsz := hb rfl
  clear hb kf
  simp -implicitDefEqProofs (maxSteps := 2000000) (disch := omega) [-getElem?_pos]
  refine (kn _).then fun r hr => ?_
  subst hr
  obtain ⟨E, hE⟩ : ∃ E : Ex, E = .mk k p n s t ls ns l := ⟨_, rfl⟩
  cases hm : mayB (.mk k p n s t ls ns l) with
  | false =>
    have hN : numberD (.mk k p n s t ls ns l) = .tup [.v (encE zEx), .v (vS []), errArg] := by unfold numberD; rw [hm]; rfl
    rw [hN]
    unfold zEx errArg
    rw [encE_mk]
    simp -implicitDefEqProofs (maxSteps := 2000000) (disch := omega) [-getElem?_pos]
    exact .fin _ ⟨rfl, rfl⟩ (.refl _)
  | true =>
  have hN : numberD (.mk k p n s t ls ns l) = .tup [.v (encE (goN (.mk k p n s t ls ns l) [] r0).e), .v (vS (goN (.mk k p n s t ls ns l) [] r0).r.old), .v .inil] := by unfold numberD; rw [if_pos hm]
  have hC : checkD (.mk k p n s t ls ns l) = .v .inil ∧ (goN (.mk k p n s t ls ns l) [] r0).r.free = [] ∨ (∃ q, checkD (.mk k p n s t ls ns l) = spotV q 4) ∧ (goN (.mk k p n s t ls ns l) [] r0).r.free ≠ [] := by
    unfold checkD
    rw [if_pos hm]
    cases (goN (.mk k p n s t ls ns l) [] r0).r.free with
    | nil => exact .inl ⟨rfl, rfl⟩
    | cons q r => exact .inr ⟨⟨q, rfl⟩, by simp⟩
  have F := onceF hm hsz
  rw [hN]
  clear hN kn
  generalize (goN (.mk k p n s t ls ns l) [] r0).e = y at F ⊢
  generalize (goN (.mk k p n s t ls ns l) [] r0).r.old = old at F ⊢
  generalize (goN (.mk k p n s t ls ns l) [] r0).r.free = free at F hC
  generalize checkD (.mk k p n s t ls ns l) = cd at kc hC
  obtain ⟨F1, F2, F3, F4, F5, F6, F7, F8⟩ := F
  have kb := fun σ => k_Binders y (σ := σ) F3
  have kn2 := fun σ => k_Number (e := y) (σ := σ) F3
  have kc2 := fun σ => k_Check (e := y) (σ := σ) F3
  have kfr2 := fun σ => k_Free y (σ := σ) F3
  have ksm : ∀ σ, ACalls Tryz.prog 19 [.v (encE y), .v (encE y)] σ fun r σ' => r = .v (.bool true) ∧ σ' = σ := fun σ => by
    have h := k_Same5 y y (σ := σ) F3
    have hs : sameB y y = true := by unfold sameB; exact decide_eq_true rfl
    rwa [hs] at h
  rw [F1] at kb
  have hlen : (vNs 0 old.length).length = old.length := vNs_len 0 _
  have honce := fun i j x => vNs_once (a := 0) (n := old.length) (i := i) (j := j) (x := x)
  generalize vNs 0 old.length = L at *
  clear F1
  cases y with
  | mk k2 p2 n2 s2 t2 ls2 ns2 l2 =>
  rw [encE_mk] at kb kn2 kc2 kfr2 ksm ⊢
  simp -implicitDefEqProofs (maxSteps := 2000000) (disch := omega) [-getElem?_pos]
  refine (kb _).then fun r hr => ?_
  subst hr
  simp -implicitDefEqProofs (maxSteps := 2000000) (disch := omega) [-getElem?_pos, hlen]
  refine W_loop (α := Nat) 0 (fun i => L.length - i) (fun i => ⟨[(1, .ptr σ.objs.length 0), (3, .v (.bool true)), (5, .ptr (σ.objs.length + 1) 0), (8, .v (vS L)), (9, .v (.int .i64 i))], ⟨σ.objs ++ [obE (.mk k p n s t ls ns l), obE (.mk k2 p2 n2 s2 t2 ls2 ns2 l2)], σ.toks⟩⟩) (fun i => i ≤ L.length) (.eq2 (by simp [obE_mk]) (by simp)) (Nat.zero_le _) fun i hi => ?_
  simp -implicitDefEqProofs (maxSteps := 2000000) (disch := omega) [-getElem?_pos]
  refine .mk (fun hlt => ?_) fun hlt => ?_
  · simp -implicitDefEqProofs (maxSteps := 2000000) (disch := omega) [-getElem?_pos]
    refine W_loop (α := Nat) 0 (fun j => i - j) (fun j => ⟨[(1, .ptr σ.objs.length 0), (3, .v (.bool true)), (5, .ptr (σ.objs.length + 1) 0), (8, .v (vS L)), (9, .v (.int .i64 i)), (10, .v (.int .i64 j))], ⟨σ.objs ++ [obE (.mk k p n s t ls ns l), obE (.mk k2 p2 n2 s2 t2 ls2 ns2 l2)], σ.toks⟩⟩) (fun j => j ≤ i) (.eq2 (by simp) (by simp)) (Nat.zero_le _) fun j hj => ?_
    simp -implicitDefEqProofs (maxSteps := 2000000) (disch := omega) [-getElem?_pos]
    refine .mk (fun hlj => ?_) fun hlj => ?_
    · obtain ⟨x, hx⟩ : ∃ x, L[i]? = some x := ⟨_, List.getElem?_eq_getElem (by omega)⟩
      obtain ⟨y, hy⟩ : ∃ y, L[j]? = some y := ⟨_, List.getElem?_eq_getElem (by omega)⟩
      have hne : x ≠ y := fun e => by
        subst e
        have := honce i j _ hx hy
        omega
      simp -implicitDefEqProofs (maxSteps := 2000000) (disch := omega) [-getElem?_pos, hx, hy, hne]
      exact ⟨by omega, by omega, j + 1, by omega, by dsimp only; omega, .eq (by simp)⟩
    · simp -implicitDefEqProofs (maxSteps := 2000000) (disch := omega) [-getElem?_pos]
      exact ⟨i + 1, by omega, by dsimp only; omega, .eq (by simp)⟩
  · simp -implicitDefEqProofs (maxSteps := 2000000) (disch := omega) [-getElem?_pos, obE_mk]
    refine (kc _).then fun r hr => ?_
    subst hr
    rcases hC with ⟨rfl, hf0⟩ | ⟨⟨q, rfl⟩, hf0⟩
    · have hfv := F6.1 hf0
      have hfv2 := F7 hf0
      have hn2 := F4.resolve_right (fun h => h hf0)
      have hc2 := F5.resolve_right (fun h => h hf0)
      rw [hn2, encE_mk] at kn2
      rw [hc2] at kc2
      simp -implicitDefEqProofs (maxSteps := 2000000) (disch := omega) [-getElem?_pos]
      refine (kn2 _).then fun r hr => ?_
      subst hr
      simp -implicitDefEqProofs (maxSteps := 2000000) (disch := omega) [-getElem?_pos]
      refine (ksm _).then fun r hr => ?_
      subst hr
      simp -implicitDefEqProofs (maxSteps := 2000000) (disch := omega) [-getElem?_pos]
      refine (kfr _).then fun r hr => ?_
      obtain ⟨l', rfl, _, hl'⟩ := hr
      have hl0 : l' = [] := List.eq_nil_iff_forall_not_mem.2 fun v hv => by have := (hl' v).1 hv; rw [hfv] at this; cases this
      subst hl0
      simp -implicitDefEqProofs (maxSteps := 2000000) (disch := omega) [-getElem?_pos]
      refine (kc2 _).then fun r hr => ?_
      subst hr
      simp -implicitDefEqProofs (maxSteps := 2000000) (disch := omega) [-getElem?_pos]
      refine (kfr2 _).then fun r hr => ?_
      obtain ⟨l', rfl, _, hl'⟩ := hr
      have hl0 : l' = [] := List.eq_nil_iff_forall_not_mem.2 fun v hv => by have := (hl' v).1 hv; rw [hfv2] at this; cases this
      subst hl0
      simp -implicitDefEqProofs (maxSteps := 2000000) (disch := omega) [-getElem?_pos]
      exact .fin _ ⟨rfl, rfl⟩ (.refl _)
    · unfold spotV
      simp -implicitDefEqProofs (maxSteps := 2000000) (disch := omega) [-getElem?_pos]
      obtain ⟨⟨k3, p3, n3, s3, t3, ls3, ns3, l3⟩, o3, d3, hz, hd3⟩ := F8
      rw [hz, encE_mk] at kn2
      refine (kn2 _).then fun r hr => ?_
      subst hr
      simp -implicitDefEqProofs (maxSteps := 2000000) (disch := omega) [-getElem?_pos]
      refine (kfr _).then fun r hr => ?_
      obtain ⟨l', rfl, _, hl'⟩ := hr
      have hl0 : l' ≠ [] := fun h0 => hf0 (F6.2 (List.eq_nil_iff_forall_not_mem.2 fun v hv => by have := (hl' v).2 hv; rw [h0] at this; cases this))
      have hl1 : ¬ l'.length = 0 := fun h => hl0 (List.length_eq_zero_iff.1 h)
      simp -implicitDefEqProofs (maxSteps := 2000000) (disch := omega) [-getElem?_pos, hl0, hl1]
      exact .fin _ ⟨rfl, rfl⟩ (.refl _)
namespace parS
theorem strs_of {x : V} (h : Arg Tryz.prog 22 x) : ∃ l : List Str, x = vS l := by
  obtain ⟨xs, rfl, _, hx⟩ := h.sl (e := 9) (sh := none) (by kernel_rfl) (by kernel_rfl) (by kernel_rfl)
  obtain ⟨l, rfl⟩ := list_of_all (enc := V.str) fun y hy => by
    obtain ⟨n, rfl, _⟩ := (hx y hy).str (by kernel_rfl) (by kernel_rfl)
    exact ⟨n, rfl⟩
  exact ⟨l, rfl⟩
theorem sl_arg {P : Program} {t e : TypeId} {sh : Sh} {cs : List V} (hu : P.underlying t = some (.slice e)) (hs : tsh P t = some none) (he : tsh P e = some sh) (h : Ty P t cs) : ∃ x, cs = [x] ∧ Arg P t x := by
  obtain ⟨xs, rfl, _, _⟩ := h.sl_inv hu he
  exact ⟨_, rfl, h, hs⟩
theorem bulk_mem {y : V} : ∀ {xs : List V}, y ∈ xs → y.bulk ≤ V.bulkL xs
  | x :: xs, h => by
    simp only [V.bulkL]
    rcases List.mem_cons.1 h with rfl | h
    · omega
    · have := bulk_mem h; omega
theorem intsL_sub : ∀ l : List {e : Ex // intsE e}, intsL (l.map (·.1))
  | [] => by simp [intsL]
  | z :: l => by rw [List.map_cons, intsL]; exact ⟨z.2, intsL_sub l⟩
theorem expr_of2 : ∀ (n : Nat) {x : V}, x.bulk ≤ n → Arg Tryz.prog 25 x → ∃ t : Ex, x = encE t ∧ intsE t
  | 0, x, hn, h => by
    obtain ⟨parts, rfl, hp⟩ := h.struct (t := 25) (fs := Tryz.prog.fieldsOf 25) (n := 8) (ts := [3, 3, 2, 9, 9, 22, 22, 23]) (by kernel_rfl) (by kernel_rfl) (by kernel_rfl)
    match parts, hp with
    | [p, q, r, s, t, u, v, w], ⟨h1, h2, h3, h4, h5, h6, h7, h8, _⟩ =>
      obtain ⟨a, rfl, _⟩ := h1.int_inv (k := .i64) (by kernel_rfl)
      simp [V.bulk, V.bulkL] at hn
  | n + 1, x, hn, h => by
    obtain ⟨parts, rfl, hp⟩ := h.struct (t := 25) (fs := Tryz.prog.fieldsOf 25) (n := 8) (ts := [3, 3, 2, 9, 9, 22, 22, 23]) (by kernel_rfl) (by kernel_rfl) (by kernel_rfl)
    match parts, hp with
    | [p, q, r, s, t, u, v, w], ⟨h1, h2, h3, h4, h5, h6, h7, h8, _⟩ =>
      obtain ⟨a, rfl, _⟩ := h1.int_inv (k := .i64) (by kernel_rfl)
      obtain ⟨a2, rfl, _⟩ := h2.int_inv (k := .i64) (by kernel_rfl)
      obtain ⟨b, rfl, hb⟩ := h3.int_inv (k := .i64) (by kernel_rfl)
      obtain ⟨c, rfl, _⟩ := h4.str_inv (by kernel_rfl)
      obtain ⟨d, rfl, _⟩ := h5.str_inv (by kernel_rfl)
      obtain ⟨y0, rfl, hy0⟩ := sl_arg (e := 9) (sh := none) (by kernel_rfl) (by kernel_rfl) (by kernel_rfl) h6
      obtain ⟨ls, rfl⟩ := strs_of hy0
      obtain ⟨y1, rfl, hy1⟩ := sl_arg (e := 9) (sh := none) (by kernel_rfl) (by kernel_rfl) (by kernel_rfl) h7
      obtain ⟨ns, rfl⟩ := strs_of hy1
      obtain ⟨y2, rfl, hy2⟩ := sl_arg (e := 25) (sh := some 8) (by kernel_rfl) (by kernel_rfl) (by kernel_rfl) h8
      obtain ⟨xs, rfl, _, hx⟩ := hy2.sl (e := 25) (sh := some 8) (by kernel_rfl) (by kernel_rfl) (by kernel_rfl)
      simp [V.bulk, V.bulkL] at hn
      obtain ⟨l, rfl⟩ := list_of_all (enc := fun e : {e : Ex // intsE e} => encE e.1) fun y hy => by
        obtain ⟨t, ht, hi⟩ := expr_of2 n (by have := bulk_mem hy; omega) (hx y hy)
        exact ⟨⟨t, hi⟩, ht⟩
      refine ⟨.mk a a2 b c d ls ns (l.map (·.1)), by rw [encE_mk, List.map_map]; rfl, ?_⟩
      rw [intsE]
      refine ⟨hb, ?_⟩
      exact intsL_sub l
def p10T : List Int := (List.range 20).map fun i => ((10 ^ i : Nat) : Int)
theorem own : ownKnob Tryz.prog.godebug = none := by kernel_rfl
theorem laidOut : laidOutB Tryz.prog = true := by kernel_rfl
theorem gErr : (Tryz.prog.globals[6]?).map (·.type) = some 29 := by kernel_rfl
theorem errI : ∃ ms, Tryz.prog.underlying 29 = some (.interface ms) := ⟨_, Tryz.underlying29⟩
theorem rtT : (Tryz.prog.cutTypes.find? (·.1 == "internal/reflectlite.rtype")).map (·.2) = some 143 := by kernel_rfl
theorem size : Tryz.prog.types.size = 276 := by kernel_rfl
theorem oneRow : ((List.range 276).filter fun t => Tryz.prog.rowNamed t [101, 114, 114, 111, 114]) = [29] := by kernel_rfl
theorem hcells {W : World} {g : Nat} {name : String} {cs : Array Value} (hn : Tryz.prog.globalNamed name = some g) (h : W.var? Tryz.prog name = some cs) : ∃ ty fr, W.heap[g]? = some (.cells cs ty fr) := by
  unfold World.var? at h
  rw [hn] at h
  simp only [Option.bind_some] at h
  cases hx : W.heap[g]? with
  | none => rw [hx] at h; cases h
  | some ob =>
    rw [hx] at h
    cases ob with
    | cells cs' ty fr =>
      have h' : some cs' = some cs := h
      cases h'
      exact ⟨ty, fr, rfl⟩
    | _ => cases h
theorem glob_of {W : World} (h : laidMetH Tryz.prog Rows.parseBackUptoRow.laid W) : ∀ p ∈ globs, ∃ cs ty fr, W.heap[p.1]? = some (.cells cs ty fr) ∧ p.2 cs := by
  have h' : laidMet Tryz.prog [("math/bits.deBruijn32tab", Rows.laid_math_bits_deBruijn32tab), ("math/bits.deBruijn64tab", Rows.laid_math_bits_deBruijn64tab), ("internal/strconv.uint64pow10", Lib.tabData .u64 p10T), ("strconv.ErrRange", Rows.laid_strconv_ErrRange), ("strconv.ErrSyntax", Rows.laid_strconv_ErrSyntax)] W ∧ handlesMet Tryz.prog [("errors.errorType", Rows.laid_errors_errorType)] W := h
  obtain ⟨⟨ps, hv, _⟩, hh⟩ := h'
  obtain ⟨_, _, _, _, _, _, _, _, _, _, hv, _⟩ := hv
  obtain ⟨_, _, _, _, _, _, _, _, _, _, hv, _⟩ := hv
  obtain ⟨g1, t1, cs1, fuel1, p1, q1, hg1, ht1, hvar1, hd1, hv, _⟩ := hv
  obtain ⟨g2, t2, cs2, fuel2, p2, q2, hg2, ht2, hvar2, hd2, _, _⟩ := hv
  obtain ⟨name, u, ty, e1, e2, e3, e4, e5⟩ := hh _ (List.mem_singleton.2 rfl)
  have en : name = [101, 114, 114, 111, 114] := (Option.some.inj e1).symm
  subst en
  obtain rfl := Option.some.inj (rtT.symm.trans e2)
  have hm : ty ∈ (List.range 276).filter fun t => Tryz.prog.rowNamed t [101, 114, 114, 111, 114] := List.mem_filter.2 ⟨List.mem_range.2 (by rw [← size]; exact e3), e4⟩
  rw [oneRow] at hm
  obtain rfl := List.mem_singleton.1 hm
  have hth : typeHandle Tryz.prog 29 = .pointer (some ⟨7, 29, none⟩) := by kernel_rfl
  rw [hth] at e5
  obtain rfl := Option.some.inj ((show (Tryz.prog.globals[1]?).map (·.type) = some 186 by kernel_rfl).symm.trans ((Option.some.inj ((show Tryz.prog.globalNamed "internal/strconv.uint64pow10" = some 1 by kernel_rfl).symm.trans hg1)) ▸ ht1))
  obtain rfl := Option.some.inj ((show Tryz.prog.globalNamed "strconv.ErrRange" = some 6 by kernel_rfl).symm.trans hg2)
  obtain rfl := Option.some.inj (gErr.symm.trans ht2)
  obtain ⟨ms, hms⟩ := errI
  obtain ⟨_, te, pe, hcs2, _, _⟩ := iface_of_trod hms hd2
  have hcs2' : cs2 = #[.iface te pe] := Array.eq_one_of_toList hcs2
  subst hcs2'
  have ht := Lib.cells_of_tab (t := 186) (e := 137) (n := 20) (by kernel_rfl) (by kernel_rfl) (by kernel_rfl) (by kernel_rfl) hd1
  obtain ⟨ty0, fr0, h0⟩ := hcells (g := 0) (by kernel_rfl) e5
  obtain ⟨ty1, fr1, h1⟩ := hcells (g := 1) (by kernel_rfl) hvar1
  obtain ⟨ty2, fr2, h2⟩ := hcells (g := 6) (by kernel_rfl) hvar2
  intro p hp
  simp only [globs, List.mem_cons, List.not_mem_nil, or_false] at hp
  rcases hp with rfl | rfl | rfl
  · exact ⟨_, _, _, h0, rfl⟩
  · exact ⟨_, _, _, h1, Array.toList_inj.1 (ht.trans (by kernel_rfl))⟩
  · exact ⟨_, _, _, h2, _, _, rfl⟩
def cellsTo (cs : Array Value) : Obj → Obj
  | .cells _ t frozen => .cells cs t frozen
  | o => o
noncomputable def low : Nat := (World.holding Tryz.prog default ⟨#[], #[], []⟩).heap.size
noncomputable def laidWorld (os : Os) : World :=
  { World.holding Tryz.prog os ⟨#[.cells #[.string ⟨#[118, 97, 108, 117, 101, 32, 111, 117, 116, 32, 111, 102, 32, 114, 97, 110, 103, 101]⟩] 247, .cells #[.string ⟨#[105, 110, 118, 97, 108, 105, 100, 32, 115, 121, 110, 116, 97, 120]⟩] 247], #[], []⟩ with heap := ((((((World.holding Tryz.prog os ⟨#[.cells #[.string ⟨#[118, 97, 108, 117, 101, 32, 111, 117, 116, 32, 111, 102, 32, 114, 97, 110, 103, 101]⟩] 247, .cells #[.string ⟨#[105, 110, 118, 97, 108, 105, 100, 32, 115, 121, 110, 116, 97, 120]⟩] 247], #[], []⟩).heap.modify 0 (cellsTo #[.iface 143 (.agg #[.pointer (some ⟨7, 29, none⟩)])])).modify 1 (cellsTo #[.int .u64 1, .int .u64 10, .int .u64 100, .int .u64 1000, .int .u64 10000, .int .u64 100000, .int .u64 1000000, .int .u64 10000000, .int .u64 100000000, .int .u64 1000000000, .int .u64 10000000000, .int .u64 100000000000, .int .u64 1000000000000, .int .u64 10000000000000, .int .u64 100000000000000, .int .u64 1000000000000000, .int .u64 10000000000000000, .int .u64 100000000000000000, .int .u64 1000000000000000000, .int .u64 10000000000000000000])).modify 5 (cellsTo #[.iface 245 (.pointer (some ⟨low + 1, 0, none⟩))])).modify 6 (cellsTo #[.iface 245 (.pointer (some ⟨low, 0, none⟩))])).modify 3 (cellsTo #[.int .u8 0, .int .u8 1, .int .u8 28, .int .u8 2, .int .u8 29, .int .u8 14, .int .u8 24, .int .u8 3, .int .u8 30, .int .u8 22, .int .u8 20, .int .u8 15, .int .u8 25, .int .u8 17, .int .u8 4, .int .u8 8, .int .u8 31, .int .u8 27, .int .u8 13, .int .u8 23, .int .u8 21, .int .u8 19, .int .u8 16, .int .u8 7, .int .u8 26, .int .u8 12, .int .u8 18, .int .u8 6, .int .u8 11, .int .u8 5, .int .u8 10, .int .u8 9])).modify 4 (cellsTo #[.int .u8 0, .int .u8 1, .int .u8 56, .int .u8 2, .int .u8 57, .int .u8 49, .int .u8 28, .int .u8 3, .int .u8 61, .int .u8 58, .int .u8 42, .int .u8 50, .int .u8 38, .int .u8 29, .int .u8 17, .int .u8 4, .int .u8 62, .int .u8 47, .int .u8 59, .int .u8 36, .int .u8 45, .int .u8 43, .int .u8 51, .int .u8 22, .int .u8 53, .int .u8 39, .int .u8 33, .int .u8 30, .int .u8 24, .int .u8 18, .int .u8 12, .int .u8 5, .int .u8 63, .int .u8 55, .int .u8 48, .int .u8 27, .int .u8 60, .int .u8 41, .int .u8 37, .int .u8 16, .int .u8 46, .int .u8 35, .int .u8 44, .int .u8 21, .int .u8 52, .int .u8 32, .int .u8 23, .int .u8 11, .int .u8 54, .int .u8 26, .int .u8 40, .int .u8 15, .int .u8 34, .int .u8 20, .int .u8 31, .int .u8 10, .int .u8 25, .int .u8 14, .int .u8 19, .int .u8 9, .int .u8 13, .int .u8 8, .int .u8 7, .int .u8 6]) }
end parS
namespace scopeOnce
open parS
def args0 : Array Value := #[.agg #[.int .i64 0, .int .i64 0, .int .i64 0, .string ⟨#[]⟩, .string ⟨#[]⟩, .slice none 0 0, .slice none 0 0, .slice none 0 0]]
theorem laid_met (os : Os) : laidMetH Tryz.prog Rows.scopeOnceUptoRow.laid ((laidWorld os).forCall (fun _ _ => 0) ⟨#[], args0, []⟩).memory :=
  laidMetH_of_parts (laidMet_of_run' 8 (by kernel_rfl) (by kernel_rfl)) (by kernel_rfl)
theorem reads (os : Os) {H : Type} (enc : TypeId × Value → H) : ∃ places, DataW.whole enc Tryz.prog ((laidWorld os).forCall (fun _ _ => 0) ⟨#[], args0, []⟩).memory Tryz.f6.params.toList Rows.scopeOnceSpec.vars false args0.toList 8 =
    some ([.agg [.lit (.int .i64 0), .lit (.int .i64 0), .lit (.int .i64 0), .lit (.string []), .lit (.string []), .nil, .nil, .nil]], [], places) :=
  ⟨[], by kernel_rfl⟩
set_option maxRecDepth 100000 in
theorem lifted (os : Os) (started : os.Started) (H : Type) (enc : TypeId × Value → H) (F : Stop.Interp) :
    ReturnsInHanded {} Tryz.checked os 6 .any ((Rows.OpenSpec.upto Rows.scopeOnceSpec).preRow enc Tryz.prog Tryz.f6 Rows.scopeOnceUptoRow.domain false Rows.scopeOnceUptoRow.laid) (((Rows.OpenSpec.upto Rows.scopeOnceSpec).at F).post enc Tryz.prog Tryz.f6 false true false false) := by
  obtain ⟨places, hx⟩ := reads os enc
  refine returnsInHanded_of_row (C := Tryz.checked) (s := Rows.OpenSpec.upto Rows.scopeOnceSpec) own started (by kernel_rfl) Tryz.func6
    (witness_row_at (enc := enc) (C := Tryz.checked) false (laidWorld os) args0 rfl (by kernel_rfl) (by kernel_rfl) (by kernel_rfl)
      (OpenSpec.preRow_of_cond 8 hx (by kernel_rfl) (fun k hk => by cases hk; kernel_rfl) (by kernel_rfl) (laid_met os))) ?_
  intro W base args ds gs before hval hW _ hcond _ hL _ _
  refine law_calls (T := [3, 2, 4, 9, 22, 25, 23]) (by kernel_rfl) laidOut (by kernel_rfl) (rt := 4) rfl (by kernel_rfl) hval _ rfl hW (fun ds hl => ?_) (fun xs hxs hbk => ?_) (glob_of hL)
  · match ds, hl with
    | [_], _ => rfl
  · replace hbk := Nat.le_trans hbk (of_decide_eq_true (hcond _ rfl))
    match xs, hxs with
    | [_], ⟨a1, _⟩ =>
      obtain ⟨e, rfl, hi⟩ := expr_of2 _ (Nat.le_refl _) a1
      simp only [V.bulkL, bulk_ex] at hbk
      exact (k_Once (e := e) (by omega)).mono fun r σ' h => h.1
theorem said : Rows.ScopeOnceUptoSaid :=
  OpenClaim.holds_of_cond 6 Tryz.f6 rfl rfl rfl rfl rfl rfl rfl ⟨rfl, rfl, rfl, rfl, rfl⟩ rfl rfl rfl rfl rfl (by kernel_rfl) Tryz.func6 (by kernel_rfl)
    (of_decide_eq_true (by kernel_rfl)) (by unfold Func.isWrapper; first | (rw [if_pos (by decide +kernel)]; kernel_rfl) | (rw [if_neg (by decide +kernel)]; exact ⟨rfl, rfl⟩))
    (fun os started H enc _ F => by rw [OpenClaim.pre_eq_preRow]; exact lifted os started H enc F)
theorem plain (f : FuncId) (fn : Func) (hf : Tryz.pinned.checked.prog.funcNamed "bushel/bushellaw08.ScopeOnce" = some f) (hfn : Tryz.pinned.checked.prog.funcs[f]? = some fn) :
    true = Tryz.pinned.checked.prog.looks [] ∧ ∀ (j : Nat) t, fn.params[j]? = some t → Tryz.pinned.checked.prog.wantsStandIn t = false := by
  obtain rfl : f = 6 := Option.some.inj ((show Tryz.prog.funcNamed "bushel/bushellaw08.ScopeOnce" = some 6 by kernel_rfl).symm.trans hf) |>.symm
  obtain rfl : fn = Tryz.f6 := (Option.some.inj (Tryz.func6.symm.trans hfn)).symm
  refine ⟨by kernel_rfl, fun j t ht => ?_⟩
  rw [Tryz.params6] at ht
  have hm := Array.mem_of_getElem? ht
  simp only [List.mem_toArray, List.mem_cons, List.not_mem_nil, or_false] at hm
  subst hm
  exact (show Tryz.prog.wantsStandIn 25 = false by kernel_rfl)
theorem proved : Rows.ScopeOnceUptoCardSaid :=
  Claim7.holds_tied_plain_at .later [] _ _ _ _ said (fun _ h => by cases h) (by kernel_rfl) (fun _ h => by cases h) scopeOnceUpto_row_tie rfl ⟨rfl, rfl⟩ (by kernel_rfl) rfl plain (by kernel_rfl)
end scopeOnce
end Go.Proofs.YtpdeaekmgljeaaaGreatDoor
