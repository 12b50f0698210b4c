/-
  Closed functions: what is free in a function's part, walked. (Own work.)
-/
import Derived.Test.YtppdghfpbliaeaaB20
set_option linter.unusedVariables false
set_option linter.unusedSimpArgs false
namespace Go.Proofs.Ytppdghfpbliaeaa
open Go Go.Abs

theorem Grew.trans {a b d : Sg} (h : Grew a b) (k : Grew b d) : Grew a d := by
  obtain ⟨ts, h3⟩ := h.toks
  obtain ⟨us, k3⟩ := k.toks
  exact ⟨Nat.le_trans h.len k.len, fun i hi => (k.objs i (Nat.lt_of_lt_of_le hi h.len)).trans (h.objs i hi), ts ++ us, by rw [k3, h3, List.append_assoc]⟩
def exV : Co := .mk 3 0 [97] [] [] []
def exF : Co := .mk 4 0 [97] [] [] [.mk 4 0 [98] [] [] [exV]]
theorem exV_le : VLe (.agg [.int .i64 3, .int .i64 0, .str [97], .str [], .snil, .snil]) (encC exV) := by
  rw [exV, encC_mk]
  exact .agg ⟨.refl _, .refl _, .refl _, .refl _, .snil, .snil, trivial⟩ (by simp [V.one])
theorem one_le {a b : V} (h : ∃ cs ds, a = .agg cs ∧ b = .agg ds ∧ VLes cs ds ∧ (∀ c ∈ ds, c.one = true)) (hb : b.shape = some 6) : VLe (.sl (some 6) true [a]) (.sl (some 6) false [b]) := by
  obtain ⟨cs, ds, rfl, rfl, h1, h2⟩ := h
  refine .sl rfl (by simpa using hb) (by simpa [V.flat, V.cells] using h2) (by simpa [V.flat, V.cells] using h1)
theorem exF_le : VLe (.agg [.int .i64 4, .int .i64 0, .str [97], .str [], .snil, .sl (some 6) true [.agg [.int .i64 4, .int .i64 0, .str [98], .str [], .snil, .sl (some 6) true [.agg [.int .i64 3, .int .i64 0, .str [97], .str [], .snil, .snil]]]]]) (encC exF) := by
  rw [exF, encC_mk]
  refine .agg ⟨.refl _, .refl _, .refl _, .refl _, .snil, one_le ⟨_, _, rfl, encC_mk, ⟨.refl _, .refl _, .refl _, .refl _, .snil, one_le ⟨_, _, rfl, encC_mk, ⟨.refl _, .refl _, .refl _, .refl _, .snil, .snil, trivial⟩, by simp [V.one]⟩ (encC_shape _), trivial⟩, by simp [V.one]⟩ (encC_shape _), trivial⟩ (by simp [V.one])
theorem exF_L : closeL exF = [⟨[], [], none, some (.mk 4 1 [97] [] [] [.mk 4 2 [98] [] [] [exV]])⟩, ⟨[], [97], some [], some (.mk 4 2 [98] [] [] [exV])⟩, ⟨[], [98], some [[97]], some exV⟩] := by kernel_rfl
theorem exF_E : closeE exF = 0 := by kernel_rfl
theorem exV_E : closeE exV = 4 := by kernel_rfl
theorem k_Up {σ : Sg} : ACalls Try.prog 7 [] σ fun r σ' => r = .v (.bool true) ∧ Grew σ σ' := by
  refine acalls_fit Try.func7 (by kernel_rfl) c7 rfl (by simp [a7]) fun hf => ?_
  clear hf
  simp -implicitDefEqProofs (maxSteps := 2000000) (disch := omega) [-getElem?_pos, a7]
  refine ((k_Close exF (by decide)).arg1 exF_le.d).mono fun r σ1 hr => ?_
  obtain ⟨rfl, hG⟩ := hr
  rw [exF_L, exF_E]
  have g0 := hG.get (i := σ.objs.length) (x := .cells [.v (.int .i64 3), .v (.int .i64 0), .v (.str [97]), .v (.str []), .v .snil, .v .snil]) (by simp)
  simp -implicitDefEqProofs (maxSteps := 2000000) (disch := omega) [-getElem?_pos, g0, errV]
  refine ((k_Close exV (by decide)).arg1 exV_le.d).mono fun r σ2 hr => ?_
  obtain ⟨rfl, hG2⟩ := hr
  rw [exV_E]
  simp -implicitDefEqProofs (maxSteps := 2000000) (disch := omega) [-getElem?_pos, errV, encU, vS]
  exact ⟨by kernel_rfl, _, _, weakR_le (.refl _), rfl, ((Grew.add _ _).trans hG).trans hG2⟩

theorem close_len {e : Co} (h0 : closeE e = 0) : (closeL e).length ≤ 2000 := by
  unfold closeE at h0
  split at h0
  · cases h0
  split at h0
  · cases h0
  split at h0
  · cases h0
  rename_i h
  have : closeE e = 0 := by
    unfold closeE
    rw [if_neg (by assumption), if_neg (by assumption), if_neg h]
  unfold closeL
  rw [if_pos this, setPart_len]
  omega
set_option maxHeartbeats 2000000 in
theorem k_CloseOwn (e : Co) {σ : Sg} (he : csz e ≤ 1048576) : ACalls Try.prog 4 [.v (encC e)] σ fun r _ => r = .v (.bool true) := by
  have ff := fun σ => k_Few (e := e) (σ := σ) he
  have fw := fun σ => k_Whole e (σ := σ) he
  have fc := fun σ => k_Close e (σ := σ) he
  obtain ⟨e0, he0⟩ : ∃ e0, e0 = e := ⟨_, rfl⟩
  cases e with
  | mk k n s t ns l =>
  rw [encC_mk] at ff fw fc ⊢
  rw [← he0] at fw fc he
  refine acalls_fit Try.func4 (by kernel_rfl) c4 rfl (by simp [a4]) fun hf => ?_
  clear hf
  simp -implicitDefEqProofs (maxSteps := 2000000) (disch := omega) [-getElem?_pos, a4]
  refine k_Up.mono fun r σ1 hr => ?_
  obtain ⟨rfl, hG⟩ := hr
  have g0 := hG.get (i := σ.objs.length) (x := .cells [.v (.int .i64 k), .v (.int .i64 n), .v (.str s), .v (.str t), .v (.sl none false (ns.map .str)), .v (.sl (some 6) false (l.map encC))]) (by simp)
  simp -implicitDefEqProofs (maxSteps := 2000000) (disch := omega) [-getElem?_pos, g0]
  refine (ff _).then fun r hr => ?_
  obtain ⟨q1, rfl⟩ := hr
  simp -implicitDefEqProofs (maxSteps := 2000000) (disch := omega) [-getElem?_pos, g0]
  refine (fw _).then fun r hr => ?_
  obtain ⟨q2, rfl, hw⟩ := hr
  cases q1 with
  | false =>
    simp -implicitDefEqProofs (maxSteps := 2000000) (disch := omega) [-getElem?_pos]
    exact ⟨_, _, weakR_le (.refl _), rfl⟩
  | true =>
  cases q2 with
  | false =>
    simp -implicitDefEqProofs (maxSteps := 2000000) (disch := omega) [-getElem?_pos]
    exact ⟨_, _, weakR_le (.refl _), rfl⟩
  | true =>
  simp -implicitDefEqProofs (maxSteps := 2000000) (disch := omega) [-getElem?_pos, g0]
  refine (fc _).mono fun r σ2 hr => ?_
  obtain ⟨rfl, hG2⟩ := hr
  by_cases h0 : closeE e0 = 0
  rotate_left
  · rw [show closeL e0 = [] by simp [closeL, h0]]
    simp -implicitDefEqProofs (maxSteps := 2000000) (disch := omega) [-getElem?_pos, errV, h0]
    exact ⟨_, _, weakR_le (.refl _), rfl⟩
  obtain ⟨hne, hown⟩ := close_own (hw rfl) h0
  have hll := close_len h0
  rw [h0]
  generalize closeL e0 = L at *
  simp -implicitDefEqProofs (maxSteps := 2000000) (disch := omega) [-getElem?_pos, errV]
  refine W_loop (α := Nat) 0 (fun i => L.length - i) (fun i => ⟨[(3, .v (.bool true)), (6, .v (.sl (some 9) false (L.map encU))), (8, .v (.int .i64 i))], σ2⟩) (fun i => i ≤ L.length) (.eq (by simp)) (by simp) fun i hi => ?_
  simp -implicitDefEqProofs (maxSteps := 2000000) (disch := omega) [-getElem?_pos]
  refine .mk (fun h => ?_) fun h => ?_
  rotate_left
  · obtain ⟨f, hf⟩ : ∃ f, L[0]? = some f := by
      cases L with
      | nil => exact absurd rfl hne
      | cons a l => exact ⟨a, rfl⟩
    obtain ⟨p, o1, o2, o3, o4, o5, o6⟩ := hown 0 f hf
    have hc : f.caps = none := o6 rfl
    have hpos := (List.getElem?_eq_some_iff.1 hf).1
    cases p with
    | mk k1 n1 s1 t1 ns1 l1 =>
    have hE : encU f = .agg [.str f.s, .str f.t, vS [], .int .i64 k1, .int .i64 n1, .str s1, .str t1, .sl none false (ns1.map .str), .sl (some 6) false (l1.map encC)] := by simp [encU, hc, o1, coV_mk]
    simp -implicitDefEqProofs (maxSteps := 2000000) (disch := omega) [-getElem?_pos, hf, hE]
    refine .mk (fun hp => ?_) fun hp => absurd hpos hp
    simp -implicitDefEqProofs (maxSteps := 2000000) (disch := omega) [-getElem?_pos, hf, hE]
    exact ⟨hpos, _, _, weakR_le (.refl _), rfl⟩
  obtain ⟨f, hf⟩ : ∃ f, L[i]? = some f := ⟨_, List.getElem?_eq_getElem h⟩
  obtain ⟨p, o1, o2, o3, o4, o5, o6⟩ := hown i f hf
  have hfree := fun σ => k_Free p (σ := σ) (by omega)
  obtain ⟨F, hF⟩ : ∃ F, F = ofS (fvs p) := ⟨_, rfl⟩
  have hFm : ∀ y, y ∈ F ↔ y ∈ fvs p := by intro y; rw [hF]; exact mem_ofS
  have hFl : F.length ≤ 1048576 := by
    have h1 := ofS_len (fvs p)
    have h2 := fvs_len p
    rw [hF]
    omega
  rw [← hF] at hfree
  obtain ⟨C, hC⟩ : ∃ C, C = f.caps.getD [] := ⟨_, rfl⟩
  rw [← hC] at o3 o4 o5
  simp only [← hFm] at o4 o5
  clear hFm hF
  cases p with
  | mk k1 n1 s1 t1 ns1 l1 =>
  have hE : encU f = .agg [.str f.s, .str f.t, vS C, .int .i64 k1, .int .i64 n1, .str s1, .str t1, .sl none false (ns1.map .str), .sl (some 6) false (l1.map encC)] := by simp [encU, ← hC, o1, coV_mk]
  rw [encC_mk] at hfree
  simp -implicitDefEqProofs (maxSteps := 2000000) (disch := omega) [-getElem?_pos, hf, hE]
  refine ⟨h, (hfree _).then fun r hr => ?_⟩
  subst hr
  simp -implicitDefEqProofs (maxSteps := 2000000) (disch := omega) [-getElem?_pos, hf, hE]
  refine W_loop (α := Nat) 0 (fun j => F.length - j) (fun j => ⟨[(3, .v (.bool true)), (6, .v (.sl (some 9) false (L.map encU))), (8, .v (.int .i64 i)), (9, .v (vS F)), (10, .v (.int .i64 j))], σ2⟩) (fun j => j ≤ F.length) (.eq (by simp)) (by simp) fun j hj => ?_
  simp -implicitDefEqProofs (maxSteps := 2000000) (disch := omega) [-getElem?_pos]
  refine .mk (fun hjl => ?_) fun hjl => ?_
  · obtain ⟨y, hy⟩ : ∃ y, F[j]? = some y := ⟨_, List.getElem?_eq_getElem hjl⟩
    have hyF := List.mem_of_getElem? hy
    simp -implicitDefEqProofs (maxSteps := 2000000) (disch := omega) [-getElem?_pos, hf, hE, hy]
    refine ⟨h, hjl, k_RHas.then fun r hr => ?_⟩
    subst hr
    by_cases hm : y ∈ C
    · simp -implicitDefEqProofs (maxSteps := 2000000) (disch := omega) [-getElem?_pos, hm]
      exact ⟨j + 1, by omega, by show F.length - (j + 1) < F.length - j; omega, .eq (by simp)⟩
    · obtain ⟨hi0, hys⟩ := (o5 y hyF).resolve_left hm
      simp -implicitDefEqProofs (maxSteps := 2000000) (disch := omega) [-getElem?_pos, hm, hf, hE, hy, hi0]
      refine ⟨hjl, h, ?_⟩
      refine .mk (fun hys1 => ?_) fun hys1 => ?_
      · simp -implicitDefEqProofs (maxSteps := 2000000) (disch := omega) [-getElem?_pos, hys1]
        exact ⟨j + 1, by omega, by show F.length - (j + 1) < F.length - j; omega, .eq (by simp)⟩
      · have hyt : y = f.t := hys.resolve_left hys1
        have hyt2 : (y == f.t) = true := by simp [hyt]
        simp -implicitDefEqProofs (maxSteps := 2000000) (disch := omega) [-getElem?_pos, hf, hE, hy, hys1]
        refine ⟨hjl, h, .mk (fun _ => ?_) fun hq => absurd hyt hq⟩
        simp -implicitDefEqProofs (maxSteps := 2000000) (disch := omega) [-getElem?_pos]
        exact ⟨j + 1, by omega, by show F.length - (j + 1) < F.length - j; omega, .eq (by simp)⟩
  · simp -implicitDefEqProofs (maxSteps := 2000000) (disch := omega) [-getElem?_pos]
    refine W_loop (α := Nat) 0 (fun j => C.length - j) (fun j => ⟨[(3, .v (.bool true)), (6, .v (.sl (some 9) false (L.map encU))), (8, .v (.int .i64 i)), (9, .v (vS F)), (12, .v (.int .i64 j))], σ2⟩) (fun j => j ≤ C.length) (.eq (by simp)) (by simp) fun j hj => ?_
    simp -implicitDefEqProofs (maxSteps := 2000000) (disch := omega) [-getElem?_pos, hf, hE]
    refine ⟨h, .mk (fun hjl2 => ?_) fun hjl2 => ?_⟩
    · obtain ⟨y, hy⟩ : ∃ y, C[j]? = some y := ⟨_, List.getElem?_eq_getElem hjl2⟩
      have hyF := o4 y (List.mem_of_getElem? hy)
      simp -implicitDefEqProofs (maxSteps := 2000000) (disch := omega) [-getElem?_pos, hf, hE, hy]
      refine ⟨h, hjl2, k_RHas.then fun r hr => ?_⟩
      subst hr
      simp -implicitDefEqProofs (maxSteps := 2000000) (disch := omega) [-getElem?_pos, hyF]
      exact ⟨j + 1, by omega, by show C.length - (j + 1) < C.length - j; omega, .eq (by simp)⟩
    · simp -implicitDefEqProofs (maxSteps := 2000000) (disch := omega) [-getElem?_pos]
      exact ⟨i + 1, by omega, by show L.length - (i + 1) < L.length - i; omega, .eq (by simp)⟩
end Go.Proofs.Ytppdghfpbliaeaa
