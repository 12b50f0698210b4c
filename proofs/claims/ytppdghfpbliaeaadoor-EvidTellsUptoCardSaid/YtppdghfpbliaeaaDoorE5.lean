/-
  Evidence: a label's offset, as what is told; as a number. (Own work.)
-/
import Derived.Test.YtppdghfpbliaeaaDoorE4
set_option linter.unusedVariables false
set_option linter.unusedSimpArgs false
namespace Go.Proofs.YtppdghfpbliaeaaDoor
open Go Go.Abs

theorem k_May (t : Tp) {σ : Sg} (ht : tsz t ≤ 1048576) : ACalls Tryd.prog 36 [.v (encT t)] σ fun r σ' => r = .v (.bool (fineS t 0).1) ∧ σ' = σ := by
  have hF := fun (p : Nat) σ h => k_Fine t (c := 0) (p := p) (σ := σ) (by omega) ht h
  obtain ⟨fv, hfv⟩ : ∃ fv, fv = fineS t 0 := ⟨_, rfl⟩
  rw [← hfv] at hF ⊢
  cases t with
  | mk k n l ls tl =>
  rw [encT_mk] at hF ⊢
  refine acalls_fit Tryd.func36 (by kernel_rfl) c36 rfl (by simp [a36]) fun hf => ?_
  clear hf
  simp -implicitDefEqProofs (maxSteps := 2000000) (disch := omega) [-getElem?_pos, a36]
  refine (hF _ _ (by simp)).mono fun r σ' hr => ?_
  obtain ⟨rfl, rfl⟩ := hr
  simp -implicitDefEqProofs (maxSteps := 2000000) (disch := omega) [-getElem?_pos, atN]
  exact .fin _ ⟨rfl, rfl⟩ (.refl _)

def okOf (t : Tp) (s : Str) : Bool := match t with | .mk k _ _ _ _ => isRowN k && (fineS t 0).1 && !decide (s = [])
def ofV (t : Tp) (s : Str) : V := match t with | .mk _ _ _ ls tl => if okOf t s = true then .agg [.int .i64 (offs ls s), .int .i64 tl, .str (if 0 ≤ tl then s else [])] else .agg [.int .i64 0, .int .i64 0, .str []]
def ofE (t : Tp) (s : Str) : V := if okOf t s = true then .inil else .iface 47 (.int .i64 1)
theorem isS_asc : ∀ {l : List Str}, isS l = true → Asc l
  | [], _ => List.Pairwise.nil
  | [x], _ => List.pairwise_singleton _ _
  | x :: y :: l, h => by
    simp only [isS, Bool.and_eq_true, decide_eq_true_eq] at h
    have ih := isS_asc h.2
    refine List.Pairwise.cons (fun z hz => ?_) ih
    rcases List.mem_cons.1 hz with rfl | hz
    · exact h.1
    · exact List.lt_trans h.1 ((List.pairwise_cons.1 ih).1 z hz)
theorem isS_sorted {l : List Str} (h : isS l = true) : sorted l := (isS_asc h).sorted
set_option maxHeartbeats 1000000 in
theorem k_Of13 (t : Tp) {s : Str} {σ : Sg} (ht : tsz t ≤ 1048576) : ACalls Tryd.prog 11 [.v (encT t), .v (.str s)] σ fun r σ' => r = .tup [.v (ofV t s), .v (ofE t s)] ∧ σ' = σ := by
  have hM := fun σ => k_May t (σ := σ) (by omega)
  cases t with
  | mk k n l ls tl =>
  simp only [tsz] at ht
  have hok : okOf (.mk k n l ls tl) s = (isRowN k && (fineS (.mk k n l ls tl) 0).1 && !decide (s = [])) := rfl
  have hfi : (fineS (.mk k n l ls tl) 0).1 = true → isRowN k = true → isS ls = true := by
    intro h hr
    rw [fineS, hr] at h
    simp only [if_true] at h
    split at h
    · cases h
    split at h
    · cases h
    rename_i h1 h2
    cases his : isS ls with
    | true => rfl
    | false => exact absurd (.inr (.inl his)) h2
  have hV : ofV (.mk k n l ls tl) s = if okOf (.mk k n l ls tl) s = true then .agg [.int .i64 (offs ls s), .int .i64 tl, .str (if 0 ≤ tl then s else [])] else .agg [.int .i64 0, .int .i64 0, .str []] := rfl
  have hE : ofE (.mk k n l ls tl) s = if okOf (.mk k n l ls tl) s = true then .inil else .iface 47 (.int .i64 1) := rfl
  have hty : intTy Tryd.prog 47 = true := by kernel_rfl
  generalize ofV (.mk k n l ls tl) s = vv at hV ⊢
  generalize ofE (.mk k n l ls tl) s = ve at hE ⊢
  generalize okOf (.mk k n l ls tl) s = ok at hok hV hE
  obtain ⟨fv, hfv⟩ : ∃ fv, fv = (fineS (.mk k n l ls tl) 0).1 := ⟨_, rfl⟩
  rw [← hfv] at hM hok hfi
  clear hfv
  rw [encT_mk] at hM ⊢
  refine acalls_fit Tryd.func11 (by kernel_rfl) c11 rfl (by simp [a11]) fun hf => ?_
  clear hf
  by_cases hr : k = 4 ∨ k = 5
  rotate_left
  · have h4 : ¬ k = 4 := fun h => hr (.inl h)
    have h5 : ¬ k = 5 := fun h => hr (.inr h)
    have hok' : ok = false := by rw [hok]; simp [isRowN, hr]
    subst hok'
    simp -implicitDefEqProofs (maxSteps := 2000000) (disch := omega) [-getElem?_pos, a11, h4, h5]
    exact .fin _ ⟨by rw [hV, hE]; rfl, rfl⟩ (.refl _)
  have hri : isRowN k = true := by simpa [isRowN] using hr
  by_cases h4 : k = 4
  · subst h4
    simp -implicitDefEqProofs (maxSteps := 2000000) (disch := omega) [-getElem?_pos, a11]
    refine (hM _).then fun r hr2 => ?_
    subst hr2
    cases fv with
    | false =>
      have hok' : ok = false := by rw [hok, hri]; rfl
      subst hok'
      simp -implicitDefEqProofs (maxSteps := 2000000) (disch := omega) [-getElem?_pos]
      exact .fin _ ⟨by rw [hV, hE]; rfl, rfl⟩ (.refl _)
    | true =>
    have hso := isS_sorted (hfi rfl hri)
    by_cases hs : s = []
    · have hok' : ok = false := by rw [hok, hs]; simp
      subst hok'
      simp -implicitDefEqProofs (maxSteps := 2000000) (disch := omega) [-getElem?_pos, hs]
      exact .fin _ ⟨by rw [hV, hE]; rfl, rfl⟩ (.refl _)
    have hok' : ok = true := by rw [hok, hri]; simp [hs]
    subst hok'
    simp -implicitDefEqProofs (maxSteps := 2000000) (disch := omega) [-getElem?_pos, hs]
    have ho : offs ls s = at0 ls s := (isS_asc (hfi rfl hri)).offs_eq s
    refine ⟨(k_Offset hso (by omega)).then fun r hr3 => ?_, (k_Offset hso (by omega)).then fun r hr3 => ?_⟩
    all_goals
      subst hr3
      simp -implicitDefEqProofs (maxSteps := 2000000) (disch := omega) [-getElem?_pos]
      refine .mk (fun htl => ?_) fun htl => ?_
      · simp -implicitDefEqProofs (maxSteps := 2000000) (disch := omega) [-getElem?_pos]
        exact .fin _ ⟨by rw [hV, hE, ho]; simp [htl], rfl⟩ (.refl _)
      · simp -implicitDefEqProofs (maxSteps := 2000000) (disch := omega) [-getElem?_pos]
        exact .fin _ ⟨by rw [hV, hE, ho]; simp [htl], rfl⟩ (.refl _)

  · have h5 : k = 5 := hr.resolve_left h4
    subst h5
    simp -implicitDefEqProofs (maxSteps := 2000000) (disch := omega) [-getElem?_pos, a11]
    refine (hM _).then fun r hr2 => ?_
    subst hr2
    cases fv with
    | false =>
      have hok' : ok = false := by rw [hok, hri]; rfl
      subst hok'
      simp -implicitDefEqProofs (maxSteps := 2000000) (disch := omega) [-getElem?_pos]
      exact .fin _ ⟨by rw [hV, hE]; rfl, rfl⟩ (.refl _)
    | true =>
    have hso := isS_sorted (hfi rfl hri)
    by_cases hs : s = []
    · have hok' : ok = false := by rw [hok, hs]; simp
      subst hok'
      simp -implicitDefEqProofs (maxSteps := 2000000) (disch := omega) [-getElem?_pos, hs]
      exact .fin _ ⟨by rw [hV, hE]; rfl, rfl⟩ (.refl _)
    have hok' : ok = true := by rw [hok, hri]; simp [hs]
    subst hok'
    simp -implicitDefEqProofs (maxSteps := 2000000) (disch := omega) [-getElem?_pos, hs]
    have ho : offs ls s = at0 ls s := (isS_asc (hfi rfl hri)).offs_eq s
    refine ⟨(k_Offset hso (by omega)).then fun r hr3 => ?_, (k_Offset hso (by omega)).then fun r hr3 => ?_⟩
    all_goals
      subst hr3
      simp -implicitDefEqProofs (maxSteps := 2000000) (disch := omega) [-getElem?_pos]
      refine .mk (fun htl => ?_) fun htl => ?_
      · simp -implicitDefEqProofs (maxSteps := 2000000) (disch := omega) [-getElem?_pos]
        exact .fin _ ⟨by rw [hV, hE, ho]; simp [htl], rfl⟩ (.refl _)
      · simp -implicitDefEqProofs (maxSteps := 2000000) (disch := omega) [-getElem?_pos]
        exact .fin _ ⟨by rw [hV, hE, ho]; simp [htl], rfl⟩ (.refl _)


theorem k_Value {N row v : Int} {label : Str} {o : Nat} {σ : Sg} (h0 : 0 ≤ row) (hN : -100000 ≤ N ∧ N ≤ 100000) (hv : -100000 ≤ v ∧ v ≤ 100000) (ho : σ.objs[o]? = some (.map [(.agg [.int .i64 row, .str label], .v (.int .i64 v))])) :
    ACalls Tryd.prog 13 [.v (.agg [.int .i64 N, .int .i64 row, .str label]), .map o] σ fun r σ' => r = .tup [.v (.int .i64 (N + v)), .v .inil] ∧ σ' = σ := by
  have hol := (List.getElem?_eq_some_iff.1 ho).1
  refine acalls_fit Tryd.func13 (by kernel_rfl) c13 rfl (by simp [a13]) fun hf => ?_
  clear hf
  have h0' : ¬ row < 0 := by omega
  have ho' : ∀ r, (σ.objs ++ r)[o]? = some (.map [(.agg [.int .i64 row, .str label], .v (.int .i64 v))]) := fun r => by rw [List.getElem?_append_left hol, ho]
  simp -implicitDefEqProofs (maxSteps := 2000000) (disch := omega) [-getElem?_pos, a13, h0', ho', keysOk, mfind, mgot]
  exact .fin _ ⟨rfl, rfl⟩ (.refl _)
theorem k_Small5 {σ : Sg} : ACalls Tryd.prog 74 [.v (.int .i64 5)] σ fun r σ' => r = .v (.str [53]) ∧ σ' = σ := by
  refine acalls_fit Tryd.func74 (by kernel_rfl) c74 rfl (by simp [a74]) fun hf => ?_
  clear hf
  simp -implicitDefEqProofs (maxSteps := 2000000) (disch := omega) [-getElem?_pos, a74]
  exact .fin _ ⟨rfl, rfl⟩ (.refl _)
theorem k_Name5 {σ : Sg} : ACalls Tryd.prog 18 [.v (.agg [.int .i64 5, .str [99]])] σ fun r σ' => r = .v (.str [36, 53, 46, 99]) ∧ σ' = σ := by
  have h1 : ∀ σ, ACalls Tryd.prog 55 [.v (.int .i64 5), .v (.int .i64 10)] σ fun r σ' => r = .v (.str [53]) ∧ σ' = σ := by
    intro σ
    refine acalls_fit Tryd.func55 (by kernel_rfl) c55 rfl (by simp [a55]) fun hf => ?_
    clear hf
    simp -implicitDefEqProofs (maxSteps := 2000000) (disch := omega) [-getElem?_pos, a55]
    refine k_Small5.then fun r hr => ?_
    subst hr
    simp -implicitDefEqProofs (maxSteps := 2000000) (disch := omega) [-getElem?_pos]
    exact .fin _ ⟨rfl, rfl⟩ (.refl _)
  have h2 : ∀ σ, ACalls Tryd.prog 41 [.v (.int .i64 5)] σ fun r σ' => r = .v (.str [53]) ∧ σ' = σ := by
    intro σ
    refine acalls_fit Tryd.func41 (by kernel_rfl) c41 rfl (by simp [a41]) fun hf => ?_
    clear hf
    simp -implicitDefEqProofs (maxSteps := 2000000) (disch := omega) [-getElem?_pos, a41]
    refine (h1 _).then fun r hr => ?_
    subst hr
    simp -implicitDefEqProofs (maxSteps := 2000000) (disch := omega) [-getElem?_pos]
    exact .fin _ ⟨rfl, rfl⟩ (.refl _)
  have h3 : ∀ σ, ACalls Tryd.prog 17 [.v (.int .i64 5)] σ fun r σ' => r = .v (.str [53]) ∧ σ' = σ := by
    intro σ
    refine acalls_fit Tryd.func17 (by kernel_rfl) c17 rfl (by simp [a17]) fun hf => ?_
    clear hf
    simp -implicitDefEqProofs (maxSteps := 2000000) (disch := omega) [-getElem?_pos, a17]
    refine (h2 _).then fun r hr => ?_
    subst hr
    simp -implicitDefEqProofs (maxSteps := 2000000) (disch := omega) [-getElem?_pos]
    exact .fin _ ⟨rfl, rfl⟩ (.refl _)
  refine acalls_fit Tryd.func18 (by kernel_rfl) c18 rfl (by simp [a18]) fun hf => ?_
  clear hf
  simp -implicitDefEqProofs (maxSteps := 2000000) (disch := omega) [-getElem?_pos, a18]
  refine (h3 _).then fun r hr => ?_
  subst hr
  simp -implicitDefEqProofs (maxSteps := 2000000) (disch := omega) [-getElem?_pos]
  exact .fin _ ⟨rfl, rfl⟩ (.refl _)
end Go.Proofs.YtppdghfpbliaeaaDoor
