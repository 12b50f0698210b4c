/-
  Layer 19: code.Get's walk. (Own work.)
-/
import Derived.Test.YtcbdnndgnbgnaaaC11
set_option linter.unusedVariables false
set_option linter.unusedSimpArgs false
namespace Go.Proofs.Ytcbdnndgnbgnaaa
open Go Go.Abs

theorem rT_len (r : R) : (rT r).r.bs.length ≤ r.bs.length := by
  have := rM_len r
  simp only [rT, List.length_drop]
  omega

theorem codeLen_putM (m : Img) : codeLen m.funs ≤ (putM m).length := by
  have h1 : ∀ l : List Fn, codeLen l ≤ (putL putF l).length := by
    intro l
    induction l with
    | nil => exact Nat.le_refl _
    | cons f l ih =>
      have h2 := putL_len good_I.pos f.code
      have h3 : f.code.length ≤ (putF f).length := by simp only [putF, List.length_append]; omega
      rw [codeLen_cons]
      simp only [putL, List.length_append]
      omega
  have := h1 m.funs
  simp only [putM, List.length_append]
  omega

theorem k_Get {bs : List UInt8} {σ : Sg} (hb : bs.length ≤ 100000000) :
    ACalls Try.prog 50 [.v (.sl none false (bytesV bs))] σ fun d σ' => d = .tup [.v (encM ((getS bs).getD ⟨[], [], []⟩)), .v (if (getS bs).isSome = true then .inil else codeErr)] ∧ σ' = σ := by
  refine acalls_fit Try.func50 (by kernel_rfl) c50 rfl (by simp [a50]) fun hf => ?_
  clear hf
  simp -implicitDefEqProofs (maxSteps := 2000000) (disch := omega) [-getElem?_pos, a50]
  refine (k_RdMany (r := ⟨bs, false⟩) (by simp)).mono fun d σ' h => ?_
  obtain ⟨rfl, rfl⟩ := h
  have hn := rM_len ⟨bs, false⟩
  have hQ1 : q1M bs = rL rN (rM ⟨bs, false⟩).x.toNat (rM ⟨bs, false⟩).r := rfl
  generalize hr1 : rM ⟨bs, false⟩ = q1 at hn hQ1 ⊢
  obtain ⟨n, hnn⟩ : ∃ n : Nat, q1.x = n := ⟨q1.x.toNat, by omega⟩
  rw [hnn] at hn hQ1 ⊢
  rw [Int.toNat_natCast] at hQ1
  dsimp only at hn
  simp -implicitDefEqProofs (maxSteps := 2000000) (disch := omega) [-getElem?_pos]
  refine W_loop (α := LSt Int) ⟨0, q1.r, []⟩ (fun x => n - x.i) (fun x => ⟨[(2, .ptr σ.objs.length 0), (4, .ptr (σ.objs.length + 1) 0), (5, .ptr (σ.objs.length + 2) 0), (12, .v (.int .i64 n)), (13, .v (.int .i64 x.i))], ⟨σ.objs ++ [.cells [.v .snil, .v .snil, .v .snil], cellsR x.r, .cells [.tsl σ.toks.length none (x.l.map vi), .v .snil, .v .snil]], σ.toks ++ [x.l.length]⟩⟩)
    (fun x => x.i ≤ n ∧ x.l.length = x.i ∧ x.r.bs.length ≤ q1.r.bs.length ∧ rL rN n q1.r = ⟨x.l ++ (rL rN (n - x.i) x.r).x, (rL rN (n - x.i) x.r).r⟩) (.tokE (σ.objs.length + 2) 0 none [.v .snil, .v .snil, .v .snil] (by simp) (by simp) (by simp) (by simp)) ⟨by simp, rfl, Nat.le_refl _, by simp⟩ fun ⟨i, s, l⟩ ⟨hi, hil, hsl, he⟩ => ?_
  dsimp only at hi hil hsl he ⊢
  simp -implicitDefEqProofs (maxSteps := 2000000) (disch := omega) [-getElem?_pos]
  refine .mk (fun h => ?_) fun h => ?_
  · simp -implicitDefEqProofs (maxSteps := 2000000) (disch := omega) [-getElem?_pos]
    refine (k_RdNumber (r := s) (by simp)).mono fun d σ' h => ?_
    obtain ⟨rfl, rfl⟩ := h
    obtain ⟨j, hj⟩ : ∃ j, n - i = j + 1 := ⟨n - i - 1, by omega⟩
    rw [hj] at he
    simp only [rL] at he
    have hsl2 := rN_len s
    generalize rN s = q4 at *
    simp -implicitDefEqProofs (maxSteps := 2000000) (disch := omega) [-getElem?_pos]
    refine ⟨by omega, ⟨i + 1, q4.r, l ++ [q4.x]⟩, ⟨by dsimp only; omega, by simp [hil], by dsimp only; omega, ?_⟩, by dsimp only; omega, .eq2 (by simp [hil]) (by simp)⟩
    dsimp only
    rw [he, show n - (i + 1) = j by omega]
    simp
  rw [show n - i = 0 by omega] at he
  simp only [rL, List.append_nil] at he
  rw [he] at hQ1
  clear he
  have hQ2 : q2M bs = rL rT (rM (q1M bs).r).x.toNat (rM (q1M bs).r).r := rfl
  rw [hQ1] at hQ2
  dsimp only at hQ2
  simp -implicitDefEqProofs (maxSteps := 2000000) (disch := omega) [-getElem?_pos]
  refine (k_RdMany (r := s) (by simp)).mono fun d σ' h => ?_
  obtain ⟨rfl, rfl⟩ := h
  have hn2 := rM_len s
  generalize hr2 : rM s = q2 at hn2 hQ2 ⊢
  obtain ⟨n2, hnn2⟩ : ∃ n : Nat, q2.x = n := ⟨q2.x.toNat, by omega⟩
  rw [hnn2] at hn2 hQ2 ⊢
  rw [Int.toNat_natCast] at hQ2
  simp -implicitDefEqProofs (maxSteps := 2000000) (disch := omega) [-getElem?_pos]
  refine W_loop (α := LSt (List UInt8)) ⟨0, q2.r, []⟩ (fun x => n2 - x.i) (fun x => ⟨[(2, .ptr σ.objs.length 0), (4, .ptr (σ.objs.length + 1) 0), (5, .ptr (σ.objs.length + 2) 0), (24, .v (.int .i64 n2)), (25, .v (.int .i64 x.i))], ⟨σ.objs ++ [.cells [.v .snil, .v .snil, .v .snil], cellsR x.r, .cells [.tsl σ.toks.length none (l.map vi), .tsl (σ.toks.length + 1) none (x.l.map .str), .v .snil]], σ.toks ++ [l.length, x.l.length]⟩⟩)
    (fun x => x.i ≤ n2 ∧ x.l.length = x.i ∧ x.r.bs.length ≤ q2.r.bs.length ∧ rL rT n2 q2.r = ⟨x.l ++ (rL rT (n2 - x.i) x.r).x, (rL rT (n2 - x.i) x.r).r⟩) (.tokE (σ.objs.length + 2) 1 none [.tsl σ.toks.length none (l.map vi), .v .snil, .v .snil] (by simp) (by simp) (by simp) (by simp)) ⟨by simp, rfl, Nat.le_refl _, by simp⟩ fun ⟨i2, s2, l2⟩ ⟨hi2, hil2, hsl2, he⟩ => ?_
  dsimp only at hi2 hil2 hsl2 he ⊢
  simp -implicitDefEqProofs (maxSteps := 2000000) (disch := omega) [-getElem?_pos]
  refine .mk (fun h => ?_) fun h => ?_
  · simp -implicitDefEqProofs (maxSteps := 2000000) (disch := omega) [-getElem?_pos]
    refine (k_RdMany (r := s2) (by simp)).mono fun d σ' h => ?_
    obtain ⟨rfl, rfl⟩ := h
    obtain ⟨j, hj⟩ : ∃ j, n2 - i2 = j + 1 := ⟨n2 - i2 - 1, by omega⟩
    rw [hj] at he
    simp only [rL, rT] at he
    have hn3 := rM_len s2
    generalize rM s2 = q4 at *
    obtain ⟨n3, hnn3⟩ : ∃ n : Nat, q4.x = n := ⟨q4.x.toNat, by omega⟩
    rw [hnn3] at hn3 he ⊢
    rw [Int.toNat_natCast] at he
    simp -implicitDefEqProofs (maxSteps := 2000000) (disch := omega) [-getElem?_pos]
    refine ⟨by omega, by omega, by omega, ⟨i2 + 1, ⟨q4.r.bs.drop n3, q4.r.bad⟩, l2 ++ [q4.r.bs.take n3]⟩, ⟨by dsimp only; omega, by simp [hil2], by simp only [List.length_drop]; omega, ?_⟩, by dsimp only; omega, .eq2 (by simp [hil2]) (by simp)⟩
    dsimp only
    rw [he, show n2 - (i2 + 1) = j by omega]
    simp
  rw [show n2 - i2 = 0 by omega] at he
  simp only [rL, List.append_nil] at he
  rw [he] at hQ2
  clear he
  have hQ3 : q3M bs = rL rF (rM (q2M bs).r).x.toNat (rM (q2M bs).r).r := rfl
  rw [hQ2] at hQ3
  dsimp only at hQ3
  simp -implicitDefEqProofs (maxSteps := 2000000) (disch := omega) [-getElem?_pos]
  refine (k_RdMany (r := s2) (by simp)).mono fun d σ' h => ?_
  obtain ⟨rfl, rfl⟩ := h
  have hn3 := rM_len s2
  generalize hr3 : rM s2 = q3 at hn3 hQ3 ⊢
  obtain ⟨n3, hnn3⟩ : ∃ n : Nat, q3.x = n := ⟨q3.x.toNat, by omega⟩
  rw [hnn3] at hn3 hQ3 ⊢
  rw [Int.toNat_natCast] at hQ3
  simp -implicitDefEqProofs (maxSteps := 2000000) (disch := omega) [-getElem?_pos]
  refine W_loop (α := LSt Fn) ⟨0, q3.r, []⟩ (fun x => n3 - x.i) (fun x => ⟨[(2, .ptr σ.objs.length 0), (4, .ptr (σ.objs.length + 1) 0), (5, .ptr (σ.objs.length + 2) 0), (52, .v (.int .i64 n3)), (53, .v (.int .i64 x.i))], ⟨σ.objs ++ [.cells [.v .snil, .v .snil, .v .snil], cellsR x.r, .cells [.tsl σ.toks.length none (l.map vi), .tsl (σ.toks.length + 1) none (l2.map .str), .tsl (σ.toks.length + 2) (some 3) (x.l.map encF)]], σ.toks ++ [l.length, l2.length, x.l.length]⟩⟩)
    (fun x => x.i ≤ n3 ∧ x.l.length = x.i ∧ x.r.bs.length ≤ q3.r.bs.length ∧ rL rF n3 q3.r = ⟨x.l ++ (rL rF (n3 - x.i) x.r).x, (rL rF (n3 - x.i) x.r).r⟩) (.tokE (σ.objs.length + 2) 2 (some 3) [.tsl σ.toks.length none (l.map vi), .tsl (σ.toks.length + 1) none (l2.map .str), .v .snil] (by simp) (by simp) (by simp) (by simp)) ⟨by simp, rfl, Nat.le_refl _, by simp⟩ fun ⟨i3, s3, l3⟩ ⟨hi3, hil3, hsl3, he⟩ => ?_
  dsimp only at hi3 hil3 hsl3 he ⊢
  simp -implicitDefEqProofs (maxSteps := 2000000) (disch := omega) [-getElem?_pos]
  refine .mk (fun h => ?_) fun h => ?_
  · simp -implicitDefEqProofs (maxSteps := 2000000) (disch := omega) [-getElem?_pos]
    refine (k_RdFun (r := s3) (by simp) (by omega)).mono fun d σ' h => ?_
    obtain ⟨rfl, rfl⟩ := h
    obtain ⟨j, hj⟩ : ∃ j, n3 - i3 = j + 1 := ⟨n3 - i3 - 1, by omega⟩
    rw [hj] at he
    simp only [rL] at he
    have hsl2 := rF_len s3
    generalize rF s3 = q4 at *
    simp -implicitDefEqProofs (maxSteps := 2000000) (disch := omega) [-getElem?_pos]
    refine ⟨by omega, ⟨i3 + 1, q4.r, l3 ++ [q4.x]⟩, ⟨by dsimp only; omega, by simp [hil3], by dsimp only; omega, ?_⟩, by dsimp only; omega, .eq2 (by simp [hil3]) (by simp)⟩
    dsimp only
    rw [he, show n3 - (i3 + 1) = j by omega]
    simp
  rw [show n3 - i3 = 0 by omega] at he
  simp only [rL, List.append_nil] at he
  rw [he] at hQ3
  clear he
  obtain ⟨bs3, bad3⟩ := s3
  have hI : rImg bs = ⟨⟨l, l2, l3⟩, bs3, bad3⟩ := by unfold rImg; rw [hQ1, hQ2, hQ3]
  have hS : getS bs = if bad3 = false ∧ bs3 = [] ∧ checkS ⟨l, l2, l3⟩ = true then some ⟨l, l2, l3⟩ else none := by unfold getS; rw [hI]
  have hno : ¬ (bad3 = false ∧ bs3 = []) → getS bs = none := fun h => by rw [hS, if_neg fun h2 => h ⟨h2.1, h2.2.1⟩]
  simp -implicitDefEqProofs (maxSteps := 2000000) (disch := omega) [-getElem?_pos]
  refine .mk (fun h1 => ?_) fun h1 => ?_
  · have := hno (by simp [h1])
    simp -implicitDefEqProofs (maxSteps := 2000000) (disch := omega) [-getElem?_pos]
    exact .fin _ ⟨by rw [this]; rfl, rfl⟩ (.tup2 (.vagg3 rfl rfl rfl .snil .snil .snil) (.refl _))
  simp -implicitDefEqProofs (maxSteps := 2000000) (disch := omega) [-getElem?_pos]
  refine .mk (fun h2 => ?_) fun h2 => ?_
  · have := hno (by intro h3; rw [h3.2] at h2; simp at h2)
    simp -implicitDefEqProofs (maxSteps := 2000000) (disch := omega) [-getElem?_pos]
    exact .fin _ ⟨by rw [this]; rfl, rfl⟩ (.tup2 (.vagg3 rfl rfl rfl .snil .snil .snil) (.refl _))
  simp -implicitDefEqProofs (maxSteps := 2000000) (disch := omega) [-getElem?_pos]
  have hbad : bad3 = false := by simpa using h1
  have hnil : bs3 = [] := List.length_eq_zero_iff.1 (by omega)
  subst hbad hnil
  have hgot := rImg_got (b := bs) (by rw [hI])
  rw [hI] at hgot
  have hlen := congrArg List.length hgot.1
  have hcl := codeLen_putM ⟨l, l2, l3⟩
  simp only [List.append_nil] at hlen
  refine ((k_Check (m := ⟨l, l2, l3⟩) (by omega)).arg1 (.agg3 rfl rfl rfl .tsl .tsl .tsl)).then fun r hr => ?_
  subst hr
  simp only [true_and] at hS
  rw [hS]
  clear hS hno hI
  cases hck : checkS ⟨l, l2, l3⟩ with
  | false =>
    simp only [errOf, Bool.false_eq_true, if_false]
    simp -implicitDefEqProofs (maxSteps := 2000000) (disch := omega) [-getElem?_pos]
    exact .fin _ ⟨rfl, rfl⟩ (.tup2 (.vagg3 rfl rfl rfl .snil .snil .snil) (.refl _))
  | true =>
    simp only [errOf, if_true]
    simp -implicitDefEqProofs (maxSteps := 2000000) (disch := omega) [-getElem?_pos]
    exact .fin _ ⟨rfl, rfl⟩ (.tup2 (.agg3 rfl rfl rfl .tsl .tsl .tsl) (.refl _))
end Go.Proofs.Ytcbdnndgnbgnaaa
