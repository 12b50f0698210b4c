/-
  Evidence: a label's offset in a whole row. (Own work.)
-/
import Derived.Test.YtppdghfpbliaeaaDoorE5
set_option linter.unusedVariables false
set_option linter.unusedSimpArgs false
namespace Go.Proofs.YtppdghfpbliaeaaDoor
open Go Go.Abs

theorem ACalls.argA {P : Program} {f : Nat} {d d' e : D} {σ : Sg} {R : D → Sg → Prop} (h : ACalls P f [d', e] σ R) (hd : D.Le d d') : ACalls P f [d, e] σ R := by
  refine ⟨h.1, fun m w us hI hl hr => h.2 m w us hI hl fun i x u hx hu => ?_⟩
  match i with
  | 0 => cases hx; exact hd _ _ _ (hr 0 _ _ rfl hu)
  | 1 => cases hx; exact hr 1 _ _ rfl hu
  | j + 2 => simp at hx
def iT : Tp := .mk 1 0 [] [] (-1)
@[reducible] def iV : V := .agg [.int .i64 1, .int .i64 0, .snil, .snil, .int .i64 (-1)]
def rowT (a : List Str) (tail : Int) : Tp := .mk 4 0 (List.replicate a.length iT) a tail
theorem rep_les : ∀ n, VLes (V.flat (List.replicate n iV)) (V.flat (List.replicate n (encT iT)))
  | 0 => trivial
  | n + 1 => by
    have ih := rep_les n
    rw [List.replicate_succ, List.replicate_succ]
    simp only [V.flat, List.flatMap_cons] at ih ⊢
    rw [show (encT iT).cells = [.int .i64 1, .int .i64 0, .sl (some 5) false [], .sl none false [], .int .i64 (-1)] by rw [iT, encT_mk]; rfl]
    exact ⟨.refl _, .refl _, .snil, .snil, .refl _, ih⟩
theorem rep_le {n : Nat} {f : Bool} : VLe (.sl (some 5) f (List.replicate n iV)) (.sl (some 5) false ((List.replicate n iT).map encT)) := by
  rw [List.map_replicate]
  refine VLe.sl (by simp) (fun y hy => ?_) (fun c hc => ?_) (rep_les n)
  · rw [List.mem_replicate] at hy
    rw [hy.2]
    exact encT_shape _
  · obtain ⟨x, hx, hc⟩ := List.mem_flatMap.1 hc
    rw [List.mem_replicate] at hx
    rw [hx.2, show (encT iT).cells = [.int .i64 1, .int .i64 0, .sl (some 5) false [], .sl none false [], .int .i64 (-1)] by rw [iT, encT_mk]; rfl] at hc
    simp only [List.mem_cons, List.not_mem_nil, or_false] at hc
    rcases hc with rfl | rfl | rfl | rfl | rfl <;> rfl
theorem row_le {tk : Nat} {a : List Str} {tail : Int} : D.Le (.agg [.v (.int .i64 4), .v (.int .i64 0), .tsl tk (some 5) (List.replicate a.length iV), .v (vS a), .v (.int .i64 tail)]) (.v (encT (rowT a tail))) := by
  rw [rowT, encT_mk]
  refine D.Le.aggV rfl (fun y hy => ?_) fun i x y h1 h2 => ?_
  · simp only [List.mem_cons, List.not_mem_nil, or_false] at hy
    rcases hy with rfl | rfl | rfl | rfl | rfl <;> rfl
  · match i with
    | 0 => cases h1; cases h2; exact .refl _
    | 1 => cases h1; cases h2; exact .refl _
    | 2 => cases h1; cases h2; exact D.Le.tsl.trans rep_le.d
    | 3 => cases h1; cases h2; exact .refl _
    | 4 => cases h1; cases h2; exact .refl _
    | j + 5 => simp at h1
theorem fineL_ints : ∀ (n c : Nat), c + n ≤ 4000 → fineL (List.replicate n iT) c = (true, c + n)
  | 0, c, _ => rfl
  | n + 1, c, h => by
    rw [List.replicate_succ, fineL]
    have h1 : fineS iT c = (true, c + 1) := by
      rw [iT, fineS, if_neg (by simp [partsN]; omega)]
      simp [isRowN, fineL]
    rw [h1]
    simp only
    rw [fineL_ints n (c + 1) (by omega)]
    congr 1
    omega
theorem fine_row {a : List Str} {tail : Int} (ha : a.length ≤ 1000) (hs : isS a = true) (he : [] ∉ a) (ht : 0 ≤ tail) : (fineS (rowT a tail) 0).1 = true := by
  rw [rowT, fineS, if_neg (by simp [partsN])]
  have h1 : ¬ (tail < -1 ∨ isS a = false ∨ [] ∈ a) := by
    rintro (h | h | h)
    · omega
    · rw [hs] at h; cases h
    · exact he h
  rw [if_pos (by simp [isRowN]), if_neg h1, fineL_ints _ _ (by omega)]
theorem tsz_row {a : List Str} {tail : Int} : tsz (rowT a tail) = 1 + a.length + a.length := by
  have : ∀ n, tszL (List.replicate n iT) = n := by
    intro n
    induction n with
    | zero => rfl
    | succ n ih => rw [List.replicate_succ, tszL, ih]; simp [iT, tsz, tszL]; omega
  rw [rowT, tsz, this]
theorem joins {a b : List Str} {s : Str} (ha : Asc a) (hb : Asc b) (hd : ∀ x ∈ b, x ∉ a) : offs (ofS (a ++ b)) s = offs a s + offs b s := by
  obtain ⟨h1, h2⟩ := ofS_asc (a ++ b)
  have hn : (a ++ b).Nodup := List.nodup_append.2 ⟨ha.nodup, hb.nodup, fun x hx y hy e => hd y hy (e ▸ hx)⟩
  have hp : (ofS (a ++ b)).Perm (a ++ b) := (List.perm_ext_iff_of_nodup h1.nodup hn).2 h2
  unfold offs
  rw [(hp.filter _).length_eq, List.filter_append, List.length_append]
theorem k_Up13 {σ : Sg} : ACalls Tryd.prog 8 [] σ fun r σ' => r = .v (.bool true) ∧ σ' = σ := by
  have e1 : D.Le (.v (.agg [.int .i64 4, .int .i64 0, .sl (some 5) true [iV, iV, iV], .sl none true [.str [97], .str [99], .str [100]], .int .i64 5])) (.v (encT (rowT [[97], [99], [100]] 5))) := by
    rw [rowT, encT_mk]
    exact VLe.d (.agg ⟨.refl _, .refl _, rep_le (n := 3), .lax, .refl _, trivial⟩ (by simp))
  have e2 : D.Le (.v iV) (.v (encT iT)) := by
    rw [iT, encT_mk]
    exact VLe.d (.agg ⟨.refl _, .refl _, .snil, .snil, .refl _, trivial⟩ (by simp))
  have c1 := fun σ => ACalls.argA (k_Of13 (rowT [[97], [99], [100]] 5) (s := [99]) (σ := σ) (by rw [tsz_row]; decide)) e1
  have c2 := fun σ => ACalls.argA (k_Of13 iT (s := [99]) (σ := σ) (by simp [iT, tsz, tszL])) e2
  have v1 : ofV (rowT [[97], [99], [100]] 5) [99] = .agg [.int .i64 1, .int .i64 5, .str [99]] := by kernel_rfl
  have v2 : ofE (rowT [[97], [99], [100]] 5) [99] = .inil := by kernel_rfl
  have v3 : ofE iT [99] = .iface 47 (.int .i64 1) := by kernel_rfl
  have v4 : ofV iT [99] = .agg [.int .i64 0, .int .i64 0, .str []] := by kernel_rfl
  rw [v1, v2] at c1
  rw [v3, v4] at c2
  have hty : intTy Tryd.prog 47 = true := by kernel_rfl
  refine acalls_fit Tryd.func8 (by kernel_rfl) c8 rfl (by simp [a8]) fun hf => ?_
  clear hf
  simp -implicitDefEqProofs (maxSteps := 2000000) (disch := omega) [-getElem?_pos, a8]
  refine (c1 _).then fun r hr => ?_
  subst hr
  simp -implicitDefEqProofs (maxSteps := 2000000) (disch := omega) [-getElem?_pos]
  refine (c2 _).then fun r hr => ?_
  subst hr
  simp -implicitDefEqProofs (maxSteps := 2000000) (disch := omega) [-getElem?_pos, hty]
  refine k_Name5.then fun r hr => ?_
  subst hr
  simp -implicitDefEqProofs (maxSteps := 2000000) (disch := omega) [-getElem?_pos]
  exact .fin _ ⟨rfl, rfl⟩ (.refl _)
set_option maxHeartbeats 1000000 in
theorem k_EvidWhole {own more : List Str} {s : Str} {tail : Int} {σ : Sg} : ACalls Tryd.prog 3 [.v (vS own), .v (vS more), .v (.str s), .v (.int .i64 tail)] σ fun r σ' => r = .v (.bool true) := by
  refine acalls_fit Tryd.func3 (by kernel_rfl) c3 rfl (by simp [a3]) fun hf => ?_
  simp at hf
  simp -implicitDefEqProofs (maxSteps := 2000000) (disch := omega) [-getElem?_pos, a3]
  refine k_Up13.then fun r hr => ?_
  subst hr
  simp -implicitDefEqProofs (maxSteps := 2000000) (disch := omega) [-getElem?_pos]
  by_cases h1 : own.length ≤ 50
  rotate_left
  · have h1' : ¬ (own.length : Int) ≤ 50 := by omega
    simp -implicitDefEqProofs (maxSteps := 2000000) (disch := omega) [-getElem?_pos, h1, h1']
    exact .fin _ rfl (.refl _)
  have h1' : (own.length : Int) ≤ 50 := by omega
  by_cases h2 : more.length ≤ 50
  rotate_left
  · have h2' : ¬ (more.length : Int) ≤ 50 := by omega
    simp -implicitDefEqProofs (maxSteps := 2000000) (disch := omega) [-getElem?_pos, h1, h2, h1', h2']
    exact .fin _ rfl (.refl _)
  have h2' : (more.length : Int) ≤ 50 := by omega
  by_cases h3 : s.length ≤ 50
  rotate_left
  · have h3' : ¬ (s.length : Int) ≤ 50 := by omega
    simp -implicitDefEqProofs (maxSteps := 2000000) (disch := omega) [-getElem?_pos, h1, h2, h1', h2', h3, h3']
    exact .fin _ rfl (.refl _)
  have h3' : (s.length : Int) ≤ 50 := by omega
  by_cases h4 : s = []
  · simp -implicitDefEqProofs (maxSteps := 2000000) (disch := omega) [-getElem?_pos, h1, h2, h1', h2', h3, h3', h4]
    exact .fin _ rfl (.refl _)
  by_cases h5 : tail < 0
  · simp -implicitDefEqProofs (maxSteps := 2000000) (disch := omega) [-getElem?_pos, h1, h2, h1', h2', h3, h3', h4, h5]
    exact .fin _ rfl (.refl _)
  simp -implicitDefEqProofs (maxSteps := 2000000) (disch := omega) [-getElem?_pos, h1, h2, h1', h2', h3, h3', h4, h5]
  refine W_loop (α := Nat) 0 (fun i => own.length - i) (fun i => ⟨[(0, .v (vS own)), (1, .v (vS more)), (2, .v (.str s)), (3, .v (.int .i64 tail)), (9, .v (.bool true)), (10, .v (.int .i64 i))], σ⟩) (fun i => i ≤ own.length ∧ ∀ x ∈ own.take i, x ≠ []) (.eq (by simp)) ⟨by simp, by simp⟩ fun i ⟨hi, hm⟩ => ?_
  simp -implicitDefEqProofs (maxSteps := 2000000) (disch := omega) [-getElem?_pos]
  refine .mk (fun hlt => ?_) fun hlt => ?_
  · simp -implicitDefEqProofs (maxSteps := 2000000) (disch := omega) [-getElem?_pos]
    refine ⟨by omega, fun x hx => ?_⟩
    by_cases hx1 : (x.length : Int) ≤ 50
    rotate_left
    · simp -implicitDefEqProofs (maxSteps := 2000000) (disch := omega) [-getElem?_pos, hx1]
      exact .fin _ rfl (.refl _)
    by_cases hx2 : x = []
    · simp -implicitDefEqProofs (maxSteps := 2000000) (disch := omega) [-getElem?_pos, hx1, hx2, hx]
      exact ⟨hlt, .fin _ rfl (.refl _)⟩
    simp -implicitDefEqProofs (maxSteps := 2000000) (disch := omega) [-getElem?_pos, hx1, hx2, hx]
    refine ⟨hlt, i + 1, ⟨by omega, fun y hy => ?_⟩, by show own.length - (i + 1) < own.length - i; omega, .eq (by simp)⟩
    rw [List.take_add_one, hx] at hy
    simp only [Option.toList, List.mem_append, List.mem_singleton] at hy
    rcases hy with hy | rfl
    · exact hm y hy
    · exact hx2
  rw [List.take_of_length_le (by omega)] at hm
  simp -implicitDefEqProofs (maxSteps := 2000000) (disch := omega) [-getElem?_pos]
  refine W_loop (α := Nat) 0 (fun i => more.length - i) (fun i => ⟨[(0, .v (vS own)), (1, .v (vS more)), (2, .v (.str s)), (3, .v (.int .i64 tail)), (9, .v (.bool true)), (11, .v (.int .i64 i))], σ⟩) (fun i => i ≤ more.length) (.eq (by simp)) (by simp) fun i hi => ?_
  simp -implicitDefEqProofs (maxSteps := 2000000) (disch := omega) [-getElem?_pos]
  refine .mk (fun hlt => ?_) fun hlt => ?_
  · simp -implicitDefEqProofs (maxSteps := 2000000) (disch := omega) [-getElem?_pos]
    refine ⟨by omega, fun x hx => ?_⟩
    by_cases hx1 : (x.length : Int) ≤ 50
    rotate_left
    · simp -implicitDefEqProofs (maxSteps := 2000000) (disch := omega) [-getElem?_pos, hx1]
      exact .fin _ rfl (.refl _)
    by_cases hx2 : x = []
    · simp -implicitDefEqProofs (maxSteps := 2000000) (disch := omega) [-getElem?_pos, hx1, hx2, hx]
      exact ⟨hlt, .fin _ rfl (.refl _)⟩
    simp -implicitDefEqProofs (maxSteps := 2000000) (disch := omega) [-getElem?_pos, hx1, hx2, hx]
    exact ⟨hlt, i + 1, by omega, by show more.length - (i + 1) < more.length - i; omega, .eq (by simp)⟩
  simp -implicitDefEqProofs (maxSteps := 2000000) (disch := omega) [-getElem?_pos]
  refine (k_ROf (l := own) (by omega)).then fun r hr => ?_
  subst hr
  obtain ⟨a, ha⟩ : ∃ a, a = ofS own := ⟨_, rfl⟩
  have haA : Asc a := by rw [ha]; exact (ofS_asc own).1
  have ham : [] ∉ a := by rw [ha, (ofS_asc own).2]; exact fun h => hm [] h rfl
  have hal : a.length ≤ 50 := by rw [ha]; have := ofS_len own; omega
  rw [← ha]
  clear ha
  simp -implicitDefEqProofs (maxSteps := 2000000) (disch := omega) [-getElem?_pos]
  refine (k_ROf (l := more) (by omega)).then fun r hr => ?_
  subst hr
  have hml : (ofS more).length ≤ 50 := by have := ofS_len more; omega
  have hmA := (ofS_asc more).1
  simp -implicitDefEqProofs (maxSteps := 2000000) (disch := omega) [-getElem?_pos]
  refine (k_RLess (by omega)).then fun r hr => ?_
  subst hr
  obtain ⟨b, hb⟩ : ∃ b, b = (ofS more).filter fun s => !decide (s ∈ a) := ⟨_, rfl⟩
  have hbA : Asc b := by rw [hb]; exact List.Pairwise.filter _ hmA
  have hbd : ∀ x ∈ b, x ∉ a := by
    intro x hx
    rw [hb, List.mem_filter] at hx
    simpa using hx.2
  have hbl : b.length ≤ 50 := by
    rw [hb]
    exact Nat.le_trans (List.length_filter_le _ _) hml
  rw [← hb]
  clear hb
  simp -implicitDefEqProofs (maxSteps := 2000000) (disch := omega) [-getElem?_pos]
  refine W_loop (α := Nat) 0 (fun i => a.length - i) (fun i => ⟨[(2, .v (.str s)), (3, .v (.int .i64 tail)), (9, .v (.bool true)), (12, .v (vS a)), (13, .v (vS b)), (14, .ptr σ.objs.length 0), (15, .v (.int .i64 i))], ⟨σ.objs ++ [.cells [.v (.int .i64 4), .v (.int .i64 0), .tsl σ.toks.length (some 5) (List.replicate i iV), .v (vS a), .v (.int .i64 tail)]], σ.toks ++ [i]⟩⟩) (fun i => i ≤ a.length)
    (.tokE σ.objs.length 2 (some 5) [.v (.int .i64 4), .v (.int .i64 0), .v .snil, .v (vS a), .v (.int .i64 tail)] (by simp) rfl (by simp) (by simp)) (by simp) fun i hi => ?_
  simp -implicitDefEqProofs (maxSteps := 2000000) (disch := omega) [-getElem?_pos]
  refine .mk (fun hlt => ?_) fun hlt => ?_
  · simp -implicitDefEqProofs (maxSteps := 2000000) (disch := omega) [-getElem?_pos]
    exact ⟨by omega, i + 1, by omega, by show a.length - (i + 1) < a.length - i; omega, .eq2 (by simp [List.replicate_succ']) (by simp)⟩
  have hia : i = a.length := by omega
  subst hia
  simp -implicitDefEqProofs (maxSteps := 2000000) (disch := omega) [-getElem?_pos]
  have hok : okOf (rowT a tail) s = true := by
    show (isRowN 4 && (fineS (rowT a tail) 0).1 && !decide (s = [])) = true
    rw [fine_row (by omega) haA.isS ham (by omega)]
    simp [isRowN, h4]
  have hv : ofV (rowT a tail) s = .agg [.int .i64 (offs a s), .int .i64 tail, .str s] := by
    show (if okOf (rowT a tail) s = true then _ else _) = _
    rw [if_pos hok, if_pos (by omega)]
  have he : ofE (rowT a tail) s = .inil := by
    show (if okOf (rowT a tail) s = true then _ else _) = _
    rw [if_pos hok]
  refine (ACalls.argA (k_Of13 (rowT a tail) (by rw [tsz_row]; omega)) row_le).then fun r hr => ?_
  subst hr
  rw [hv, he]
  have hoa := offs_le a s
  have hob := offs_le b s
  simp -implicitDefEqProofs (maxSteps := 2000000) (disch := omega) [-getElem?_pos]
  refine k_ROffset.then fun r hr => ?_
  subst hr
  simp -implicitDefEqProofs (maxSteps := 2000000) (disch := omega) [-getElem?_pos]
  refine (k_Value (N := offs a s) (row := tail) (v := offs b s) (label := s) (by omega) (by omega) (by omega) (by simp)).then fun r hr => ?_
  subst hr
  simp -implicitDefEqProofs (maxSteps := 2000000) (disch := omega) [-getElem?_pos]
  refine (k_RJoin (a := a) (b := b) (by omega) (by omega)).then fun r hr => ?_
  subst hr
  simp -implicitDefEqProofs (maxSteps := 2000000) (disch := omega) [-getElem?_pos]
  refine k_ROffset.then fun r hr => ?_
  subst hr
  rw [joins haA hbA hbd]
  simp -implicitDefEqProofs (maxSteps := 2000000) (disch := omega) [-getElem?_pos]
  exact ⟨_, _, weakR_le (.refl _), by simp⟩
end Go.Proofs.YtppdghfpbliaeaaDoor
