/-
  Layer 19: the document's answer, whether an image is sound. (Own work.)
-/
import Derived.Test.YtcbdnndgnbgnaaaC3
set_option linter.unusedVariables false
set_option linter.unusedSimpArgs false
namespace Go.Proofs.Ytcbdnndgnbgnaaa
open Go Go.Abs

def lim (m : Img) (f : Fn) (x : Ins) (i : Int) : Int := if i = 0 ∧ x.op = 1 then m.ints.length else if i = 0 ∧ x.op = 2 then m.texts.length else if i = 0 ∧ x.op = 4 then m.funs.length else if i = 0 ∧ x.op = 12 then 8 else if i = 0 ∧ x.op = 23 then f.code.length else
      if i = 1 ∧ x.op = 22 then f.code.length else f.regs
def limAll (m : Img) (f : Fn) (x : Ins) : List Int → Nat → Bool
  | [], _ => true
  | n :: l, i => inS n (lim m f x i) && limAll m f x l (i + 1)
def closOk (m : Img) (x : Ins) : Bool := if x.op = 4 then m.funs[(x.l.getD 0 0).toNat]?.elim false fun g => decide ((x.l.length : Int) = IntKind.wrap .i64 (1 + g.caps)) else true
def endOk (f : Fn) (x : Ins) : Bool := if x.op = 22 ∨ x.op = 23 ∨ x.op = 24 then decide (x.a = 0) else inS x.a f.regs

theorem limAll_regs {m : Img} {f : Fn} {x : Ins} : ∀ (l : List Int) (i : Nat), (∀ j : Nat, i ≤ j → lim m f x j = f.regs) → limAll m f x l i = l.all fun n => inS n f.regs
  | [], _, _ => rfl
  | n :: l, i, h => by
    simp only [limAll, List.all_cons, h i (Nat.le_refl _), limAll_regs l (i + 1) fun j hj => h j (by omega)]

theorem fits_eq (m : Img) (f : Fn) (x : Ins) : fitsS m f x = (countedS x && (limAll m f x x.l 0 && (closOk m x && endOk f x))) := by
  obtain ⟨op, a, l⟩ := x
  cases hc : countedS ⟨op, a, l⟩ with
  | false => simp [fitsS, hc]
  | true =>
  simp only [fitsS, hc, Bool.true_and]
  by_cases h1 : op = 1
  · subst h1
    have hl := counted_n hc (by decide) (n := 1) rfl (by decide)
    match l, hl with
    | [l0], _ => simp [limAll, lim, closOk, endOk, Bool.and_comm]
  by_cases h2 : op = 2
  · subst h2
    have hl := counted_n hc (by decide) (n := 1) rfl (by decide)
    match l, hl with
    | [l0], _ => simp [limAll, lim, closOk, endOk, Bool.and_comm]
  by_cases h4 : op = 4
  · subst h4
    have hl := counted_m hc (by decide) rfl
    match l, hl with
    | l0 :: l, _ =>
      simp only [limAll]
      rw [limAll_regs l (0 + 1) fun j hj => by unfold lim; simp; omega]
      simp [lim, closOk, endOk, Bool.and_comm, Bool.and_left_comm, Bool.and_assoc]
  by_cases h12 : op = 12
  · subst h12
    have hl := counted_n hc (by decide) (n := 3) rfl (by decide)
    match l, hl with
    | [l0, l1, l2], _ => simp [limAll, lim, closOk, endOk, Bool.and_comm, Bool.and_left_comm, Bool.and_assoc]
  by_cases h22 : op = 22
  · subst h22
    have hl := counted_n hc (by decide) (n := 2) rfl (by decide)
    match l, hl with
    | [l0, l1], _ => simp [limAll, lim, closOk, endOk, Bool.and_comm, Bool.and_left_comm, Bool.and_assoc]
  by_cases h23 : op = 23
  · subst h23
    have hl := counted_n hc (by decide) (n := 1) rfl (by decide)
    match l, hl with
    | [l0], _ => simp [limAll, lim, closOk, endOk, Bool.and_comm, Bool.and_left_comm, Bool.and_assoc]
  rw [limAll_regs l 0 fun j hj => by unfold lim; simp [h1, h2, h4, h12, h22, h23]]
  by_cases h24 : op = 24
  · subst h24
    simp [closOk, endOk, Bool.and_comm]
  · simp [h1, h2, h4, h12, h22, h23, h24, closOk, endOk, Bool.and_comm]

theorem counted_iff {x : Ins} : countedS x = !(decide (rcnt x.op = -3) || (decide (rcnt x.op = -1) && decide (x.l = [])) || (decide (0 ≤ rcnt x.op) && !decide (rcnt x.op = x.l.length))) := by
  have hv : ∀ n, cnt x.op = some n → n = -1 ∨ 0 ≤ n := by
    intro n h
    unfold cnt at h
    have h3 : ∀ (l : List (Int × Int)), l.lookup x.op = some n → ∃ p ∈ l, p.2 = n := by
      intro l
      induction l with
      | nil => intro h; cases h
      | cons p l ih =>
        intro h
        obtain ⟨a, b⟩ := p
        rw [List.lookup_cons] at h
        split at h
        · cases h; exact ⟨(a, n), by simp, rfl⟩
        · obtain ⟨p, hp, e⟩ := ih h
          exact ⟨p, by simp [hp], e⟩
    obtain ⟨p, hp, e⟩ := h3 cnts h
    simp [cnts] at hp
    rcases hp with rfl | rfl | rfl | rfl | rfl | rfl | rfl | rfl | rfl | rfl | rfl | rfl | rfl | rfl | rfl | rfl | rfl | rfl | rfl | rfl | rfl | rfl | rfl <;> (simp at e; omega)
  by_cases h5 : x.op = 5
  · simp [countedS, rcnt, h5]
  · cases hc : cnt x.op with
    | none => simp [countedS, rcnt, h5, hc]
    | some n =>
      simp only [countedS, rcnt, h5, hc, if_false, Option.getD_some, decide_false, Bool.false_or]
      rcases hv n hc with rfl | hn
      · cases x.l <;> simp
      · have h1 : ¬ n = -3 := by omega
        have h2 : ¬ n = -1 := by omega
        simp [h1, h2, hn]

theorem int_beq (a b : Int) : (a == b) = decide (a = b) := rfl
theorem k_lim {m : Img} {f : Fn} {x : Ins} {i : Int} {σ : Sg} : ACalls Try.prog 90 [.v (encM m), .v (encF f), .v (encI x), .v (vi i)] σ fun r σ' => r = .v (vi (lim m f x i)) ∧ σ' = σ := k_RLimit

theorem k_RFits {m : Img} {f : Fn} {x : Ins} {σ : Sg} : ACalls Try.prog 63 [.v (encM m), .v (encF f), .v (encI x)] σ fun r σ' => r = .v (.bool (fitsS m f x)) ∧ σ' = σ := by
  refine acalls_fit Try.func63 (by kernel_rfl) c63 rfl (by simp [a63]) fun hf => ?_
  have hxl : x.l.length ≤ 9223372036854775807 := by simp at hf; exact hf.2.2.2.2.1
  clear hf
  obtain ⟨op, a, l⟩ := x
  have hfe := fits_eq m f ⟨op, a, l⟩
  have hce := counted_iff (x := ⟨op, a, l⟩)
  dsimp only at hce hxl
  simp -implicitDefEqProofs (maxSteps := 2000000) (disch := omega) [-getElem?_pos, a63]
  refine k_RCount.then fun r hr => ?_
  subst hr
  generalize hrc : rcnt op = c at hce
  simp -implicitDefEqProofs (maxSteps := 2000000) (disch := omega) [-getElem?_pos]
  repeat' (first
    | (refine And.intro (by omega) ?_)
    | (refine Br.mk (fun hb => ?_) (fun hb => ?_) <;> simp -implicitDefEqProofs (maxSteps := 2000000) (disch := omega) [-getElem?_pos, hb]))
  all_goals first
    | (refine .fin _ ⟨?_, rfl⟩ (.refl _); (try subst l); rw [hfe, hce]; clear hfe hce hrc; simp [*]; done)
    | skip
  all_goals have hct : countedS ⟨op, a, l⟩ = true := by rw [hce]; clear hfe hce hrc; simp [*]
  all_goals rw [hct, Bool.true_and] at hfe
  all_goals refine W_loop (α := Nat) 0 (fun i => l.length - i) (fun i => ⟨[(3, .ptr σ.objs.length 0), (4, .ptr (σ.objs.length + 1) 0), (5, .ptr (σ.objs.length + 2) 0), (8, .v (.int .i64 i))], ⟨σ.objs ++ [cellsM m, cellsF f, .cells [.v (vi op), .v (vi a), .v (.sl none false (l.map vi))]], σ.toks⟩⟩) (fun i => i ≤ l.length ∧ limAll m f ⟨op, a, l⟩ l 0 = limAll m f ⟨op, a, l⟩ (l.drop i) i) (.eq (by simp)) ⟨by omega, by simp⟩ fun i ⟨hi, hla⟩ => ?_
  all_goals
    simp -implicitDefEqProofs (maxSteps := 2000000) (disch := omega) [-getElem?_pos]
    refine .mk (fun h => ?_) fun h => ?_
    · simp -implicitDefEqProofs (maxSteps := 2000000) (disch := omega) [-getElem?_pos]
      refine ⟨by omega, fun n hn => ?_⟩
      refine (k_lim (m := m) (f := f) (x := ⟨op, a, l⟩) (i := i)).then fun r hr => ?_
      subst hr
      simp -implicitDefEqProofs (maxSteps := 2000000) (disch := omega) [-getElem?_pos]
      refine k_RIn.then fun r hr => ?_
      subst hr
      simp -implicitDefEqProofs (maxSteps := 2000000) (disch := omega) [-getElem?_pos]
      have hd := drop_cons hn
      rw [hd] at hla
      simp only [limAll] at hla
      refine .mk (fun hb => ?_) fun hb => ?_
      · simp -implicitDefEqProofs (maxSteps := 2000000) (disch := omega) [-getElem?_pos]
        refine ⟨i + 1, ⟨by omega, by rw [hla, hb, Bool.true_and]⟩, by dsimp only; omega, .eq (by simp)⟩
      · simp -implicitDefEqProofs (maxSteps := 2000000) (disch := omega) [-getElem?_pos]
        refine .fin _ ⟨?_, rfl⟩ (.refl _)
        dsimp only at hfe
        rw [hfe, hla]; simp [hb]
    · have hla : limAll m f ⟨op, a, l⟩ l 0 = true := by rw [hla, List.drop_eq_nil_of_le (by omega)]; rfl
      dsimp only at hfe
      rw [hla, Bool.true_and] at hfe
      simp -implicitDefEqProofs (maxSteps := 2000000) (disch := omega) [-getElem?_pos]
      refine .mk (fun h4 => ?_) fun h4 => ?_
      · subst h4
        have hm := counted_m hct (by decide) rfl
        obtain ⟨n, hn⟩ : ∃ n, l[0]? = some n := ⟨_, List.getElem?_eq_getElem hm⟩
        have hl0 : inS n m.funs.length = true := by
          cases l with
          | nil => simp at hm
          | cons n' l' => simp only [List.getElem?_cons_zero, Option.some.injEq] at hn; subst hn; simp [limAll, lim] at hla; exact hla.1
        have hl1 : 0 ≤ n ∧ n < m.funs.length := by simpa [inS] using hl0
        have hgd : l.getD 0 0 = n := by rw [List.getD_eq_getElem?_getD, hn]; rfl
        simp -implicitDefEqProofs (maxSteps := 2000000) (disch := omega) [-getElem?_pos]
        refine ⟨hm, fun n' hn' => ?_⟩
        have hnn : n' = n := by rw [hn] at hn'; exact (Option.some.inj hn').symm
        subst hnn
        refine ⟨hl1.1, hl1.2, fun g hg => ?_⟩
        have hco : closOk m ⟨4, a, l⟩ = decide ((l.length : Int) = IntKind.wrap .i64 (1 + g.caps)) := by unfold closOk; rw [if_pos rfl]; dsimp only; rw [hgd, hg]; rfl
        refine .mk (fun hb => ?_) fun hb => ?_
        · simp -implicitDefEqProofs (maxSteps := 2000000) (disch := omega) [-getElem?_pos]
          refine k_RIn.then fun r hr => ?_
          subst hr
          simp -implicitDefEqProofs (maxSteps := 2000000) (disch := omega) [-getElem?_pos]
          refine .fin _ ⟨?_, rfl⟩ (.refl _)
          rw [hfe, hco, decide_eq_true hb]
          simp [endOk]
        · simp -implicitDefEqProofs (maxSteps := 2000000) (disch := omega) [-getElem?_pos]
          refine .fin _ ⟨?_, rfl⟩ (.refl _)
          rw [hfe, hco, decide_eq_false hb]
          simp
      · simp -implicitDefEqProofs (maxSteps := 2000000) (disch := omega) [-getElem?_pos]
        repeat' (first
          | (refine And.intro (by omega) ?_)
          | (refine Br.mk (fun hb => ?_) (fun hb => ?_) <;> simp -implicitDefEqProofs (maxSteps := 2000000) (disch := omega) [-getElem?_pos, hb])
          | (refine ACalls.then k_RIn (fun r hr => ?_); subst hr; simp -implicitDefEqProofs (maxSteps := 2000000) (disch := omega) [-getElem?_pos]))
        all_goals (refine .fin _ ⟨?_, rfl⟩ (.refl _); (try subst op); rw [hfe]; simp [closOk, endOk, int_beq, *])
end Go.Proofs.Ytcbdnndgnbgnaaa
