/-
  Functions handed over, and what is found by them. (Own work.)
-/
import Derived.Test.YtcbdnndgnbgnaaaC1
set_option linter.unusedVariables false
set_option linter.unusedSimpArgs false
namespace Go.Proofs.Ytcbdnndgnbgnaaa
open Go Go.Abs

theorem drop_cons {α : Type} {l : List α} {i : Nat} {x : α} (h : l[i]? = some x) : l.drop i = x :: l.drop (i + 1) := by
  obtain ⟨hlt, he⟩ := List.getElem?_eq_some_iff.1 h
  rw [List.drop_eq_getElem_cons hlt, he]

theorem k_IndexFuncInt {xs : List V} {f : Bool} {fd : D} {p : V → Bool} {σ : Sg} (hp : ∀ x ∈ xs, WCall Try.prog fd [.v x] σ fun r σ' => r = .v (.bool (p x)) ∧ σ' = σ) :
    ACalls Try.prog 105 [.v (.sl none f xs), fd] σ fun r σ' => r = .v (.int .i64 ((xs.findIdx? p).elim (-1) fun i => (i : Int))) ∧ σ' = σ := by
  refine acalls_fit Try.func105 (by kernel_rfl) c105 rfl (by simp [a105]) fun hf => ?_
  simp at hf
  simp -implicitDefEqProofs (maxSteps := 2000000) (disch := omega) [-getElem?_pos, a105]
  refine W_loop (α := Nat) 0 (fun i => xs.length - i) (fun i => ⟨[(0, .v (.sl none f xs)), (1, fd), (7, .v (.int .i64 xs.length)), (8, .v (.int .i64 i))], σ⟩) (fun i => i ≤ xs.length ∧ xs.findIdx? p = ((xs.drop i).findIdx? p).map fun k => k + i)
    (.eq (by simp)) ⟨by omega, by simp⟩ fun i ⟨hi, he⟩ => ?_
  simp -implicitDefEqProofs (maxSteps := 2000000) (disch := omega) [-getElem?_pos]
  refine .mk (fun h => ?_) fun h => ?_
  · simp -implicitDefEqProofs (maxSteps := 2000000) (disch := omega) [-getElem?_pos]
    refine ⟨by omega, fun x hx => ?_⟩
    refine (hp x (List.mem_of_getElem? hx)).then fun r hr => ?_
    subst hr
    have hdc := drop_cons hx
    rw [hdc, List.findIdx?_cons] at he
    simp -implicitDefEqProofs (maxSteps := 2000000) (disch := omega) [-getElem?_pos]
    refine .mk (fun hq => ?_) fun hq => ?_
    · rw [if_pos hq] at he
      simp -implicitDefEqProofs (maxSteps := 2000000) (disch := omega) [-getElem?_pos]
      refine .fin _ ⟨?_, rfl⟩ (.refl _)
      rw [he]
      simp
    · rw [if_neg hq] at he
      simp -implicitDefEqProofs (maxSteps := 2000000) (disch := omega) [-getElem?_pos]
      refine ⟨i + 1, ⟨by omega, ?_⟩, by dsimp only; omega, .eq (by simp)⟩
      rw [he]
      simp only [Option.map_map]
      congr 1
      funext k
      simp only [Function.comp]
      omega
  · simp -implicitDefEqProofs (maxSteps := 2000000) (disch := omega) [-getElem?_pos]
    refine .fin _ ⟨?_, rfl⟩ (.refl _)
    rw [he, List.drop_eq_nil_of_le (by omega)]
    rfl
theorem k_ContainsFuncInt {xs : List V} {f : Bool} {fd : D} {p : V → Bool} {σ : Sg} (hp : ∀ x ∈ xs, WCall Try.prog fd [.v x] σ fun r σ' => r = .v (.bool (p x)) ∧ σ' = σ) :
    ACalls Try.prog 102 [.v (.sl none f xs), fd] σ fun r σ' => r = .v (.bool (xs.any p)) ∧ σ' = σ := by
  refine acalls_fit Try.func102 (by kernel_rfl) c102 rfl (by simp [a102]) fun hf => ?_
  simp -implicitDefEqProofs (maxSteps := 2000000) (disch := omega) [-getElem?_pos, a102]
  refine (k_IndexFuncInt hp).then fun r hr => ?_
  subst hr
  simp -implicitDefEqProofs (maxSteps := 2000000) (disch := omega) [-getElem?_pos]
  refine .fin _ ⟨?_, rfl⟩ (.refl _)
  congr 2
  cases h : xs.findIdx? p with
  | none =>
    have h2 := List.findIdx?_eq_none_iff.1 h
    simp
    exact fun x hx => by simpa using h2 x hx
  | some i =>
    have h2 := List.findIdx?_eq_some_iff_getElem.1 h
    obtain ⟨hlt, hq, _⟩ := h2
    simp
    exact ⟨_, List.getElem_mem hlt, hq⟩

theorem k_IndexFuncStr {xs : List V} {f : Bool} {fd : D} {p : V → Bool} {σ : Sg} (hp : ∀ x ∈ xs, WCall Try.prog fd [.v x] σ fun r σ' => r = .v (.bool (p x)) ∧ σ' = σ) :
    ACalls Try.prog 94 [.v (.sl none f xs), fd] σ fun r σ' => r = .v (.int .i64 ((xs.findIdx? p).elim (-1) fun i => (i : Int))) ∧ σ' = σ := by
  refine acalls_fit Try.func94 (by kernel_rfl) c94 rfl (by simp [a94]) fun hf => ?_
  simp at hf
  simp -implicitDefEqProofs (maxSteps := 2000000) (disch := omega) [-getElem?_pos, a94]
  refine W_loop (α := Nat) 0 (fun i => xs.length - i) (fun i => ⟨[(0, .v (.sl none f xs)), (1, fd), (7, .v (.int .i64 xs.length)), (8, .v (.int .i64 i))], σ⟩) (fun i => i ≤ xs.length ∧ xs.findIdx? p = ((xs.drop i).findIdx? p).map fun k => k + i)
    (.eq (by simp)) ⟨by omega, by simp⟩ fun i ⟨hi, he⟩ => ?_
  simp -implicitDefEqProofs (maxSteps := 2000000) (disch := omega) [-getElem?_pos]
  refine .mk (fun h => ?_) fun h => ?_
  · simp -implicitDefEqProofs (maxSteps := 2000000) (disch := omega) [-getElem?_pos]
    refine ⟨by omega, fun x hx => ?_⟩
    refine (hp x (List.mem_of_getElem? hx)).then fun r hr => ?_
    subst hr
    have hdc := drop_cons hx
    rw [hdc, List.findIdx?_cons] at he
    simp -implicitDefEqProofs (maxSteps := 2000000) (disch := omega) [-getElem?_pos]
    refine .mk (fun hq => ?_) fun hq => ?_
    · rw [if_pos hq] at he
      simp -implicitDefEqProofs (maxSteps := 2000000) (disch := omega) [-getElem?_pos]
      refine .fin _ ⟨?_, rfl⟩ (.refl _)
      rw [he]
      simp
    · rw [if_neg hq] at he
      simp -implicitDefEqProofs (maxSteps := 2000000) (disch := omega) [-getElem?_pos]
      refine ⟨i + 1, ⟨by omega, ?_⟩, by dsimp only; omega, .eq (by simp)⟩
      rw [he]
      simp only [Option.map_map]
      congr 1
      funext k
      simp only [Function.comp]
      omega
  · simp -implicitDefEqProofs (maxSteps := 2000000) (disch := omega) [-getElem?_pos]
    refine .fin _ ⟨?_, rfl⟩ (.refl _)
    rw [he, List.drop_eq_nil_of_le (by omega)]
    rfl
theorem k_ContainsFuncStr {xs : List V} {f : Bool} {fd : D} {p : V → Bool} {σ : Sg} (hp : ∀ x ∈ xs, WCall Try.prog fd [.v x] σ fun r σ' => r = .v (.bool (p x)) ∧ σ' = σ) :
    ACalls Try.prog 76 [.v (.sl none f xs), fd] σ fun r σ' => r = .v (.bool (xs.any p)) ∧ σ' = σ := by
  refine acalls_fit Try.func76 (by kernel_rfl) c76 rfl (by simp [a76]) fun hf => ?_
  simp -implicitDefEqProofs (maxSteps := 2000000) (disch := omega) [-getElem?_pos, a76]
  refine (k_IndexFuncStr hp).then fun r hr => ?_
  subst hr
  simp -implicitDefEqProofs (maxSteps := 2000000) (disch := omega) [-getElem?_pos]
  refine .fin _ ⟨?_, rfl⟩ (.refl _)
  congr 2
  cases h : xs.findIdx? p with
  | none =>
    have h2 := List.findIdx?_eq_none_iff.1 h
    simp
    exact fun x hx => by simpa using h2 x hx
  | some i =>
    have h2 := List.findIdx?_eq_some_iff_getElem.1 h
    obtain ⟨hlt, hq, _⟩ := h2
    simp
    exact ⟨_, List.getElem_mem hlt, hq⟩

theorem k_IndexFuncFunc {xs : List V} {f : Bool} {fd : D} {p : V → Bool} {σ : Sg} (hp : ∀ x ∈ xs, WCall Try.prog fd [.v x] σ fun r σ' => r = .v (.bool (p x)) ∧ σ' = σ) :
    ACalls Try.prog 95 [.v (.sl (some 3) f xs), fd] σ fun r σ' => r = .v (.int .i64 ((xs.findIdx? p).elim (-1) fun i => (i : Int))) ∧ σ' = σ := by
  refine acalls_fit Try.func95 (by kernel_rfl) c95 rfl (by simp [a95]) fun hf => ?_
  simp at hf
  simp -implicitDefEqProofs (maxSteps := 2000000) (disch := omega) [-getElem?_pos, a95]
  refine W_loop (α := Nat) 0 (fun i => xs.length - i) (fun i => ⟨[(0, .v (.sl (some 3) f xs)), (1, fd), (7, .v (.int .i64 xs.length)), (8, .v (.int .i64 i))], σ⟩) (fun i => i ≤ xs.length ∧ xs.findIdx? p = ((xs.drop i).findIdx? p).map fun k => k + i)
    (.eq (by simp)) ⟨by omega, by simp⟩ fun i ⟨hi, he⟩ => ?_
  simp -implicitDefEqProofs (maxSteps := 2000000) (disch := omega) [-getElem?_pos]
  refine .mk (fun h => ?_) fun h => ?_
  · simp -implicitDefEqProofs (maxSteps := 2000000) (disch := omega) [-getElem?_pos]
    refine ⟨by omega, fun x hx => ?_⟩
    refine (hp x (List.mem_of_getElem? hx)).then fun r hr => ?_
    subst hr
    have hdc := drop_cons hx
    rw [hdc, List.findIdx?_cons] at he
    simp -implicitDefEqProofs (maxSteps := 2000000) (disch := omega) [-getElem?_pos]
    refine .mk (fun hq => ?_) fun hq => ?_
    · rw [if_pos hq] at he
      simp -implicitDefEqProofs (maxSteps := 2000000) (disch := omega) [-getElem?_pos]
      refine .fin _ ⟨?_, rfl⟩ (.refl _)
      rw [he]
      simp
    · rw [if_neg hq] at he
      simp -implicitDefEqProofs (maxSteps := 2000000) (disch := omega) [-getElem?_pos]
      refine ⟨i + 1, ⟨by omega, ?_⟩, by dsimp only; omega, .eq (by simp)⟩
      rw [he]
      simp only [Option.map_map]
      congr 1
      funext k
      simp only [Function.comp]
      omega
  · simp -implicitDefEqProofs (maxSteps := 2000000) (disch := omega) [-getElem?_pos]
    refine .fin _ ⟨?_, rfl⟩ (.refl _)
    rw [he, List.drop_eq_nil_of_le (by omega)]
    rfl
theorem k_ContainsFuncFunc {xs : List V} {f : Bool} {fd : D} {p : V → Bool} {σ : Sg} (hp : ∀ x ∈ xs, WCall Try.prog fd [.v x] σ fun r σ' => r = .v (.bool (p x)) ∧ σ' = σ) :
    ACalls Try.prog 77 [.v (.sl (some 3) f xs), fd] σ fun r σ' => r = .v (.bool (xs.any p)) ∧ σ' = σ := by
  refine acalls_fit Try.func77 (by kernel_rfl) c77 rfl (by simp [a77]) fun hf => ?_
  simp -implicitDefEqProofs (maxSteps := 2000000) (disch := omega) [-getElem?_pos, a77]
  refine (k_IndexFuncFunc hp).then fun r hr => ?_
  subst hr
  simp -implicitDefEqProofs (maxSteps := 2000000) (disch := omega) [-getElem?_pos]
  refine .fin _ ⟨?_, rfl⟩ (.refl _)
  congr 2
  cases h : xs.findIdx? p with
  | none =>
    have h2 := List.findIdx?_eq_none_iff.1 h
    simp
    exact fun x hx => by simpa using h2 x hx
  | some i =>
    have h2 := List.findIdx?_eq_some_iff_getElem.1 h
    obtain ⟨hlt, hq, _⟩ := h2
    simp
    exact ⟨_, List.getElem_mem hlt, hq⟩

theorem k_IndexFuncInstr {xs : List V} {f : Bool} {fd : D} {p : V → Bool} {σ : Sg} (hp : ∀ x ∈ xs, WCall Try.prog fd [.v x] σ fun r σ' => r = .v (.bool (p x)) ∧ σ' = σ) :
    ACalls Try.prog 99 [.v (.sl (some 3) f xs), fd] σ fun r σ' => r = .v (.int .i64 ((xs.findIdx? p).elim (-1) fun i => (i : Int))) ∧ σ' = σ := by
  refine acalls_fit Try.func99 (by kernel_rfl) c99 rfl (by simp [a99]) fun hf => ?_
  simp at hf
  simp -implicitDefEqProofs (maxSteps := 2000000) (disch := omega) [-getElem?_pos, a99]
  refine W_loop (α := Nat) 0 (fun i => xs.length - i) (fun i => ⟨[(0, .v (.sl (some 3) f xs)), (1, fd), (7, .v (.int .i64 xs.length)), (8, .v (.int .i64 i))], σ⟩) (fun i => i ≤ xs.length ∧ xs.findIdx? p = ((xs.drop i).findIdx? p).map fun k => k + i)
    (.eq (by simp)) ⟨by omega, by simp⟩ fun i ⟨hi, he⟩ => ?_
  simp -implicitDefEqProofs (maxSteps := 2000000) (disch := omega) [-getElem?_pos]
  refine .mk (fun h => ?_) fun h => ?_
  · simp -implicitDefEqProofs (maxSteps := 2000000) (disch := omega) [-getElem?_pos]
    refine ⟨by omega, fun x hx => ?_⟩
    refine (hp x (List.mem_of_getElem? hx)).then fun r hr => ?_
    subst hr
    have hdc := drop_cons hx
    rw [hdc, List.findIdx?_cons] at he
    simp -implicitDefEqProofs (maxSteps := 2000000) (disch := omega) [-getElem?_pos]
    refine .mk (fun hq => ?_) fun hq => ?_
    · rw [if_pos hq] at he
      simp -implicitDefEqProofs (maxSteps := 2000000) (disch := omega) [-getElem?_pos]
      refine .fin _ ⟨?_, rfl⟩ (.refl _)
      rw [he]
      simp
    · rw [if_neg hq] at he
      simp -implicitDefEqProofs (maxSteps := 2000000) (disch := omega) [-getElem?_pos]
      refine ⟨i + 1, ⟨by omega, ?_⟩, by dsimp only; omega, .eq (by simp)⟩
      rw [he]
      simp only [Option.map_map]
      congr 1
      funext k
      simp only [Function.comp]
      omega
  · simp -implicitDefEqProofs (maxSteps := 2000000) (disch := omega) [-getElem?_pos]
    refine .fin _ ⟨?_, rfl⟩ (.refl _)
    rw [he, List.drop_eq_nil_of_le (by omega)]
    rfl
theorem k_ContainsFuncInstr {xs : List V} {f : Bool} {fd : D} {p : V → Bool} {σ : Sg} (hp : ∀ x ∈ xs, WCall Try.prog fd [.v x] σ fun r σ' => r = .v (.bool (p x)) ∧ σ' = σ) :
    ACalls Try.prog 91 [.v (.sl (some 3) f xs), fd] σ fun r σ' => r = .v (.bool (xs.any p)) ∧ σ' = σ := by
  refine acalls_fit Try.func91 (by kernel_rfl) c91 rfl (by simp [a91]) fun hf => ?_
  simp -implicitDefEqProofs (maxSteps := 2000000) (disch := omega) [-getElem?_pos, a91]
  refine (k_IndexFuncInstr hp).then fun r hr => ?_
  subst hr
  simp -implicitDefEqProofs (maxSteps := 2000000) (disch := omega) [-getElem?_pos]
  refine .fin _ ⟨?_, rfl⟩ (.refl _)
  congr 2
  cases h : xs.findIdx? p with
  | none =>
    have h2 := List.findIdx?_eq_none_iff.1 h
    simp
    exact fun x hx => by simpa using h2 x hx
  | some i =>
    have h2 := List.findIdx?_eq_some_iff_getElem.1 h
    obtain ⟨hlt, hq, _⟩ := h2
    simp
    exact ⟨_, List.getElem_mem hlt, hq⟩


def intOf : V → Int
  | .int _ n => n
  | _ => 0

theorem k_Fits1 {n : Int} {o : Nat} {regs : Int} {rest : List D} {σ : Sg} (h : σ.objs[o]? = some (.cells (.v (vi regs) :: rest))) : ACalls Try.prog 103 [.v (vi n), .ptr o 0] σ fun r σ' => r = .v (.bool (!inS n regs)) ∧ σ' = σ := by
  refine acalls_fit Try.func103 (by kernel_rfl) c103 rfl (by simp [a103]) fun hf => ?_
  simp -implicitDefEqProofs (maxSteps := 2000000) (disch := omega) [-getElem?_pos, a103, h]
  refine k_In.then fun r hr => ?_
  subst hr
  simp -implicitDefEqProofs (maxSteps := 2000000) (disch := omega) [-getElem?_pos]
  exact .fin _ ⟨rfl, rfl⟩ (.refl _)

/-- Is one of them no register? -/
def outS (l : List Int) (regs : Int) : Bool := l.any fun n => !inS n regs
theorem outS_not {l : List Int} {regs : Int} : (!outS l regs) = l.all fun n => inS n regs := by
  simp [outS, List.not_any_eq_all_not]
theorem k_Regs {l : List Int} {f : Bool} {o : Nat} {regs : Int} {rest : List D} {σ : Sg} (h : σ.objs[o]? = some (.cells (.v (vi regs) :: rest))) :
    ACalls Try.prog 102 [.v (.sl none f (l.map vi)), .fn 103 [.ptr o 0]] σ fun r σ' => r = .v (.bool (outS l regs)) ∧ σ' = σ := by
  refine (k_ContainsFuncInt (p := fun y => !inS (intOf y) regs) fun y hy => ?_).then fun r hr => ?_
  · obtain ⟨n, _, rfl⟩ := List.mem_map.1 hy
    exact k_Fits1 h
  · subst hr
    refine ⟨?_, rfl⟩
    rw [List.any_map]
    rfl

/-- May an instruction of a function of an image be? -/
def fitsS (m : Img) (f : Fn) (x : Ins) : Bool :=
  let l0 := x.l.getD 0 0
  let all (l : List Int) := l.all fun n => inS n f.regs
  countedS x && (
    if x.op = 1 then inS x.a f.regs && inS l0 m.ints.length
    else if x.op = 2 then inS x.a f.regs && inS l0 m.texts.length
    else if x.op = 4 then inS l0 m.funs.length && (m.funs[l0.toNat]?.elim false fun g => decide ((x.l.length : Int) = IntKind.wrap .i64 (1 + g.caps))) && (inS x.a f.regs && all (x.l.drop 1))
    else if x.op = 12 then inS l0 8 && (inS x.a f.regs && all (x.l.drop 1))
    else if x.op = 22 then inS (x.l.getD 1 0) f.code.length && (decide (x.a = 0) && all (x.l.take 1))
    else if x.op = 23 then decide (x.a = 0) && inS l0 f.code.length
    else if x.op = 24 then decide (x.a = 0) && all x.l
    else inS x.a f.regs && all x.l)

theorem counted_n {op a : Int} {l : List Int} {n : Int} (hc : countedS ⟨op, a, l⟩ = true) (h5 : ¬ op = 5) (hn : cnt op = some n) (h0 : 0 ≤ n) : (l.length : Int) = n := by
  simp [countedS, h5, hn] at hc
  omega
theorem counted_m {op a : Int} {l : List Int} (hc : countedS ⟨op, a, l⟩ = true) (h5 : ¬ op = 5) (hn : cnt op = some (-1)) : 0 < l.length := by
  simp [countedS, h5, hn] at hc
  omega

theorem k_Fits {m : Img} {f : Fn} {x : Ins} {σ : Sg} : ACalls Try.prog 93 [.v (encM m), .v (encF f), .v (encI x)] σ fun r σ' => r = .v (.bool (fitsS m f x)) ∧ σ' = σ := by
  refine acalls_fit Try.func93 (by kernel_rfl) c93 rfl (by simp [a93]) fun hf => ?_
  obtain ⟨op, a, l⟩ := x
  simp -implicitDefEqProofs (maxSteps := 2000000) (disch := omega) [-getElem?_pos, a93]
  refine (k_Counted (x := ⟨op, a, l⟩)).then fun r hr => ?_
  subst hr
  cases hc : countedS ⟨op, a, l⟩ with
  | false =>
    simp -implicitDefEqProofs (maxSteps := 2000000) (disch := omega) [-getElem?_pos]
    exact .fin _ ⟨by simp [fitsS, hc], rfl⟩ (.refl _)
  | true =>
  simp -implicitDefEqProofs (maxSteps := 2000000) (disch := omega) [-getElem?_pos]
  refine k_In.then fun r hr => ?_
  subst hr
  simp -implicitDefEqProofs (maxSteps := 2000000) (disch := omega) [-getElem?_pos]
  refine .mk (fun h1 => ?_) fun h1 => ?_
  · subst h1
    have hl := counted_n hc (by decide) (n := 1) rfl (by decide)
    match l, hl with
    | [l0], _ =>
    simp -implicitDefEqProofs (maxSteps := 2000000) (disch := omega) [-getElem?_pos]
    repeat' (first
      | (refine And.intro (by omega) ?_)
      | (refine Br.mk (fun hb => ?_) (fun hb => ?_) <;> simp -implicitDefEqProofs (maxSteps := 2000000) (disch := omega) [-getElem?_pos, hb])
      | (refine ACalls.then k_In (fun r hr => ?_); subst hr; simp -implicitDefEqProofs (maxSteps := 2000000) (disch := omega) [-getElem?_pos]))
    all_goals exact .fin _ ⟨by simp [fitsS, hc, *], rfl⟩ (.refl _)
  simp -implicitDefEqProofs (maxSteps := 2000000) (disch := omega) [-getElem?_pos]
  refine .mk (fun h2 => ?_) fun h2 => ?_
  · subst h2
    have hl := counted_n hc (by decide) (n := 1) rfl (by decide)
    match l, hl with
    | [l0], _ =>
    simp -implicitDefEqProofs (maxSteps := 2000000) (disch := omega) [-getElem?_pos]
    repeat' (first
      | (refine And.intro (by omega) ?_)
      | (refine Br.mk (fun hb => ?_) (fun hb => ?_) <;> simp -implicitDefEqProofs (maxSteps := 2000000) (disch := omega) [-getElem?_pos, hb])
      | (refine ACalls.then k_In (fun r hr => ?_); subst hr; simp -implicitDefEqProofs (maxSteps := 2000000) (disch := omega) [-getElem?_pos]))
    all_goals exact .fin _ ⟨by simp [fitsS, hc, *], rfl⟩ (.refl _)
  simp -implicitDefEqProofs (maxSteps := 2000000) (disch := omega) [-getElem?_pos]
  refine .mk (fun h4 => ?_) fun h4 => ?_
  · subst h4
    have hl := counted_m hc (by decide) rfl
    match l, hl with
    | l0 :: l, _ =>
    simp -implicitDefEqProofs (maxSteps := 2000000) (disch := omega) [-getElem?_pos]
    refine k_In.then fun r hr => ?_
    subst hr
    simp -implicitDefEqProofs (maxSteps := 2000000) (disch := omega) [-getElem?_pos]
    refine .mk (fun h8 => ?_) fun h8 => ?_
    · have h9 : 0 ≤ l0 ∧ l0 < m.funs.length := by simpa [inS] using h8
      obtain ⟨g, hg⟩ : ∃ g, m.funs[l0.toNat]? = some g := ⟨_, List.getElem?_eq_getElem (by omega)⟩
      simp -implicitDefEqProofs (maxSteps := 2000000) (disch := omega) [-getElem?_pos, hg]
      repeat refine ⟨by omega, ?_⟩
      refine .mk (fun h10 => ?_) fun h10 => ?_
      · simp -implicitDefEqProofs (maxSteps := 2000000) (disch := omega) [-getElem?_pos]
        refine ⟨by omega, ?_⟩
        refine .mk (fun ha => ?_) fun ha => ?_
        · simp -implicitDefEqProofs (maxSteps := 2000000) (disch := omega) [-getElem?_pos]
          rw [show (l.map vi : List V) = (l).map vi by simp]
          refine (k_Regs (regs := f.regs) (rest := [.v (vi f.caps), .v (.sl (some 3) false (f.code.map encI))]) (by simp)).then fun r hr => ?_
          subst hr
          simp -implicitDefEqProofs (maxSteps := 2000000) (disch := omega) [-getElem?_pos]
          refine .fin _ ⟨?_, rfl⟩ (.refl _)
          rw [outS_not]
          simp only [fitsS, hc, Bool.true_and]
          simp [-getElem?_pos, ha, h8, h10, hg]
        · simp -implicitDefEqProofs (maxSteps := 2000000) (disch := omega) [-getElem?_pos]
          exact .fin _ ⟨by simp [-getElem?_pos, fitsS, hc, ha, h8, h10, hg], rfl⟩ (.refl _)

      · simp -implicitDefEqProofs (maxSteps := 2000000) (disch := omega) [-getElem?_pos]
        exact .fin _ ⟨by simp [-getElem?_pos, fitsS, hc, hg, h8, h10], rfl⟩ (.refl _)
    · simp -implicitDefEqProofs (maxSteps := 2000000) (disch := omega) [-getElem?_pos]
      exact .fin _ ⟨by simp [fitsS, hc, *], rfl⟩ (.refl _)
  simp -implicitDefEqProofs (maxSteps := 2000000) (disch := omega) [-getElem?_pos]
  refine .mk (fun h12 => ?_) fun h12 => ?_
  · subst h12
    have hl := counted_n hc (by decide) (n := 3) rfl (by decide)
    match l, hl with
    | [l0, l1, l2], _ =>
    simp -implicitDefEqProofs (maxSteps := 2000000) (disch := omega) [-getElem?_pos]
    refine k_In.then fun r hr => ?_
    subst hr
    simp -implicitDefEqProofs (maxSteps := 2000000) (disch := omega) [-getElem?_pos]
    refine .mk (fun h8 => ?_) fun h8 => ?_
    · simp -implicitDefEqProofs (maxSteps := 2000000) (disch := omega) [-getElem?_pos]
      refine .mk (fun ha => ?_) fun ha => ?_
      · simp -implicitDefEqProofs (maxSteps := 2000000) (disch := omega) [-getElem?_pos]
        rw [show ([vi l1, vi l2] : List V) = ([l1, l2]).map vi by simp]
        refine (k_Regs (regs := f.regs) (rest := [.v (vi f.caps), .v (.sl (some 3) false (f.code.map encI))]) (by simp)).then fun r hr => ?_
        subst hr
        simp -implicitDefEqProofs (maxSteps := 2000000) (disch := omega) [-getElem?_pos]
        refine .fin _ ⟨?_, rfl⟩ (.refl _)
        rw [outS_not]
        simp only [fitsS, hc, Bool.true_and]
        simp [-getElem?_pos, ha, h8]
      · simp -implicitDefEqProofs (maxSteps := 2000000) (disch := omega) [-getElem?_pos]
        exact .fin _ ⟨by simp [-getElem?_pos, fitsS, hc, ha, h8], rfl⟩ (.refl _)

    · simp -implicitDefEqProofs (maxSteps := 2000000) (disch := omega) [-getElem?_pos]
      exact .fin _ ⟨by simp [fitsS, hc, *], rfl⟩ (.refl _)
  simp -implicitDefEqProofs (maxSteps := 2000000) (disch := omega) [-getElem?_pos]
  refine .mk (fun h22 => ?_) fun h22 => ?_
  · subst h22
    have hl := counted_n hc (by decide) (n := 2) rfl (by decide)
    match l, hl with
    | [l0, l1], _ =>
    simp -implicitDefEqProofs (maxSteps := 2000000) (disch := omega) [-getElem?_pos]
    refine k_In.then fun r hr => ?_
    subst hr
    simp -implicitDefEqProofs (maxSteps := 2000000) (disch := omega) [-getElem?_pos]
    refine .mk (fun h8 => ?_) fun h8 => ?_
    · simp -implicitDefEqProofs (maxSteps := 2000000) (disch := omega) [-getElem?_pos]
      refine .mk (fun ha => ?_) fun ha => ?_
      · simp -implicitDefEqProofs (maxSteps := 2000000) (disch := omega) [-getElem?_pos]
        rw [show ([vi l0] : List V) = ([l0]).map vi by simp]
        refine (k_Regs (regs := f.regs) (rest := [.v (vi f.caps), .v (.sl (some 3) false (f.code.map encI))]) (by simp)).then fun r hr => ?_
        subst hr
        simp -implicitDefEqProofs (maxSteps := 2000000) (disch := omega) [-getElem?_pos]
        refine .fin _ ⟨?_, rfl⟩ (.refl _)
        rw [outS_not]
        simp only [fitsS, hc, Bool.true_and]
        simp [-getElem?_pos, ha, h8]
      · simp -implicitDefEqProofs (maxSteps := 2000000) (disch := omega) [-getElem?_pos]
        exact .fin _ ⟨by simp [-getElem?_pos, fitsS, hc, ha, h8], rfl⟩ (.refl _)

    · simp -implicitDefEqProofs (maxSteps := 2000000) (disch := omega) [-getElem?_pos]
      exact .fin _ ⟨by simp [fitsS, hc, *], rfl⟩ (.refl _)
  simp -implicitDefEqProofs (maxSteps := 2000000) (disch := omega) [-getElem?_pos]
  refine .mk (fun h23 => ?_) fun h23 => ?_
  · subst h23
    have hl := counted_n hc (by decide) (n := 1) rfl (by decide)
    match l, hl with
    | [l0], _ =>
    simp -implicitDefEqProofs (maxSteps := 2000000) (disch := omega) [-getElem?_pos]
    refine .mk (fun h0 => ?_) fun h0 => ?_
    · subst h0
      simp -implicitDefEqProofs (maxSteps := 2000000) (disch := omega) [-getElem?_pos]
      repeat' (first
        | (refine And.intro (by omega) ?_)
        | (refine Br.mk (fun hb => ?_) (fun hb => ?_) <;> simp -implicitDefEqProofs (maxSteps := 2000000) (disch := omega) [-getElem?_pos, hb])
        | (refine ACalls.then k_In (fun r hr => ?_); subst hr; simp -implicitDefEqProofs (maxSteps := 2000000) (disch := omega) [-getElem?_pos]))
      all_goals exact .fin _ ⟨by simp [fitsS, hc, *], rfl⟩ (.refl _)
    · simp -implicitDefEqProofs (maxSteps := 2000000) (disch := omega) [-getElem?_pos]
      exact .fin _ ⟨by simp [fitsS, hc, *], rfl⟩ (.refl _)
  simp -implicitDefEqProofs (maxSteps := 2000000) (disch := omega) [-getElem?_pos]
  refine .mk (fun h24 => ?_) fun h24 => ?_
  · subst h24
    simp -implicitDefEqProofs (maxSteps := 2000000) (disch := omega) [-getElem?_pos]
    refine .mk (fun ha => ?_) fun ha => ?_
    · simp -implicitDefEqProofs (maxSteps := 2000000) (disch := omega) [-getElem?_pos]
      rw [show (l.map vi : List V) = (l).map vi by simp]
      refine (k_Regs (regs := f.regs) (rest := [.v (vi f.caps), .v (.sl (some 3) false (f.code.map encI))]) (by simp)).then fun r hr => ?_
      subst hr
      simp -implicitDefEqProofs (maxSteps := 2000000) (disch := omega) [-getElem?_pos]
      refine .fin _ ⟨?_, rfl⟩ (.refl _)
      rw [outS_not]
      simp only [fitsS, hc, Bool.true_and]
      simp [-getElem?_pos, ha, h1]
    · simp -implicitDefEqProofs (maxSteps := 2000000) (disch := omega) [-getElem?_pos]
      exact .fin _ ⟨by simp [-getElem?_pos, fitsS, hc, ha, h1], rfl⟩ (.refl _)

  · simp -implicitDefEqProofs (maxSteps := 2000000) (disch := omega) [-getElem?_pos]
    refine .mk (fun ha => ?_) fun ha => ?_
    · simp -implicitDefEqProofs (maxSteps := 2000000) (disch := omega) [-getElem?_pos]
      rw [show (l.map vi : List V) = (l).map vi by simp]
      refine (k_Regs (regs := f.regs) (rest := [.v (vi f.caps), .v (.sl (some 3) false (f.code.map encI))]) (by simp)).then fun r hr => ?_
      subst hr
      simp -implicitDefEqProofs (maxSteps := 2000000) (disch := omega) [-getElem?_pos]
      refine .fin _ ⟨?_, rfl⟩ (.refl _)
      rw [outS_not]
      simp only [fitsS, hc, Bool.true_and]
      simp [-getElem?_pos, ha, h1, h2, h4, h12, h22, h23, h24]
    · simp -implicitDefEqProofs (maxSteps := 2000000) (disch := omega) [-getElem?_pos]
      exact .fin _ ⟨by simp [-getElem?_pos, fitsS, hc, ha, h1, h2, h4, h12, h22, h23, h24], rfl⟩ (.refl _)

end Go.Proofs.Ytcbdnndgnbgnaaa
