/-
  A sort of numbers that are in order already: by comparing; nothing turns. (Own work.)
-/
import Derived.Test.YtkpnhcccocaakaaDoorU2
import Derived.Test.YtkpnhcccocaakaaDoorF2
set_option linter.unusedVariables false
set_option linter.unusedSimpArgs false
namespace Go.Proofs.YtkpnhcccocaakaaDoor
open Go Go.Abs

theorem cmpB_lt : ∀ {a b : Str}, a < b → Lib.compareBytes a b = -1
  | [], [], h => absurd h (List.lt_irrefl _)
  | [], _ :: _, _ => rfl
  | _ :: _, [], h => by cases h
  | a :: t, b :: u, h => by
    rw [List.cons_lt_cons_iff] at h
    simp only [Lib.compareBytes]
    rcases h with h | ⟨rfl, h⟩
    · rw [if_pos h]
    · rw [if_neg (UInt8.lt_irrefl _), if_neg (UInt8.lt_irrefl _), cmpB_lt h]
theorem cmpB_gt : ∀ {a b : Str}, b < a → Lib.compareBytes a b = 1
  | [], [], h => absurd h (List.lt_irrefl _)
  | [], _ :: _, h => by cases h
  | _ :: _, [], h => rfl
  | a :: t, b :: u, h => by
    rw [List.cons_lt_cons_iff] at h
    simp only [Lib.compareBytes]
    rcases h with h | ⟨rfl, h⟩
    · rw [if_neg (UInt8.lt_asymm h), if_pos h]
    · rw [if_neg (UInt8.lt_irrefl _), if_neg (UInt8.lt_irrefl _), cmpB_gt h]
theorem cmpB_eq : ∀ (a : Str), Lib.compareBytes a a = 0
  | [] => rfl
  | a :: t => by
    simp only [Lib.compareBytes]
    rw [if_neg (UInt8.lt_irrefl _), if_neg (UInt8.lt_irrefl _), cmpB_eq t]
theorem k_Compare {a b : Str} {σ : Sg} : ACalls Tryd.prog 60 [.v (.str a), .v (.str b)] σ fun r σ' => r = .v (.int .i64 (Lib.compareBytes a b)) ∧ σ' = σ := by
  refine ⟨⟨_, Tryd.func60, by kernel_rfl, by kernel_rfl⟩, fun m w us hI hl hr => ?_⟩
  match us, hl with
  | [u1, u2], _ =>
    have h1 := (hr 0 _ _ rfl rfl).v_inv
    have h2 := (hr 1 _ _ rfl rfl).v_inv
    cases h1 with
    | str _ _ =>
    cases h2 with
    | str _ _ =>
    refine (Go.Proofs.Any.strings_Compare cmpLays ⟨a.toArray⟩ ⟨b.toArray⟩ w).mono fun e w' ⟨he, hw⟩ => ?_
    subst hw
    refine ⟨_, _, σ, m, he, ⟨rfl, rfl⟩, hI, .refl _ _, .v _ _ (.int _ _ ?_)⟩
    have : ∀ a b : Str, -1 ≤ Lib.compareBytes a b ∧ Lib.compareBytes a b ≤ 1 := by
      intro a
      induction a with
      | nil => intro b; cases b <;> simp [Lib.compareBytes]
      | cons x a ih =>
        intro b
        cases b with
        | nil => simp [Lib.compareBytes]
        | cons y b =>
          simp only [Lib.compareBytes]
          have := ih b
          split
          · omega
          · split <;> omega
    have := this a b
    exact ⟨by show -9223372036854775808 ≤ Lib.compareBytes a b; omega, by show Lib.compareBytes a b ≤ 9223372036854775807; omega⟩
theorem k_LenN {n : Nat} {σ : Sg} (hn : n ≤ 1048576) : ACalls Tryd.prog 66 [.v (.int .u64 n)] σ fun r σ' => (∃ k : Nat, r = .v (.int .i64 k) ∧ (0 < n → 0 < k)) ∧ σ' = σ := by
  refine ⟨⟨_, Tryd.func66, by kernel_rfl, by kernel_rfl⟩, fun m w us hI hl hr => ?_⟩
  match us, hl with
  | [u1], _ =>
    have h1 := (hr 0 _ _ rfl rfl).v_inv
    cases h1 with
    | int _ _ _ =>
    refine (Go.Proofs.Any.bits_Len lenLays (n : Int) w (by omega) (by omega)).mono fun e w' ⟨he, hw⟩ => ?_
    subst hw
    rw [Int.toNat_natCast] at he
    have hle : ∀ f x, Lib.bitLenAux f x ≤ f := by
      intro f
      induction f with
      | zero => intro x; exact Nat.le_refl _
      | succ f ih => intro x; simp only [Lib.bitLenAux]; split; · omega
                     · have := ih (x / 2); omega
    have h64 := hle 64 n
    refine ⟨_, _, σ, m, he, ⟨⟨_, rfl, fun h => ?_⟩, rfl⟩, hI, .refl _ _, .v _ _ (.int _ _ ?_)⟩
    · unfold Lib.bitLen
      simp only [Lib.bitLenAux]
      rw [if_neg (by omega)]
      omega
    · unfold Lib.bitLen
      exact ⟨by show -9223372036854775808 ≤ ((Lib.bitLenAux 64 n : Nat) : Int); omega, by show ((Lib.bitLenAux 64 n : Nat) : Int) ≤ 9223372036854775807; omega⟩
def cI (n : Nat) : List D := (List.range n).map fun i => D.v (.int .i64 (i : Nat))
theorem cI_len (n : Nat) : (cI n).length = n := by simp [cI]
theorem cI_get {n i : Nat} {rest : List D} (h : i < n) : (cI n ++ rest)[i]? = some (.v (.int .i64 i)) := by
  rw [List.getElem?_append_left (by rw [cI_len]; exact h)]
  simp [cI, h]
def ordN (x y : Nat) : Int := if x < y then -1 else if y < x then 1 else 0
theorem ordN_neg {x y : Nat} : (ordN x y < 0) = (x < y) := by
  unfold ordN
  split
  · simp_all
  · split <;> simp_all
structure Srt (fd : D) (n o : Nat) (rest : List D) (σ : Sg) : Prop where
  ob : σ.objs[o]? = some (.cells (cI n ++ rest))
  cmp : ∀ x y r, x < n → y < n → WCall Tryd.prog fd [.v (.int .i64 (x : Nat)), .v (.int .i64 (y : Nat))] ⟨σ.objs ++ r, σ.toks⟩ fun r' σ' => r' = .v (.int .i64 (ordN x y)) ∧ σ' = ⟨σ.objs ++ r, σ.toks⟩
  low : fd.low σ.objs.length σ.toks.length
theorem ordN_le {x y : Nat} (h : y ≤ x) : ¬ ordN x y < 0 := by
  rw [ordN_neg]
  omega
theorem k_Ord2 {fd : D} {n o c a b p : Nat} {rest : List D} {σ : Sg} (h : Srt fd n o rest σ) (hab : a ≤ b) (hb : b < n) : ACalls Tryd.prog 98 [.msl o 0 n none (some c), .v (.int .i64 a), .v (.int .i64 b), .ptr p 0, fd] σ fun r σ' => r = .tup [.v (.int .i64 a), .v (.int .i64 b)] ∧ σ' = σ := by
  have ha : a < n := by omega
  have hc := fun r => h.cmp b a r hb ha
  have hc0 := hc []
  rw [List.append_nil] at hc0
  have ho := h.ob
  have g1 := cI_get (rest := rest) hb
  have g2 := cI_get (rest := rest) ha
  have hn := ordN_le hab
  refine acalls_fit Tryd.func98 (by kernel_rfl) c98 rfl (by simp [a98]) fun hf => ?_
  clear hf
  simp -implicitDefEqProofs (maxSteps := 2000000) (disch := omega) [-getElem?_pos, a98, ho, g1, g2, ha, hb]
  refine hc0.then fun r hr => ?_
  subst hr
  simp -implicitDefEqProofs (maxSteps := 2000000) (disch := omega) [-getElem?_pos, hn]
  exact .fin _ ⟨rfl, rfl⟩ (.refl _)
theorem k_Med {fd : D} {n o k a b c p : Nat} {rest : List D} {σ : Sg} (h : Srt fd n o rest σ) (hab : a ≤ b) (hbc : b ≤ c) (hc : c < n) : ACalls Tryd.prog 95 [.msl o 0 n none (some k), .v (.int .i64 a), .v (.int .i64 b), .v (.int .i64 c), .ptr p 0, fd] σ fun r σ' => r = .v (.int .i64 b) ∧ σ' = σ := by
  refine acalls_fit Tryd.func95 (by kernel_rfl) c95 rfl (by simp [a95]) fun hf => ?_
  clear hf
  simp -implicitDefEqProofs (maxSteps := 2000000) (disch := omega) [-getElem?_pos, a95]
  refine (k_Ord2 h hab (by omega)).then fun r hr => ?_
  subst hr
  simp -implicitDefEqProofs (maxSteps := 2000000) (disch := omega) [-getElem?_pos]
  refine (k_Ord2 h hbc hc).then fun r hr => ?_
  subst hr
  simp -implicitDefEqProofs (maxSteps := 2000000) (disch := omega) [-getElem?_pos]
  refine (k_Ord2 h hab (by omega)).then fun r hr => ?_
  subst hr
  simp -implicitDefEqProofs (maxSteps := 2000000) (disch := omega) [-getElem?_pos]
  exact .fin _ ⟨rfl, rfl⟩ (.refl _)
theorem k_MedA {fd : D} {n o k a p : Nat} {rest : List D} {σ : Sg} (h : Srt fd n o rest σ) (ha : 1 ≤ a) (hb : a + 1 < n) (hn : n ≤ 1048576) : ACalls Tryd.prog 94 [.msl o 0 n none (some k), .v (.int .i64 a), .ptr p 0, fd] σ fun r σ' => r = .v (.int .i64 a) ∧ σ' = σ := by
  obtain ⟨d, rfl⟩ : ∃ d, a = d + 1 := ⟨a - 1, by omega⟩
  have e1 : ((d + 1 : Nat) : Int) - 1 = (d : Nat) := by omega
  have e2 : ((d + 1 : Nat) : Int) + 1 = ((d + 2 : Nat) : Int) := by omega
  have hm := k_Med (a := d) (b := d + 1) (c := d + 2) (k := k) (p := p) h (by omega) (by omega) (by omega)
  generalize hx : ((d + 1 : Nat) : Int) = x at *
  refine acalls_fit Tryd.func94 (by kernel_rfl) c94 rfl (by simp [a94]) fun hf => ?_
  clear hf
  simp -implicitDefEqProofs (maxSteps := 2000000) (disch := omega) [-getElem?_pos, a94, e1, e2]
  push_cast at hm
  refine hm.then fun r hr => ?_
  subst hr
  simp -implicitDefEqProofs (maxSteps := 2000000) (disch := omega) [-getElem?_pos]
  exact .fin _ ⟨rfl, rfl⟩ (.refl _)
theorem Srt.app {fd : D} {n o : Nat} {rest : List D} {σ : Sg} (h : Srt fd n o rest σ) (xs : List Ob) : Srt fd n o rest ⟨σ.objs ++ xs, σ.toks⟩ :=
  ⟨by rw [List.getElem?_append_left (List.getElem?_eq_some_iff.1 h.ob).1]; exact h.ob, fun x y r hx hy => by have := h.cmp x y (xs ++ r) hx hy; rw [← List.append_assoc] at this; exact this,
    D.low_mono (by simp) (Nat.le_refl _) _ h.low⟩
theorem quo4 (n : Nat) : Int.tdiv (n : Int) 4 = ((n / 4 : Nat) : Int) := by
  rw [Int.tdiv_eq_ediv_of_nonneg (by omega)]
  rfl
theorem k_PivF {fd : D} {n o k : Nat} {rest : List D} {σ : Sg} (h : Srt fd n o rest σ) (h12 : 12 < n) (hn : n ≤ 1048576) : ACalls Tryd.prog 77 [.msl o 0 n none (some k), .v (.int .i64 0), .v (.int .i64 n), fd] σ fun r σ' => (∃ j : Nat, r = .tup [.v (.int .i64 j), .v (.int .i64 1)]) ∧ σ' = σ := by
  have h2 := h.app [.cells [.v (.int .i64 0)]]
  obtain ⟨q, hq⟩ : ∃ q, q = n / 4 := ⟨_, rfl⟩
  have hq4 := quo4 n
  rw [← hq] at hq4
  have c1 := fun (p : Nat) (h50 : 50 ≤ n) => k_MedA (k := k) (a := q) (p := p) h2 (by omega) (by omega) hn
  have c2 := fun (p : Nat) (h50 : 50 ≤ n) => k_MedA (k := k) (a := q * 2) (p := p) h2 (by omega) (by omega) hn
  have c3 := fun (p : Nat) (h50 : 50 ≤ n) => k_MedA (k := k) (a := q * 3) (p := p) h2 (by omega) (by omega) hn
  have c4 := fun (p : Nat) => k_Med (k := k) (a := q) (b := q * 2) (c := q * 3) (p := p) h2 (by omega) (by omega) (by omega)
  push_cast at c1 c2 c3 c4
  refine acalls_fit Tryd.func77 (by kernel_rfl) c77 rfl (by simp [a77]) fun hf => ?_
  clear hf
  simp -implicitDefEqProofs (maxSteps := 2000000) (disch := omega) [-getElem?_pos, a77, hq4]
  refine .mk (fun h8 => ?_) fun h8 => by omega
  simp -implicitDefEqProofs (maxSteps := 2000000) (disch := omega) [-getElem?_pos]
  refine .mk (fun h50 => ?_) fun h50 => ?_
  · have h51 : 50 ≤ n := by omega
    simp -implicitDefEqProofs (maxSteps := 2000000) (disch := omega) [-getElem?_pos]
    refine (c1 _ h51).then fun r hr => ?_
    subst hr
    simp -implicitDefEqProofs (maxSteps := 2000000) (disch := omega) [-getElem?_pos]
    refine (c2 _ h51).then fun r hr => ?_
    subst hr
    simp -implicitDefEqProofs (maxSteps := 2000000) (disch := omega) [-getElem?_pos]
    refine (c3 _ h51).then fun r hr => ?_
    subst hr
    simp -implicitDefEqProofs (maxSteps := 2000000) (disch := omega) [-getElem?_pos]
    refine (c4 _).then fun r hr => ?_
    subst hr
    simp -implicitDefEqProofs (maxSteps := 2000000) (disch := omega) [-getElem?_pos]
    exact .fin _ ⟨⟨q * 2, by push_cast; rfl⟩, rfl⟩ (.refl _)
  · simp -implicitDefEqProofs (maxSteps := 2000000) (disch := omega) [-getElem?_pos]
    refine (c4 _).then fun r hr => ?_
    subst hr
    simp -implicitDefEqProofs (maxSteps := 2000000) (disch := omega) [-getElem?_pos]
    exact .fin _ ⟨⟨q * 2, by push_cast; rfl⟩, rfl⟩ (.refl _)
/-- Elements that are in order already: it tells so. -/
theorem k_ParF {fd : D} {n o k : Nat} {rest : List D} {σ : Sg} (h : Srt fd n o rest σ) (h12 : 12 < n) (hn : n ≤ 1048576) : ACalls Tryd.prog 79 [.msl o 0 n none (some k), .v (.int .i64 0), .v (.int .i64 n), fd] σ fun r σ' => r = .v (.bool true) ∧ σ' = σ := by
  have ho := h.ob
  have hc := fun (i : Nat) (hi : i + 1 < n) => h.cmp (i + 1) i [] hi (by omega)
  simp only [List.append_nil] at hc
  push_cast at hc
  have hlo := h.low
  refine acalls_fit Tryd.func79 (by kernel_rfl) c79 rfl (by simp [a79]) fun hf => ?_
  clear hf
  simp -implicitDefEqProofs (maxSteps := 2000000) (disch := omega) [-getElem?_pos, a79]
  refine W_loop (α := Nat) 0 (fun i => 0) (fun i => ⟨[(0, .msl o 0 n none (some k)), (1, .v (.int .i64 0)), (2, .v (.int .i64 n)), (3, fd), (8, .v (.bool false)), (9, .v (.int .i64 1)), (10, .v (.int .i64 0))], σ⟩) (fun i => True) (.eq (by simp)) trivial fun _ _ => ?_
  simp -implicitDefEqProofs (maxSteps := 2000000) (disch := omega) [-getElem?_pos]
  refine W_loop (α := Nat) 0 (fun i => n - i) (fun i => ⟨[(0, .msl o 0 n none (some k)), (1, .v (.int .i64 0)), (2, .v (.int .i64 n)), (3, fd), (8, .v (.bool false)), (9, .v (.int .i64 ((i : Int) + 1))), (10, .v (.int .i64 0))], σ⟩) (fun i => i + 1 ≤ n) (.eq (by simp)) (by omega) fun i hi => ?_
  have g1 := fun (h : i + 1 < n) => cI_get (rest := rest) h
  have g2 := fun (h : i < n) => cI_get (rest := rest) h
  push_cast at g1
  simp -implicitDefEqProofs (maxSteps := 2000000) (disch := omega) [-getElem?_pos]
  refine .mk (fun h => ?_) fun h => ?_
  · have h1 : i + 1 < n := by omega
    have h0 : i < n := by omega
    have hg1 := g1 h1
    have hg2 := g2 h0
    simp -implicitDefEqProofs (maxSteps := 2000000) (disch := omega) [-getElem?_pos, ho, hg1, hg2, h1, h0]
    refine ⟨by omega, by omega, (hc i h1).then fun r hr => ?_⟩
    subst hr
    have hn2 : ¬ ordN (i + 1) i < 0 := ordN_le (by omega)
    simp -implicitDefEqProofs (maxSteps := 2000000) (disch := omega) [-getElem?_pos, hn2]
    exact ⟨i + 1, by omega, by show n - (i + 1) < n - i; omega, .eq (by simp)⟩
  · have hin : (n : Int) = (i : Int) + 1 := by omega
    simp -implicitDefEqProofs (maxSteps := 2000000) (disch := omega) [-getElem?_pos, hin]
    exact .fin _ ⟨rfl, rfl⟩ (.refl _)
theorem k_InsF {fd : D} {n o k : Nat} {rest : List D} {σ : Sg} (h : Srt fd n o rest σ) (hn : n ≤ 1048576) (hn0 : 0 < n) : ACalls Tryd.prog 74 [.msl o 0 n none (some k), .v (.int .i64 0), .v (.int .i64 n), fd] σ fun r σ' => r = .tup [] ∧ σ' = σ := by
  have ho := h.ob
  have hc := fun (i : Nat) (hi : i + 1 < n) => h.cmp (i + 1) i [] hi (by omega)
  simp only [List.append_nil] at hc
  push_cast at hc
  have hlo := h.low
  refine acalls_fit Tryd.func74 (by kernel_rfl) c74 rfl (by simp [a74]) fun hf => ?_
  clear hf
  simp -implicitDefEqProofs (maxSteps := 2000000) (disch := omega) [-getElem?_pos, a74]
  refine W_loop (α := Nat) 0 (fun i => n - i) (fun i => ⟨[(0, .msl o 0 n none (some k)), (1, .v (.int .i64 0)), (2, .v (.int .i64 n)), (3, fd), (8, .v (.int .i64 ((i : Int) + 1)))], σ⟩) (fun i => i + 1 ≤ n) (.eq (by simp)) (by omega) fun i hi => ?_
  have g1 := fun (h : i + 1 < n) => cI_get (rest := rest) h
  have g2 := fun (h : i < n) => cI_get (rest := rest) h
  push_cast at g1
  simp -implicitDefEqProofs (maxSteps := 2000000) (disch := omega) [-getElem?_pos]
  refine .mk (fun h => ?_) fun h => ?_
  · have h1 : i + 1 < n := by omega
    have h0 : i < n := by omega
    have hg1 := g1 h1
    have hg2 := g2 h0
    simp -implicitDefEqProofs (maxSteps := 2000000) (disch := omega) [-getElem?_pos]
    refine W_loop (α := Nat) 0 (fun i => 0) (fun _ => ⟨[(0, .msl o 0 n none (some k)), (1, .v (.int .i64 0)), (2, .v (.int .i64 n)), (3, fd), (8, .v (.int .i64 ((i : Int) + 1))), (9, .v (.int .i64 ((i : Int) + 1)))], σ⟩) (fun i => True) (.eq (by simp)) trivial fun _ _ => ?_
    simp -implicitDefEqProofs (maxSteps := 2000000) (disch := omega) [-getElem?_pos, ho, hg1, hg2, h1, h0]
    refine ⟨by omega, by omega, (hc i h1).then fun r hr => ?_⟩
    subst hr
    have hn2 : ¬ ordN (i + 1) i < 0 := ordN_le (by omega)
    simp -implicitDefEqProofs (maxSteps := 2000000) (disch := omega) [-getElem?_pos, hn2]
    exact ⟨i + 1, by omega, by show n - (i + 1) < n - i; omega, .eq (by simp)⟩
  · simp -implicitDefEqProofs (maxSteps := 2000000) (disch := omega) [-getElem?_pos]
    exact .fin _ ⟨rfl, rfl⟩ (.refl _)
theorem k_PdqF {fd : D} {n o k lim : Nat} {rest : List D} {σ : Sg} (h : Srt fd n o rest σ) (hn : n ≤ 1048576) (hn0 : 0 < n) (hlim : 0 < lim) : ACalls Tryd.prog 65 [.msl o 0 n none (some k), .v (.int .i64 0), .v (.int .i64 n), .v (.int .i64 lim), fd] σ fun r σ' => r = .tup [] ∧ σ' = σ := by
  refine acalls_fit Tryd.func65 (by kernel_rfl) c65 rfl (by simp [a65]) fun hf => ?_
  clear hf
  simp -implicitDefEqProofs (maxSteps := 2000000) (disch := omega) [-getElem?_pos, a65]
  refine W_loop (α := Nat) 0 (fun i => 0) (fun _ => ⟨[(0, .msl o 0 n none (some k)), (1, .v (.int .i64 0)), (2, .v (.int .i64 n)), (3, .v (.int .i64 lim)), (4, fd), (10, .v (.bool true)), (11, .v (.bool true))], σ⟩) (fun i => True) (.eq (by simp)) trivial fun _ _ => ?_
  simp -implicitDefEqProofs (maxSteps := 2000000) (disch := omega) [-getElem?_pos]
  refine .mk (fun h12 => ?_) fun h12 => ?_
  · simp -implicitDefEqProofs (maxSteps := 2000000) (disch := omega) [-getElem?_pos]
    refine (k_InsF h hn hn0).then fun r hr => ?_
    subst hr
    simp -implicitDefEqProofs (maxSteps := 2000000) (disch := omega) [-getElem?_pos]
    exact .fin _ ⟨rfl, rfl⟩ (.refl _)
  · have hl0 : ¬ lim = 0 := by omega
    simp -implicitDefEqProofs (maxSteps := 2000000) (disch := omega) [-getElem?_pos, hl0]
    refine (k_PivF h (by omega) hn).then fun r hr => ?_
    obtain ⟨j, rfl⟩ := hr
    simp -implicitDefEqProofs (maxSteps := 2000000) (disch := omega) [-getElem?_pos]
    refine (k_ParF h (by omega) hn).then fun r hr => ?_
    subst hr
    simp -implicitDefEqProofs (maxSteps := 2000000) (disch := omega) [-getElem?_pos]
    exact .fin _ ⟨rfl, rfl⟩ (.refl _)
theorem k_SortF {fd : D} {n o k : Nat} {rest : List D} {σ : Sg} (h : Srt fd n o rest σ) (hn : n ≤ 1048576) (hn0 : 0 < n) : ACalls Tryd.prog 58 [.msl o 0 n none (some k), fd] σ fun r σ' => r = .tup [] ∧ σ' = σ := by
  refine acalls_fit Tryd.func58 (by kernel_rfl) c58 rfl (by simp [a58]) fun hf => ?_
  clear hf
  simp -implicitDefEqProofs (maxSteps := 2000000) (disch := omega) [-getElem?_pos, a58]
  refine (k_LenN hn).then fun r hr => ?_
  obtain ⟨m, rfl, hm⟩ := hr
  simp -implicitDefEqProofs (maxSteps := 2000000) (disch := omega) [-getElem?_pos]
  refine (k_PdqF h hn hn0 (hm hn0)).then fun r hr => ?_
  subst hr
  simp -implicitDefEqProofs (maxSteps := 2000000) (disch := omega) [-getElem?_pos]
  exact .fin _ ⟨rfl, rfl⟩ (.refl _)
end Go.Proofs.YtkpnhcccocaakaaDoor
