/-
  bushellaw16.FoldEnds: for every input the law returns true, and each argument reads behind the call as it read before. Condition: the arguments are of the bulk that the second form grants; the package variables that the row lists are laid as its card tells.
-/
import Derived.Test.YtbifjffjibnjjaaDoorM10
import Derived.Test.YtbifjffjibnjjaaDoorCards
import Derived.Test.YtbifjffjibnjjaaDoorTie
import Derived.Deep.DeepHandedRow
import Derived.Lib.LaidTab
set_option linter.unusedVariables false
set_option linter.unusedSimpArgs false
set_option maxHeartbeats 2000000
namespace Go.Proofs.YtbifjffjibnjjaaDoor
open Go Go.Abs

theorem k_IndexFuncCo {xs : List V} {f : Bool} {fd : D} {p : V → Bool} {σ : Sg} (hp : ∀ x ∈ xs, WCall Tryd.prog fd [.v x] σ fun r σ' => r = .v (.bool (p x)) ∧ σ' = σ) :
    ACalls Tryd.prog 99 [.v (.sl (some 6) f xs), fd] σ fun r σ' => r = .v (.int .i64 ((xs.findIdx? p).elim (-1) fun i => (i : Int))) ∧ σ' = σ := by
  refine acalls_fit Tryd.func99 (by kernel_rfl) c99 rfl (by simp [a99]) fun hf => ?_
  simp at hf
  simp -implicitDefEqProofs (maxSteps := 2000000) (disch := omega) [-getElem?_pos, a99]
  refine W_loop (α := Nat) 0 (fun i => xs.length - i) (fun i => ⟨[(0, .v (.sl (some 6) f xs)), (1, fd), (7, .v (.int .i64 xs.length)), (8, .v (.int .i64 i))], σ⟩) (fun i => i ≤ xs.length ∧ xs.findIdx? p = ((xs.drop i).findIdx? p).map fun k => k + i)
    (.eq (by simp)) ⟨by omega, by simp⟩ fun i ⟨hi, he⟩ => ?_
  simp -implicitDefEqProofs (maxSteps := 2000000) (disch := omega) [-getElem?_pos]
  refine .mk (fun h => ?_) fun h => ?_
  · simp -implicitDefEqProofs (maxSteps := 2000000) (disch := omega) [-getElem?_pos]
    refine ⟨by omega, fun x hx => ?_⟩
    refine (hp x (List.mem_of_getElem? hx)).then fun r hr => ?_
    subst hr
    have hdc := drop_cons hx
    rw [hdc, List.findIdx?_cons] at he
    simp -implicitDefEqProofs (maxSteps := 2000000) (disch := omega) [-getElem?_pos]
    refine .mk (fun hq => ?_) fun hq => ?_
    · rw [if_pos hq] at he
      simp -implicitDefEqProofs (maxSteps := 2000000) (disch := omega) [-getElem?_pos]
      refine .fin _ ⟨?_, rfl⟩ (.refl _)
      rw [he]
      simp
    · rw [if_neg hq] at he
      simp -implicitDefEqProofs (maxSteps := 2000000) (disch := omega) [-getElem?_pos]
      refine ⟨i + 1, ⟨by omega, ?_⟩, by dsimp only; omega, .eq (by simp)⟩
      rw [he]
      simp only [Option.map_map]
      congr 1
      funext k
      simp only [Function.comp]
      omega
  · simp -implicitDefEqProofs (maxSteps := 2000000) (disch := omega) [-getElem?_pos]
    refine .fin _ ⟨?_, rfl⟩ (.refl _)
    rw [he, List.drop_eq_nil_of_le (by omega)]
    rfl
theorem k_ContainsFuncCo {xs : List V} {f : Bool} {fd : D} {p : V → Bool} {σ : Sg} (hp : ∀ x ∈ xs, WCall Tryd.prog fd [.v x] σ fun r σ' => r = .v (.bool (p x)) ∧ σ' = σ) :
    ACalls Tryd.prog 79 [.v (.sl (some 6) f xs), fd] σ fun r σ' => r = .v (.bool (xs.any p)) ∧ σ' = σ := by
  refine acalls_fit Tryd.func79 (by kernel_rfl) c79 rfl (by simp [a79]) fun hf => ?_
  simp -implicitDefEqProofs (maxSteps := 2000000) (disch := omega) [-getElem?_pos, a79]
  refine (k_IndexFuncCo hp).then fun r hr => ?_
  subst hr
  simp -implicitDefEqProofs (maxSteps := 2000000) (disch := omega) [-getElem?_pos]
  refine .fin _ ⟨?_, rfl⟩ (.refl _)
  congr 2
  cases h : xs.findIdx? p with
  | none =>
    have h2 := List.findIdx?_eq_none_iff.1 h
    simp
    exact fun x hx => by simpa using h2 x hx
  | some i =>
    have h2 := List.findIdx?_eq_some_iff_getElem.1 h
    obtain ⟨hlt, hq, _⟩ := h2
    simp
    exact ⟨_, List.getElem_mem hlt, hq⟩

theorem k_Look1 {e : Co} {σ : Sg} : ACalls Tryd.prog 77 [.v (encC e)] σ fun r σ' => r = .v (.bool (!plainC e)) ∧ σ' = σ := by
  have hp := fun σ => k_Plain (e := e) (σ := σ)
  obtain ⟨k, n, s, t, ns, l⟩ := e
  rw [encC_mk] at hp ⊢
  refine acalls_fit Tryd.func77 (by kernel_rfl) c77 rfl (by simp [a77]) fun hf => ?_
  clear hf
  simp -implicitDefEqProofs (maxSteps := 2000000) (disch := omega) [-getElem?_pos, a77]
  refine (hp _).then fun r hr => ?_
  subst hr
  simp -implicitDefEqProofs (maxSteps := 2000000) (disch := omega) [-getElem?_pos]
  exact .fin _ ⟨rfl, rfl⟩ (.refl _)
def plainV : V → Bool
  | .agg (.int _ k :: _) => k == 1 || k == 2 || k == 4 || k == 3
  | _ => false
theorem plainV_enc (e : Co) : plainV (encC e) = plainC e := by
  obtain ⟨k, n, s, t, ns, l⟩ := e
  rw [encC_mk]
  rfl
theorem k_ContainsC {l : List Co} {f : Bool} {σ : Sg} : ACalls Tryd.prog 79 [.v (.sl (some 6) f (l.map encC)), .v (.fn 77)] σ fun r σ' => r = .v (.bool (!l.all plainC)) ∧ σ' = σ := by
  refine (k_ContainsFuncCo (p := fun y => !plainV y) fun y hy => ?_).then fun r hr => ?_
  · obtain ⟨e, _, rfl⟩ := List.mem_map.1 hy
    rw [WCall_fn, plainV_enc]
    exact k_Look1
  · subst hr
    refine ⟨?_, rfl⟩
    rw [List.any_map]
    congr 2
    rw [List.not_all_eq_any_not]
    congr 1
    funext e
    simp [plainV_enc]
theorem wholeK_ne {k0 k n : Int} {s t : Str} {ns : List Str} {l : List Co} {ks : List Int} (h : k ≠ k0) : wholeK k0 ks (.mk k n s t ns l) = false := by
  simp [wholeK_mk, h]
theorem le_app {s : Str} {a b : Co} {f : Bool} : D.Le (.v (.agg [.int .i64 6, .int .i64 0, .str s, .str [], .snil, .sl (some 6) f [encC a, encC b]])) (.v (encC (.mk 6 0 s [] [] [a, b]))) := by
  refine VLe.d ?_
  rw [encC_mk]
  exact .agg ⟨.refl _, .refl _, .refl _, .refl _, .snil, .lax, trivial⟩ (by simp)
theorem k_Look {F : Co → Co} {e : Co} {σ : Sg} (hF : ∀ e' σ, csz e' < csz e → ACalls Tryd.prog 26 [.v (encC e')] σ fun r σ' => r = .v (encC (F e')) ∧ σ' = σ) (hc : csz e ≤ 1048576) :
    ACalls Tryd.prog 45 [.v (encC e)] σ fun r σ' => r = .v (encC (lookC F e)) ∧ σ' = σ := by
  obtain ⟨k, n, s, t, ns, l⟩ := e
  have hlet : ∀ e' σ, csz e' ≤ csz (.mk k n s t ns l) → ACalls Tryd.prog 80 [.v (encC e')] σ fun r σ' => r = .v (encC (letC F e')) ∧ σ' = σ := fun e' σ h => k_Let (fun e'' σ h2 => hF e'' σ (by omega)) (by omega)
  have h16 := fun σ => k_FWhole (e := .mk k n s t ns l) (k0 := 16) (ks := [1, 1]) (f := true) (σ := σ)
  have h15 := fun σ => k_FWhole (e := .mk k n s t ns l) (k0 := 15) (ks := [1]) (f := true) (σ := σ)
  have h9 := fun σ => k_FWhole (e := .mk k n s t ns l) (k0 := 9) (ks := [8, 1]) (f := true) (σ := σ)
  have h5 := fun σ => k_FWhole (e := .mk k n s t ns l) (k0 := 5) (ks := [4]) (f := true) (σ := σ)
  simp only [List.map_cons, List.map_nil] at h16 h15 h9 h5
  rw [lookC_mk]
  by_cases k16 : k = 16
  · subst k16
    rw [wholeK_ne (by decide)] at h15 h9 h5
    rw [wholeK_ne (k0 := 15) (by decide), wholeK_ne (k0 := 9) (by decide), wholeK_ne (k0 := 5) (by decide)]
    simp only [Bool.false_eq_true, false_and, if_false, show ¬ (16 : Int) = 6 by decide]
    by_cases w : wholeK 16 [1, 1] (.mk 16 n s t ns l) = true
    · by_cases hl : l.length = 2
      · rw [if_pos ⟨w, hl⟩]
        rw [w] at h16
        obtain ⟨_, _, hks⟩ := whole_k' w
        have k0 := hks 0 1 rfl (by decide)
        have k1 := hks 1 1 rfl (by decide)
        match l, hl with
        | [a, b], _ =>
        obtain ⟨k2, n2, s2, t2, ns2, l2⟩ := a
        obtain ⟨k3, n3, s3, t3, ns3, l3⟩ := b
        replace k0 : k2 = 1 := k0
        replace k1 : k3 = 1 := k1
        subst k0
        subst k1
        have hop := fun σ => k_FOp (s := s) (a := n2) (b := n3) (σ := σ)
        have e0 : nOf (prt [Co.mk 1 n2 s2 t2 ns2 l2, Co.mk 1 n3 s3 t3 ns3 l3] 0) = n2 := rfl
        have e1 : nOf (prt [Co.mk 1 n2 s2 t2 ns2 l2, Co.mk 1 n3 s3 t3 ns3 l3] 1) = n3 := rfl
        rw [e0, e1]
        simp only [encC_mk, List.map_cons, List.map_nil] at h16 h15 h9 h5
        cases ho : opC s n2 n3 with
        | none =>
          rw [ho] at hop
          simp only [opD, Option.getD, Option.isSome] at hop
          simp only [encC_mk, List.map_cons, List.map_nil]
          refine acalls_fit Tryd.func45 (by kernel_rfl) c45 rfl (by simp [a45]) fun hf => ?_
          clear hf
          simp -implicitDefEqProofs (maxSteps := 2000000) (disch := omega) [-getElem?_pos, a45]
          refine (h16 _).then fun r hr => ?_
          subst hr
          simp -implicitDefEqProofs (maxSteps := 2000000) (disch := omega) [-getElem?_pos] 

          refine (hop _).then fun r hr => ?_
          subst hr
          simp -implicitDefEqProofs (maxSteps := 2000000) (disch := omega) [-getElem?_pos]
          exact .fin _ ⟨rfl, rfl⟩ (.refl _)
        | some c =>
          rw [ho] at hop
          simp only [opD, Option.getD, Option.isSome] at hop
          have hnu := fun σ => k_Number (n := c) (σ := σ)
          simp only [num, encC_mk, List.map_cons, List.map_nil] at hnu ⊢
          refine acalls_fit Tryd.func45 (by kernel_rfl) c45 rfl (by simp [a45]) fun hf => ?_
          clear hf
          simp -implicitDefEqProofs (maxSteps := 2000000) (disch := omega) [-getElem?_pos, a45]
          refine (h16 _).then fun r hr => ?_
          subst hr
          simp -implicitDefEqProofs (maxSteps := 2000000) (disch := omega) [-getElem?_pos] 

          refine (hop _).then fun r hr => ?_
          subst hr
          simp -implicitDefEqProofs (maxSteps := 2000000) (disch := omega) [-getElem?_pos]
          refine (hnu _).then fun r hr => ?_
          subst hr
          simp -implicitDefEqProofs (maxSteps := 2000000) (disch := omega) [-getElem?_pos]
          exact .fin _ ⟨rfl, rfl⟩ (.refl _)
      · have hli : ¬ (l.length : Int) = 2 := by omega
        rw [if_neg (fun h => hl h.2)]
        rw [w] at h16
        simp only [encC_mk] at h16 h15 h9 h5 ⊢
        refine acalls_fit Tryd.func45 (by kernel_rfl) c45 rfl (by simp [a45]) fun hf => ?_
        clear hf
        simp -implicitDefEqProofs (maxSteps := 2000000) (disch := omega) [-getElem?_pos, a45]
        refine (h16 _).then fun r hr => ?_
        subst hr
        simp -implicitDefEqProofs (maxSteps := 2000000) (disch := omega) [-getElem?_pos, hli]

        refine (h15 _).then fun r hr => ?_
        subst hr
        simp -implicitDefEqProofs (maxSteps := 2000000) (disch := omega) [-getElem?_pos]

        refine (h9 _).then fun r hr => ?_
        subst hr
        simp -implicitDefEqProofs (maxSteps := 2000000) (disch := omega) [-getElem?_pos]

        refine (h5 _).then fun r hr => ?_
        subst hr
        simp -implicitDefEqProofs (maxSteps := 2000000) (disch := omega) [-getElem?_pos]

        exact .fin _ ⟨rfl, rfl⟩ (.refl _)
    · rw [if_neg (fun h => w h.1)]
      rw [Bool.not_eq_true] at w
      rw [w] at h16
      simp only [encC_mk] at h16 h15 h9 h5 ⊢
      refine acalls_fit Tryd.func45 (by kernel_rfl) c45 rfl (by simp [a45]) fun hf => ?_
      clear hf
      simp -implicitDefEqProofs (maxSteps := 2000000) (disch := omega) [-getElem?_pos, a45]
      refine (h16 _).then fun r hr => ?_
      subst hr
      simp -implicitDefEqProofs (maxSteps := 2000000) (disch := omega) [-getElem?_pos] 

      refine (h15 _).then fun r hr => ?_
      subst hr
      simp -implicitDefEqProofs (maxSteps := 2000000) (disch := omega) [-getElem?_pos]

      refine (h9 _).then fun r hr => ?_
      subst hr
      simp -implicitDefEqProofs (maxSteps := 2000000) (disch := omega) [-getElem?_pos]

      refine (h5 _).then fun r hr => ?_
      subst hr
      simp -implicitDefEqProofs (maxSteps := 2000000) (disch := omega) [-getElem?_pos]

      exact .fin _ ⟨rfl, rfl⟩ (.refl _)
  by_cases k15 : k = 15
  · subst k15
    rw [wholeK_ne (by decide)] at h16 h9 h5
    rw [wholeK_ne (k0 := 16) (by decide), wholeK_ne (k0 := 9) (by decide), wholeK_ne (k0 := 5) (by decide)]
    simp only [Bool.false_eq_true, false_and, if_false, show ¬ (15 : Int) = 6 by decide]
    by_cases w : wholeK 15 [1] (.mk 15 n s t ns l) = true
    · by_cases hl : l.length = 3
      · rw [if_pos ⟨w, hl⟩]
        rw [w] at h15
        obtain ⟨_, _, hks⟩ := whole_k' w
        have k0 := hks 0 1 rfl (by decide)
        match l, hl with
        | [a, b, c], _ =>
        obtain ⟨k2, n2, s2, t2, ns2, l2⟩ := a
        obtain ⟨k3, n3, s3, t3, ns3, l3⟩ := b
        obtain ⟨k4, n4, s4, t4, ns4, l4⟩ := c
        replace k0 : k2 = 1 := k0
        subst k0
        rw [show nOf (prt [Co.mk 1 n2 s2 t2 ns2 l2, Co.mk k3 n3 s3 t3 ns3 l3, Co.mk k4 n4 s4 t4 ns4 l4] 0) = n2 from rfl, show prt [Co.mk 1 n2 s2 t2 ns2 l2, Co.mk k3 n3 s3 t3 ns3 l3, Co.mk k4 n4 s4 t4 ns4 l4] 1 = Co.mk k3 n3 s3 t3 ns3 l3 from rfl,
          show prt [Co.mk 1 n2 s2 t2 ns2 l2, Co.mk k3 n3 s3 t3 ns3 l3, Co.mk k4 n4 s4 t4 ns4 l4] 2 = Co.mk k4 n4 s4 t4 ns4 l4 from rfl]
        by_cases hz : n2 = 0
        · rw [if_neg (by simpa using hz)]
          subst hz
          simp only [encC_mk, List.map_cons, List.map_nil] at h16 h15 h9 h5 ⊢
          refine acalls_fit Tryd.func45 (by kernel_rfl) c45 rfl (by simp [a45]) fun hf => ?_
          clear hf
          simp -implicitDefEqProofs (maxSteps := 2000000) (disch := omega) [-getElem?_pos, a45]
          refine (h16 _).then fun r hr => ?_
          subst hr
          simp -implicitDefEqProofs (maxSteps := 2000000) (disch := omega) [-getElem?_pos] 

          refine (h15 _).then fun r hr => ?_
          subst hr
          simp -implicitDefEqProofs (maxSteps := 2000000) (disch := omega) [-getElem?_pos]

          exact .fin _ ⟨rfl, rfl⟩ (.refl _)
        · rw [if_pos hz]
          simp only [encC_mk, List.map_cons, List.map_nil] at h16 h15 h9 h5 ⊢
          refine acalls_fit Tryd.func45 (by kernel_rfl) c45 rfl (by simp [a45]) fun hf => ?_
          clear hf
          simp -implicitDefEqProofs (maxSteps := 2000000) (disch := omega) [-getElem?_pos, a45]
          refine (h16 _).then fun r hr => ?_
          subst hr
          simp -implicitDefEqProofs (maxSteps := 2000000) (disch := omega) [-getElem?_pos] 

          refine (h15 _).then fun r hr => ?_
          subst hr
          simp -implicitDefEqProofs (maxSteps := 2000000) (disch := omega) [-getElem?_pos, hz]
          exact .fin _ ⟨rfl, rfl⟩ (.refl _)
      · have hli : ¬ (l.length : Int) = 3 := by omega
        rw [if_neg (fun h => hl h.2)]
        rw [w] at h15
        simp only [encC_mk] at h16 h15 h9 h5 ⊢
        refine acalls_fit Tryd.func45 (by kernel_rfl) c45 rfl (by simp [a45]) fun hf => ?_
        clear hf
        simp -implicitDefEqProofs (maxSteps := 2000000) (disch := omega) [-getElem?_pos, a45]
        refine (h16 _).then fun r hr => ?_
        subst hr
        simp -implicitDefEqProofs (maxSteps := 2000000) (disch := omega) [-getElem?_pos] 

        refine (h15 _).then fun r hr => ?_
        subst hr
        simp -implicitDefEqProofs (maxSteps := 2000000) (disch := omega) [-getElem?_pos, hli]
        refine (h9 _).then fun r hr => ?_
        subst hr
        simp -implicitDefEqProofs (maxSteps := 2000000) (disch := omega) [-getElem?_pos]

        refine (h5 _).then fun r hr => ?_
        subst hr
        simp -implicitDefEqProofs (maxSteps := 2000000) (disch := omega) [-getElem?_pos]

        exact .fin _ ⟨rfl, rfl⟩ (.refl _)
    · rw [if_neg (fun h => w h.1)]
      rw [Bool.not_eq_true] at w
      rw [w] at h15
      simp only [encC_mk] at h16 h15 h9 h5 ⊢
      refine acalls_fit Tryd.func45 (by kernel_rfl) c45 rfl (by simp [a45]) fun hf => ?_
      clear hf
      simp -implicitDefEqProofs (maxSteps := 2000000) (disch := omega) [-getElem?_pos, a45]
      refine (h16 _).then fun r hr => ?_
      subst hr
      simp -implicitDefEqProofs (maxSteps := 2000000) (disch := omega) [-getElem?_pos] 

      refine (h15 _).then fun r hr => ?_
      subst hr
      simp -implicitDefEqProofs (maxSteps := 2000000) (disch := omega) [-getElem?_pos]

      refine (h9 _).then fun r hr => ?_
      subst hr
      simp -implicitDefEqProofs (maxSteps := 2000000) (disch := omega) [-getElem?_pos]

      refine (h5 _).then fun r hr => ?_
      subst hr
      simp -implicitDefEqProofs (maxSteps := 2000000) (disch := omega) [-getElem?_pos]

      exact .fin _ ⟨rfl, rfl⟩ (.refl _)
  by_cases k6 : k = 6
  · subst k6
    rw [wholeK_ne (by decide)] at h16 h15 h9 h5
    rw [wholeK_ne (k0 := 16) (by decide), wholeK_ne (k0 := 15) (by decide), wholeK_ne (k0 := 9) (by decide)]
    simp only [Bool.false_eq_true, false_and, if_false, if_true]
    have hle := fun σ => hlet (.mk 6 n s t ns l) σ (Nat.le_refl _)
    generalize letC F (.mk 6 n s t ns l) = q at hle ⊢
    obtain ⟨k2, n2, s2, t2, ns2, l2⟩ := q
    simp only [encC_mk] at h16 h15 h9 h5 hle ⊢
    refine acalls_fit Tryd.func45 (by kernel_rfl) c45 rfl (by simp [a45]) fun hf => ?_
    clear hf
    simp -implicitDefEqProofs (maxSteps := 2000000) (disch := omega) [-getElem?_pos, a45]
    refine (h16 _).then fun r hr => ?_
    subst hr
    simp -implicitDefEqProofs (maxSteps := 2000000) (disch := omega) [-getElem?_pos] 

    refine (h15 _).then fun r hr => ?_
    subst hr
    simp -implicitDefEqProofs (maxSteps := 2000000) (disch := omega) [-getElem?_pos]

    refine (h9 _).then fun r hr => ?_
    subst hr
    simp -implicitDefEqProofs (maxSteps := 2000000) (disch := omega) [-getElem?_pos]

    refine (hle _).then fun r hr => ?_
    subst hr
    simp -implicitDefEqProofs (maxSteps := 2000000) (disch := omega) [-getElem?_pos]
    exact .fin _ ⟨rfl, rfl⟩ (.refl _)
  by_cases k9 : k = 9
  · subst k9
    rw [wholeK_ne (by decide)] at h16 h15 h5
    rw [wholeK_ne (k0 := 16) (by decide), wholeK_ne (k0 := 15) (by decide), wholeK_ne (k0 := 5) (by decide)]
    simp only [Bool.false_eq_true, false_and, if_false, show ¬ (9 : Int) = 6 by decide]
    by_cases w : wholeK 9 [8, 1] (.mk 9 n s t ns l) = true
    · by_cases hl : l.length = 2
      · rw [if_pos ⟨w, hl⟩]
        rw [w] at h9
        obtain ⟨_, _, hks⟩ := whole_k' w
        have k0 := hks 0 8 rfl (by decide)
        have k1 := hks 1 1 rfl (by decide)
        match l, hl with
        | [a, b], _ =>
        obtain ⟨k2, n2, s2, t2, ns2, l2⟩ := a
        obtain ⟨k3, n3, s3, t3, ns3, l3⟩ := b
        replace k0 : k2 = 8 := k0
        replace k1 : k3 = 1 := k1
        subst k0
        subst k1
        have hcf := fun f σ => k_ContainsC (l := l2) (f := f) (σ := σ)
        rw [show nOf (prt [Co.mk 8 n2 s2 t2 ns2 l2, Co.mk 1 n3 s3 t3 ns3 l3] 1) = n3 from rfl, show lOf (prt [Co.mk 8 n2 s2 t2 ns2 l2, Co.mk 1 n3 s3 t3 ns3 l3] 0) = l2 from rfl]
        by_cases g1 : 0 ≤ n3
        · by_cases g2 : n3 < l2.length
          · by_cases g3 : l2.all plainC = true
            · rw [if_pos ⟨g1, g2, g3⟩]
              rw [g3] at hcf
              obtain ⟨j, rfl⟩ : ∃ j : Nat, n3 = j := ⟨n3.toNat, by omega⟩
              have hx := prt_get (l := l2) (i := j) (by omega)
              rw [Int.toNat_natCast]
              generalize prt l2 j = q at hx ⊢
              obtain ⟨k4, n4, s4, t4, ns4, l4⟩ := q
              simp only [encC_mk, List.map_cons, List.map_nil] at h16 h15 h9 h5 ⊢
              refine acalls_fit Tryd.func45 (by kernel_rfl) c45 rfl (by simp [a45]) fun hf => ?_
              clear hf
              simp -implicitDefEqProofs (maxSteps := 2000000) (disch := omega) [-getElem?_pos, a45]
              refine (h16 _).then fun r hr => ?_
              subst hr
              simp -implicitDefEqProofs (maxSteps := 2000000) (disch := omega) [-getElem?_pos] 

              refine (h15 _).then fun r hr => ?_
              subst hr
              simp -implicitDefEqProofs (maxSteps := 2000000) (disch := omega) [-getElem?_pos]

              have hj : j < l2.length := by omega
              refine (h9 _).then fun r hr => ?_
              subst hr
              simp -implicitDefEqProofs (maxSteps := 2000000) (disch := omega) [-getElem?_pos, hj]
              refine (hcf _ _).then fun r hr => ?_
              subst hr
              simp -implicitDefEqProofs (maxSteps := 2000000) (disch := omega) [-getElem?_pos]
              refine ⟨by omega, fun y hy => ?_⟩
              rw [hx] at hy
              cases hy
              rw [encC_mk]
              simp -implicitDefEqProofs (maxSteps := 2000000) (disch := omega) [-getElem?_pos]
              exact .fin _ ⟨rfl, rfl⟩ (.refl _)
            · rw [if_neg (fun h => g3 h.2.2)]
              rw [Bool.not_eq_true] at g3
              rw [g3] at hcf
              simp only [encC_mk, List.map_cons, List.map_nil] at h16 h15 h9 h5 ⊢
              refine acalls_fit Tryd.func45 (by kernel_rfl) c45 rfl (by simp [a45]) fun hf => ?_
              clear hf
              simp -implicitDefEqProofs (maxSteps := 2000000) (disch := omega) [-getElem?_pos, a45]
              refine (h16 _).then fun r hr => ?_
              subst hr
              simp -implicitDefEqProofs (maxSteps := 2000000) (disch := omega) [-getElem?_pos] 

              refine (h15 _).then fun r hr => ?_
              subst hr
              simp -implicitDefEqProofs (maxSteps := 2000000) (disch := omega) [-getElem?_pos]

              refine (h9 _).then fun r hr => ?_
              subst hr
              simp -implicitDefEqProofs (maxSteps := 2000000) (disch := omega) [-getElem?_pos, g1, g2]
              refine (hcf _ _).then fun r hr => ?_
              subst hr
              simp -implicitDefEqProofs (maxSteps := 2000000) (disch := omega) [-getElem?_pos]
              exact .fin _ ⟨rfl, rfl⟩ (.refl _)
          · rw [if_neg (fun h => g2 h.2.1)]
            simp only [encC_mk, List.map_cons, List.map_nil] at h16 h15 h9 h5 ⊢
            refine acalls_fit Tryd.func45 (by kernel_rfl) c45 rfl (by simp [a45]) fun hf => ?_
            clear hf
            simp -implicitDefEqProofs (maxSteps := 2000000) (disch := omega) [-getElem?_pos, a45]
            refine (h16 _).then fun r hr => ?_
            subst hr
            simp -implicitDefEqProofs (maxSteps := 2000000) (disch := omega) [-getElem?_pos] 

            refine (h15 _).then fun r hr => ?_
            subst hr
            simp -implicitDefEqProofs (maxSteps := 2000000) (disch := omega) [-getElem?_pos]

            refine (h9 _).then fun r hr => ?_
            subst hr
            simp -implicitDefEqProofs (maxSteps := 2000000) (disch := omega) [-getElem?_pos, g1, g2]
            exact .fin _ ⟨rfl, rfl⟩ (.refl _)
        · rw [if_neg (fun h => g1 h.1)]
          simp only [encC_mk, List.map_cons, List.map_nil] at h16 h15 h9 h5 ⊢
          refine acalls_fit Tryd.func45 (by kernel_rfl) c45 rfl (by simp [a45]) fun hf => ?_
          clear hf
          simp -implicitDefEqProofs (maxSteps := 2000000) (disch := omega) [-getElem?_pos, a45]
          refine (h16 _).then fun r hr => ?_
          subst hr
          simp -implicitDefEqProofs (maxSteps := 2000000) (disch := omega) [-getElem?_pos] 

          refine (h15 _).then fun r hr => ?_
          subst hr
          simp -implicitDefEqProofs (maxSteps := 2000000) (disch := omega) [-getElem?_pos]

          refine (h9 _).then fun r hr => ?_
          subst hr
          simp -implicitDefEqProofs (maxSteps := 2000000) (disch := omega) [-getElem?_pos, g1]
          exact .fin _ ⟨rfl, rfl⟩ (.refl _)
      · have hli : ¬ (l.length : Int) = 2 := by omega
        rw [if_neg (fun h => hl h.2)]
        rw [w] at h9
        simp only [encC_mk] at h16 h15 h9 h5 ⊢
        refine acalls_fit Tryd.func45 (by kernel_rfl) c45 rfl (by simp [a45]) fun hf => ?_
        clear hf
        simp -implicitDefEqProofs (maxSteps := 2000000) (disch := omega) [-getElem?_pos, a45]
        refine (h16 _).then fun r hr => ?_
        subst hr
        simp -implicitDefEqProofs (maxSteps := 2000000) (disch := omega) [-getElem?_pos] 

        refine (h15 _).then fun r hr => ?_
        subst hr
        simp -implicitDefEqProofs (maxSteps := 2000000) (disch := omega) [-getElem?_pos]

        refine (h9 _).then fun r hr => ?_
        subst hr
        simp -implicitDefEqProofs (maxSteps := 2000000) (disch := omega) [-getElem?_pos, hli]
        refine (h5 _).then fun r hr => ?_
        subst hr
        simp -implicitDefEqProofs (maxSteps := 2000000) (disch := omega) [-getElem?_pos]

        exact .fin _ ⟨rfl, rfl⟩ (.refl _)
    · rw [if_neg (fun h => w h.1)]
      rw [Bool.not_eq_true] at w
      rw [w] at h9
      simp only [encC_mk] at h16 h15 h9 h5 ⊢
      refine acalls_fit Tryd.func45 (by kernel_rfl) c45 rfl (by simp [a45]) fun hf => ?_
      clear hf
      simp -implicitDefEqProofs (maxSteps := 2000000) (disch := omega) [-getElem?_pos, a45]
      refine (h16 _).then fun r hr => ?_
      subst hr
      simp -implicitDefEqProofs (maxSteps := 2000000) (disch := omega) [-getElem?_pos] 

      refine (h15 _).then fun r hr => ?_
      subst hr
      simp -implicitDefEqProofs (maxSteps := 2000000) (disch := omega) [-getElem?_pos]

      refine (h9 _).then fun r hr => ?_
      subst hr
      simp -implicitDefEqProofs (maxSteps := 2000000) (disch := omega) [-getElem?_pos]

      refine (h5 _).then fun r hr => ?_
      subst hr
      simp -implicitDefEqProofs (maxSteps := 2000000) (disch := omega) [-getElem?_pos]

      exact .fin _ ⟨rfl, rfl⟩ (.refl _)
  rw [wholeK_ne k16] at h16
  rw [wholeK_ne k15] at h15
  rw [wholeK_ne k9] at h9
  rw [wholeK_ne (k0 := 16) k16, wholeK_ne (k0 := 15) k15, wholeK_ne (k0 := 9) k9, if_neg k6]
  simp only [Bool.false_eq_true, false_and, if_false]
  by_cases w : wholeK 5 [4] (.mk k n s t ns l) = true
  · have k5 := (whole_k' w).1
    subst k5
    rw [w] at h5
    by_cases hl : l.length = 2
    · obtain ⟨_, _, hks⟩ := whole_k' w
      have k0 := hks 0 4 rfl (by decide)
      match l, hl with
      | [p, a], _ =>
      obtain ⟨k2, n2, s2, t2, ns2, l2⟩ := p
      obtain ⟨k3, n3, s3, t3, ns3, l3⟩ := a
      replace k0 : k2 = 4 := k0
      subst k0
      rw [show lOf (prt [Co.mk 4 n2 s2 t2 ns2 l2, Co.mk k3 n3 s3 t3 ns3 l3] 0) = l2 from rfl, show knd (prt [Co.mk 4 n2 s2 t2 ns2 l2, Co.mk k3 n3 s3 t3 ns3 l3] 1) = k3 from rfl, show sOf (prt [Co.mk 4 n2 s2 t2 ns2 l2, Co.mk k3 n3 s3 t3 ns3 l3] 0) = s2 from rfl,
        show prt [Co.mk 4 n2 s2 t2 ns2 l2, Co.mk k3 n3 s3 t3 ns3 l3] 1 = Co.mk k3 n3 s3 t3 ns3 l3 from rfl]
      by_cases g1 : l2.length = 1
      · match l2, g1 with
        | [b], _ =>
        rw [show prt [b] 0 = b from rfl]
        by_cases g2 : k3 = 1 ∨ k3 = 2
        · rw [if_pos ⟨w, rfl, rfl, g2⟩]
          have hle := fun f σ => (hlet (.mk 6 0 s2 [] [] [.mk k3 n3 s3 t3 ns3 l3, b]) σ (by simp only [csz, cszL, nsz, List.length_nil]; omega)).arg1 (le_app (f := f))
          generalize letC F (.mk 6 0 s2 [] [] [.mk k3 n3 s3 t3 ns3 l3, b]) = q at hle ⊢
          obtain ⟨k4, n4, s4, t4, ns4, l4⟩ := q
          obtain ⟨k5, n5, s5, t5, ns5, l5⟩ := b
          simp only [encC_mk, List.map_cons, List.map_nil] at h16 h15 h9 h5 hle ⊢
          rcases g2 with g2 | g2
          · subst g2
            refine acalls_fit Tryd.func45 (by kernel_rfl) c45 rfl (by simp [a45]) fun hf => ?_
            clear hf
            simp -implicitDefEqProofs (maxSteps := 2000000) (disch := omega) [-getElem?_pos, a45]
            refine (h16 _).then fun r hr => ?_
            subst hr
            simp -implicitDefEqProofs (maxSteps := 2000000) (disch := omega) [-getElem?_pos] 

            refine (h15 _).then fun r hr => ?_
            subst hr
            simp -implicitDefEqProofs (maxSteps := 2000000) (disch := omega) [-getElem?_pos]

            refine (h9 _).then fun r hr => ?_
            subst hr
            simp -implicitDefEqProofs (maxSteps := 2000000) (disch := omega) [-getElem?_pos]

            refine (h5 _).then fun r hr => ?_
            subst hr
            simp -implicitDefEqProofs (maxSteps := 2000000) (disch := omega) [-getElem?_pos]

            refine (hle _ _).then fun r hr => ?_
            subst hr
            simp -implicitDefEqProofs (maxSteps := 2000000) (disch := omega) [-getElem?_pos]
            exact .fin _ ⟨rfl, rfl⟩ (.refl _)
          · subst g2
            refine acalls_fit Tryd.func45 (by kernel_rfl) c45 rfl (by simp [a45]) fun hf => ?_
            clear hf
            simp -implicitDefEqProofs (maxSteps := 2000000) (disch := omega) [-getElem?_pos, a45]
            refine (h16 _).then fun r hr => ?_
            subst hr
            simp -implicitDefEqProofs (maxSteps := 2000000) (disch := omega) [-getElem?_pos] 

            refine (h15 _).then fun r hr => ?_
            subst hr
            simp -implicitDefEqProofs (maxSteps := 2000000) (disch := omega) [-getElem?_pos]

            refine (h9 _).then fun r hr => ?_
            subst hr
            simp -implicitDefEqProofs (maxSteps := 2000000) (disch := omega) [-getElem?_pos]

            refine (h5 _).then fun r hr => ?_
            subst hr
            simp -implicitDefEqProofs (maxSteps := 2000000) (disch := omega) [-getElem?_pos]

            refine (hle _ _).then fun r hr => ?_
            subst hr
            simp -implicitDefEqProofs (maxSteps := 2000000) (disch := omega) [-getElem?_pos]
            exact .fin _ ⟨rfl, rfl⟩ (.refl _)
        · rw [if_neg (fun h => g2 h.2.2.2)]
          obtain ⟨k5, n5, s5, t5, ns5, l5⟩ := b
          have g3 : ¬ k3 = 1 := fun h => g2 (.inl h)
          have g4 : ¬ k3 = 2 := fun h => g2 (.inr h)
          simp only [encC_mk, List.map_cons, List.map_nil] at h16 h15 h9 h5 ⊢
          refine acalls_fit Tryd.func45 (by kernel_rfl) c45 rfl (by simp [a45]) fun hf => ?_
          clear hf
          simp -implicitDefEqProofs (maxSteps := 2000000) (disch := omega) [-getElem?_pos, a45]
          refine (h16 _).then fun r hr => ?_
          subst hr
          simp -implicitDefEqProofs (maxSteps := 2000000) (disch := omega) [-getElem?_pos] 

          refine (h15 _).then fun r hr => ?_
          subst hr
          simp -implicitDefEqProofs (maxSteps := 2000000) (disch := omega) [-getElem?_pos]

          refine (h9 _).then fun r hr => ?_
          subst hr
          simp -implicitDefEqProofs (maxSteps := 2000000) (disch := omega) [-getElem?_pos]

          refine (h5 _).then fun r hr => ?_
          subst hr
          simp -implicitDefEqProofs (maxSteps := 2000000) (disch := omega) [-getElem?_pos, g3, g4]
          exact .fin _ ⟨rfl, rfl⟩ (.refl _)
      · have hli : ¬ (l2.length : Int) = 1 := by omega
        rw [if_neg (fun h => g1 h.2.2.1)]
        simp only [encC_mk, List.map_cons, List.map_nil] at h16 h15 h9 h5 ⊢
        refine acalls_fit Tryd.func45 (by kernel_rfl) c45 rfl (by simp [a45]) fun hf => ?_
        clear hf
        simp -implicitDefEqProofs (maxSteps := 2000000) (disch := omega) [-getElem?_pos, a45]
        refine (h16 _).then fun r hr => ?_
        subst hr
        simp -implicitDefEqProofs (maxSteps := 2000000) (disch := omega) [-getElem?_pos] 

        refine (h15 _).then fun r hr => ?_
        subst hr
        simp -implicitDefEqProofs (maxSteps := 2000000) (disch := omega) [-getElem?_pos]

        refine (h9 _).then fun r hr => ?_
        subst hr
        simp -implicitDefEqProofs (maxSteps := 2000000) (disch := omega) [-getElem?_pos]

        refine (h5 _).then fun r hr => ?_
        subst hr
        simp -implicitDefEqProofs (maxSteps := 2000000) (disch := omega) [-getElem?_pos, hli]
        exact .fin _ ⟨rfl, rfl⟩ (.refl _)
    · have hli : ¬ (l.length : Int) = 2 := by omega
      rw [if_neg (fun h => hl h.2.1)]
      simp only [encC_mk] at h16 h15 h9 h5 ⊢
      refine acalls_fit Tryd.func45 (by kernel_rfl) c45 rfl (by simp [a45]) fun hf => ?_
      clear hf
      simp -implicitDefEqProofs (maxSteps := 2000000) (disch := omega) [-getElem?_pos, a45]
      refine (h16 _).then fun r hr => ?_
      subst hr
      simp -implicitDefEqProofs (maxSteps := 2000000) (disch := omega) [-getElem?_pos] 

      refine (h15 _).then fun r hr => ?_
      subst hr
      simp -implicitDefEqProofs (maxSteps := 2000000) (disch := omega) [-getElem?_pos]

      refine (h9 _).then fun r hr => ?_
      subst hr
      simp -implicitDefEqProofs (maxSteps := 2000000) (disch := omega) [-getElem?_pos]

      refine (h5 _).then fun r hr => ?_
      subst hr
      simp -implicitDefEqProofs (maxSteps := 2000000) (disch := omega) [-getElem?_pos, hli]
      exact .fin _ ⟨rfl, rfl⟩ (.refl _)
  · rw [if_neg (fun h => w h.1)]
    rw [Bool.not_eq_true] at w
    rw [w] at h5
    simp only [encC_mk] at h16 h15 h9 h5 ⊢
    refine acalls_fit Tryd.func45 (by kernel_rfl) c45 rfl (by simp [a45]) fun hf => ?_
    clear hf
    simp -implicitDefEqProofs (maxSteps := 2000000) (disch := omega) [-getElem?_pos, a45]
    refine (h16 _).then fun r hr => ?_
    subst hr
    simp -implicitDefEqProofs (maxSteps := 2000000) (disch := omega) [-getElem?_pos] 

    refine (h15 _).then fun r hr => ?_
    subst hr
    simp -implicitDefEqProofs (maxSteps := 2000000) (disch := omega) [-getElem?_pos]

    refine (h9 _).then fun r hr => ?_
    subst hr
    simp -implicitDefEqProofs (maxSteps := 2000000) (disch := omega) [-getElem?_pos, k6]
    refine (h5 _).then fun r hr => ?_
    subst hr
    simp -implicitDefEqProofs (maxSteps := 2000000) (disch := omega) [-getElem?_pos]

    exact .fin _ ⟨rfl, rfl⟩ (.refl _)
end Go.Proofs.YtbifjffjibnjjaaDoor

/-
  Folding, walked. (Own work.)
-/
set_option linter.unusedVariables false
set_option linter.unusedSimpArgs false
set_option maxHeartbeats 1000000
namespace Go.Proofs.YtbifjffjibnjjaaDoor
open Go Go.Abs

theorem k_Fold : ∀ (g : Nat) (e : Co) (σ : Sg), csz e ≤ g → csz e ≤ 1048576 → ACalls Tryd.prog 26 [.v (encC e)] σ fun r σ' => r = .v (encC (foldC g e)) ∧ σ' = σ
  | 0, e, σ, h, _ => by have := csz_pos e; omega
  | g + 1, .mk k n s t ns l, σ, hg, he => by
    rw [nsz_ok] at he hg
    have hnl := nsz_len ns
    have hll := cszL_len l
    have ih := fun (x : Co) (hx : x ∈ l) (σ : Sg) => k_Fold g x σ (by have := cszL_mem hx; omega) (by have := cszL_mem hx; omega)
    have hsub : Sub (.mk k n s t ns (l.map (foldC g))) (.mk k n s t ns l) := .cong (by simp) fun i x y hx hy => by
      rw [List.getElem?_map, hx] at hy
      cases hy
      exact sub_fold g x
    have hlook := fun σ => k_Look (F := foldC g) (e := .mk k n s t ns (l.map (foldC g))) (σ := σ) (fun e' σ h => k_Fold g e' σ (by have := hsub.c; rw [nsz_ok (l := l)] at this; omega) (by have := hsub.c; rw [nsz_ok (l := l)] at this; omega)) (by have := hsub.c; rw [nsz_ok (l := l)] at this; omega)
    have hclo := fun σ => k_CloneS (l := ns) (σ := σ) (by omega)
    rw [foldC]
    rw [encC_mk]
    refine acalls_fit Tryd.func26 (by kernel_rfl) c26 rfl (by simp [a26]) fun hf => ?_
    clear hf
    simp -implicitDefEqProofs (maxSteps := 2000000) (disch := omega) [-getElem?_pos, a26]
    refine (hclo _).then fun r hr => ?_
    subst hr
    simp -implicitDefEqProofs (maxSteps := 2000000) (disch := omega) [-getElem?_pos]
    obtain ⟨zO, hzO⟩ : ∃ zO, zO = Ob.cells [D.v (V.int .i64 0), D.v (V.int .i64 0), D.v (V.str []), D.v (V.str []), D.v V.snil, D.v V.snil] := ⟨_, rfl⟩
    obtain ⟨W, hW⟩ : ∃ W, W = (l.map (foldC g)).map encC := ⟨_, rfl⟩
    have hWl : W.length = l.length := by rw [hW, List.length_map, List.length_map]
    have hWi : ∀ (i : Nat) y, l[i]? = some y → W.take (i + 1) = W.take i ++ [encC (foldC g y)] := fun i y hy => by
      rw [hW, List.take_add_one, List.getElem?_map, List.getElem?_map, hy]
      rfl
    refine W_loop (α := Nat) 0 (fun i => l.length - i) (fun i => ⟨[(1, .ptr σ.objs.length 0), (2, .ptr (σ.objs.length + 1) 0), (3, .ptr (σ.objs.length + 2) 0), (13, .v (.sl (some 6) false (l.map encC))), (14, .v (.int .i64 l.length)), (15, .v (.int .i64 i))],
        ⟨σ.objs ++ [obC (.mk k n s t ns l), zO, .cells [.v (.int .i64 k), .v (.int .i64 n), .v (.str s), .v (.str t), .v (.sl none false (ns.map .str)), .tsl σ.toks.length (some 6) (W.take i)]], σ.toks ++ [i]⟩⟩)
      (fun i => i ≤ l.length) (.tokE (σ.objs.length + 2) 5 (some 6) [.v (.int .i64 k), .v (.int .i64 n), .v (.str s), .v (.str t), .v (.sl none false (ns.map .str)), .v .snil] (by simp) rfl (by simp [obC_mk, hzO]) (by simp)) (by omega) fun i hi => ?_
    rw [obC_mk, hzO]
    have htl : (W.take i).length = i := by rw [List.length_take, hWl]; omega
    simp -implicitDefEqProofs (maxSteps := 2000000) (disch := omega) [-getElem?_pos]
    refine .mk (fun h => ?_) fun h => ?_
    · simp -implicitDefEqProofs (maxSteps := 2000000) (disch := omega) [-getElem?_pos]
      refine ⟨by omega, fun y hy => ?_⟩
      have hyl := List.mem_of_getElem? hy
      have hput := hWi i y hy
      have hrec := fun σ => ih y hyl σ
      generalize hb : foldC g y = b at hrec hput
      obtain ⟨k2, n2, s2, t2, ns2, l2⟩ := y
      obtain ⟨k3, n3, s3, t3, ns3, l3⟩ := b
      rw [encC_mk] at hrec hput ⊢
      rw [encC_mk] at hrec
      simp -implicitDefEqProofs (maxSteps := 2000000) (disch := omega) [-getElem?_pos]
      refine (hrec _).then fun r hr => ?_
      subst hr
      simp -implicitDefEqProofs (maxSteps := 2000000) (disch := omega) [-getElem?_pos]
      exact ⟨by omega, i + 1, by omega, by dsimp only; omega, .dropX (ys := [_, _, _]) (xs := [.cells [.v (.int .i64 k2), .v (.int .i64 n2), .v (.str s2), .v (.str t2), .v (.sl none false (ns2.map .str)), .v (.sl (some 6) false (l2.map encC))]]) (by simp [hput]) rfl (by simp) (by simp) (by simp) (by simp)⟩
    · rw [List.take_of_length_le (by omega)]
      have hag : ∀ o, D.Le (.agg [.v (.int .i64 k), .v (.int .i64 n), .v (.str s), .v (.str t), .v (.sl none false (ns.map .str)), .tsl o (some 6) W]) (.v (encC (.mk k n s t ns (l.map (foldC g))))) := fun o => by rw [hW]; exact agg_le
      generalize lookC (foldC g) (.mk k n s t ns (l.map (foldC g))) = q at hlook ⊢
      obtain ⟨k2, n2, s2, t2, ns2, l2⟩ := q
      rw [encC_mk (l := l2)] at hlook ⊢
      simp -implicitDefEqProofs (maxSteps := 2000000) (disch := omega) [-getElem?_pos]
      refine ((hlook _).arg1 (hag _)).then fun r hr => ?_
      subst hr
      simp -implicitDefEqProofs (maxSteps := 2000000) (disch := omega) [-getElem?_pos]
      exact .fin _ ⟨rfl, rfl⟩ (.refl _)
end Go.Proofs.YtbifjffjibnjjaaDoor

/-
  Folding, walked: the document's functions that the law asks. (Own work.)
-/
set_option linter.unusedVariables false
set_option linter.unusedSimpArgs false
set_option maxHeartbeats 1000000
namespace Go.Proofs.YtbifjffjibnjjaaDoor
open Go Go.Abs

theorem k_RParts {k n : Int} {s t : Str} {ns : List Str} {l : List Co} {σ : Sg} (hn : ns.length ≤ 4000001) : ACalls Tryd.prog 46 [.v (encC (.mk k n s t ns l))] σ fun r σ' => r = .v (.int .i64 (partsC k l.length ns.length (decide (t ≠ [])))) ∧ σ' = σ := by
  rw [encC_mk]
  refine acalls_fit Tryd.func46 (by kernel_rfl) c46 rfl (by simp [a46]) fun hf => ?_
  clear hf
  simp -implicitDefEqProofs (maxSteps := 2000000) (disch := omega) [-getElem?_pos, a46]
  refine .mk (fun h => ?_) fun h => ?_
  · subst h
    simp -implicitDefEqProofs (maxSteps := 2000000) (disch := omega) [-getElem?_pos]
    exact .fin _ ⟨by simp [partsC], rfl⟩ (.refl _)
  simp -implicitDefEqProofs (maxSteps := 2000000) (disch := omega) [-getElem?_pos]
  refine .mk (fun h => ?_) fun h => ?_
  · subst h
    simp -implicitDefEqProofs (maxSteps := 2000000) (disch := omega) [-getElem?_pos]
    exact .fin _ ⟨by simp [partsC], rfl⟩ (.refl _)
  simp -implicitDefEqProofs (maxSteps := 2000000) (disch := omega) [-getElem?_pos]
  refine .mk (fun h => ?_) fun h => ?_
  · subst h
    simp -implicitDefEqProofs (maxSteps := 2000000) (disch := omega) [-getElem?_pos]
    exact .fin _ ⟨by simp [partsC], rfl⟩ (.refl _)
  simp -implicitDefEqProofs (maxSteps := 2000000) (disch := omega) [-getElem?_pos]
  refine .mk (fun h => ?_) fun h => ?_
  · subst h
    simp -implicitDefEqProofs (maxSteps := 2000000) (disch := omega) [-getElem?_pos]
    exact .fin _ ⟨by simp [partsC], rfl⟩ (.refl _)
  simp -implicitDefEqProofs (maxSteps := 2000000) (disch := omega) [-getElem?_pos]
  refine .mk (fun h => ?_) fun h => ?_
  · subst h
    simp -implicitDefEqProofs (maxSteps := 2000000) (disch := omega) [-getElem?_pos]
    exact .fin _ ⟨by simp [partsC], rfl⟩ (.refl _)
  simp -implicitDefEqProofs (maxSteps := 2000000) (disch := omega) [-getElem?_pos]
  refine .mk (fun h => ?_) fun h => ?_
  · subst h
    simp -implicitDefEqProofs (maxSteps := 2000000) (disch := omega) [-getElem?_pos]
    exact .fin _ ⟨by simp [partsC], rfl⟩ (.refl _)
  simp -implicitDefEqProofs (maxSteps := 2000000) (disch := omega) [-getElem?_pos]
  refine .mk (fun h => ?_) fun h => ?_
  · subst h
    simp -implicitDefEqProofs (maxSteps := 2000000) (disch := omega) [-getElem?_pos]
    exact .fin _ ⟨by simp [partsC], rfl⟩ (.refl _)
  simp -implicitDefEqProofs (maxSteps := 2000000) (disch := omega) [-getElem?_pos]
  refine .mk (fun h => ?_) fun h => ?_
  · subst h
    simp -implicitDefEqProofs (maxSteps := 2000000) (disch := omega) [-getElem?_pos]
    exact .fin _ ⟨by simp [partsC], rfl⟩ (.refl _)
  simp -implicitDefEqProofs (maxSteps := 2000000) (disch := omega) [-getElem?_pos]
  refine .mk (fun h => ?_) fun h => ?_
  · subst h
    simp -implicitDefEqProofs (maxSteps := 2000000) (disch := omega) [-getElem?_pos]
    exact .fin _ ⟨by simp [partsC], rfl⟩ (.refl _)
  simp -implicitDefEqProofs (maxSteps := 2000000) (disch := omega) [-getElem?_pos]
  refine .mk (fun h => ?_) fun h => ?_
  · subst h
    simp -implicitDefEqProofs (maxSteps := 2000000) (disch := omega) [-getElem?_pos]
    exact .fin _ ⟨by simp [partsC], rfl⟩ (.refl _)
  simp -implicitDefEqProofs (maxSteps := 2000000) (disch := omega) [-getElem?_pos]
  refine .mk (fun h => ?_) fun h => ?_
  · subst h
    simp -implicitDefEqProofs (maxSteps := 2000000) (disch := omega) [-getElem?_pos]
    exact .fin _ ⟨by simp [partsC], rfl⟩ (.refl _)
  simp -implicitDefEqProofs (maxSteps := 2000000) (disch := omega) [-getElem?_pos]
  refine .mk (fun h => ?_) fun h => ?_
  · subst h
    simp -implicitDefEqProofs (maxSteps := 2000000) (disch := omega) [-getElem?_pos]
    exact .fin _ ⟨by simp [partsC], rfl⟩ (.refl _)
  simp -implicitDefEqProofs (maxSteps := 2000000) (disch := omega) [-getElem?_pos]
  refine .mk (fun h => ?_) fun h => ?_
  · subst h
    simp -implicitDefEqProofs (maxSteps := 2000000) (disch := omega) [-getElem?_pos]
    exact .fin _ ⟨by simp [partsC], rfl⟩ (.refl _)
  simp -implicitDefEqProofs (maxSteps := 2000000) (disch := omega) [-getElem?_pos]
  refine .mk (fun h => ?_) fun h => ?_
  · subst h
    simp -implicitDefEqProofs (maxSteps := 2000000) (disch := omega) [-getElem?_pos]
    exact .fin _ ⟨by simp [partsC], rfl⟩ (.refl _)
  simp -implicitDefEqProofs (maxSteps := 2000000) (disch := omega) [-getElem?_pos]
  refine .mk (fun h => ?_) fun h => ?_
  · subst h
    simp -implicitDefEqProofs (maxSteps := 2000000) (disch := omega) [-getElem?_pos]
    exact .fin _ ⟨by simp [partsC], rfl⟩ (.refl _)
  simp -implicitDefEqProofs (maxSteps := 2000000) (disch := omega) [-getElem?_pos]
  refine .mk (fun h => ?_) fun h => ?_
  · subst h
    simp -implicitDefEqProofs (maxSteps := 2000000) (disch := omega) [-getElem?_pos]
    exact .fin _ ⟨by simp [partsC], rfl⟩ (.refl _)
  simp -implicitDefEqProofs (maxSteps := 2000000) (disch := omega) [-getElem?_pos]
  refine .mk (fun h => ?_) fun h => ?_
  · subst h
    simp -implicitDefEqProofs (maxSteps := 2000000) (disch := omega) [-getElem?_pos]
    exact .fin _ ⟨by simp [partsC], rfl⟩ (.refl _)
  simp -implicitDefEqProofs (maxSteps := 2000000) (disch := omega) [-getElem?_pos]
  refine .mk (fun h => ?_) fun h => ?_
  · subst h
    simp -implicitDefEqProofs (maxSteps := 2000000) (disch := omega) [-getElem?_pos]
    exact .fin _ ⟨by simp [partsC], rfl⟩ (.refl _)
  simp -implicitDefEqProofs (maxSteps := 2000000) (disch := omega) [-getElem?_pos]
  refine .mk (fun h => ?_) fun h => ?_
  · subst h
    simp -implicitDefEqProofs (maxSteps := 2000000) (disch := omega) [-getElem?_pos]
    exact .fin _ ⟨by simp [partsC], rfl⟩ (.refl _)
  simp -implicitDefEqProofs (maxSteps := 2000000) (disch := omega) [-getElem?_pos]
  refine .mk (fun h => ?_) fun h => ?_
  · subst h
    simp -implicitDefEqProofs (maxSteps := 2000000) (disch := omega) [-getElem?_pos]
    exact .fin _ ⟨by simp [partsC], rfl⟩ (.refl _)
  simp -implicitDefEqProofs (maxSteps := 2000000) (disch := omega) [-getElem?_pos]
  refine .mk (fun h => ?_) fun h => ?_
  · subst h
    simp -implicitDefEqProofs (maxSteps := 2000000) (disch := omega) [-getElem?_pos]
    exact .fin _ ⟨by simp [partsC], rfl⟩ (.refl _)
  simp -implicitDefEqProofs (maxSteps := 2000000) (disch := omega) [-getElem?_pos]
  refine .mk (fun h => ?_) fun h => ?_
  · subst h
    simp -implicitDefEqProofs (maxSteps := 2000000) (disch := omega) [-getElem?_pos]
    refine .mk (fun h2 => ?_) fun h2 => ?_
    · subst h2
      simp -implicitDefEqProofs (maxSteps := 2000000) (disch := omega) [-getElem?_pos]
      exact .fin _ ⟨by simp [partsC], rfl⟩ (.refl _)
    · simp -implicitDefEqProofs (maxSteps := 2000000) (disch := omega) [-getElem?_pos]
      exact .fin _ ⟨by simp [partsC, h2], rfl⟩ (.refl _)
  simp -implicitDefEqProofs (maxSteps := 2000000) (disch := omega) [-getElem?_pos]
  refine .fin _ ⟨?_, rfl⟩ (.refl _)
  unfold partsC
  repeat rw [if_neg (by omega)]
def ArithR (r : D) : Prop := ∃ x y : Int, ∃ b : Bool, r = .tup [.v (.int .i64 x), .v (.int .i64 y), .v (.bool b)]
theorem k_Arith {s : Str} {σ : Sg} : ACalls Tryd.prog 47 [.v (.str s), .v (.int .i64 1), .v (.int .i64 1)] σ fun r σ' => ArithR r ∧ σ' = σ := by
  refine acalls_fit Tryd.func47 (by kernel_rfl) c47 rfl (by simp [a47]) fun hf => ?_
  clear hf
  simp -implicitDefEqProofs (maxSteps := 2000000) (disch := omega) [-getElem?_pos, a47]
  repeat' (first
    | (refine And.intro (by omega) ?_)
    | (refine Br.mk (fun hb => ?_) (fun hb => ?_) <;> simp -implicitDefEqProofs (maxSteps := 2000000) (disch := omega) [-getElem?_pos, hb]))
  all_goals exact .fin _ ⟨⟨_, _, _, rfl⟩, rfl⟩ (.refl _)
def WholeR (e : Co) (r : D) : Prop := ∃ b : Bool, r = .v (.bool b) ∧ (b = true → whC e)
theorem k_Whole (e : Co) : ∀ {σ : Sg}, csz e ≤ 1048576 → ACalls Tryd.prog 28 [.v (encC e)] σ fun r σ' => WholeR e r ∧ σ' = σ := by
  refine Co.ind (P := fun e => ∀ {σ : Sg}, csz e ≤ 1048576 → ACalls Tryd.prog 28 [.v (encC e)] σ fun r σ' => WholeR e r ∧ σ' = σ) (fun k n s t ns l ih => ?_) e
  intro σ he
  have hnl := nsz_len ns
  have hll := cszL_len l
  have he' := he
  simp only [csz] at he'
  have hp := fun σ => k_RParts (k := k) (n := n) (s := s) (t := t) (ns := ns) (l := l) (σ := σ) (by omega)
  rw [encC_mk] at hp ⊢
  refine acalls_fit Tryd.func28 (by kernel_rfl) c28 rfl (by simp [a28]) fun hf => ?_
  clear hf
  simp -implicitDefEqProofs (maxSteps := 2000000) (disch := omega) [-getElem?_pos, a28]
  refine (hp _).then fun r hr => ?_
  subst hr
  generalize hpc : partsC k l.length ns.length (decide (t ≠ [])) = p
  by_cases hpl : p = l.length
  rotate_left
  · simp -implicitDefEqProofs (maxSteps := 2000000) (disch := omega) [-getElem?_pos, hpl]
    exact .fin _ ⟨⟨false, rfl, by simp⟩, rfl⟩ (.refl _)
  have hW : (∀ x ∈ l, whC x) → whC (.mk k n s t ns l) := fun h => whC_mk.2 ⟨by rw [hpc, hpl], h⟩
  clear hpc
  subst hpl
  by_cases h7 : k = 7
  · subst h7
    by_cases hs : s = []
    · subst hs
      simp -implicitDefEqProofs (maxSteps := 2000000) (disch := omega) [-getElem?_pos]
      exact .fin _ ⟨⟨false, rfl, by simp⟩, rfl⟩ (.refl _)
    simp -implicitDefEqProofs (maxSteps := 2000000) (disch := omega) [-getElem?_pos, hs]
    refine W_loop (α := Nat) 0 (fun i => l.length - i) (fun i => ⟨[(1, .ptr σ.objs.length 0), (6, .v (.int .i64 i))], ⟨σ.objs ++ [.cells [.v (.int .i64 7), .v (.int .i64 n), .v (.str s), .v (.str t), .v (.sl none false (ns.map .str)), .v (.sl (some 6) false (l.map encC))]], σ.toks⟩⟩)
      (fun i => i ≤ l.length ∧ ∀ x ∈ l.take i, whC x) (.eq (by simp)) ⟨by simp, by simp⟩ fun i ⟨hi, hm⟩ => ?_
    simp -implicitDefEqProofs (maxSteps := 2000000) (disch := omega) [-getElem?_pos]
    refine .mk (fun h => ?_) fun h => ?_
    · simp -implicitDefEqProofs (maxSteps := 2000000) (disch := omega) [-getElem?_pos]
      refine ⟨by omega, ?_⟩
      intro x hx
      have hmx := List.mem_of_getElem? hx
      have hcx := cszL_mem hmx
      refine (ih x hmx (by omega)).then fun r hr => ?_
      obtain ⟨b, rfl, hwx⟩ := hr
      cases b with
      | false =>
        simp -implicitDefEqProofs (maxSteps := 2000000) (disch := omega) [-getElem?_pos]
        exact .fin _ ⟨⟨false, rfl, by simp⟩, rfl⟩ (.refl _)
      | true =>
        simp -implicitDefEqProofs (maxSteps := 2000000) (disch := omega) [-getElem?_pos]
        refine ⟨i + 1, ⟨by omega, fun y hy => ?_⟩, by show l.length - (i + 1) < l.length - i; omega, .eq (by simp)⟩
        rw [List.take_add_one, hx] at hy
        simp only [Option.toList, List.mem_append, List.mem_singleton] at hy
        rcases hy with hy | rfl
        · exact hm y hy
        · exact hwx rfl
    · simp -implicitDefEqProofs (maxSteps := 2000000) (disch := omega) [-getElem?_pos]
      rw [List.take_of_length_le (by omega)] at hm
      exact .fin _ ⟨⟨true, rfl, fun _ => hW hm⟩, rfl⟩ (.refl _)

  by_cases h2 : k = 2
  · subst h2
    simp -implicitDefEqProofs (maxSteps := 2000000) (disch := omega) [-getElem?_pos]
    refine .mk (fun hs => ?_) fun hs => ?_
    · simp -implicitDefEqProofs (maxSteps := 2000000) (disch := omega) [-getElem?_pos]
      exact .fin _ ⟨⟨false, rfl, by simp⟩, rfl⟩ (.refl _)
    simp -implicitDefEqProofs (maxSteps := 2000000) (disch := omega) [-getElem?_pos]
    refine W_loop (α := Nat) 0 (fun i => l.length - i) (fun i => ⟨[(1, .ptr σ.objs.length 0), (6, .v (.int .i64 i))], ⟨σ.objs ++ [.cells [.v (.int .i64 2), .v (.int .i64 n), .v (.str s), .v (.str t), .v (.sl none false (ns.map .str)), .v (.sl (some 6) false (l.map encC))]], σ.toks⟩⟩)
      (fun i => i ≤ l.length ∧ ∀ x ∈ l.take i, whC x) (.eq (by simp)) ⟨by simp, by simp⟩ fun i ⟨hi, hm⟩ => ?_
    simp -implicitDefEqProofs (maxSteps := 2000000) (disch := omega) [-getElem?_pos]
    refine .mk (fun h => ?_) fun h => ?_
    · simp -implicitDefEqProofs (maxSteps := 2000000) (disch := omega) [-getElem?_pos]
      refine ⟨by omega, ?_⟩
      intro x hx
      have hmx := List.mem_of_getElem? hx
      have hcx := cszL_mem hmx
      refine (ih x hmx (by omega)).then fun r hr => ?_
      obtain ⟨b, rfl, hwx⟩ := hr
      cases b with
      | false =>
        simp -implicitDefEqProofs (maxSteps := 2000000) (disch := omega) [-getElem?_pos]
        exact .fin _ ⟨⟨false, rfl, by simp⟩, rfl⟩ (.refl _)
      | true =>
        simp -implicitDefEqProofs (maxSteps := 2000000) (disch := omega) [-getElem?_pos]
        refine ⟨i + 1, ⟨by omega, fun y hy => ?_⟩, by show l.length - (i + 1) < l.length - i; omega, .eq (by simp)⟩
        rw [List.take_add_one, hx] at hy
        simp only [Option.toList, List.mem_append, List.mem_singleton] at hy
        rcases hy with hy | rfl
        · exact hm y hy
        · exact hwx rfl
    · simp -implicitDefEqProofs (maxSteps := 2000000) (disch := omega) [-getElem?_pos]
      rw [List.take_of_length_le (by omega)] at hm
      exact .fin _ ⟨⟨true, rfl, fun _ => hW hm⟩, rfl⟩ (.refl _)

  by_cases h16 : k = 16
  · subst h16
    by_cases hs : s = [94]
    · subst hs
      simp -implicitDefEqProofs (maxSteps := 2000000) (disch := omega) [-getElem?_pos]
      refine W_loop (α := Nat) 0 (fun i => l.length - i) (fun i => ⟨[(1, .ptr σ.objs.length 0), (6, .v (.int .i64 i))], ⟨σ.objs ++ [.cells [.v (.int .i64 16), .v (.int .i64 n), .v (.str [94]), .v (.str t), .v (.sl none false (ns.map .str)), .v (.sl (some 6) false (l.map encC))]], σ.toks⟩⟩)
        (fun i => i ≤ l.length ∧ ∀ x ∈ l.take i, whC x) (.eq (by simp)) ⟨by simp, by simp⟩ fun i ⟨hi, hm⟩ => ?_
      simp -implicitDefEqProofs (maxSteps := 2000000) (disch := omega) [-getElem?_pos]
      refine .mk (fun h => ?_) fun h => ?_
      · simp -implicitDefEqProofs (maxSteps := 2000000) (disch := omega) [-getElem?_pos]
        refine ⟨by omega, ?_⟩
        intro x hx
        have hmx := List.mem_of_getElem? hx
        have hcx := cszL_mem hmx
        refine (ih x hmx (by omega)).then fun r hr => ?_
        obtain ⟨b, rfl, hwx⟩ := hr
        cases b with
        | false =>
          simp -implicitDefEqProofs (maxSteps := 2000000) (disch := omega) [-getElem?_pos]
          exact .fin _ ⟨⟨false, rfl, by simp⟩, rfl⟩ (.refl _)
        | true =>
          simp -implicitDefEqProofs (maxSteps := 2000000) (disch := omega) [-getElem?_pos]
          refine ⟨i + 1, ⟨by omega, fun y hy => ?_⟩, by show l.length - (i + 1) < l.length - i; omega, .eq (by simp)⟩
          rw [List.take_add_one, hx] at hy
          simp only [Option.toList, List.mem_append, List.mem_singleton] at hy
          rcases hy with hy | rfl
          · exact hm y hy
          · exact hwx rfl
      · simp -implicitDefEqProofs (maxSteps := 2000000) (disch := omega) [-getElem?_pos]
        rw [List.take_of_length_le (by omega)] at hm
        exact .fin _ ⟨⟨true, rfl, fun _ => hW hm⟩, rfl⟩ (.refl _)

    by_cases hs2 : s = [35]
    · subst hs2
      simp -implicitDefEqProofs (maxSteps := 2000000) (disch := omega) [-getElem?_pos]
      refine W_loop (α := Nat) 0 (fun i => l.length - i) (fun i => ⟨[(1, .ptr σ.objs.length 0), (6, .v (.int .i64 i))], ⟨σ.objs ++ [.cells [.v (.int .i64 16), .v (.int .i64 n), .v (.str [35]), .v (.str t), .v (.sl none false (ns.map .str)), .v (.sl (some 6) false (l.map encC))]], σ.toks⟩⟩)
        (fun i => i ≤ l.length ∧ ∀ x ∈ l.take i, whC x) (.eq (by simp)) ⟨by simp, by simp⟩ fun i ⟨hi, hm⟩ => ?_
      simp -implicitDefEqProofs (maxSteps := 2000000) (disch := omega) [-getElem?_pos]
      refine .mk (fun h => ?_) fun h => ?_
      · simp -implicitDefEqProofs (maxSteps := 2000000) (disch := omega) [-getElem?_pos]
        refine ⟨by omega, ?_⟩
        intro x hx
        have hmx := List.mem_of_getElem? hx
        have hcx := cszL_mem hmx
        refine (ih x hmx (by omega)).then fun r hr => ?_
        obtain ⟨b, rfl, hwx⟩ := hr
        cases b with
        | false =>
          simp -implicitDefEqProofs (maxSteps := 2000000) (disch := omega) [-getElem?_pos]
          exact .fin _ ⟨⟨false, rfl, by simp⟩, rfl⟩ (.refl _)
        | true =>
          simp -implicitDefEqProofs (maxSteps := 2000000) (disch := omega) [-getElem?_pos]
          refine ⟨i + 1, ⟨by omega, fun y hy => ?_⟩, by show l.length - (i + 1) < l.length - i; omega, .eq (by simp)⟩
          rw [List.take_add_one, hx] at hy
          simp only [Option.toList, List.mem_append, List.mem_singleton] at hy
          rcases hy with hy | rfl
          · exact hm y hy
          · exact hwx rfl
      · simp -implicitDefEqProofs (maxSteps := 2000000) (disch := omega) [-getElem?_pos]
        rw [List.take_of_length_le (by omega)] at hm
        exact .fin _ ⟨⟨true, rfl, fun _ => hW hm⟩, rfl⟩ (.refl _)

    simp -implicitDefEqProofs (maxSteps := 2000000) (disch := omega) [-getElem?_pos, hs, hs2]
    refine k_Arith.then fun r hr => ?_
    obtain ⟨x1, x2, b, rfl⟩ := hr
    cases b with
    | false =>
      simp -implicitDefEqProofs (maxSteps := 2000000) (disch := omega) [-getElem?_pos]
      exact .fin _ ⟨⟨false, rfl, by simp⟩, rfl⟩ (.refl _)
    | true =>
    simp -implicitDefEqProofs (maxSteps := 2000000) (disch := omega) [-getElem?_pos]
    refine W_loop (α := Nat) 0 (fun i => l.length - i) (fun i => ⟨[(1, .ptr σ.objs.length 0), (6, .v (.int .i64 i))], ⟨σ.objs ++ [.cells [.v (.int .i64 16), .v (.int .i64 n), .v (.str s), .v (.str t), .v (.sl none false (ns.map .str)), .v (.sl (some 6) false (l.map encC))]], σ.toks⟩⟩)
      (fun i => i ≤ l.length ∧ ∀ x ∈ l.take i, whC x) (.eq (by simp)) ⟨by simp, by simp⟩ fun i ⟨hi, hm⟩ => ?_
    simp -implicitDefEqProofs (maxSteps := 2000000) (disch := omega) [-getElem?_pos]
    refine .mk (fun h => ?_) fun h => ?_
    · simp -implicitDefEqProofs (maxSteps := 2000000) (disch := omega) [-getElem?_pos]
      refine ⟨by omega, ?_⟩
      intro x hx
      have hmx := List.mem_of_getElem? hx
      have hcx := cszL_mem hmx
      refine (ih x hmx (by omega)).then fun r hr => ?_
      obtain ⟨b, rfl, hwx⟩ := hr
      cases b with
      | false =>
        simp -implicitDefEqProofs (maxSteps := 2000000) (disch := omega) [-getElem?_pos]
        exact .fin _ ⟨⟨false, rfl, by simp⟩, rfl⟩ (.refl _)
      | true =>
        simp -implicitDefEqProofs (maxSteps := 2000000) (disch := omega) [-getElem?_pos]
        refine ⟨i + 1, ⟨by omega, fun y hy => ?_⟩, by show l.length - (i + 1) < l.length - i; omega, .eq (by simp)⟩
        rw [List.take_add_one, hx] at hy
        simp only [Option.toList, List.mem_append, List.mem_singleton] at hy
        rcases hy with hy | rfl
        · exact hm y hy
        · exact hwx rfl
    · simp -implicitDefEqProofs (maxSteps := 2000000) (disch := omega) [-getElem?_pos]
      rw [List.take_of_length_le (by omega)] at hm
      exact .fin _ ⟨⟨true, rfl, fun _ => hW hm⟩, rfl⟩ (.refl _)

  simp -implicitDefEqProofs (maxSteps := 2000000) (disch := omega) [-getElem?_pos, h7, h2, h16]
  refine W_loop (α := Nat) 0 (fun i => l.length - i) (fun i => ⟨[(1, .ptr σ.objs.length 0), (6, .v (.int .i64 i))], ⟨σ.objs ++ [.cells [.v (.int .i64 k), .v (.int .i64 n), .v (.str s), .v (.str t), .v (.sl none false (ns.map .str)), .v (.sl (some 6) false (l.map encC))]], σ.toks⟩⟩)
    (fun i => i ≤ l.length ∧ ∀ x ∈ l.take i, whC x) (.eq (by simp)) ⟨by simp, by simp⟩ fun i ⟨hi, hm⟩ => ?_
  simp -implicitDefEqProofs (maxSteps := 2000000) (disch := omega) [-getElem?_pos]
  refine .mk (fun h => ?_) fun h => ?_
  · simp -implicitDefEqProofs (maxSteps := 2000000) (disch := omega) [-getElem?_pos]
    refine ⟨by omega, ?_⟩
    intro x hx
    have hmx := List.mem_of_getElem? hx
    have hcx := cszL_mem hmx
    refine (ih x hmx (by omega)).then fun r hr => ?_
    obtain ⟨b, rfl, hwx⟩ := hr
    cases b with
    | false =>
      simp -implicitDefEqProofs (maxSteps := 2000000) (disch := omega) [-getElem?_pos]
      exact .fin _ ⟨⟨false, rfl, by simp⟩, rfl⟩ (.refl _)
    | true =>
      simp -implicitDefEqProofs (maxSteps := 2000000) (disch := omega) [-getElem?_pos]
      refine ⟨i + 1, ⟨by omega, fun y hy => ?_⟩, by show l.length - (i + 1) < l.length - i; omega, .eq (by simp)⟩
      rw [List.take_add_one, hx] at hy
      simp only [Option.toList, List.mem_append, List.mem_singleton] at hy
      rcases hy with hy | rfl
      · exact hm y hy
      · exact hwx rfl
  · simp -implicitDefEqProofs (maxSteps := 2000000) (disch := omega) [-getElem?_pos]
    rw [List.take_of_length_le (by omega)] at hm
    exact .fin _ ⟨⟨true, rfl, fun _ => hW hm⟩, rfl⟩ (.refl _)

theorem k_RNodes (e : Co) : ∀ {σ : Sg}, csz e ≤ 1048576 → ACalls Tryd.prog 22 [.v (encC e)] σ fun r σ' => r = .v (.int .i64 (nds e)) ∧ σ' = σ := by
  refine Co.ind (P := fun e => ∀ {σ : Sg}, csz e ≤ 1048576 → ACalls Tryd.prog 22 [.v (encC e)] σ fun r σ' => r = .v (.int .i64 (nds e)) ∧ σ' = σ) (fun k n s t ns l ih => ?_) e
  intro σ he
  have hn := nds_le (.mk k n s t ns l)
  simp only [csz, nds] at he hn ⊢
  rw [encC_mk]
  refine acalls_fit Tryd.func22 (by kernel_rfl) c22 rfl (by simp [a22]) fun hf => ?_
  clear hf
  simp -implicitDefEqProofs (maxSteps := 2000000) (disch := omega) [-getElem?_pos, a22]
  refine W_loop (α := Nat) 0 (fun i => l.length - i) (fun i => ⟨[(1, .ptr σ.objs.length 0), (3, .v (.int .i64 (1 + ndsL (l.take i) : Nat))), (4, .v (.int .i64 i))], ⟨σ.objs ++ [obC (.mk k n s t ns l)], σ.toks⟩⟩)
    (fun i => i ≤ l.length) (.eq2 (by simp [obC_mk]) (by simp [ndsL])) (by omega) fun i hi => ?_
  have hnt := ndsL_take l i
  rw [obC_mk]
  simp -implicitDefEqProofs (maxSteps := 2000000) (disch := omega) [-getElem?_pos]
  refine .mk (fun h => ?_) fun h => ?_
  · simp -implicitDefEqProofs (maxSteps := 2000000) (disch := omega) [-getElem?_pos]
    refine ⟨by omega, ?_⟩
    intro x hx
    have hx1 := cszL_mem (List.mem_of_getElem? hx)
    have hx2 := ndsL_get hx
    have hx3 := ndsL_take l (i + 1)
    have hcall := fun σ => ih x (List.mem_of_getElem? hx) (σ := σ) (by omega)
    have hll := cszL_len l
    refine (hcall _).then fun r hr => ?_
    subst hr
    simp -implicitDefEqProofs (maxSteps := 2000000) (disch := omega) [-getElem?_pos]
    refine ⟨i + 1, by omega, by dsimp only; omega, .eq2 (by simp [obC_mk]) (by simp [hx2]; omega)⟩
  · rw [List.take_of_length_le (by omega)]
    simp -implicitDefEqProofs (maxSteps := 2000000) (disch := omega) [-getElem?_pos]
    exact .fin _ ⟨by simp, rfl⟩ (.refl _)

end Go.Proofs.YtbifjffjibnjjaaDoor

/-
  Layer 16: what is folded ends the same: the law walked. (Own work.)
-/
set_option linter.unusedVariables false
set_option linter.unusedSimpArgs false
set_option maxHeartbeats 2000000
namespace Go.Proofs.YtbifjffjibnjjaaDoor
open Go Go.Abs

def coX : Co := .mk 3 0 [120] [] [] []
def coPX : Co := .mk 16 0 [43] [] [] [coX, num 3]
def coLX : Co := .mk 6 0 [120] [] [] [num 2, coPX]
@[reducible] def coXV : V := .agg [.int .i64 3, .int .i64 0, .str [120], .str [], .snil, .snil]
@[reducible] def coPV : V := .agg [.int .i64 16, .int .i64 0, .str [43], .str [], .snil, .sl (some 6) true [coXV, coInt 3]]
@[reducible] def coLV : V := .agg [.int .i64 6, .int .i64 0, .str [120], .str [], .snil, .sl (some 6) true [coInt 2, coPV]]
theorem le_coX : VLe coXV (encC coX) := by
  unfold coX
  rw [encC_mk]
  exact .agg ⟨.refl _, .refl _, .refl _, .refl _, .snil, .snil, trivial⟩ (by simp)
theorem le_list {a b : Co} {xs : List V} (h : VLes (V.flat xs) (V.flat [encC a, encC b])) (hl : xs.length = 2) : VLe (.sl (some 6) true xs) (.sl (some 6) false ([a, b].map encC)) :=
  .sl (by simpa using hl) (by intro y hy; obtain ⟨x, _, rfl⟩ := List.mem_map.1 hy; exact encC_shape x) (by cases a; cases b; simp [V.flat, encC_mk]) h
theorem le_coL : VLe coLV (encC coLX) := by
  unfold coLX
  rw [encC_mk]
  refine .agg ⟨.refl _, .refl _, .refl _, .refl _, .snil, le_list ?_ rfl, trivial⟩ (by simp)
  have hi : VLe (.sl (some 6) true [coXV, coInt 3]) (.sl (some 6) false ([coX, num 3].map encC)) := by
    refine le_list ?_ rfl
    simp only [V.flat, coX, num, encC_mk, List.map_cons, List.map_nil, List.flatMap_cons, List.flatMap_nil, V.cells, List.cons_append, List.nil_append]
    exact ⟨.refl _, .refl _, .refl _, .refl _, .snil, .snil, .refl _, .refl _, .refl _, .refl _, .snil, .snil, trivial⟩
  simp only [V.flat, coPX, num, encC_mk (l := []), encC_mk (l := [_, _]), List.map_nil, List.flatMap_cons, List.flatMap_nil, V.cells, List.cons_append, List.nil_append]
  exact ⟨.refl _, .refl _, .refl _, .refl _, .snil, .snil, .refl _, .refl _, .refl _, .refl _, .snil, hi, trivial⟩
theorem fold_L : foldC 100 coLX = num 5 := by kernel_rfl
theorem fold_X : foldC 100 coX = coX := by kernel_rfl
theorem k_Up16 {σ : Sg} : ACalls Tryd.prog 25 [] σ fun r σ' => r = .v (.bool true) ∧ σ' = σ := by
  have q1 := fun σ => (k_Fold 100 coLX σ (by simp [coLX, coPX, coX, num, csz, cszL, nsz]) (by simp [coLX, coPX, coX, num, csz, cszL, nsz])).arg1 le_coL.d
  have q2 := fun σ => (k_Fold 100 coX σ (by simp [coX, csz, cszL, nsz]) (by simp [coX, csz, cszL, nsz])).arg1 le_coX.d
  rw [fold_L] at q1
  rw [fold_X] at q2
  simp only [num, coX, encC_mk, List.map_nil] at q1 q2
  refine acalls_fit Tryd.func25 (by kernel_rfl) c25 rfl (by simp [a25]) fun hf => ?_
  clear hf
  simp -implicitDefEqProofs (maxSteps := 2000000) (disch := omega) [-getElem?_pos, a25]
  refine (q1 _).then fun r hr => ?_
  subst hr
  simp -implicitDefEqProofs (maxSteps := 2000000) (disch := omega) [-getElem?_pos]
  refine (q2 _).then fun r hr => ?_
  subst hr
  simp -implicitDefEqProofs (maxSteps := 2000000) (disch := omega) [-getElem?_pos]
  exact .fin _ ⟨rfl, rfl⟩ (.refl _)
theorem k_RunF {e : Co} {inp : List Str} {fuel : Nat} {σ : Sg} (hc : csz e ≤ 1048576) (hf0 : fuel ≤ 40000) : ACalls Tryd.prog 10 [.v (encC e), .v (vS inp), .v (.int .i64 fuel)] σ fun r σ' => (∃ φ, r = runD φ (runM e inp fuel)) ∧ σ' = σ :=
  ⟨(k_Run (e := coE) (inp := []) (fuel := 0) (σ := σ) coE_ok (by omega)).1, fun m w us hI hl hr => (k_Run (e := e) (inp := inp) (fuel := fuel) (σ := σ) ⟨hc, (fitsL_of hl hr).1⟩ hf0).2 m w us hI hl hr⟩
def LenV (x : V) (n : Nat) : Prop := x = .snil ∧ n = 0 ∨ ∃ xs, x = .sl (some 6) false xs ∧ xs.length = n
theorem valV_sh (φ : Nat → Nat) (o : Option Vl) : ∃ x x4 x5, valV φ o = .agg [.int .i64 (shV o).1, .int .i64 (shV o).2.1, .str (shV o).2.2.1, x, x4, x5] ∧ LenV x (shV o).2.2.2 := by
  cases o with
  | none => exact ⟨_, _, _, rfl, .inl ⟨rfl, rfl⟩⟩
  | some v =>
    cases v with
    | int n => exact ⟨_, _, _, by simp only [valV, encW, celW, shV]; rfl, .inl ⟨rfl, rfl⟩⟩
    | text n => exact ⟨_, _, _, by simp only [valV, encW, celW, shV]; rfl, .inl ⟨rfl, rfl⟩⟩
    | fn rc a b p en => exact ⟨_, _, _, by simp only [valV, encW, celW, shV]; rfl, .inl ⟨rfl, rfl⟩⟩
    | tup l => exact ⟨_, _, _, by simp only [valV, encW, celW, shV]; rfl, .inr ⟨_, rfl, by simp [encWs_eq, shV]⟩⟩
    | tag n w => exact ⟨_, _, _, by simp only [valV, encW, celW, shV]; rfl, .inr ⟨_, rfl, by simp [shV]⟩⟩
    | ref k => exact ⟨_, _, _, by simp only [valV, encW, celW, shV]; rfl, .inl ⟨rfl, rfl⟩⟩
theorem k_FoldEnds {e : Co} {inp : List Str} {fuel : Int} {σ : Sg} (hc : csz e ≤ 1048576) (hi : inp.length ≤ 4000000) : ACalls Tryd.prog 6 [.v (encC e), .v (vS inp), .v (.int .i64 fuel)] σ fun r σ' => r = .v (.bool true) := by
  have f1 := fun σ => k_Few (e := e) (σ := σ) hc
  have f2 := fun σ => k_RNodes e (σ := σ) hc
  have f3 := fun σ => k_Fold (csz e) e σ (Nat.le_refl _) hc
  have f4 := fun σ => k_Free e (σ := σ) hc
  have hsub := sub_fold (csz e) e
  have htp := fun hw hv => tp_fold (csz e) (e := e) hw hv inp
  have f5 := fun σ => k_Free (foldC (csz e) e) (σ := σ) (Nat.le_trans hsub.c hc)
  have f6 := fun σ => k_Whole e (σ := σ) hc
  have f7 := fun (n : Nat) (σ : Sg) hn => k_RunF (e := e) (inp := inp) (fuel := n) (σ := σ) hc hn
  have f8 := fun (n : Nat) (σ : Sg) hn => k_RunF (e := foldC (csz e) e) (inp := inp) (fuel := n) (σ := σ) (Nat.le_trans hsub.c hc) hn
  have f9 := fun σ => k_Nodes e (σ := σ) hc
  have f10 := fun σ => k_Nodes (foldC (csz e) e) (σ := σ) (Nat.le_trans hsub.c hc)
  generalize foldC (csz e) e = f at *
  obtain ⟨z0, z1, z2, z3, z4, z5, hco⟩ := list6 (show (coV e).length = 6 by cases e; rfl)
  have hec : encC e = .agg [z0, z1, z2, z3, z4, z5] := by rw [encC_coV, hco]
  obtain ⟨y0, y1, y2, y3, y4, y5, hcf⟩ := list6 (show (coV f).length = 6 by cases f; rfl)
  have hef : encC f = .agg [y0, y1, y2, y3, y4, y5] := by rw [encC_coV, hcf]
  rw [hec] at f1 f2 f3 f4 f6 f7 f9 ⊢
  rw [hef] at f3 f5 f8 f10
  refine acalls_fit Tryd.func6 (by kernel_rfl) c6 rfl (by simp [a6]) fun hf => ?_
  clear hf
  simp -implicitDefEqProofs (maxSteps := 2000000) (disch := omega) [-getElem?_pos, a6]
  refine k_Up16.then fun r hr => ?_
  subst hr
  simp -implicitDefEqProofs (maxSteps := 2000000) (disch := omega) [-getElem?_pos]
  refine (f1 _).then fun r hr => ?_
  obtain ⟨q1, rfl⟩ := hr
  cases q1 with
  | false =>
    simp -implicitDefEqProofs (maxSteps := 2000000) (disch := omega) [-getElem?_pos]
    exact .fin _ rfl (.refl _)
  | true =>
  simp -implicitDefEqProofs (maxSteps := 2000000) (disch := omega) [-getElem?_pos]
  refine (f2 _).then fun r hr => ?_
  subst hr
  simp -implicitDefEqProofs (maxSteps := 2000000) (disch := omega) [-getElem?_pos]
  refine .mk (fun g1 => ?_) fun g1 => ?_
  rotate_left
  · simp -implicitDefEqProofs (maxSteps := 2000000) (disch := omega) [-getElem?_pos]
    exact .fin _ rfl (.refl _)
  simp -implicitDefEqProofs (maxSteps := 2000000) (disch := omega) [-getElem?_pos]
  refine .mk (fun g2 => ?_) fun g2 => ?_
  rotate_left
  · simp -implicitDefEqProofs (maxSteps := 2000000) (disch := omega) [-getElem?_pos]
    exact .fin _ rfl (.refl _)
  simp -implicitDefEqProofs (maxSteps := 2000000) (disch := omega) [-getElem?_pos]
  refine .mk (fun g3 => ?_) fun g3 => ?_
  rotate_left
  · simp -implicitDefEqProofs (maxSteps := 2000000) (disch := omega) [-getElem?_pos]
    exact .fin _ rfl (.refl _)
  simp -implicitDefEqProofs (maxSteps := 2000000) (disch := omega) [-getElem?_pos]
  refine .mk (fun g4 => ?_) fun g4 => ?_
  · simp -implicitDefEqProofs (maxSteps := 2000000) (disch := omega) [-getElem?_pos]
    exact .fin _ rfl (.refl _)
  simp -implicitDefEqProofs (maxSteps := 2000000) (disch := omega) [-getElem?_pos]
  obtain ⟨F, rfl⟩ : ∃ F : Nat, fuel = F := ⟨fuel.toNat, by omega⟩
  refine (f3 _).then fun r hr => ?_
  subst hr
  simp -implicitDefEqProofs (maxSteps := 2000000) (disch := omega) [-getElem?_pos]
  refine (f4 _).then fun r hr => ?_
  subst hr
  simp -implicitDefEqProofs (maxSteps := 2000000) (disch := omega) [-getElem?_pos]
  refine (f5 _).then fun r hr => ?_
  subst hr
  simp -implicitDefEqProofs (maxSteps := 2000000) (disch := omega) [-getElem?_pos]
  have hAB : ∀ x, x ∈ ofS (fvs f) → x ∈ ofS (fvs e) := fun x hx => ((ofS_asc _).2 x).2 (hsub.v x (((ofS_asc _).2 x).1 hx))
  have hA0 : ofS (fvs e) = [] → fvs e = [] := fun h => List.eq_nil_iff_forall_not_mem.2 fun x hx => by
    have := ((ofS_asc (fvs e)).2 x).2 hx
    rw [h] at this
    cases this
  have hBl : (ofS (fvs f)).length ≤ 1048576 := by
    have h1 := ofS_len (fvs f)
    have h2 := fvs_len f
    have h3 := hsub.c
    omega
  generalize ofS (fvs f) = B at hAB hBl ⊢
  generalize ofS (fvs e) = A at hAB hA0 ⊢
  refine W_loop (α := Nat) 0 (fun i => B.length - i) (fun i => ⟨[(1, .v (vS inp)), (2, .v (.int .i64 F)), (3, .ptr σ.objs.length 0), (7, .v (.bool true)), (9, .ptr (σ.objs.length + 1) 0), (10, .v (vS A)), (11, .v (vS B)), (12, .v (.int .i64 i))],
      ⟨σ.objs ++ [.cells [.v z0, .v z1, .v z2, .v z3, .v z4, .v z5], .cells [.v y0, .v y1, .v y2, .v y3, .v y4, .v y5]], σ.toks⟩⟩)
    (fun i => i ≤ B.length) (.eq2 (by simp) (by simp)) (by omega) fun i hi => ?_
  simp -implicitDefEqProofs (maxSteps := 2000000) (disch := omega) [-getElem?_pos]
  refine .mk (fun h => ?_) fun h => ?_
  · simp -implicitDefEqProofs (maxSteps := 2000000) (disch := omega) [-getElem?_pos]
    refine ⟨by omega, fun x hx => ?_⟩
    refine k_RHas.then fun r hr => ?_
    rw [decide_eq_true (hAB x (List.mem_of_getElem? hx))] at hr
    subst hr
    simp -implicitDefEqProofs (maxSteps := 2000000) (disch := omega) [-getElem?_pos]
    exact ⟨i + 1, by omega, by dsimp only; omega, .eq2 (by simp) (by simp)⟩
  simp -implicitDefEqProofs (maxSteps := 2000000) (disch := omega) [-getElem?_pos]
  refine (f6 _).then fun r hr => ?_
  obtain ⟨b, rfl, hwh⟩ := hr
  cases b with
  | false =>
    simp -implicitDefEqProofs (maxSteps := 2000000) (disch := omega) [-getElem?_pos]
    exact .fin _ rfl (.refl _)
  | true =>
  simp -implicitDefEqProofs (maxSteps := 2000000) (disch := omega) [-getElem?_pos]
  refine .mk (fun g5 => ?_) fun g5 => ?_
  · simp -implicitDefEqProofs (maxSteps := 2000000) (disch := omega) [-getElem?_pos]
    exact .fin _ rfl (.refl _)
  have hA : A = [] := List.length_eq_zero_iff.1 (by omega)
  replace htp := htp (hwh rfl) (hA0 hA) F
  have r1 := fun σ => f7 F σ (by omega)
  have r2 := fun σ => f8 F σ (by omega)
  have hle := hsub.n
  have hsm := htp.same
  have hou := htp.out
  clear htp f7 f8 hwh
  generalize runM e inp F = rs1 at hsm hou r1
  generalize runM f inp F = rs2 at hsm hou r2
  obtain ⟨v1, m1⟩ := rs1
  obtain ⟨v2, m2⟩ := rs2
  dsimp only at hsm hou
  have ho1 : outV m1 = .agg [.int .i64 m1.err, .int .i64 m1.fault, .str [], .sl none false (m1.tr.map .str)] := rfl
  have ho2 : outV m2 = .agg [.int .i64 m2.err, .int .i64 m2.fault, .str [], .sl none false (m2.tr.map .str)] := rfl
  have kO := fun σ => k_Outs (m := m1) (m' := m2) (σ := σ)
  rw [ho1, ho2] at kO
  simp -implicitDefEqProofs (maxSteps := 2000000) (disch := omega) [-getElem?_pos]
  refine (r1 _).then fun r hr => ?_
  obtain ⟨φ1, rfl⟩ := hr
  obtain ⟨x1, a1, b1, hx1, hl1⟩ := valV_sh φ1 v1
  unfold runD
  dsimp only
  rw [hx1, ho1]
  simp -implicitDefEqProofs (maxSteps := 2000000) (disch := omega) [-getElem?_pos]
  refine (r2 _).then fun r hr => ?_
  obtain ⟨φ2, rfl⟩ := hr
  obtain ⟨x2, a2, b2, hx2, hl2⟩ := valV_sh φ2 v2
  unfold runD
  dsimp only
  rw [hx2, ho2]
  simp -implicitDefEqProofs (maxSteps := 2000000) (disch := omega) [-getElem?_pos]
  refine (f10 _).then fun r hr => ?_
  subst hr
  simp -implicitDefEqProofs (maxSteps := 2000000) (disch := omega) [-getElem?_pos]
  refine (f9 _).then fun r hr => ?_
  subst hr
  simp -implicitDefEqProofs (maxSteps := 2000000) (disch := omega) [-getElem?_pos]
  refine .mk (fun g6 => ?_) fun g6 => ?_
  · omega
  simp -implicitDefEqProofs (maxSteps := 2000000) (disch := omega) [-getElem?_pos]
  by_cases h8 : m1.err = 8
  · have hpre := begB_of (hou h8)
    simp -implicitDefEqProofs (maxSteps := 2000000) (disch := omega) [-getElem?_pos, h8]
    refine k_Begins.then fun r hr => ?_
    subst hr
    rw [hpre]
    simp -implicitDefEqProofs (maxSteps := 2000000) (disch := omega) [-getElem?_pos]
    exact .fin _ rfl (.refl _)
  obtain ⟨e1, e2, e3, e4⟩ := hsm h8
  have hpre : outsB m1 m2 = true := by simp [outsB, e1, e2, e3]
  rw [hpre] at kO
  rw [e4] at hl2 ⊢
  simp -implicitDefEqProofs (maxSteps := 2000000) (disch := omega) [-getElem?_pos, h8]
  refine (kO _).then fun r hr => ?_
  subst hr
  rcases hl1 with ⟨rfl, q1⟩ | ⟨xs1, rfl, q1⟩
  · rcases hl2 with ⟨rfl, q2⟩ | ⟨xs2, rfl, q2⟩
    · simp -implicitDefEqProofs (maxSteps := 2000000) (disch := omega) [-getElem?_pos]
      exact .fin _ rfl (.refl _)
    · rw [q1] at q2
      simp -implicitDefEqProofs (maxSteps := 2000000) (disch := omega) [-getElem?_pos, q2]
      exact .fin _ rfl (.refl _)
  · rcases hl2 with ⟨rfl, q2⟩ | ⟨xs2, rfl, q2⟩
    · rw [q2] at q1
      simp -implicitDefEqProofs (maxSteps := 2000000) (disch := omega) [-getElem?_pos, q1]
      exact .fin _ rfl (.refl _)
    · rw [← q1] at q2
      simp -implicitDefEqProofs (maxSteps := 2000000) (disch := omega) [-getElem?_pos, q2]
      exact .fin _ rfl (.refl _)
end Go.Proofs.YtbifjffjibnjjaaDoor

/-
  bushellaw16.FoldEnds: for every input the law returns true, and each argument reads behind the call as it read before. Condition: the arguments are of the bulk that the second form grants; the package variables that the row lists are laid as its card tells.
-/
set_option linter.unusedVariables false
set_option linter.unusedSimpArgs false
namespace Go.Proofs.YtbifjffjibnjjaaDoor
open Go Go.Abs

theorem sl_arg {P : Program} {t e : TypeId} {sh : Sh} {cs : List V} (hu : P.underlying t = some (.slice e)) (hs : tsh P t = some none) (he : tsh P e = some sh) (h : Ty P t cs) : ∃ x, cs = [x] ∧ Arg P t x := by
  obtain ⟨xs, rfl, _, _⟩ := h.sl_inv hu he
  exact ⟨_, rfl, h, hs⟩
theorem strs_of {x : V} (h : Arg Tryd.prog 22 x) : ∃ l : List (List UInt8), x = .sl none false (l.map .str) := by
  obtain ⟨xs, rfl, _, hx⟩ := h.sl (e := 9) (sh := none) (by kernel_rfl) (by kernel_rfl) (by kernel_rfl)
  obtain ⟨l, rfl⟩ := list_of_all (enc := V.str) fun y hy => by
    obtain ⟨n, rfl, _⟩ := (hx y hy).str (by kernel_rfl) (by kernel_rfl)
    exact ⟨n, rfl⟩
  exact ⟨l, rfl⟩
theorem bulk_mem {y : V} : ∀ {xs : List V}, y ∈ xs → y.bulk ≤ V.bulkL xs
  | x :: xs, h => by
    simp only [V.bulkL]
    rcases List.mem_cons.1 h with rfl | h
    · omega
    · have := bulk_mem h; omega
theorem core_of : ∀ (n : Nat) {x : V}, x.bulk ≤ n → Arg Tryd.prog 25 x → ∃ e : Co, x = encC e
  | 0, x, hn, h => by
    obtain ⟨parts, rfl, hp⟩ := h.struct (t := 25) (fs := Tryd.prog.fieldsOf 25) (n := 6) (ts := [3, 2, 9, 9, 22, 23]) (by kernel_rfl) (by kernel_rfl) (by kernel_rfl)
    match parts, hp with
    | [p, q, r, s, t, u], ⟨h1, h2, h3, h4, h5, h6, _⟩ =>
      obtain ⟨a, rfl, _⟩ := h1.int_inv (k := .i64) (by kernel_rfl)
      simp [V.bulk, V.bulkL] at hn
  | n + 1, x, hn, h => by
    obtain ⟨parts, rfl, hp⟩ := h.struct (t := 25) (fs := Tryd.prog.fieldsOf 25) (n := 6) (ts := [3, 2, 9, 9, 22, 23]) (by kernel_rfl) (by kernel_rfl) (by kernel_rfl)
    match parts, hp with
    | [p, q, r, s, t, u], ⟨h1, h2, h3, h4, h5, h6, _⟩ =>
      obtain ⟨a, rfl, _⟩ := h1.int_inv (k := .i64) (by kernel_rfl)
      obtain ⟨b, rfl, _⟩ := h2.int_inv (k := .i64) (by kernel_rfl)
      obtain ⟨c, rfl, _⟩ := h3.str_inv (by kernel_rfl)
      obtain ⟨d, rfl, _⟩ := h4.str_inv (by kernel_rfl)
      obtain ⟨y1, rfl, hy1⟩ := sl_arg (e := 9) (sh := none) (by kernel_rfl) (by kernel_rfl) (by kernel_rfl) h5
      obtain ⟨ns, rfl⟩ := strs_of hy1
      obtain ⟨y2, rfl, hy2⟩ := sl_arg (e := 25) (sh := some 6) (by kernel_rfl) (by kernel_rfl) (by kernel_rfl) h6
      obtain ⟨xs, rfl, _, hx⟩ := hy2.sl (e := 25) (sh := some 6) (by kernel_rfl) (by kernel_rfl) (by kernel_rfl)
      simp [V.bulk, V.bulkL] at hn
      obtain ⟨l, rfl⟩ := list_of_all (enc := encC) fun y hy => core_of n (by have := bulk_mem hy; omega) (hx y hy)
      exact ⟨.mk a b c d ns l, by rw [encC_mk]; rfl⟩
theorem own : ownKnob Tryd.prog.godebug = none := by kernel_rfl
theorem laidOut : laidOutB Tryd.prog = true := by kernel_rfl
end Go.Proofs.YtbifjffjibnjjaaDoor

namespace Go.Proofs.YtbifjffjibnjjaaDoor
open Go Go.Abs

namespace foldEnds
theorem tab_of {W : World} {x1 x2 : String × DataW Unit} (h : laidMet Tryd.prog [x1, x2, ("internal/strconv.uint64pow10", Lib.tabData .u64 Lib.pow10Tab)] W) : Lib.TabIs Tryd.prog W "internal/strconv.uint64pow10" .u64 Lib.pow10Tab := by
  obtain ⟨ps, hv, _⟩ := h
  obtain ⟨_, _, _, _, _, _, _, _, _, _, hv, _⟩ := hv
  obtain ⟨_, _, _, _, _, _, _, _, _, _, hv, _⟩ := hv
  obtain ⟨g', t', cs, fuel, p, q, hg', ht', hvar, hd, _, _⟩ := hv
  obtain rfl := Option.some.inj ((show Tryd.prog.globalNamed "internal/strconv.uint64pow10" = some 0 by kernel_rfl).symm.trans hg')
  obtain rfl := Option.some.inj ((show (Tryd.prog.globals[0]?).map (·.type) = some 167 by kernel_rfl).symm.trans ht')
  unfold Lib.TabIs
  rw [hvar, ← Lib.cells_of_tab (t := 167) (e := 145) (n := 20) (by kernel_rfl) (by kernel_rfl) (by kernel_rfl) (by kernel_rfl) hd]
theorem glob_of {W : World} (h : Lib.TabIs Tryd.prog W "internal/strconv.uint64pow10" .u64 Lib.pow10Tab) : ∀ p ∈ globs, ∃ cs ty fr, W.heap[p.1]? = some (.cells cs ty fr) ∧ p.2 cs := by
  intro p hp
  unfold Lib.TabIs World.var? at h
  rw [show Tryd.prog.globalNamed "internal/strconv.uint64pow10" = some 0 by kernel_rfl] at h
  simp only [Option.bind_some] at h
  simp only [globs, List.mem_singleton] at hp
  subst hp
  dsimp only
  cases hx : W.heap[0]? with
  | none => rw [hx] at h; cases h
  | some ob =>
    rw [hx] at h
    cases ob with
    | cells cs ty fr =>
      have h' : some cs = _ := h
      exact ⟨cs, ty, fr, rfl, Option.some.inj h'⟩
    | _ => cases h
def cellsTo (cs : Array Value) : Obj → Obj
  | .cells _ t frozen => .cells cs t frozen
  | o => o
/-- A world in which the listed variables are laid. -/
noncomputable def laidWorld (os : Os) : World :=
  { World.holding Tryd.prog os ⟨#[], #[], []⟩ with heap := (((World.holding Tryd.prog os ⟨#[], #[], []⟩).heap.modify 0 (cellsTo #[.int .u64 1, .int .u64 10, .int .u64 100, .int .u64 1000, .int .u64 10000, .int .u64 100000, .int .u64 1000000, .int .u64 10000000, .int .u64 100000000, .int .u64 1000000000, .int .u64 10000000000, .int .u64 100000000000, .int .u64 1000000000000, .int .u64 10000000000000, .int .u64 100000000000000, .int .u64 1000000000000000, .int .u64 10000000000000000, .int .u64 100000000000000000, .int .u64 1000000000000000000, .int .u64 10000000000000000000])).modify 1 (cellsTo #[.int .u8 0, .int .u8 1, .int .u8 28, .int .u8 2, .int .u8 29, .int .u8 14, .int .u8 24, .int .u8 3, .int .u8 30, .int .u8 22, .int .u8 20, .int .u8 15, .int .u8 25, .int .u8 17, .int .u8 4, .int .u8 8, .int .u8 31, .int .u8 27, .int .u8 13, .int .u8 23, .int .u8 21, .int .u8 19, .int .u8 16, .int .u8 7, .int .u8 26, .int .u8 12, .int .u8 18, .int .u8 6, .int .u8 11, .int .u8 5, .int .u8 10, .int .u8 9])).modify 2 (cellsTo #[.int .u8 0, .int .u8 1, .int .u8 56, .int .u8 2, .int .u8 57, .int .u8 49, .int .u8 28, .int .u8 3, .int .u8 61, .int .u8 58, .int .u8 42, .int .u8 50, .int .u8 38, .int .u8 29, .int .u8 17, .int .u8 4, .int .u8 62, .int .u8 47, .int .u8 59, .int .u8 36, .int .u8 45, .int .u8 43, .int .u8 51, .int .u8 22, .int .u8 53, .int .u8 39, .int .u8 33, .int .u8 30, .int .u8 24, .int .u8 18, .int .u8 12, .int .u8 5, .int .u8 63, .int .u8 55, .int .u8 48, .int .u8 27, .int .u8 60, .int .u8 41, .int .u8 37, .int .u8 16, .int .u8 46, .int .u8 35, .int .u8 44, .int .u8 21, .int .u8 52, .int .u8 32, .int .u8 23, .int .u8 11, .int .u8 54, .int .u8 26, .int .u8 40, .int .u8 15, .int .u8 34, .int .u8 20, .int .u8 31, .int .u8 10, .int .u8 25, .int .u8 14, .int .u8 19, .int .u8 9, .int .u8 13, .int .u8 8, .int .u8 7, .int .u8 6]) }
def args0 : Array Value := #[.agg #[.int .i64 0, .int .i64 0, .string .empty, .string .empty, .slice none 0 0, .slice none 0 0], .slice none 0 0, .int .i64 0]
theorem laid_met (os : Os) : laidMet Tryd.prog Rows.foldEndsUptoRow.laid ((laidWorld os).forCall (fun _ _ => 0) ⟨#[], args0, []⟩).memory :=
  laidMet_of_run' 8 (by kernel_rfl) (by kernel_rfl)
theorem reads (os : Os) {H : Type} (enc : TypeId × Value → H) : ∃ places, DataW.whole enc Tryd.prog ((laidWorld os).forCall (fun _ _ => 0) ⟨#[], args0, []⟩).memory Tryd.f6.params.toList Rows.foldEndsSpec.vars false args0.toList 8 =
    some ([.agg [.lit (.int .i64 0), .lit (.int .i64 0), .lit (.string []), .lit (.string []), .nil, .nil], .nil, .lit (.int .i64 0)], [], places) :=
  ⟨[], by kernel_rfl⟩

set_option maxRecDepth 100000 in
theorem lifted (os : Os) (started : os.Started) (H : Type) (enc : TypeId × Value → H) (F : Stop.Interp) :
    ReturnsInHanded {} Tryd.checked os 6 .any ((Rows.OpenSpec.upto Rows.foldEndsSpec).preRow enc Tryd.prog Tryd.f6 Rows.foldEndsUptoRow.domain false Rows.foldEndsUptoRow.laid) (((Rows.OpenSpec.upto Rows.foldEndsSpec).at F).post enc Tryd.prog Tryd.f6 false true false false) := by
  obtain ⟨places, hx⟩ := reads os enc
  refine returnsInHanded_of_row (C := Tryd.checked) (s := Rows.OpenSpec.upto Rows.foldEndsSpec) own started (by kernel_rfl) Tryd.func6
    (witness_row_at (enc := enc) (C := Tryd.checked) false (laidWorld os) args0 rfl (by kernel_rfl) (by kernel_rfl) (by kernel_rfl)
      (OpenSpec.preRow_of_cond 8 hx (by kernel_rfl) (fun k hk => by cases hk; kernel_rfl) (by kernel_rfl) (laid_met os))) ?_
  intro W base args ds gs before hval hW _ hcond _ hL _ _
  refine law_calls (T := [3, 2, 4, 9, 22, 25, 23]) (by kernel_rfl) laidOut (by kernel_rfl) (rt := 4) rfl (by kernel_rfl) hval _ rfl hW (fun ds hl => ?_) (fun xs hxs hbk => ?_) (glob_of (tab_of hL))
  · match ds, hl with
    | [_, _, _], _ => rfl
  · replace hbk := Nat.le_trans hbk (of_decide_eq_true (hcond _ rfl))
    match xs, hxs with
    | [_, _, _], ⟨a1, a2, a3, _⟩ =>
      obtain ⟨e, rfl⟩ := core_of _ (Nat.le_refl _) a1
      obtain ⟨inp, rfl⟩ := strs_of a2
      obtain ⟨fuel, rfl, _⟩ := a3.int (k := .i64) (by kernel_rfl) (by kernel_rfl)
      simp only [V.bulkL, V.bulk, bulk_co, bulk_strs] at hbk
      have hil := nsz_len inp
      exact k_FoldEnds (by omega) (by omega)

theorem said : Rows.FoldEndsUptoSaid :=
  OpenClaim.holds_of_cond 6 Tryd.f6 rfl rfl rfl rfl rfl rfl rfl ⟨rfl, rfl, rfl, rfl, rfl⟩ rfl rfl rfl rfl rfl (by kernel_rfl) Tryd.func6 (by kernel_rfl)
    (of_decide_eq_true (by kernel_rfl)) (by unfold Func.isWrapper; first | (rw [if_pos (by decide +kernel)]; kernel_rfl) | (rw [if_neg (by decide +kernel)]; exact ⟨rfl, rfl⟩))
    (fun os started H enc _ F => by rw [OpenClaim.pre_eq_preRow]; exact lifted os started H enc F)

theorem plain (f : FuncId) (fn : Func) (hf : Tryd.pinned.checked.prog.funcNamed "bushel/bushellaw16.FoldEnds" = some f) (hfn : Tryd.pinned.checked.prog.funcs[f]? = some fn) :
    true = Tryd.pinned.checked.prog.looks [] ∧ ∀ (j : Nat) t, fn.params[j]? = some t → Tryd.pinned.checked.prog.wantsStandIn t = false := by
  obtain rfl : f = 6 := Option.some.inj ((show Tryd.prog.funcNamed "bushel/bushellaw16.FoldEnds" = some 6 by kernel_rfl).symm.trans hf) |>.symm
  obtain rfl : fn = Tryd.f6 := (Option.some.inj (Tryd.func6.symm.trans hfn)).symm
  refine ⟨by kernel_rfl, fun j t ht => ?_⟩
  rw [Tryd.params6] at ht
  have hm : t = 25 ∨ t = 22 ∨ t = 3 := by simpa using Array.mem_of_getElem? ht
  rcases hm with rfl | rfl | rfl
  · exact (show Tryd.prog.wantsStandIn 25 = false by kernel_rfl)
  · exact (show Tryd.prog.wantsStandIn 22 = false by kernel_rfl)
  · exact (show Tryd.prog.wantsStandIn 3 = false by kernel_rfl)

theorem proved : Rows.FoldEndsUptoCardSaid :=
  Claim7.holds_tied_plain_at .later [] _ _ _ _ said (fun _ h => by cases h) (by kernel_rfl) (fun _ h => by cases h) foldEndsUpto_row_tie rfl ⟨rfl, rfl⟩ (by kernel_rfl) rfl plain (by kernel_rfl)
end foldEnds
end Go.Proofs.YtbifjffjibnjjaaDoor
