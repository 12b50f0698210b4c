/-
  Expressions as text: the code's word, plain kinds. (Own work; printed by program.)
-/
import Derived.Test.YtpdeaekmgljeaaaGreatDoorM11
import Derived.Shelf.SlIter.Nil
import Derived.Shelf.SortM.Plain
import Derived.Shelf.SortM.SortNone
import Derived.Ground.GgzProg
import Derived.Ground.SlgmProg
import Derived.Ground.SlmpProg
import Derived.Shelf.SlMaps.Copy
import Derived.Shelf.SlGeneric
import Derived.Test.YtpdeaekmgljeaaaGreatDoorChecked
import Derived.Sort.KeysCollected
import Derived.Lib.SlMapMerge
set_option linter.unusedVariables false
set_option linter.unusedSimpArgs false
namespace Go.Proofs.YtpdeaekmgljeaaaGreatDoor
open Go Go.Abs

theorem len1 {α : Type} {l : List α} (h : l.length = 1) : ∃ x, l = [x] := by
  match l, h with
  | [x], _ => exact ⟨x, rfl⟩
theorem len2 {α : Type} {l : List α} (h : l.length = 2) : ∃ x y, l = [x, y] := by
  match l, h with
  | [x, y], _ => exact ⟨x, y, rfl⟩
theorem len3 {α : Type} {l : List α} (h : l.length = 3) : ∃ x y z, l = [x, y, z] := by
  match l, h with
  | [x, y, z], _ => exact ⟨x, y, z, rfl⟩
theorem tx_4 {p n : Int} {s t : Str} {ls ns : List Str} {l : List Ex} {σ : Sg} (he : csz (.mk 4 p n s t ls ns l) ≤ 1048576) (hl : l.length = 1)
    (hsh : ∀ x ∈ l, (showL x).length ≤ 8 * csz x)
    (ih : ∀ x ∈ l, ∀ σ, ACalls Tryz.prog 31 [.v (encE x)] σ fun r σ' => r = .v (.str (showL x)) ∧ σ' = σ)
    (ihs : ∀ x ∈ l, ∀ σ, ACalls Tryz.prog 56 [.v (encE x)] σ fun r σ' => r = .v (.str (smallT (kdE x, showL x))) ∧ σ' = σ) :
    ACalls Tryz.prog 31 [.v (encE (.mk 4 p n s t ls ns l))] σ fun r σ' => r = .v (.str (showK 4 n s t ls ns (showQ l))) ∧ σ' = σ := by
  obtain ⟨x0, rfl⟩ := len1 hl
  have h0 := ih x0 (by simp)
  have b0 := hsh x0 (by simp)
  have s0 : (smallT (kdE x0, showL x0)).length ≤ (showL x0).length + 2 := small_len _
  simp only [csz, cszL] at he
  rw [encE_mk]
  obtain ⟨Z, hZ⟩ : ∃ Z, Z = showK 4 n s t ls ns (showQ [x0]) := ⟨_, rfl⟩
  rw [← hZ]
  simp [showK, showQ, txQ, smQ, headK] at hZ
  clear ih ihs hsh
  generalize showL x0 = X0 at *
  refine acalls_fit Tryz.func31 (by kernel_rfl) c31 rfl (by simp [a31]) fun hf => ?_
  clear hf
  simp -implicitDefEqProofs (maxSteps := 2000000) (disch := omega) [-getElem?_pos, a31]
  repeat refine ⟨by omega, ?_⟩
  refine (h0 _).then fun r hr => ?_
  subst hr
  simp -implicitDefEqProofs (maxSteps := 2000000) (disch := omega) [-getElem?_pos]
  repeat refine ⟨by omega, ?_⟩
  exact .fin _ ⟨by rw [hZ] <;> simp, rfl⟩ (.refl _)
theorem tx_5 {p n : Int} {s t : Str} {ls ns : List Str} {l : List Ex} {σ : Sg} (he : csz (.mk 5 p n s t ls ns l) ≤ 1048576) (hl : l.length = 2)
    (hsh : ∀ x ∈ l, (showL x).length ≤ 8 * csz x)
    (ih : ∀ x ∈ l, ∀ σ, ACalls Tryz.prog 31 [.v (encE x)] σ fun r σ' => r = .v (.str (showL x)) ∧ σ' = σ)
    (ihs : ∀ x ∈ l, ∀ σ, ACalls Tryz.prog 56 [.v (encE x)] σ fun r σ' => r = .v (.str (smallT (kdE x, showL x))) ∧ σ' = σ) :
    ACalls Tryz.prog 31 [.v (encE (.mk 5 p n s t ls ns l))] σ fun r σ' => r = .v (.str (showK 5 n s t ls ns (showQ l))) ∧ σ' = σ := by
  obtain ⟨x0, x1, rfl⟩ := len2 hl
  have h0 := ihs x0 (by simp)
  have b0 := hsh x0 (by simp)
  have s0 : (smallT (kdE x0, showL x0)).length ≤ (showL x0).length + 2 := small_len _
  have h1 := ihs x1 (by simp)
  have b1 := hsh x1 (by simp)
  have s1 : (smallT (kdE x1, showL x1)).length ≤ (showL x1).length + 2 := small_len _
  simp only [csz, cszL] at he
  rw [encE_mk]
  obtain ⟨Z, hZ⟩ : ∃ Z, Z = showK 5 n s t ls ns (showQ [x0, x1]) := ⟨_, rfl⟩
  rw [← hZ]
  simp [showK, showQ, txQ, smQ, headK] at hZ
  clear ih ihs hsh
  generalize smallT (kdE x0, showL x0) = X0 at *
  generalize smallT (kdE x1, showL x1) = X1 at *
  refine acalls_fit Tryz.func31 (by kernel_rfl) c31 rfl (by simp [a31]) fun hf => ?_
  clear hf
  simp -implicitDefEqProofs (maxSteps := 2000000) (disch := omega) [-getElem?_pos, a31]
  repeat refine ⟨by omega, ?_⟩
  refine (h0 _).then fun r hr => ?_
  subst hr
  simp -implicitDefEqProofs (maxSteps := 2000000) (disch := omega) [-getElem?_pos]
  repeat refine ⟨by omega, ?_⟩
  refine (h1 _).then fun r hr => ?_
  subst hr
  simp -implicitDefEqProofs (maxSteps := 2000000) (disch := omega) [-getElem?_pos]
  repeat refine ⟨by omega, ?_⟩
  exact .fin _ ⟨by rw [hZ] <;> simp, rfl⟩ (.refl _)
theorem tx_6 {p n : Int} {s t : Str} {ls ns : List Str} {l : List Ex} {σ : Sg} (he : csz (.mk 6 p n s t ls ns l) ≤ 1048576) (hl : l.length = 2)
    (hsh : ∀ x ∈ l, (showL x).length ≤ 8 * csz x)
    (ih : ∀ x ∈ l, ∀ σ, ACalls Tryz.prog 31 [.v (encE x)] σ fun r σ' => r = .v (.str (showL x)) ∧ σ' = σ)
    (ihs : ∀ x ∈ l, ∀ σ, ACalls Tryz.prog 56 [.v (encE x)] σ fun r σ' => r = .v (.str (smallT (kdE x, showL x))) ∧ σ' = σ) :
    ACalls Tryz.prog 31 [.v (encE (.mk 6 p n s t ls ns l))] σ fun r σ' => r = .v (.str (showK 6 n s t ls ns (showQ l))) ∧ σ' = σ := by
  obtain ⟨x0, x1, rfl⟩ := len2 hl
  have h0 := ih x0 (by simp)
  have b0 := hsh x0 (by simp)
  have s0 : (smallT (kdE x0, showL x0)).length ≤ (showL x0).length + 2 := small_len _
  have h1 := ih x1 (by simp)
  have b1 := hsh x1 (by simp)
  have s1 : (smallT (kdE x1, showL x1)).length ≤ (showL x1).length + 2 := small_len _
  simp only [csz, cszL] at he
  rw [encE_mk]
  obtain ⟨Z, hZ⟩ : ∃ Z, Z = showK 6 n s t ls ns (showQ [x0, x1]) := ⟨_, rfl⟩
  rw [← hZ]
  simp [showK, showQ, txQ, smQ, headK] at hZ
  clear ih ihs hsh
  generalize showL x0 = X0 at *
  generalize showL x1 = X1 at *
  refine acalls_fit Tryz.func31 (by kernel_rfl) c31 rfl (by simp [a31]) fun hf => ?_
  clear hf
  simp -implicitDefEqProofs (maxSteps := 2000000) (disch := omega) [-getElem?_pos, a31]
  repeat refine ⟨by omega, ?_⟩
  refine (h0 _).then fun r hr => ?_
  subst hr
  simp -implicitDefEqProofs (maxSteps := 2000000) (disch := omega) [-getElem?_pos]
  repeat refine ⟨by omega, ?_⟩
  refine (h1 _).then fun r hr => ?_
  subst hr
  simp -implicitDefEqProofs (maxSteps := 2000000) (disch := omega) [-getElem?_pos]
  repeat refine ⟨by omega, ?_⟩
  exact .fin _ ⟨by rw [hZ] <;> simp, rfl⟩ (.refl _)
theorem tx_7 {p n : Int} {s t : Str} {ls ns : List Str} {l : List Ex} {σ : Sg} (he : csz (.mk 7 p n s t ls ns l) ≤ 1048576) (hl : l.length = 2)
    (hsh : ∀ x ∈ l, (showL x).length ≤ 8 * csz x)
    (ih : ∀ x ∈ l, ∀ σ, ACalls Tryz.prog 31 [.v (encE x)] σ fun r σ' => r = .v (.str (showL x)) ∧ σ' = σ)
    (ihs : ∀ x ∈ l, ∀ σ, ACalls Tryz.prog 56 [.v (encE x)] σ fun r σ' => r = .v (.str (smallT (kdE x, showL x))) ∧ σ' = σ) :
    ACalls Tryz.prog 31 [.v (encE (.mk 7 p n s t ls ns l))] σ fun r σ' => r = .v (.str (showK 7 n s t ls ns (showQ l))) ∧ σ' = σ := by
  obtain ⟨x0, x1, rfl⟩ := len2 hl
  have h0 := ih x0 (by simp)
  have b0 := hsh x0 (by simp)
  have s0 : (smallT (kdE x0, showL x0)).length ≤ (showL x0).length + 2 := small_len _
  have h1 := ih x1 (by simp)
  have b1 := hsh x1 (by simp)
  have s1 : (smallT (kdE x1, showL x1)).length ≤ (showL x1).length + 2 := small_len _
  simp only [csz, cszL] at he
  rw [encE_mk]
  obtain ⟨Z, hZ⟩ : ∃ Z, Z = showK 7 n s t ls ns (showQ [x0, x1]) := ⟨_, rfl⟩
  rw [← hZ]
  simp [showK, showQ, txQ, smQ, headK] at hZ
  clear ih ihs hsh
  generalize showL x0 = X0 at *
  generalize showL x1 = X1 at *
  refine acalls_fit Tryz.func31 (by kernel_rfl) c31 rfl (by simp [a31]) fun hf => ?_
  clear hf
  simp -implicitDefEqProofs (maxSteps := 2000000) (disch := omega) [-getElem?_pos, a31]
  repeat refine ⟨by omega, ?_⟩
  refine (h0 _).then fun r hr => ?_
  subst hr
  simp -implicitDefEqProofs (maxSteps := 2000000) (disch := omega) [-getElem?_pos]
  repeat refine ⟨by omega, ?_⟩
  refine (h1 _).then fun r hr => ?_
  subst hr
  simp -implicitDefEqProofs (maxSteps := 2000000) (disch := omega) [-getElem?_pos]
  repeat refine ⟨by omega, ?_⟩
  exact .fin _ ⟨by rw [hZ] <;> simp, rfl⟩ (.refl _)
theorem tx_9 {p n : Int} {s t : Str} {ls ns : List Str} {l : List Ex} {σ : Sg} (he : csz (.mk 9 p n s t ls ns l) ≤ 1048576) (hl : l.length = 1)
    (hsh : ∀ x ∈ l, (showL x).length ≤ 8 * csz x)
    (ih : ∀ x ∈ l, ∀ σ, ACalls Tryz.prog 31 [.v (encE x)] σ fun r σ' => r = .v (.str (showL x)) ∧ σ' = σ)
    (ihs : ∀ x ∈ l, ∀ σ, ACalls Tryz.prog 56 [.v (encE x)] σ fun r σ' => r = .v (.str (smallT (kdE x, showL x))) ∧ σ' = σ) :
    ACalls Tryz.prog 31 [.v (encE (.mk 9 p n s t ls ns l))] σ fun r σ' => r = .v (.str (showK 9 n s t ls ns (showQ l))) ∧ σ' = σ := by
  obtain ⟨x0, rfl⟩ := len1 hl
  have h0 := ihs x0 (by simp)
  have b0 := hsh x0 (by simp)
  have s0 : (smallT (kdE x0, showL x0)).length ≤ (showL x0).length + 2 := small_len _
  simp only [csz, cszL] at he
  rw [encE_mk]
  obtain ⟨Z, hZ⟩ : ∃ Z, Z = showK 9 n s t ls ns (showQ [x0]) := ⟨_, rfl⟩
  rw [← hZ]
  simp [showK, showQ, txQ, smQ, headK] at hZ
  clear ih ihs hsh
  generalize smallT (kdE x0, showL x0) = X0 at *
  refine acalls_fit Tryz.func31 (by kernel_rfl) c31 rfl (by simp [a31]) fun hf => ?_
  clear hf
  simp -implicitDefEqProofs (maxSteps := 2000000) (disch := omega) [-getElem?_pos, a31]
  repeat refine ⟨by omega, ?_⟩
  refine (h0 _).then fun r hr => ?_
  subst hr
  simp -implicitDefEqProofs (maxSteps := 2000000) (disch := omega) [-getElem?_pos]
  repeat refine ⟨by omega, ?_⟩
  exact .fin _ ⟨by rw [hZ] <;> simp, rfl⟩ (.refl _)
theorem tx_10 {p n : Int} {s t : Str} {ls ns : List Str} {l : List Ex} {σ : Sg} (he : csz (.mk 10 p n s t ls ns l) ≤ 1048576) (hl : l.length = 2)
    (hsh : ∀ x ∈ l, (showL x).length ≤ 8 * csz x)
    (ih : ∀ x ∈ l, ∀ σ, ACalls Tryz.prog 31 [.v (encE x)] σ fun r σ' => r = .v (.str (showL x)) ∧ σ' = σ)
    (ihs : ∀ x ∈ l, ∀ σ, ACalls Tryz.prog 56 [.v (encE x)] σ fun r σ' => r = .v (.str (smallT (kdE x, showL x))) ∧ σ' = σ) :
    ACalls Tryz.prog 31 [.v (encE (.mk 10 p n s t ls ns l))] σ fun r σ' => r = .v (.str (showK 10 n s t ls ns (showQ l))) ∧ σ' = σ := by
  obtain ⟨x0, x1, rfl⟩ := len2 hl
  have h0 := ih x0 (by simp)
  have b0 := hsh x0 (by simp)
  have s0 : (smallT (kdE x0, showL x0)).length ≤ (showL x0).length + 2 := small_len _
  have h1 := ih x1 (by simp)
  have b1 := hsh x1 (by simp)
  have s1 : (smallT (kdE x1, showL x1)).length ≤ (showL x1).length + 2 := small_len _
  simp only [csz, cszL] at he
  rw [encE_mk]
  obtain ⟨Z, hZ⟩ : ∃ Z, Z = showK 10 n s t ls ns (showQ [x0, x1]) := ⟨_, rfl⟩
  rw [← hZ]
  simp [showK, showQ, txQ, smQ, headK] at hZ
  clear ih ihs hsh
  generalize showL x0 = X0 at *
  generalize showL x1 = X1 at *
  refine acalls_fit Tryz.func31 (by kernel_rfl) c31 rfl (by simp [a31]) fun hf => ?_
  clear hf
  simp -implicitDefEqProofs (maxSteps := 2000000) (disch := omega) [-getElem?_pos, a31]
  repeat refine ⟨by omega, ?_⟩
  refine (h0 _).then fun r hr => ?_
  subst hr
  simp -implicitDefEqProofs (maxSteps := 2000000) (disch := omega) [-getElem?_pos]
  repeat refine ⟨by omega, ?_⟩
  refine (h1 _).then fun r hr => ?_
  subst hr
  simp -implicitDefEqProofs (maxSteps := 2000000) (disch := omega) [-getElem?_pos]
  repeat refine ⟨by omega, ?_⟩
  exact .fin _ ⟨by rw [hZ] <;> simp, rfl⟩ (.refl _)
theorem tx_11 {p n : Int} {s t : Str} {ls ns : List Str} {l : List Ex} {σ : Sg} (he : csz (.mk 11 p n s t ls ns l) ≤ 1048576) (hl : l.length = 1)
    (hsh : ∀ x ∈ l, (showL x).length ≤ 8 * csz x)
    (ih : ∀ x ∈ l, ∀ σ, ACalls Tryz.prog 31 [.v (encE x)] σ fun r σ' => r = .v (.str (showL x)) ∧ σ' = σ)
    (ihs : ∀ x ∈ l, ∀ σ, ACalls Tryz.prog 56 [.v (encE x)] σ fun r σ' => r = .v (.str (smallT (kdE x, showL x))) ∧ σ' = σ) :
    ACalls Tryz.prog 31 [.v (encE (.mk 11 p n s t ls ns l))] σ fun r σ' => r = .v (.str (showK 11 n s t ls ns (showQ l))) ∧ σ' = σ := by
  obtain ⟨x0, rfl⟩ := len1 hl
  have h0 := ihs x0 (by simp)
  have b0 := hsh x0 (by simp)
  have s0 : (smallT (kdE x0, showL x0)).length ≤ (showL x0).length + 2 := small_len _
  simp only [csz, cszL] at he
  rw [encE_mk]
  obtain ⟨Z, hZ⟩ : ∃ Z, Z = showK 11 n s t ls ns (showQ [x0]) := ⟨_, rfl⟩
  rw [← hZ]
  simp [showK, showQ, txQ, smQ, headK] at hZ
  clear ih ihs hsh
  generalize smallT (kdE x0, showL x0) = X0 at *
  refine acalls_fit Tryz.func31 (by kernel_rfl) c31 rfl (by simp [a31]) fun hf => ?_
  clear hf
  simp -implicitDefEqProofs (maxSteps := 2000000) (disch := omega) [-getElem?_pos, a31]
  repeat refine ⟨by omega, ?_⟩
  refine (h0 _).then fun r hr => ?_
  subst hr
  simp -implicitDefEqProofs (maxSteps := 2000000) (disch := omega) [-getElem?_pos]
  repeat refine ⟨by omega, ?_⟩
  exact .fin _ ⟨by rw [hZ] <;> simp, rfl⟩ (.refl _)
theorem tx_12 {p n : Int} {s t : Str} {ls ns : List Str} {l : List Ex} {σ : Sg} (he : csz (.mk 12 p n s t ls ns l) ≤ 1048576) (hl : l.length = 2)
    (hsh : ∀ x ∈ l, (showL x).length ≤ 8 * csz x)
    (ih : ∀ x ∈ l, ∀ σ, ACalls Tryz.prog 31 [.v (encE x)] σ fun r σ' => r = .v (.str (showL x)) ∧ σ' = σ)
    (ihs : ∀ x ∈ l, ∀ σ, ACalls Tryz.prog 56 [.v (encE x)] σ fun r σ' => r = .v (.str (smallT (kdE x, showL x))) ∧ σ' = σ) :
    ACalls Tryz.prog 31 [.v (encE (.mk 12 p n s t ls ns l))] σ fun r σ' => r = .v (.str (showK 12 n s t ls ns (showQ l))) ∧ σ' = σ := by
  obtain ⟨x0, x1, rfl⟩ := len2 hl
  have h1 := ihs x1 (by simp)
  have b1 := hsh x1 (by simp)
  have s1 : (smallT (kdE x1, showL x1)).length ≤ (showL x1).length + 2 := small_len _
  have h0 := ih x0 (by simp)
  have b0 := hsh x0 (by simp)
  have s0 : (smallT (kdE x0, showL x0)).length ≤ (showL x0).length + 2 := small_len _
  simp only [csz, cszL] at he
  rw [encE_mk]
  obtain ⟨Z, hZ⟩ : ∃ Z, Z = showK 12 n s t ls ns (showQ [x0, x1]) := ⟨_, rfl⟩
  rw [← hZ]
  simp [showK, showQ, txQ, smQ, headK] at hZ
  clear ih ihs hsh
  generalize smallT (kdE x1, showL x1) = X1 at *
  generalize showL x0 = X0 at *
  refine acalls_fit Tryz.func31 (by kernel_rfl) c31 rfl (by simp [a31]) fun hf => ?_
  clear hf
  simp -implicitDefEqProofs (maxSteps := 2000000) (disch := omega) [-getElem?_pos, a31]
  repeat refine ⟨by omega, ?_⟩
  refine (h1 _).then fun r hr => ?_
  subst hr
  simp -implicitDefEqProofs (maxSteps := 2000000) (disch := omega) [-getElem?_pos]
  repeat refine ⟨by omega, ?_⟩
  refine (h0 _).then fun r hr => ?_
  subst hr
  simp -implicitDefEqProofs (maxSteps := 2000000) (disch := omega) [-getElem?_pos]
  repeat refine ⟨by omega, ?_⟩
  exact .fin _ ⟨by rw [hZ] <;> simp, rfl⟩ (.refl _)
theorem tx_15 {p n : Int} {s t : Str} {ls ns : List Str} {l : List Ex} {σ : Sg} (he : csz (.mk 15 p n s t ls ns l) ≤ 1048576) (hl : l.length = 3)
    (hsh : ∀ x ∈ l, (showL x).length ≤ 8 * csz x)
    (ih : ∀ x ∈ l, ∀ σ, ACalls Tryz.prog 31 [.v (encE x)] σ fun r σ' => r = .v (.str (showL x)) ∧ σ' = σ)
    (ihs : ∀ x ∈ l, ∀ σ, ACalls Tryz.prog 56 [.v (encE x)] σ fun r σ' => r = .v (.str (smallT (kdE x, showL x))) ∧ σ' = σ) :
    ACalls Tryz.prog 31 [.v (encE (.mk 15 p n s t ls ns l))] σ fun r σ' => r = .v (.str (showK 15 n s t ls ns (showQ l))) ∧ σ' = σ := by
  obtain ⟨x0, x1, x2, rfl⟩ := len3 hl
  have h0 := ih x0 (by simp)
  have b0 := hsh x0 (by simp)
  have s0 : (smallT (kdE x0, showL x0)).length ≤ (showL x0).length + 2 := small_len _
  have h1 := ih x1 (by simp)
  have b1 := hsh x1 (by simp)
  have s1 : (smallT (kdE x1, showL x1)).length ≤ (showL x1).length + 2 := small_len _
  have h2 := ih x2 (by simp)
  have b2 := hsh x2 (by simp)
  have s2 : (smallT (kdE x2, showL x2)).length ≤ (showL x2).length + 2 := small_len _
  simp only [csz, cszL] at he
  rw [encE_mk]
  obtain ⟨Z, hZ⟩ : ∃ Z, Z = showK 15 n s t ls ns (showQ [x0, x1, x2]) := ⟨_, rfl⟩
  rw [← hZ]
  simp [showK, showQ, txQ, smQ, headK] at hZ
  clear ih ihs hsh
  generalize showL x0 = X0 at *
  generalize showL x1 = X1 at *
  generalize showL x2 = X2 at *
  refine acalls_fit Tryz.func31 (by kernel_rfl) c31 rfl (by simp [a31]) fun hf => ?_
  clear hf
  simp -implicitDefEqProofs (maxSteps := 2000000) (disch := omega) [-getElem?_pos, a31]
  repeat refine ⟨by omega, ?_⟩
  refine (h0 _).then fun r hr => ?_
  subst hr
  simp -implicitDefEqProofs (maxSteps := 2000000) (disch := omega) [-getElem?_pos]
  repeat refine ⟨by omega, ?_⟩
  refine (h1 _).then fun r hr => ?_
  subst hr
  simp -implicitDefEqProofs (maxSteps := 2000000) (disch := omega) [-getElem?_pos]
  repeat refine ⟨by omega, ?_⟩
  refine (h2 _).then fun r hr => ?_
  subst hr
  simp -implicitDefEqProofs (maxSteps := 2000000) (disch := omega) [-getElem?_pos]
  repeat refine ⟨by omega, ?_⟩
  exact .fin _ ⟨by rw [hZ] <;> simp, rfl⟩ (.refl _)
theorem tx_16 {p n : Int} {s t : Str} {ls ns : List Str} {l : List Ex} {σ : Sg} (he : csz (.mk 16 p n s t ls ns l) ≤ 1048576) (hl : l.length = 2)
    (hsh : ∀ x ∈ l, (showL x).length ≤ 8 * csz x)
    (ih : ∀ x ∈ l, ∀ σ, ACalls Tryz.prog 31 [.v (encE x)] σ fun r σ' => r = .v (.str (showL x)) ∧ σ' = σ)
    (ihs : ∀ x ∈ l, ∀ σ, ACalls Tryz.prog 56 [.v (encE x)] σ fun r σ' => r = .v (.str (smallT (kdE x, showL x))) ∧ σ' = σ) :
    ACalls Tryz.prog 31 [.v (encE (.mk 16 p n s t ls ns l))] σ fun r σ' => r = .v (.str (showK 16 n s t ls ns (showQ l))) ∧ σ' = σ := by
  obtain ⟨x0, x1, rfl⟩ := len2 hl
  have h0 := ihs x0 (by simp)
  have b0 := hsh x0 (by simp)
  have s0 : (smallT (kdE x0, showL x0)).length ≤ (showL x0).length + 2 := small_len _
  have h1 := ihs x1 (by simp)
  have b1 := hsh x1 (by simp)
  have s1 : (smallT (kdE x1, showL x1)).length ≤ (showL x1).length + 2 := small_len _
  simp only [csz, cszL] at he
  rw [encE_mk]
  obtain ⟨Z, hZ⟩ : ∃ Z, Z = showK 16 n s t ls ns (showQ [x0, x1]) := ⟨_, rfl⟩
  rw [← hZ]
  simp [showK, showQ, txQ, smQ, headK] at hZ
  clear ih ihs hsh
  generalize smallT (kdE x0, showL x0) = X0 at *
  generalize smallT (kdE x1, showL x1) = X1 at *
  refine acalls_fit Tryz.func31 (by kernel_rfl) c31 rfl (by simp [a31]) fun hf => ?_
  clear hf
  simp -implicitDefEqProofs (maxSteps := 2000000) (disch := omega) [-getElem?_pos, a31]
  repeat refine ⟨by omega, ?_⟩
  refine (h0 _).then fun r hr => ?_
  subst hr
  simp -implicitDefEqProofs (maxSteps := 2000000) (disch := omega) [-getElem?_pos]
  repeat refine ⟨by omega, ?_⟩
  refine (h1 _).then fun r hr => ?_
  subst hr
  simp -implicitDefEqProofs (maxSteps := 2000000) (disch := omega) [-getElem?_pos]
  repeat refine ⟨by omega, ?_⟩
  exact .fin _ ⟨by rw [hZ] <;> simp, rfl⟩ (.refl _)
theorem tx_19 {p n : Int} {s t : Str} {ls ns : List Str} {l : List Ex} {σ : Sg} (he : csz (.mk 19 p n s t ls ns l) ≤ 1048576) (hl : l.length = 2)
    (hsh : ∀ x ∈ l, (showL x).length ≤ 8 * csz x)
    (ih : ∀ x ∈ l, ∀ σ, ACalls Tryz.prog 31 [.v (encE x)] σ fun r σ' => r = .v (.str (showL x)) ∧ σ' = σ)
    (ihs : ∀ x ∈ l, ∀ σ, ACalls Tryz.prog 56 [.v (encE x)] σ fun r σ' => r = .v (.str (smallT (kdE x, showL x))) ∧ σ' = σ) :
    ACalls Tryz.prog 31 [.v (encE (.mk 19 p n s t ls ns l))] σ fun r σ' => r = .v (.str (showK 19 n s t ls ns (showQ l))) ∧ σ' = σ := by
  obtain ⟨x0, x1, rfl⟩ := len2 hl
  have h0 := ihs x0 (by simp)
  have b0 := hsh x0 (by simp)
  have s0 : (smallT (kdE x0, showL x0)).length ≤ (showL x0).length + 2 := small_len _
  have h1 := ihs x1 (by simp)
  have b1 := hsh x1 (by simp)
  have s1 : (smallT (kdE x1, showL x1)).length ≤ (showL x1).length + 2 := small_len _
  simp only [csz, cszL] at he
  rw [encE_mk]
  obtain ⟨Z, hZ⟩ : ∃ Z, Z = showK 19 n s t ls ns (showQ [x0, x1]) := ⟨_, rfl⟩
  rw [← hZ]
  simp [showK, showQ, txQ, smQ, headK] at hZ
  clear ih ihs hsh
  generalize smallT (kdE x0, showL x0) = X0 at *
  generalize smallT (kdE x1, showL x1) = X1 at *
  refine acalls_fit Tryz.func31 (by kernel_rfl) c31 rfl (by simp [a31]) fun hf => ?_
  clear hf
  simp -implicitDefEqProofs (maxSteps := 2000000) (disch := omega) [-getElem?_pos, a31]
  repeat refine ⟨by omega, ?_⟩
  refine (h0 _).then fun r hr => ?_
  subst hr
  simp -implicitDefEqProofs (maxSteps := 2000000) (disch := omega) [-getElem?_pos]
  repeat refine ⟨by omega, ?_⟩
  refine (h1 _).then fun r hr => ?_
  subst hr
  simp -implicitDefEqProofs (maxSteps := 2000000) (disch := omega) [-getElem?_pos]
  repeat refine ⟨by omega, ?_⟩
  exact .fin _ ⟨by rw [hZ] <;> simp, rfl⟩ (.refl _)
theorem tx_13 {p n : Int} {s t : Str} {ls ns : List Str} {l : List Ex} {σ : Sg} (he : csz (.mk 13 p n s t ls ns l) ≤ 1048576) (hl : l.length = 1)
    (hsh : ∀ x ∈ l, (showL x).length ≤ 8 * csz x)
    (ih : ∀ x ∈ l, ∀ σ, ACalls Tryz.prog 31 [.v (encE x)] σ fun r σ' => r = .v (.str (showL x)) ∧ σ' = σ)
    (ihs : ∀ x ∈ l, ∀ σ, ACalls Tryz.prog 56 [.v (encE x)] σ fun r σ' => r = .v (.str (smallT (kdE x, showL x))) ∧ σ' = σ) :
    ACalls Tryz.prog 31 [.v (encE (.mk 13 p n s t ls ns l))] σ fun r σ' => r = .v (.str (showK 13 n s t ls ns (showQ l))) ∧ σ' = σ := by
  obtain ⟨x0, rfl⟩ := len1 hl
  have h0 := ihs x0 (by simp)
  have b0 := hsh x0 (by simp)
  have s0 : (smallT (kdE x0, showL x0)).length ≤ (showL x0).length + 2 := small_len _
  simp only [csz, cszL] at he
  rw [encE_mk]
  obtain ⟨Z, hZ⟩ : ∃ Z, Z = showK 13 n s t ls ns (showQ [x0]) := ⟨_, rfl⟩
  rw [← hZ]
  simp [showK, showQ, txQ, smQ, headK] at hZ
  clear ih ihs hsh
  generalize smallT (kdE x0, showL x0) = X0 at *
  have kh := fun σ => k_Head (k := 13) (p := p) (n := n) (s := s) (t := t) (ls := ls) (ns := ns) (l := [x0]) (σ := σ) (by omega)
  rw [encE_mk] at kh
  simp [headK] at kh
  refine acalls_fit Tryz.func31 (by kernel_rfl) c31 rfl (by simp [a31]) fun hf => ?_
  clear hf
  simp -implicitDefEqProofs (maxSteps := 2000000) (disch := omega) [-getElem?_pos, a31]
  refine (kh _).then fun r hr => ?_
  subst hr
  simp -implicitDefEqProofs (maxSteps := 2000000) (disch := omega) [-getElem?_pos]
  repeat refine ⟨by omega, ?_⟩
  refine (h0 _).then fun r hr => ?_
  subst hr
  simp -implicitDefEqProofs (maxSteps := 2000000) (disch := omega) [-getElem?_pos]
  repeat refine ⟨by omega, ?_⟩
  exact .fin _ ⟨by rw [hZ] <;> simp, rfl⟩ (.refl _)
theorem tx_17 {p n : Int} {s t : Str} {ls ns : List Str} {l : List Ex} {σ : Sg} (he : csz (.mk 17 p n s t ls ns l) ≤ 1048576) (hl : l.length = 1)
    (hsh : ∀ x ∈ l, (showL x).length ≤ 8 * csz x)
    (ih : ∀ x ∈ l, ∀ σ, ACalls Tryz.prog 31 [.v (encE x)] σ fun r σ' => r = .v (.str (showL x)) ∧ σ' = σ)
    (ihs : ∀ x ∈ l, ∀ σ, ACalls Tryz.prog 56 [.v (encE x)] σ fun r σ' => r = .v (.str (smallT (kdE x, showL x))) ∧ σ' = σ) :
    ACalls Tryz.prog 31 [.v (encE (.mk 17 p n s t ls ns l))] σ fun r σ' => r = .v (.str (showK 17 n s t ls ns (showQ l))) ∧ σ' = σ := by
  obtain ⟨x0, rfl⟩ := len1 hl
  have h0 := ihs x0 (by simp)
  have b0 := hsh x0 (by simp)
  have s0 : (smallT (kdE x0, showL x0)).length ≤ (showL x0).length + 2 := small_len _
  simp only [csz, cszL] at he
  rw [encE_mk]
  obtain ⟨Z, hZ⟩ : ∃ Z, Z = showK 17 n s t ls ns (showQ [x0]) := ⟨_, rfl⟩
  rw [← hZ]
  simp [showK, showQ, txQ, smQ, headK] at hZ
  clear ih ihs hsh
  generalize smallT (kdE x0, showL x0) = X0 at *
  have kh := fun σ => k_Head (k := 17) (p := p) (n := n) (s := s) (t := t) (ls := ls) (ns := ns) (l := [x0]) (σ := σ) (by omega)
  rw [encE_mk] at kh
  simp [headK] at kh
  refine acalls_fit Tryz.func31 (by kernel_rfl) c31 rfl (by simp [a31]) fun hf => ?_
  clear hf
  simp -implicitDefEqProofs (maxSteps := 2000000) (disch := omega) [-getElem?_pos, a31]
  refine (kh _).then fun r hr => ?_
  subst hr
  simp -implicitDefEqProofs (maxSteps := 2000000) (disch := omega) [-getElem?_pos]
  repeat refine ⟨by omega, ?_⟩
  refine (h0 _).then fun r hr => ?_
  subst hr
  simp -implicitDefEqProofs (maxSteps := 2000000) (disch := omega) [-getElem?_pos]
  repeat refine ⟨by omega, ?_⟩
  exact .fin _ ⟨by rw [hZ] <;> simp, rfl⟩ (.refl _)
theorem tx_18 {p n : Int} {s t : Str} {ls ns : List Str} {l : List Ex} {σ : Sg} (he : csz (.mk 18 p n s t ls ns l) ≤ 1048576) (hl : l.length = 1)
    (hsh : ∀ x ∈ l, (showL x).length ≤ 8 * csz x)
    (ih : ∀ x ∈ l, ∀ σ, ACalls Tryz.prog 31 [.v (encE x)] σ fun r σ' => r = .v (.str (showL x)) ∧ σ' = σ)
    (ihs : ∀ x ∈ l, ∀ σ, ACalls Tryz.prog 56 [.v (encE x)] σ fun r σ' => r = .v (.str (smallT (kdE x, showL x))) ∧ σ' = σ) :
    ACalls Tryz.prog 31 [.v (encE (.mk 18 p n s t ls ns l))] σ fun r σ' => r = .v (.str (showK 18 n s t ls ns (showQ l))) ∧ σ' = σ := by
  obtain ⟨x0, rfl⟩ := len1 hl
  have h0 := ihs x0 (by simp)
  have b0 := hsh x0 (by simp)
  have s0 : (smallT (kdE x0, showL x0)).length ≤ (showL x0).length + 2 := small_len _
  simp only [csz, cszL] at he
  rw [encE_mk]
  obtain ⟨Z, hZ⟩ : ∃ Z, Z = showK 18 n s t ls ns (showQ [x0]) := ⟨_, rfl⟩
  rw [← hZ]
  simp [showK, showQ, txQ, smQ, headK] at hZ
  clear ih ihs hsh
  generalize smallT (kdE x0, showL x0) = X0 at *
  have kh := fun σ => k_Head (k := 18) (p := p) (n := n) (s := s) (t := t) (ls := ls) (ns := ns) (l := [x0]) (σ := σ) (by omega)
  rw [encE_mk] at kh
  simp [headK] at kh
  refine acalls_fit Tryz.func31 (by kernel_rfl) c31 rfl (by simp [a31]) fun hf => ?_
  clear hf
  simp -implicitDefEqProofs (maxSteps := 2000000) (disch := omega) [-getElem?_pos, a31]
  refine (kh _).then fun r hr => ?_
  subst hr
  simp -implicitDefEqProofs (maxSteps := 2000000) (disch := omega) [-getElem?_pos]
  repeat refine ⟨by omega, ?_⟩
  refine (h0 _).then fun r hr => ?_
  subst hr
  simp -implicitDefEqProofs (maxSteps := 2000000) (disch := omega) [-getElem?_pos]
  repeat refine ⟨by omega, ?_⟩
  exact .fin _ ⟨by rw [hZ] <;> simp, rfl⟩ (.refl _)
theorem tx_20 {p n : Int} {s t : Str} {ls ns : List Str} {l : List Ex} {σ : Sg} (he : csz (.mk 20 p n s t ls ns l) ≤ 1048576) (hl : l.length = 1)
    (hsh : ∀ x ∈ l, (showL x).length ≤ 8 * csz x)
    (ih : ∀ x ∈ l, ∀ σ, ACalls Tryz.prog 31 [.v (encE x)] σ fun r σ' => r = .v (.str (showL x)) ∧ σ' = σ)
    (ihs : ∀ x ∈ l, ∀ σ, ACalls Tryz.prog 56 [.v (encE x)] σ fun r σ' => r = .v (.str (smallT (kdE x, showL x))) ∧ σ' = σ) :
    ACalls Tryz.prog 31 [.v (encE (.mk 20 p n s t ls ns l))] σ fun r σ' => r = .v (.str (showK 20 n s t ls ns (showQ l))) ∧ σ' = σ := by
  obtain ⟨x0, rfl⟩ := len1 hl
  have h0 := ihs x0 (by simp)
  have b0 := hsh x0 (by simp)
  have s0 : (smallT (kdE x0, showL x0)).length ≤ (showL x0).length + 2 := small_len _
  simp only [csz, cszL] at he
  rw [encE_mk]
  obtain ⟨Z, hZ⟩ : ∃ Z, Z = showK 20 n s t ls ns (showQ [x0]) := ⟨_, rfl⟩
  rw [← hZ]
  simp [showK, showQ, txQ, smQ, headK] at hZ
  clear ih ihs hsh
  generalize smallT (kdE x0, showL x0) = X0 at *
  have kh := fun σ => k_Head (k := 20) (p := p) (n := n) (s := s) (t := t) (ls := ls) (ns := ns) (l := [x0]) (σ := σ) (by omega)
  rw [encE_mk] at kh
  simp [headK] at kh
  refine acalls_fit Tryz.func31 (by kernel_rfl) c31 rfl (by simp [a31]) fun hf => ?_
  clear hf
  simp -implicitDefEqProofs (maxSteps := 2000000) (disch := omega) [-getElem?_pos, a31]
  refine (kh _).then fun r hr => ?_
  subst hr
  simp -implicitDefEqProofs (maxSteps := 2000000) (disch := omega) [-getElem?_pos]
  repeat refine ⟨by omega, ?_⟩
  refine (h0 _).then fun r hr => ?_
  subst hr
  simp -implicitDefEqProofs (maxSteps := 2000000) (disch := omega) [-getElem?_pos]
  repeat refine ⟨by omega, ?_⟩
  exact .fin _ ⟨by rw [hZ] <;> simp, rfl⟩ (.refl _)
theorem tx_21 {p n : Int} {s t : Str} {ls ns : List Str} {l : List Ex} {σ : Sg} (he : csz (.mk 21 p n s t ls ns l) ≤ 1048576) (hl : l.length = 1)
    (hsh : ∀ x ∈ l, (showL x).length ≤ 8 * csz x)
    (ih : ∀ x ∈ l, ∀ σ, ACalls Tryz.prog 31 [.v (encE x)] σ fun r σ' => r = .v (.str (showL x)) ∧ σ' = σ)
    (ihs : ∀ x ∈ l, ∀ σ, ACalls Tryz.prog 56 [.v (encE x)] σ fun r σ' => r = .v (.str (smallT (kdE x, showL x))) ∧ σ' = σ) :
    ACalls Tryz.prog 31 [.v (encE (.mk 21 p n s t ls ns l))] σ fun r σ' => r = .v (.str (showK 21 n s t ls ns (showQ l))) ∧ σ' = σ := by
  obtain ⟨x0, rfl⟩ := len1 hl
  have h0 := ihs x0 (by simp)
  have b0 := hsh x0 (by simp)
  have s0 : (smallT (kdE x0, showL x0)).length ≤ (showL x0).length + 2 := small_len _
  simp only [csz, cszL] at he
  rw [encE_mk]
  obtain ⟨Z, hZ⟩ : ∃ Z, Z = showK 21 n s t ls ns (showQ [x0]) := ⟨_, rfl⟩
  rw [← hZ]
  simp [showK, showQ, txQ, smQ, headK] at hZ
  clear ih ihs hsh
  generalize smallT (kdE x0, showL x0) = X0 at *
  have kh := fun σ => k_Head (k := 21) (p := p) (n := n) (s := s) (t := t) (ls := ls) (ns := ns) (l := [x0]) (σ := σ) (by omega)
  rw [encE_mk] at kh
  simp [headK] at kh
  refine acalls_fit Tryz.func31 (by kernel_rfl) c31 rfl (by simp [a31]) fun hf => ?_
  clear hf
  simp -implicitDefEqProofs (maxSteps := 2000000) (disch := omega) [-getElem?_pos, a31]
  refine (kh _).then fun r hr => ?_
  subst hr
  simp -implicitDefEqProofs (maxSteps := 2000000) (disch := omega) [-getElem?_pos]
  repeat refine ⟨by omega, ?_⟩
  refine (h0 _).then fun r hr => ?_
  subst hr
  simp -implicitDefEqProofs (maxSteps := 2000000) (disch := omega) [-getElem?_pos]
  repeat refine ⟨by omega, ?_⟩
  exact .fin _ ⟨by rw [hZ] <;> simp, rfl⟩ (.refl _)
theorem tx_3 {p n : Int} {s t : Str} {ls ns : List Str} {l : List Ex} {σ : Sg} (he : csz (.mk 3 p n s t ls ns l) ≤ 1048576) (hl : l.length = 0)
    (hsh : ∀ x ∈ l, (showL x).length ≤ 8 * csz x)
    (ih : ∀ x ∈ l, ∀ σ, ACalls Tryz.prog 31 [.v (encE x)] σ fun r σ' => r = .v (.str (showL x)) ∧ σ' = σ)
    (ihs : ∀ x ∈ l, ∀ σ, ACalls Tryz.prog 56 [.v (encE x)] σ fun r σ' => r = .v (.str (smallT (kdE x, showL x))) ∧ σ' = σ) :
    ACalls Tryz.prog 31 [.v (encE (.mk 3 p n s t ls ns l))] σ fun r σ' => r = .v (.str (showK 3 n s t ls ns (showQ l))) ∧ σ' = σ := by
  obtain rfl := List.length_eq_zero_iff.1 hl
  simp only [csz, cszL] at he
  rw [encE_mk]
  obtain ⟨Z, hZ⟩ : ∃ Z, Z = showK 3 n s t ls ns (showQ []) := ⟨_, rfl⟩
  rw [← hZ]
  simp [showK, showQ, txQ, smQ, headK] at hZ
  clear ih ihs hsh
  refine acalls_fit Tryz.func31 (by kernel_rfl) c31 rfl (by simp [a31]) fun hf => ?_
  clear hf
  simp -implicitDefEqProofs (maxSteps := 2000000) (disch := omega) [-getElem?_pos, a31]
  repeat refine ⟨by omega, ?_⟩
  exact .fin _ ⟨by rw [hZ] <;> simp, rfl⟩ (.refl _)
theorem tx_22 {p n : Int} {s t : Str} {ls ns : List Str} {l : List Ex} {σ : Sg} (he : csz (.mk 22 p n s t ls ns l) ≤ 1048576) (hl : l.length = 0)
    (hsh : ∀ x ∈ l, (showL x).length ≤ 8 * csz x)
    (ih : ∀ x ∈ l, ∀ σ, ACalls Tryz.prog 31 [.v (encE x)] σ fun r σ' => r = .v (.str (showL x)) ∧ σ' = σ)
    (ihs : ∀ x ∈ l, ∀ σ, ACalls Tryz.prog 56 [.v (encE x)] σ fun r σ' => r = .v (.str (smallT (kdE x, showL x))) ∧ σ' = σ) :
    ACalls Tryz.prog 31 [.v (encE (.mk 22 p n s t ls ns l))] σ fun r σ' => r = .v (.str (showK 22 n s t ls ns (showQ l))) ∧ σ' = σ := by
  obtain rfl := List.length_eq_zero_iff.1 hl
  simp only [csz, cszL] at he
  rw [encE_mk]
  obtain ⟨Z, hZ⟩ : ∃ Z, Z = showK 22 n s t ls ns (showQ []) := ⟨_, rfl⟩
  rw [← hZ]
  simp [showK, showQ, txQ, smQ, headK] at hZ
  clear ih ihs hsh
  refine acalls_fit Tryz.func31 (by kernel_rfl) c31 rfl (by simp [a31]) fun hf => ?_
  clear hf
  simp -implicitDefEqProofs (maxSteps := 2000000) (disch := omega) [-getElem?_pos, a31]
  repeat refine ⟨by omega, ?_⟩
  exact .fin _ ⟨by rw [hZ] <;> simp, rfl⟩ (.refl _)
end Go.Proofs.YtpdeaekmgljeaaaGreatDoor

/-
  Expressions as text: the document's word, plain kinds. (Own work; printed by program.)
-/
set_option linter.unusedVariables false
set_option linter.unusedSimpArgs false
namespace Go.Proofs.YtpdeaekmgljeaaaGreatDoor
open Go Go.Abs

theorem rx_4 {p n : Int} {s t : Str} {ls ns : List Str} {l : List Ex} {σ : Sg} (he : csz (.mk 4 p n s t ls ns l) ≤ 1048576) (hl : l.length = 1)
    (hsh : ∀ x ∈ l, (showL x).length ≤ 8 * csz x)
    (ih : ∀ x ∈ l, ∀ σ, ACalls Tryz.prog 12 [.v (encE x)] σ fun r σ' => r = .v (.str (showL x)) ∧ σ' = σ)
    (ihs : ∀ x ∈ l, ∀ σ, ACalls Tryz.prog 37 [.v (encE x)] σ fun r σ' => r = .v (.str (smallT (kdE x, showL x))) ∧ σ' = σ) :
    ACalls Tryz.prog 12 [.v (encE (.mk 4 p n s t ls ns l))] σ fun r σ' => r = .v (.str (showK 4 n s t ls ns (showQ l))) ∧ σ' = σ := by
  obtain ⟨x0, rfl⟩ := len1 hl
  have h0 := ih x0 (by simp)
  have b0 := hsh x0 (by simp)
  have s0 : (smallT (kdE x0, showL x0)).length ≤ (showL x0).length + 2 := small_len _
  simp only [csz, cszL] at he
  rw [encE_mk]
  obtain ⟨Z, hZ⟩ : ∃ Z, Z = showK 4 n s t ls ns (showQ [x0]) := ⟨_, rfl⟩
  rw [← hZ]
  simp [showK, showQ, txQ, smQ, headK] at hZ
  clear ih ihs hsh
  generalize showL x0 = X0 at *
  refine acalls_fit Tryz.func12 (by kernel_rfl) c12 rfl (by simp [a12]) fun hf => ?_
  clear hf
  simp -implicitDefEqProofs (maxSteps := 2000000) (disch := omega) [-getElem?_pos, a12]
  repeat refine ⟨by omega, ?_⟩
  refine (h0 _).then fun r hr => ?_
  subst hr
  simp -implicitDefEqProofs (maxSteps := 2000000) (disch := omega) [-getElem?_pos]
  repeat refine ⟨by omega, ?_⟩
  exact .fin _ ⟨by rw [hZ] <;> simp, rfl⟩ (.refl _)
theorem rx_5 {p n : Int} {s t : Str} {ls ns : List Str} {l : List Ex} {σ : Sg} (he : csz (.mk 5 p n s t ls ns l) ≤ 1048576) (hl : l.length = 2)
    (hsh : ∀ x ∈ l, (showL x).length ≤ 8 * csz x)
    (ih : ∀ x ∈ l, ∀ σ, ACalls Tryz.prog 12 [.v (encE x)] σ fun r σ' => r = .v (.str (showL x)) ∧ σ' = σ)
    (ihs : ∀ x ∈ l, ∀ σ, ACalls Tryz.prog 37 [.v (encE x)] σ fun r σ' => r = .v (.str (smallT (kdE x, showL x))) ∧ σ' = σ) :
    ACalls Tryz.prog 12 [.v (encE (.mk 5 p n s t ls ns l))] σ fun r σ' => r = .v (.str (showK 5 n s t ls ns (showQ l))) ∧ σ' = σ := by
  obtain ⟨x0, x1, rfl⟩ := len2 hl
  have h0 := ihs x0 (by simp)
  have b0 := hsh x0 (by simp)
  have s0 : (smallT (kdE x0, showL x0)).length ≤ (showL x0).length + 2 := small_len _
  have h1 := ihs x1 (by simp)
  have b1 := hsh x1 (by simp)
  have s1 : (smallT (kdE x1, showL x1)).length ≤ (showL x1).length + 2 := small_len _
  simp only [csz, cszL] at he
  rw [encE_mk]
  obtain ⟨Z, hZ⟩ : ∃ Z, Z = showK 5 n s t ls ns (showQ [x0, x1]) := ⟨_, rfl⟩
  rw [← hZ]
  simp [showK, showQ, txQ, smQ, headK] at hZ
  clear ih ihs hsh
  generalize smallT (kdE x0, showL x0) = X0 at *
  generalize smallT (kdE x1, showL x1) = X1 at *
  refine acalls_fit Tryz.func12 (by kernel_rfl) c12 rfl (by simp [a12]) fun hf => ?_
  clear hf
  simp -implicitDefEqProofs (maxSteps := 2000000) (disch := omega) [-getElem?_pos, a12]
  repeat refine ⟨by omega, ?_⟩
  refine (h0 _).then fun r hr => ?_
  subst hr
  simp -implicitDefEqProofs (maxSteps := 2000000) (disch := omega) [-getElem?_pos]
  repeat refine ⟨by omega, ?_⟩
  refine (h1 _).then fun r hr => ?_
  subst hr
  simp -implicitDefEqProofs (maxSteps := 2000000) (disch := omega) [-getElem?_pos]
  repeat refine ⟨by omega, ?_⟩
  exact .fin _ ⟨by rw [hZ] <;> simp, rfl⟩ (.refl _)
theorem rx_6 {p n : Int} {s t : Str} {ls ns : List Str} {l : List Ex} {σ : Sg} (he : csz (.mk 6 p n s t ls ns l) ≤ 1048576) (hl : l.length = 2)
    (hsh : ∀ x ∈ l, (showL x).length ≤ 8 * csz x)
    (ih : ∀ x ∈ l, ∀ σ, ACalls Tryz.prog 12 [.v (encE x)] σ fun r σ' => r = .v (.str (showL x)) ∧ σ' = σ)
    (ihs : ∀ x ∈ l, ∀ σ, ACalls Tryz.prog 37 [.v (encE x)] σ fun r σ' => r = .v (.str (smallT (kdE x, showL x))) ∧ σ' = σ) :
    ACalls Tryz.prog 12 [.v (encE (.mk 6 p n s t ls ns l))] σ fun r σ' => r = .v (.str (showK 6 n s t ls ns (showQ l))) ∧ σ' = σ := by
  obtain ⟨x0, x1, rfl⟩ := len2 hl
  have h0 := ih x0 (by simp)
  have b0 := hsh x0 (by simp)
  have s0 : (smallT (kdE x0, showL x0)).length ≤ (showL x0).length + 2 := small_len _
  have h1 := ih x1 (by simp)
  have b1 := hsh x1 (by simp)
  have s1 : (smallT (kdE x1, showL x1)).length ≤ (showL x1).length + 2 := small_len _
  simp only [csz, cszL] at he
  rw [encE_mk]
  obtain ⟨Z, hZ⟩ : ∃ Z, Z = showK 6 n s t ls ns (showQ [x0, x1]) := ⟨_, rfl⟩
  rw [← hZ]
  simp [showK, showQ, txQ, smQ, headK] at hZ
  clear ih ihs hsh
  generalize showL x0 = X0 at *
  generalize showL x1 = X1 at *
  refine acalls_fit Tryz.func12 (by kernel_rfl) c12 rfl (by simp [a12]) fun hf => ?_
  clear hf
  simp -implicitDefEqProofs (maxSteps := 2000000) (disch := omega) [-getElem?_pos, a12]
  repeat refine ⟨by omega, ?_⟩
  refine (h0 _).then fun r hr => ?_
  subst hr
  simp -implicitDefEqProofs (maxSteps := 2000000) (disch := omega) [-getElem?_pos]
  repeat refine ⟨by omega, ?_⟩
  refine (h1 _).then fun r hr => ?_
  subst hr
  simp -implicitDefEqProofs (maxSteps := 2000000) (disch := omega) [-getElem?_pos]
  repeat refine ⟨by omega, ?_⟩
  exact .fin _ ⟨by rw [hZ] <;> simp, rfl⟩ (.refl _)
theorem rx_7 {p n : Int} {s t : Str} {ls ns : List Str} {l : List Ex} {σ : Sg} (he : csz (.mk 7 p n s t ls ns l) ≤ 1048576) (hl : l.length = 2)
    (hsh : ∀ x ∈ l, (showL x).length ≤ 8 * csz x)
    (ih : ∀ x ∈ l, ∀ σ, ACalls Tryz.prog 12 [.v (encE x)] σ fun r σ' => r = .v (.str (showL x)) ∧ σ' = σ)
    (ihs : ∀ x ∈ l, ∀ σ, ACalls Tryz.prog 37 [.v (encE x)] σ fun r σ' => r = .v (.str (smallT (kdE x, showL x))) ∧ σ' = σ) :
    ACalls Tryz.prog 12 [.v (encE (.mk 7 p n s t ls ns l))] σ fun r σ' => r = .v (.str (showK 7 n s t ls ns (showQ l))) ∧ σ' = σ := by
  obtain ⟨x0, x1, rfl⟩ := len2 hl
  have h0 := ih x0 (by simp)
  have b0 := hsh x0 (by simp)
  have s0 : (smallT (kdE x0, showL x0)).length ≤ (showL x0).length + 2 := small_len _
  have h1 := ih x1 (by simp)
  have b1 := hsh x1 (by simp)
  have s1 : (smallT (kdE x1, showL x1)).length ≤ (showL x1).length + 2 := small_len _
  simp only [csz, cszL] at he
  rw [encE_mk]
  obtain ⟨Z, hZ⟩ : ∃ Z, Z = showK 7 n s t ls ns (showQ [x0, x1]) := ⟨_, rfl⟩
  rw [← hZ]
  simp [showK, showQ, txQ, smQ, headK] at hZ
  clear ih ihs hsh
  generalize showL x0 = X0 at *
  generalize showL x1 = X1 at *
  refine acalls_fit Tryz.func12 (by kernel_rfl) c12 rfl (by simp [a12]) fun hf => ?_
  clear hf
  simp -implicitDefEqProofs (maxSteps := 2000000) (disch := omega) [-getElem?_pos, a12]
  repeat refine ⟨by omega, ?_⟩
  refine (h0 _).then fun r hr => ?_
  subst hr
  simp -implicitDefEqProofs (maxSteps := 2000000) (disch := omega) [-getElem?_pos]
  repeat refine ⟨by omega, ?_⟩
  refine (h1 _).then fun r hr => ?_
  subst hr
  simp -implicitDefEqProofs (maxSteps := 2000000) (disch := omega) [-getElem?_pos]
  repeat refine ⟨by omega, ?_⟩
  exact .fin _ ⟨by rw [hZ] <;> simp, rfl⟩ (.refl _)
theorem rx_9 {p n : Int} {s t : Str} {ls ns : List Str} {l : List Ex} {σ : Sg} (he : csz (.mk 9 p n s t ls ns l) ≤ 1048576) (hl : l.length = 1)
    (hsh : ∀ x ∈ l, (showL x).length ≤ 8 * csz x)
    (ih : ∀ x ∈ l, ∀ σ, ACalls Tryz.prog 12 [.v (encE x)] σ fun r σ' => r = .v (.str (showL x)) ∧ σ' = σ)
    (ihs : ∀ x ∈ l, ∀ σ, ACalls Tryz.prog 37 [.v (encE x)] σ fun r σ' => r = .v (.str (smallT (kdE x, showL x))) ∧ σ' = σ) :
    ACalls Tryz.prog 12 [.v (encE (.mk 9 p n s t ls ns l))] σ fun r σ' => r = .v (.str (showK 9 n s t ls ns (showQ l))) ∧ σ' = σ := by
  obtain ⟨x0, rfl⟩ := len1 hl
  have h0 := ihs x0 (by simp)
  have b0 := hsh x0 (by simp)
  have s0 : (smallT (kdE x0, showL x0)).length ≤ (showL x0).length + 2 := small_len _
  simp only [csz, cszL] at he
  rw [encE_mk]
  obtain ⟨Z, hZ⟩ : ∃ Z, Z = showK 9 n s t ls ns (showQ [x0]) := ⟨_, rfl⟩
  rw [← hZ]
  simp [showK, showQ, txQ, smQ, headK] at hZ
  clear ih ihs hsh
  generalize smallT (kdE x0, showL x0) = X0 at *
  refine acalls_fit Tryz.func12 (by kernel_rfl) c12 rfl (by simp [a12]) fun hf => ?_
  clear hf
  simp -implicitDefEqProofs (maxSteps := 2000000) (disch := omega) [-getElem?_pos, a12]
  repeat refine ⟨by omega, ?_⟩
  refine (h0 _).then fun r hr => ?_
  subst hr
  simp -implicitDefEqProofs (maxSteps := 2000000) (disch := omega) [-getElem?_pos]
  repeat refine ⟨by omega, ?_⟩
  exact .fin _ ⟨by rw [hZ] <;> simp, rfl⟩ (.refl _)
theorem rx_10 {p n : Int} {s t : Str} {ls ns : List Str} {l : List Ex} {σ : Sg} (he : csz (.mk 10 p n s t ls ns l) ≤ 1048576) (hl : l.length = 2)
    (hsh : ∀ x ∈ l, (showL x).length ≤ 8 * csz x)
    (ih : ∀ x ∈ l, ∀ σ, ACalls Tryz.prog 12 [.v (encE x)] σ fun r σ' => r = .v (.str (showL x)) ∧ σ' = σ)
    (ihs : ∀ x ∈ l, ∀ σ, ACalls Tryz.prog 37 [.v (encE x)] σ fun r σ' => r = .v (.str (smallT (kdE x, showL x))) ∧ σ' = σ) :
    ACalls Tryz.prog 12 [.v (encE (.mk 10 p n s t ls ns l))] σ fun r σ' => r = .v (.str (showK 10 n s t ls ns (showQ l))) ∧ σ' = σ := by
  obtain ⟨x0, x1, rfl⟩ := len2 hl
  have h0 := ih x0 (by simp)
  have b0 := hsh x0 (by simp)
  have s0 : (smallT (kdE x0, showL x0)).length ≤ (showL x0).length + 2 := small_len _
  have h1 := ih x1 (by simp)
  have b1 := hsh x1 (by simp)
  have s1 : (smallT (kdE x1, showL x1)).length ≤ (showL x1).length + 2 := small_len _
  simp only [csz, cszL] at he
  rw [encE_mk]
  obtain ⟨Z, hZ⟩ : ∃ Z, Z = showK 10 n s t ls ns (showQ [x0, x1]) := ⟨_, rfl⟩
  rw [← hZ]
  simp [showK, showQ, txQ, smQ, headK] at hZ
  clear ih ihs hsh
  generalize showL x0 = X0 at *
  generalize showL x1 = X1 at *
  refine acalls_fit Tryz.func12 (by kernel_rfl) c12 rfl (by simp [a12]) fun hf => ?_
  clear hf
  simp -implicitDefEqProofs (maxSteps := 2000000) (disch := omega) [-getElem?_pos, a12]
  repeat refine ⟨by omega, ?_⟩
  refine (h0 _).then fun r hr => ?_
  subst hr
  simp -implicitDefEqProofs (maxSteps := 2000000) (disch := omega) [-getElem?_pos]
  repeat refine ⟨by omega, ?_⟩
  refine (h1 _).then fun r hr => ?_
  subst hr
  simp -implicitDefEqProofs (maxSteps := 2000000) (disch := omega) [-getElem?_pos]
  repeat refine ⟨by omega, ?_⟩
  exact .fin _ ⟨by rw [hZ] <;> simp, rfl⟩ (.refl _)
theorem rx_11 {p n : Int} {s t : Str} {ls ns : List Str} {l : List Ex} {σ : Sg} (he : csz (.mk 11 p n s t ls ns l) ≤ 1048576) (hl : l.length = 1)
    (hsh : ∀ x ∈ l, (showL x).length ≤ 8 * csz x)
    (ih : ∀ x ∈ l, ∀ σ, ACalls Tryz.prog 12 [.v (encE x)] σ fun r σ' => r = .v (.str (showL x)) ∧ σ' = σ)
    (ihs : ∀ x ∈ l, ∀ σ, ACalls Tryz.prog 37 [.v (encE x)] σ fun r σ' => r = .v (.str (smallT (kdE x, showL x))) ∧ σ' = σ) :
    ACalls Tryz.prog 12 [.v (encE (.mk 11 p n s t ls ns l))] σ fun r σ' => r = .v (.str (showK 11 n s t ls ns (showQ l))) ∧ σ' = σ := by
  obtain ⟨x0, rfl⟩ := len1 hl
  have h0 := ihs x0 (by simp)
  have b0 := hsh x0 (by simp)
  have s0 : (smallT (kdE x0, showL x0)).length ≤ (showL x0).length + 2 := small_len _
  simp only [csz, cszL] at he
  rw [encE_mk]
  obtain ⟨Z, hZ⟩ : ∃ Z, Z = showK 11 n s t ls ns (showQ [x0]) := ⟨_, rfl⟩
  rw [← hZ]
  simp [showK, showQ, txQ, smQ, headK] at hZ
  clear ih ihs hsh
  generalize smallT (kdE x0, showL x0) = X0 at *
  refine acalls_fit Tryz.func12 (by kernel_rfl) c12 rfl (by simp [a12]) fun hf => ?_
  clear hf
  simp -implicitDefEqProofs (maxSteps := 2000000) (disch := omega) [-getElem?_pos, a12]
  repeat refine ⟨by omega, ?_⟩
  refine (h0 _).then fun r hr => ?_
  subst hr
  simp -implicitDefEqProofs (maxSteps := 2000000) (disch := omega) [-getElem?_pos]
  repeat refine ⟨by omega, ?_⟩
  exact .fin _ ⟨by rw [hZ] <;> simp, rfl⟩ (.refl _)
theorem rx_12 {p n : Int} {s t : Str} {ls ns : List Str} {l : List Ex} {σ : Sg} (he : csz (.mk 12 p n s t ls ns l) ≤ 1048576) (hl : l.length = 2)
    (hsh : ∀ x ∈ l, (showL x).length ≤ 8 * csz x)
    (ih : ∀ x ∈ l, ∀ σ, ACalls Tryz.prog 12 [.v (encE x)] σ fun r σ' => r = .v (.str (showL x)) ∧ σ' = σ)
    (ihs : ∀ x ∈ l, ∀ σ, ACalls Tryz.prog 37 [.v (encE x)] σ fun r σ' => r = .v (.str (smallT (kdE x, showL x))) ∧ σ' = σ) :
    ACalls Tryz.prog 12 [.v (encE (.mk 12 p n s t ls ns l))] σ fun r σ' => r = .v (.str (showK 12 n s t ls ns (showQ l))) ∧ σ' = σ := by
  obtain ⟨x0, x1, rfl⟩ := len2 hl
  have h1 := ihs x1 (by simp)
  have b1 := hsh x1 (by simp)
  have s1 : (smallT (kdE x1, showL x1)).length ≤ (showL x1).length + 2 := small_len _
  have h0 := ih x0 (by simp)
  have b0 := hsh x0 (by simp)
  have s0 : (smallT (kdE x0, showL x0)).length ≤ (showL x0).length + 2 := small_len _
  simp only [csz, cszL] at he
  rw [encE_mk]
  obtain ⟨Z, hZ⟩ : ∃ Z, Z = showK 12 n s t ls ns (showQ [x0, x1]) := ⟨_, rfl⟩
  rw [← hZ]
  simp [showK, showQ, txQ, smQ, headK] at hZ
  clear ih ihs hsh
  generalize smallT (kdE x1, showL x1) = X1 at *
  generalize showL x0 = X0 at *
  refine acalls_fit Tryz.func12 (by kernel_rfl) c12 rfl (by simp [a12]) fun hf => ?_
  clear hf
  simp -implicitDefEqProofs (maxSteps := 2000000) (disch := omega) [-getElem?_pos, a12]
  repeat refine ⟨by omega, ?_⟩
  refine (h1 _).then fun r hr => ?_
  subst hr
  simp -implicitDefEqProofs (maxSteps := 2000000) (disch := omega) [-getElem?_pos]
  repeat refine ⟨by omega, ?_⟩
  refine (h0 _).then fun r hr => ?_
  subst hr
  simp -implicitDefEqProofs (maxSteps := 2000000) (disch := omega) [-getElem?_pos]
  repeat refine ⟨by omega, ?_⟩
  exact .fin _ ⟨by rw [hZ] <;> simp, rfl⟩ (.refl _)
theorem rx_15 {p n : Int} {s t : Str} {ls ns : List Str} {l : List Ex} {σ : Sg} (he : csz (.mk 15 p n s t ls ns l) ≤ 1048576) (hl : l.length = 3)
    (hsh : ∀ x ∈ l, (showL x).length ≤ 8 * csz x)
    (ih : ∀ x ∈ l, ∀ σ, ACalls Tryz.prog 12 [.v (encE x)] σ fun r σ' => r = .v (.str (showL x)) ∧ σ' = σ)
    (ihs : ∀ x ∈ l, ∀ σ, ACalls Tryz.prog 37 [.v (encE x)] σ fun r σ' => r = .v (.str (smallT (kdE x, showL x))) ∧ σ' = σ) :
    ACalls Tryz.prog 12 [.v (encE (.mk 15 p n s t ls ns l))] σ fun r σ' => r = .v (.str (showK 15 n s t ls ns (showQ l))) ∧ σ' = σ := by
  obtain ⟨x0, x1, x2, rfl⟩ := len3 hl
  have h0 := ih x0 (by simp)
  have b0 := hsh x0 (by simp)
  have s0 : (smallT (kdE x0, showL x0)).length ≤ (showL x0).length + 2 := small_len _
  have h1 := ih x1 (by simp)
  have b1 := hsh x1 (by simp)
  have s1 : (smallT (kdE x1, showL x1)).length ≤ (showL x1).length + 2 := small_len _
  have h2 := ih x2 (by simp)
  have b2 := hsh x2 (by simp)
  have s2 : (smallT (kdE x2, showL x2)).length ≤ (showL x2).length + 2 := small_len _
  simp only [csz, cszL] at he
  rw [encE_mk]
  obtain ⟨Z, hZ⟩ : ∃ Z, Z = showK 15 n s t ls ns (showQ [x0, x1, x2]) := ⟨_, rfl⟩
  rw [← hZ]
  simp [showK, showQ, txQ, smQ, headK] at hZ
  clear ih ihs hsh
  generalize showL x0 = X0 at *
  generalize showL x1 = X1 at *
  generalize showL x2 = X2 at *
  refine acalls_fit Tryz.func12 (by kernel_rfl) c12 rfl (by simp [a12]) fun hf => ?_
  clear hf
  simp -implicitDefEqProofs (maxSteps := 2000000) (disch := omega) [-getElem?_pos, a12]
  repeat refine ⟨by omega, ?_⟩
  refine (h0 _).then fun r hr => ?_
  subst hr
  simp -implicitDefEqProofs (maxSteps := 2000000) (disch := omega) [-getElem?_pos]
  repeat refine ⟨by omega, ?_⟩
  refine (h1 _).then fun r hr => ?_
  subst hr
  simp -implicitDefEqProofs (maxSteps := 2000000) (disch := omega) [-getElem?_pos]
  repeat refine ⟨by omega, ?_⟩
  refine (h2 _).then fun r hr => ?_
  subst hr
  simp -implicitDefEqProofs (maxSteps := 2000000) (disch := omega) [-getElem?_pos]
  repeat refine ⟨by omega, ?_⟩
  exact .fin _ ⟨by rw [hZ] <;> simp, rfl⟩ (.refl _)
theorem rx_16 {p n : Int} {s t : Str} {ls ns : List Str} {l : List Ex} {σ : Sg} (he : csz (.mk 16 p n s t ls ns l) ≤ 1048576) (hl : l.length = 2)
    (hsh : ∀ x ∈ l, (showL x).length ≤ 8 * csz x)
    (ih : ∀ x ∈ l, ∀ σ, ACalls Tryz.prog 12 [.v (encE x)] σ fun r σ' => r = .v (.str (showL x)) ∧ σ' = σ)
    (ihs : ∀ x ∈ l, ∀ σ, ACalls Tryz.prog 37 [.v (encE x)] σ fun r σ' => r = .v (.str (smallT (kdE x, showL x))) ∧ σ' = σ) :
    ACalls Tryz.prog 12 [.v (encE (.mk 16 p n s t ls ns l))] σ fun r σ' => r = .v (.str (showK 16 n s t ls ns (showQ l))) ∧ σ' = σ := by
  obtain ⟨x0, x1, rfl⟩ := len2 hl
  have h0 := ihs x0 (by simp)
  have b0 := hsh x0 (by simp)
  have s0 : (smallT (kdE x0, showL x0)).length ≤ (showL x0).length + 2 := small_len _
  have h1 := ihs x1 (by simp)
  have b1 := hsh x1 (by simp)
  have s1 : (smallT (kdE x1, showL x1)).length ≤ (showL x1).length + 2 := small_len _
  simp only [csz, cszL] at he
  rw [encE_mk]
  obtain ⟨Z, hZ⟩ : ∃ Z, Z = showK 16 n s t ls ns (showQ [x0, x1]) := ⟨_, rfl⟩
  rw [← hZ]
  simp [showK, showQ, txQ, smQ, headK] at hZ
  clear ih ihs hsh
  generalize smallT (kdE x0, showL x0) = X0 at *
  generalize smallT (kdE x1, showL x1) = X1 at *
  refine acalls_fit Tryz.func12 (by kernel_rfl) c12 rfl (by simp [a12]) fun hf => ?_
  clear hf
  simp -implicitDefEqProofs (maxSteps := 2000000) (disch := omega) [-getElem?_pos, a12]
  repeat refine ⟨by omega, ?_⟩
  refine (h0 _).then fun r hr => ?_
  subst hr
  simp -implicitDefEqProofs (maxSteps := 2000000) (disch := omega) [-getElem?_pos]
  repeat refine ⟨by omega, ?_⟩
  refine (h1 _).then fun r hr => ?_
  subst hr
  simp -implicitDefEqProofs (maxSteps := 2000000) (disch := omega) [-getElem?_pos]
  repeat refine ⟨by omega, ?_⟩
  exact .fin _ ⟨by rw [hZ] <;> simp, rfl⟩ (.refl _)
theorem rx_19 {p n : Int} {s t : Str} {ls ns : List Str} {l : List Ex} {σ : Sg} (he : csz (.mk 19 p n s t ls ns l) ≤ 1048576) (hl : l.length = 2)
    (hsh : ∀ x ∈ l, (showL x).length ≤ 8 * csz x)
    (ih : ∀ x ∈ l, ∀ σ, ACalls Tryz.prog 12 [.v (encE x)] σ fun r σ' => r = .v (.str (showL x)) ∧ σ' = σ)
    (ihs : ∀ x ∈ l, ∀ σ, ACalls Tryz.prog 37 [.v (encE x)] σ fun r σ' => r = .v (.str (smallT (kdE x, showL x))) ∧ σ' = σ) :
    ACalls Tryz.prog 12 [.v (encE (.mk 19 p n s t ls ns l))] σ fun r σ' => r = .v (.str (showK 19 n s t ls ns (showQ l))) ∧ σ' = σ := by
  obtain ⟨x0, x1, rfl⟩ := len2 hl
  have h0 := ihs x0 (by simp)
  have b0 := hsh x0 (by simp)
  have s0 : (smallT (kdE x0, showL x0)).length ≤ (showL x0).length + 2 := small_len _
  have h1 := ihs x1 (by simp)
  have b1 := hsh x1 (by simp)
  have s1 : (smallT (kdE x1, showL x1)).length ≤ (showL x1).length + 2 := small_len _
  simp only [csz, cszL] at he
  rw [encE_mk]
  obtain ⟨Z, hZ⟩ : ∃ Z, Z = showK 19 n s t ls ns (showQ [x0, x1]) := ⟨_, rfl⟩
  rw [← hZ]
  simp [showK, showQ, txQ, smQ, headK] at hZ
  clear ih ihs hsh
  generalize smallT (kdE x0, showL x0) = X0 at *
  generalize smallT (kdE x1, showL x1) = X1 at *
  refine acalls_fit Tryz.func12 (by kernel_rfl) c12 rfl (by simp [a12]) fun hf => ?_
  clear hf
  simp -implicitDefEqProofs (maxSteps := 2000000) (disch := omega) [-getElem?_pos, a12]
  repeat refine ⟨by omega, ?_⟩
  refine (h0 _).then fun r hr => ?_
  subst hr
  simp -implicitDefEqProofs (maxSteps := 2000000) (disch := omega) [-getElem?_pos]
  repeat refine ⟨by omega, ?_⟩
  refine (h1 _).then fun r hr => ?_
  subst hr
  simp -implicitDefEqProofs (maxSteps := 2000000) (disch := omega) [-getElem?_pos]
  repeat refine ⟨by omega, ?_⟩
  exact .fin _ ⟨by rw [hZ] <;> simp, rfl⟩ (.refl _)
theorem rx_13 {p n : Int} {s t : Str} {ls ns : List Str} {l : List Ex} {σ : Sg} (he : csz (.mk 13 p n s t ls ns l) ≤ 1048576) (hl : l.length = 1)
    (hsh : ∀ x ∈ l, (showL x).length ≤ 8 * csz x)
    (ih : ∀ x ∈ l, ∀ σ, ACalls Tryz.prog 12 [.v (encE x)] σ fun r σ' => r = .v (.str (showL x)) ∧ σ' = σ)
    (ihs : ∀ x ∈ l, ∀ σ, ACalls Tryz.prog 37 [.v (encE x)] σ fun r σ' => r = .v (.str (smallT (kdE x, showL x))) ∧ σ' = σ) :
    ACalls Tryz.prog 12 [.v (encE (.mk 13 p n s t ls ns l))] σ fun r σ' => r = .v (.str (showK 13 n s t ls ns (showQ l))) ∧ σ' = σ := by
  obtain ⟨x0, rfl⟩ := len1 hl
  have h0 := ihs x0 (by simp)
  have b0 := hsh x0 (by simp)
  have s0 : (smallT (kdE x0, showL x0)).length ≤ (showL x0).length + 2 := small_len _
  simp only [csz, cszL] at he
  rw [encE_mk]
  obtain ⟨Z, hZ⟩ : ∃ Z, Z = showK 13 n s t ls ns (showQ [x0]) := ⟨_, rfl⟩
  rw [← hZ]
  simp [showK, showQ, txQ, smQ, headK] at hZ
  clear ih ihs hsh
  generalize smallT (kdE x0, showL x0) = X0 at *
  refine acalls_fit Tryz.func12 (by kernel_rfl) c12 rfl (by simp [a12]) fun hf => ?_
  clear hf
  simp -implicitDefEqProofs (maxSteps := 2000000) (disch := omega) [-getElem?_pos, a12]
  repeat refine ⟨by omega, ?_⟩
  refine (h0 _).then fun r hr => ?_
  subst hr
  simp -implicitDefEqProofs (maxSteps := 2000000) (disch := omega) [-getElem?_pos]
  repeat refine ⟨by omega, ?_⟩
  exact .fin _ ⟨by rw [hZ] <;> simp, rfl⟩ (.refl _)
theorem rx_17 {p n : Int} {s t : Str} {ls ns : List Str} {l : List Ex} {σ : Sg} (he : csz (.mk 17 p n s t ls ns l) ≤ 1048576) (hl : l.length = 1)
    (hsh : ∀ x ∈ l, (showL x).length ≤ 8 * csz x)
    (ih : ∀ x ∈ l, ∀ σ, ACalls Tryz.prog 12 [.v (encE x)] σ fun r σ' => r = .v (.str (showL x)) ∧ σ' = σ)
    (ihs : ∀ x ∈ l, ∀ σ, ACalls Tryz.prog 37 [.v (encE x)] σ fun r σ' => r = .v (.str (smallT (kdE x, showL x))) ∧ σ' = σ) :
    ACalls Tryz.prog 12 [.v (encE (.mk 17 p n s t ls ns l))] σ fun r σ' => r = .v (.str (showK 17 n s t ls ns (showQ l))) ∧ σ' = σ := by
  obtain ⟨x0, rfl⟩ := len1 hl
  have h0 := ihs x0 (by simp)
  have b0 := hsh x0 (by simp)
  have s0 : (smallT (kdE x0, showL x0)).length ≤ (showL x0).length + 2 := small_len _
  simp only [csz, cszL] at he
  rw [encE_mk]
  obtain ⟨Z, hZ⟩ : ∃ Z, Z = showK 17 n s t ls ns (showQ [x0]) := ⟨_, rfl⟩
  rw [← hZ]
  simp [showK, showQ, txQ, smQ, headK] at hZ
  clear ih ihs hsh
  generalize smallT (kdE x0, showL x0) = X0 at *
  refine acalls_fit Tryz.func12 (by kernel_rfl) c12 rfl (by simp [a12]) fun hf => ?_
  clear hf
  simp -implicitDefEqProofs (maxSteps := 2000000) (disch := omega) [-getElem?_pos, a12]
  repeat refine ⟨by omega, ?_⟩
  refine (h0 _).then fun r hr => ?_
  subst hr
  simp -implicitDefEqProofs (maxSteps := 2000000) (disch := omega) [-getElem?_pos]
  repeat refine ⟨by omega, ?_⟩
  exact .fin _ ⟨by rw [hZ] <;> simp, rfl⟩ (.refl _)
theorem rx_18 {p n : Int} {s t : Str} {ls ns : List Str} {l : List Ex} {σ : Sg} (he : csz (.mk 18 p n s t ls ns l) ≤ 1048576) (hl : l.length = 1)
    (hsh : ∀ x ∈ l, (showL x).length ≤ 8 * csz x)
    (ih : ∀ x ∈ l, ∀ σ, ACalls Tryz.prog 12 [.v (encE x)] σ fun r σ' => r = .v (.str (showL x)) ∧ σ' = σ)
    (ihs : ∀ x ∈ l, ∀ σ, ACalls Tryz.prog 37 [.v (encE x)] σ fun r σ' => r = .v (.str (smallT (kdE x, showL x))) ∧ σ' = σ) :
    ACalls Tryz.prog 12 [.v (encE (.mk 18 p n s t ls ns l))] σ fun r σ' => r = .v (.str (showK 18 n s t ls ns (showQ l))) ∧ σ' = σ := by
  obtain ⟨x0, rfl⟩ := len1 hl
  have h0 := ihs x0 (by simp)
  have b0 := hsh x0 (by simp)
  have s0 : (smallT (kdE x0, showL x0)).length ≤ (showL x0).length + 2 := small_len _
  simp only [csz, cszL] at he
  rw [encE_mk]
  obtain ⟨Z, hZ⟩ : ∃ Z, Z = showK 18 n s t ls ns (showQ [x0]) := ⟨_, rfl⟩
  rw [← hZ]
  simp [showK, showQ, txQ, smQ, headK] at hZ
  clear ih ihs hsh
  generalize smallT (kdE x0, showL x0) = X0 at *
  refine acalls_fit Tryz.func12 (by kernel_rfl) c12 rfl (by simp [a12]) fun hf => ?_
  clear hf
  simp -implicitDefEqProofs (maxSteps := 2000000) (disch := omega) [-getElem?_pos, a12]
  repeat refine ⟨by omega, ?_⟩
  refine (h0 _).then fun r hr => ?_
  subst hr
  simp -implicitDefEqProofs (maxSteps := 2000000) (disch := omega) [-getElem?_pos]
  repeat refine ⟨by omega, ?_⟩
  exact .fin _ ⟨by rw [hZ] <;> simp, rfl⟩ (.refl _)
theorem rx_20 {p n : Int} {s t : Str} {ls ns : List Str} {l : List Ex} {σ : Sg} (he : csz (.mk 20 p n s t ls ns l) ≤ 1048576) (hl : l.length = 1)
    (hsh : ∀ x ∈ l, (showL x).length ≤ 8 * csz x)
    (ih : ∀ x ∈ l, ∀ σ, ACalls Tryz.prog 12 [.v (encE x)] σ fun r σ' => r = .v (.str (showL x)) ∧ σ' = σ)
    (ihs : ∀ x ∈ l, ∀ σ, ACalls Tryz.prog 37 [.v (encE x)] σ fun r σ' => r = .v (.str (smallT (kdE x, showL x))) ∧ σ' = σ) :
    ACalls Tryz.prog 12 [.v (encE (.mk 20 p n s t ls ns l))] σ fun r σ' => r = .v (.str (showK 20 n s t ls ns (showQ l))) ∧ σ' = σ := by
  obtain ⟨x0, rfl⟩ := len1 hl
  have h0 := ihs x0 (by simp)
  have b0 := hsh x0 (by simp)
  have s0 : (smallT (kdE x0, showL x0)).length ≤ (showL x0).length + 2 := small_len _
  simp only [csz, cszL] at he
  rw [encE_mk]
  obtain ⟨Z, hZ⟩ : ∃ Z, Z = showK 20 n s t ls ns (showQ [x0]) := ⟨_, rfl⟩
  rw [← hZ]
  simp [showK, showQ, txQ, smQ, headK] at hZ
  clear ih ihs hsh
  generalize smallT (kdE x0, showL x0) = X0 at *
  refine acalls_fit Tryz.func12 (by kernel_rfl) c12 rfl (by simp [a12]) fun hf => ?_
  clear hf
  simp -implicitDefEqProofs (maxSteps := 2000000) (disch := omega) [-getElem?_pos, a12]
  repeat refine ⟨by omega, ?_⟩
  refine (h0 _).then fun r hr => ?_
  subst hr
  simp -implicitDefEqProofs (maxSteps := 2000000) (disch := omega) [-getElem?_pos]
  repeat refine ⟨by omega, ?_⟩
  exact .fin _ ⟨by rw [hZ] <;> simp, rfl⟩ (.refl _)
theorem rx_21 {p n : Int} {s t : Str} {ls ns : List Str} {l : List Ex} {σ : Sg} (he : csz (.mk 21 p n s t ls ns l) ≤ 1048576) (hl : l.length = 1)
    (hsh : ∀ x ∈ l, (showL x).length ≤ 8 * csz x)
    (ih : ∀ x ∈ l, ∀ σ, ACalls Tryz.prog 12 [.v (encE x)] σ fun r σ' => r = .v (.str (showL x)) ∧ σ' = σ)
    (ihs : ∀ x ∈ l, ∀ σ, ACalls Tryz.prog 37 [.v (encE x)] σ fun r σ' => r = .v (.str (smallT (kdE x, showL x))) ∧ σ' = σ) :
    ACalls Tryz.prog 12 [.v (encE (.mk 21 p n s t ls ns l))] σ fun r σ' => r = .v (.str (showK 21 n s t ls ns (showQ l))) ∧ σ' = σ := by
  obtain ⟨x0, rfl⟩ := len1 hl
  have h0 := ihs x0 (by simp)
  have b0 := hsh x0 (by simp)
  have s0 : (smallT (kdE x0, showL x0)).length ≤ (showL x0).length + 2 := small_len _
  simp only [csz, cszL] at he
  rw [encE_mk]
  obtain ⟨Z, hZ⟩ : ∃ Z, Z = showK 21 n s t ls ns (showQ [x0]) := ⟨_, rfl⟩
  rw [← hZ]
  simp [showK, showQ, txQ, smQ, headK] at hZ
  clear ih ihs hsh
  generalize smallT (kdE x0, showL x0) = X0 at *
  refine acalls_fit Tryz.func12 (by kernel_rfl) c12 rfl (by simp [a12]) fun hf => ?_
  clear hf
  simp -implicitDefEqProofs (maxSteps := 2000000) (disch := omega) [-getElem?_pos, a12]
  repeat refine ⟨by omega, ?_⟩
  refine (h0 _).then fun r hr => ?_
  subst hr
  simp -implicitDefEqProofs (maxSteps := 2000000) (disch := omega) [-getElem?_pos]
  repeat refine ⟨by omega, ?_⟩
  exact .fin _ ⟨by rw [hZ] <;> simp, rfl⟩ (.refl _)
theorem rx_3 {p n : Int} {s t : Str} {ls ns : List Str} {l : List Ex} {σ : Sg} (he : csz (.mk 3 p n s t ls ns l) ≤ 1048576) (hl : l.length = 0)
    (hsh : ∀ x ∈ l, (showL x).length ≤ 8 * csz x)
    (ih : ∀ x ∈ l, ∀ σ, ACalls Tryz.prog 12 [.v (encE x)] σ fun r σ' => r = .v (.str (showL x)) ∧ σ' = σ)
    (ihs : ∀ x ∈ l, ∀ σ, ACalls Tryz.prog 37 [.v (encE x)] σ fun r σ' => r = .v (.str (smallT (kdE x, showL x))) ∧ σ' = σ) :
    ACalls Tryz.prog 12 [.v (encE (.mk 3 p n s t ls ns l))] σ fun r σ' => r = .v (.str (showK 3 n s t ls ns (showQ l))) ∧ σ' = σ := by
  obtain rfl := List.length_eq_zero_iff.1 hl
  simp only [csz, cszL] at he
  rw [encE_mk]
  obtain ⟨Z, hZ⟩ : ∃ Z, Z = showK 3 n s t ls ns (showQ []) := ⟨_, rfl⟩
  rw [← hZ]
  simp [showK, showQ, txQ, smQ, headK] at hZ
  clear ih ihs hsh
  refine acalls_fit Tryz.func12 (by kernel_rfl) c12 rfl (by simp [a12]) fun hf => ?_
  clear hf
  simp -implicitDefEqProofs (maxSteps := 2000000) (disch := omega) [-getElem?_pos, a12]
  repeat refine ⟨by omega, ?_⟩
  exact .fin _ ⟨by rw [hZ] <;> simp, rfl⟩ (.refl _)
theorem rx_22 {p n : Int} {s t : Str} {ls ns : List Str} {l : List Ex} {σ : Sg} (he : csz (.mk 22 p n s t ls ns l) ≤ 1048576) (hl : l.length = 0)
    (hsh : ∀ x ∈ l, (showL x).length ≤ 8 * csz x)
    (ih : ∀ x ∈ l, ∀ σ, ACalls Tryz.prog 12 [.v (encE x)] σ fun r σ' => r = .v (.str (showL x)) ∧ σ' = σ)
    (ihs : ∀ x ∈ l, ∀ σ, ACalls Tryz.prog 37 [.v (encE x)] σ fun r σ' => r = .v (.str (smallT (kdE x, showL x))) ∧ σ' = σ) :
    ACalls Tryz.prog 12 [.v (encE (.mk 22 p n s t ls ns l))] σ fun r σ' => r = .v (.str (showK 22 n s t ls ns (showQ l))) ∧ σ' = σ := by
  obtain rfl := List.length_eq_zero_iff.1 hl
  simp only [csz, cszL] at he
  rw [encE_mk]
  obtain ⟨Z, hZ⟩ : ∃ Z, Z = showK 22 n s t ls ns (showQ []) := ⟨_, rfl⟩
  rw [← hZ]
  simp [showK, showQ, txQ, smQ, headK] at hZ
  clear ih ihs hsh
  refine acalls_fit Tryz.func12 (by kernel_rfl) c12 rfl (by simp [a12]) fun hf => ?_
  clear hf
  simp -implicitDefEqProofs (maxSteps := 2000000) (disch := omega) [-getElem?_pos, a12]
  repeat refine ⟨by omega, ?_⟩
  exact .fin _ ⟨by rw [hZ] <;> simp, rfl⟩ (.refl _)
end Go.Proofs.YtpdeaekmgljeaaaGreatDoor

/-
  Expressions as text: numbers, texts, records, matches. (Own work.)
-/
set_option linter.unusedVariables false
set_option linter.unusedSimpArgs false
namespace Go.Proofs.YtpdeaekmgljeaaaGreatDoor
open Go Go.Abs

theorem tx_1 {p n : Int} {s t : Str} {ls ns : List Str} {l : List Ex} {σ : Sg} : ACalls Tryz.prog 31 [.v (encE (.mk 1 p n s t ls ns l))] σ fun r σ' => r = .v (.str (showK 1 n s t ls ns (showQ l))) ∧ σ' = σ := by
  rw [encE_mk]
  have hZ : showK 1 n s t ls ns (showQ l) = Lib.itoa n := rfl
  rw [hZ]
  refine acalls_fit Tryz.func31 (by kernel_rfl) c31 rfl (by simp [a31]) fun hf => ?_
  clear hf
  simp -implicitDefEqProofs (maxSteps := 2000000) (disch := omega) [-getElem?_pos, a31]
  refine k_Fmt.then fun r hr => ?_
  obtain ⟨rfl, hlen⟩ := hr
  simp -implicitDefEqProofs (maxSteps := 2000000) (disch := omega) [-getElem?_pos]
  exact .fin _ ⟨rfl, rfl⟩ (.refl _)
theorem rx_1 {p n : Int} {s t : Str} {ls ns : List Str} {l : List Ex} {σ : Sg} : ACalls Tryz.prog 12 [.v (encE (.mk 1 p n s t ls ns l))] σ fun r σ' => r = .v (.str (showK 1 n s t ls ns (showQ l))) ∧ σ' = σ := by
  rw [encE_mk]
  have hZ : showK 1 n s t ls ns (showQ l) = Lib.itoa n := rfl
  rw [hZ]
  refine acalls_fit Tryz.func12 (by kernel_rfl) c12 rfl (by simp [a12]) fun hf => ?_
  clear hf
  simp -implicitDefEqProofs (maxSteps := 2000000) (disch := omega) [-getElem?_pos, a12]
  refine k_Fmt.then fun r hr => ?_
  obtain ⟨rfl, hlen⟩ := hr
  simp -implicitDefEqProofs (maxSteps := 2000000) (disch := omega) [-getElem?_pos]
  exact .fin _ ⟨rfl, rfl⟩ (.refl _)
theorem tx_2 {p n : Int} {s t : Str} {ls ns : List Str} {l : List Ex} {σ : Sg} (hs : s.length ≤ 1048576) (hq : (quoteE s).isSome = true) : ACalls Tryz.prog 31 [.v (encE (.mk 2 p n s t ls ns l))] σ fun r σ' => r = .v (.str (showK 2 n s t ls ns (showQ l))) ∧ σ' = σ := by
  have kq := fun σ => k_Quote (b := s) (σ := σ) hs
  rw [encE_mk]
  have hZ : showK 2 n s t ls ns (showQ l) = (quoteE s).getD [] := rfl
  rw [hZ]
  obtain ⟨z, hz⟩ := Option.isSome_iff_exists.1 hq
  rw [hz] at kq ⊢
  refine acalls_fit Tryz.func31 (by kernel_rfl) c31 rfl (by simp [a31]) fun hf => ?_
  clear hf
  simp -implicitDefEqProofs (maxSteps := 2000000) (disch := omega) [-getElem?_pos, a31]
  refine (kq _).then fun r hr => ?_
  replace hr : r = .tup [.v (.str z), .v .inil] := hr
  subst hr
  simp -implicitDefEqProofs (maxSteps := 2000000) (disch := omega) [-getElem?_pos]
  exact .fin _ ⟨rfl, rfl⟩ (.refl _)
theorem rx_2 {p n : Int} {s t : Str} {ls ns : List Str} {l : List Ex} {σ : Sg} (hs : s.length ≤ 1048576) (hq : (quoteE s).isSome = true) : ACalls Tryz.prog 12 [.v (encE (.mk 2 p n s t ls ns l))] σ fun r σ' => r = .v (.str (showK 2 n s t ls ns (showQ l))) ∧ σ' = σ := by
  have kq := fun σ => k_RQuote (b := s) (σ := σ) hs
  rw [encE_mk]
  have hZ : showK 2 n s t ls ns (showQ l) = (quoteE s).getD [] := rfl
  rw [hZ]
  obtain ⟨z, hz⟩ := Option.isSome_iff_exists.1 hq
  rw [hz]
  have hz2 : qL s [34] = some z := by
    unfold quoteE at hz
    split at hz
    · cases hz
    · exact hz
  rw [hz2] at kq
  refine acalls_fit Tryz.func12 (by kernel_rfl) c12 rfl (by simp [a12]) fun hf => ?_
  clear hf
  simp -implicitDefEqProofs (maxSteps := 2000000) (disch := omega) [-getElem?_pos, a12]
  refine (kq _).then fun r hr => ?_
  subst hr
  simp -implicitDefEqProofs (maxSteps := 2000000) (disch := omega) [-getElem?_pos]
  exact .fin _ ⟨rfl, rfl⟩ (.refl _)
theorem tx_14 {p n : Int} {s t : Str} {ls ns : List Str} {l : List Ex} {σ : Sg} (he : csz (.mk 14 p n s t ls ns l) ≤ 1048576) (hns : ns.length = ls.length) (hl : l.length = ls.length + 1 + (if t = [] then 0 else 1))
    (hsh : ∀ x ∈ l, (showL x).length ≤ 8 * csz x)
    (ih : ∀ x ∈ l, ∀ σ, ACalls Tryz.prog 31 [.v (encE x)] σ fun r σ' => r = .v (.str (showL x)) ∧ σ' = σ) :
    ACalls Tryz.prog 31 [.v (encE (.mk 14 p n s t ls ns l))] σ fun r σ' => r = .v (.str (showK 14 n s t ls ns (showQ l))) ∧ σ' = σ := by
  have km := fun σ => k_Match (σ := σ) he hns hl hsh ih
  obtain ⟨Z, hZ⟩ : ∃ Z, Z = showK 14 n s t ls ns (showQ l) := ⟨_, rfl⟩
  rw [← hZ] at km ⊢
  rw [encE_mk] at km ⊢
  refine acalls_fit Tryz.func31 (by kernel_rfl) c31 rfl (by simp [a31]) fun hf => ?_
  clear hf
  simp -implicitDefEqProofs (maxSteps := 2000000) (disch := omega) [-getElem?_pos, a31]
  refine (km _).then fun r hr => ?_
  subst hr
  simp -implicitDefEqProofs (maxSteps := 2000000) (disch := omega) [-getElem?_pos]
  exact .fin _ ⟨rfl, rfl⟩ (.refl _)
theorem rx_8 {p n : Int} {s t : Str} {ls ns : List Str} {l : List Ex} {σ : Sg} (he : csz (.mk 8 p n s t ls ns l) ≤ 1048576) (hl : l.length = ls.length)
    (hsh : ∀ x ∈ l, (showL x).length ≤ 8 * csz x)
    (ih : ∀ x ∈ l, ∀ σ, ACalls Tryz.prog 12 [.v (encE x)] σ fun r σ' => r = .v (.str (showL x)) ∧ σ' = σ) :
    ACalls Tryz.prog 12 [.v (encE (.mk 8 p n s t ls ns l))] σ fun r σ' => r = .v (.str (showK 8 n s t ls ns (showQ l))) ∧ σ' = σ := by
  have km := fun σ => k_Fields (σ := σ) he hl hsh ih
  have hLL := lenL_show hsh
  have hb := joinTo_len ls ((showQ l).map (·.2)) (items ls ((showQ l).map (·.2))).length
  rw [joinTo_all (Nat.le_refl _)] at hb
  have hZ : showK 8 n s t ls ns (showQ l) = [123] ++ Lib.join (items ls ((showQ l).map (·.2))) [44, 32] ++ [125] := rfl
  rw [hZ]
  simp only [csz] at he
  rw [encE_mk] at km ⊢
  generalize Lib.join (items ls ((showQ l).map (·.2))) [44, 32] = J at *
  refine acalls_fit Tryz.func12 (by kernel_rfl) c12 rfl (by simp [a12]) fun hf => ?_
  clear hf
  simp -implicitDefEqProofs (maxSteps := 2000000) (disch := omega) [-getElem?_pos, a12]
  refine (km _).then fun r hr => ?_
  subst hr
  simp -implicitDefEqProofs (maxSteps := 2000000) (disch := omega) [-getElem?_pos]
  repeat refine ⟨by omega, ?_⟩
  exact .fin _ ⟨by simp, rfl⟩ (.refl _)
end Go.Proofs.YtpdeaekmgljeaaaGreatDoor

/-
  Expressions as text: records, the document's matches. (Own work.)
-/
set_option linter.unusedVariables false
set_option linter.unusedSimpArgs false
namespace Go.Proofs.YtpdeaekmgljeaaaGreatDoor
open Go Go.Abs

theorem rx_14 {p n : Int} {s t : Str} {ls ns : List Str} {l : List Ex} {σ : Sg} (he : csz (.mk 14 p n s t ls ns l) ≤ 1048576) (hns : ns.length = ls.length) (hl : l.length = ls.length + 1 + (if t = [] then 0 else 1))
    (hsh : ∀ x ∈ l, (showL x).length ≤ 8 * csz x) (hS : (showK 14 n s t ls ns (showQ l)).length ≤ 100000000)
    (ih : ∀ x ∈ l, ∀ σ, ACalls Tryz.prog 12 [.v (encE x)] σ fun r σ' => r = .v (.str (showL x)) ∧ σ' = σ) :
    ACalls Tryz.prog 12 [.v (encE (.mk 14 p n s t ls ns l))] σ fun r σ' => r = .v (.str (showK 14 n s t ls ns (showQ l))) ∧ σ' = σ := by
  have km := fun σ => k_Arms (σ := σ) he hns hl hsh ih
  obtain ⟨x0, hx0⟩ : ∃ x, l[0]? = some x := ⟨_, List.getElem?_eq_getElem (by omega)⟩
  have ht0 := txQ_get hx0
  have h0 := ih x0 (List.mem_of_getElem? hx0)
  obtain ⟨A, hA⟩ : ∃ A, A = (armL ls ns (((showQ l).map (·.2)).drop 1)).flatten ++ elseT t (txQ (showQ l) (ls.length + 1)) := ⟨_, rfl⟩
  have hK : showK 14 n s t ls ns (showQ l) = [109, 97, 116, 99, 104, 32] ++ showL x0 ++ [32, 119, 105, 116, 104] ++ A ++ [32, 101, 110, 100] := by
    rw [hA, ← ht0]
    show [109, 97, 116, 99, 104, 32] ++ txQ (showQ l) 0 ++ [32, 119, 105, 116, 104] ++ (armL ls ns (((showQ l).map (·.2)).drop 1)).flatten ++ elseT t (txQ (showQ l) (ls.length + 1)) ++ [32, 101, 110, 100] = _
    simp
  rw [hK] at hS ⊢
  rw [← hA] at km
  simp only [csz] at he
  have hl1 := cszL_len l
  clear hK hA ht0 ih
  generalize showL x0 = X0 at *
  simp only [List.length_append, List.length_cons, List.length_nil] at hS
  rw [encE_mk] at km ⊢
  refine acalls_fit Tryz.func12 (by kernel_rfl) c12 rfl (by simp [a12]) fun hf => ?_
  clear hf
  simp -implicitDefEqProofs (maxSteps := 2000000) (disch := omega) [-getElem?_pos, a12]
  refine ⟨by omega, fun x hx => ?_⟩
  obtain rfl : x0 = x := Option.some.inj (hx0.symm.trans hx)
  refine (h0 _).then fun r hr => ?_
  subst hr
  simp -implicitDefEqProofs (maxSteps := 2000000) (disch := omega) [-getElem?_pos]
  repeat refine ⟨by omega, ?_⟩
  refine (km _).then fun r hr => ?_
  subst hr
  simp -implicitDefEqProofs (maxSteps := 2000000) (disch := omega) [-getElem?_pos]
  repeat refine ⟨by omega, ?_⟩
  exact .fin _ ⟨by simp, rfl⟩ (.refl _)
theorem tx_8 {p n : Int} {s t : Str} {ls ns : List Str} {l : List Ex} {σ : Sg} (he : csz (.mk 8 p n s t ls ns l) ≤ 1048576) (hl : l.length = ls.length)
    (hsh : ∀ x ∈ l, (showL x).length ≤ 8 * csz x)
    (ih : ∀ x ∈ l, ∀ σ, ACalls Tryz.prog 31 [.v (encE x)] σ fun r σ' => r = .v (.str (showL x)) ∧ σ' = σ) :
    ACalls Tryz.prog 31 [.v (encE (.mk 8 p n s t ls ns l))] σ fun r σ' => r = .v (.str (showK 8 n s t ls ns (showQ l))) ∧ σ' = σ := by
  have hLL := lenL_show hsh
  have hb := joinTo_len ls ((showQ l).map (·.2)) (items ls ((showQ l).map (·.2))).length
  rw [joinTo_all (Nat.le_refl _)] at hb
  have hZ : showK 8 n s t ls ns (showQ l) = [123] ++ Lib.join (items ls ((showQ l).map (·.2))) [44, 32] ++ [125] := rfl
  rw [hZ]
  simp only [csz] at he
  have hl1 := cszL_len l
  have hn1 := nsz_len ls
  have hyl : ((showQ l).map (·.2)).length = l.length := by rw [List.length_map, showQ_eq, List.length_map]
  have hget : ∀ i x, l[i]? = some x → ((showQ l).map (·.2))[i]? = some (showL x) := fun i x hx => by
    rw [List.getElem?_map, showQ_get hx]; rfl
  obtain ⟨ys, hys⟩ : ∃ ys, ys = (showQ l).map (·.2) := ⟨_, rfl⟩
  rw [← hys] at hyl hget hLL hb ⊢
  clear hys
  rw [encE_mk]
  refine acalls_fit Tryz.func31 (by kernel_rfl) c31 rfl (by simp [a31]) fun hf => ?_
  clear hf
  simp -implicitDefEqProofs (maxSteps := 2000000) (disch := omega) [-getElem?_pos, a31]
  refine W_loop (α := Nat) 0 (fun i => ls.length - i) (fun i => ⟨[(1, .ptr σ.objs.length 0), (2, .v (.str [])), (5, .tsl σ.toks.length none (itemsO ls ys i)), (101, .v (.sl none false (ls.map .str))), (102, .v (.int .i64 ls.length)), (103, .v (.int .i64 i))], ⟨σ.objs ++ [.cells [.v (.int .i64 8), .v (.int .i64 p), .v (.int .i64 n), .v (.str s), .v (.str t), .v (.sl none false (ls.map .str)), .v (.sl none false (ns.map .str)), .v (.sl (some 8) false (l.map encE))]], σ.toks ++ [i]⟩⟩)
    (fun i => i ≤ ls.length) (.tok (i := 5) (sh := none) (by simp [itemsO]) (by simp)) (by omega) fun i hi => ?_
  have hil := itemsO_len (ls := ls) (xs := ys) (by omega) (i := i) (by omega)
  simp -implicitDefEqProofs (maxSteps := 2000000) (disch := omega) [-getElem?_pos]
  refine .mk (fun h => ?_) fun h => ?_
  · simp -implicitDefEqProofs (maxSteps := 2000000) (disch := omega) [-getElem?_pos]
    repeat refine ⟨by omega, ?_⟩
    intro a ha
    have ha1 := nsz_mem (List.mem_of_getElem? ha)
    repeat refine ⟨by omega, ?_⟩
    intro x hx1
    have hx2 := hsh x (List.mem_of_getElem? hx1)
    have hx3 := cszL_mem (List.mem_of_getElem? hx1)
    have hst := itemsO_step ha (hget i x hx1)
    refine (ih x (List.mem_of_getElem? hx1) _).then fun r hr => ?_
    subst hr
    generalize showL x = X at *
    simp only [List.append_assoc, List.cons_append, List.nil_append] at hst
    simp -implicitDefEqProofs (maxSteps := 2000000) (disch := omega) [-getElem?_pos, hil, hst]
    exact ⟨by omega, by omega, i + 1, by omega, by dsimp only; omega, .eq (by simp)⟩
  · obtain rfl : i = ls.length := by omega
    have hL := items_len ls ys (by omega)
    rw [itemsO_all (by omega) (by omega)] at hil ⊢
    obtain ⟨J, hJ⟩ : ∃ J, J = Lib.join (items ls ys) [44, 32] := ⟨_, rfl⟩
    have hj := k_Join (L := items ls ys) (sep := [44, 32]) (σ := ⟨σ.objs ++ [.cells [.v (.int .i64 8), .v (.int .i64 p), .v (.int .i64 n), .v (.str s), .v (.str t), .v (.sl none false (ls.map .str)), .v (.sl none false (ns.map .str)), .v (.sl (some 8) false (l.map encE))]], σ.toks ++ [ls.length]⟩) (by omega) (by omega)
    rw [← hJ] at hj hb ⊢
    generalize items ls ys = I at *
    simp -implicitDefEqProofs (maxSteps := 2000000) (disch := omega) [-getElem?_pos]
    refine (ACalls.argA hj .tsl).then fun r hr => ?_
    subst hr
    simp -implicitDefEqProofs (maxSteps := 2000000) (disch := omega) [-getElem?_pos]
    repeat refine ⟨by omega, ?_⟩
    exact .finS _ σ ⟨by simp, rfl⟩ (.refl _) (fun ob h => .inl h) (by simp) (by simp) (by simp) (by simp) (by simp)
end Go.Proofs.YtpdeaekmgljeaaaGreatDoor

/-
  Expressions as text: all kinds, both sides. (Own work.)
-/
set_option linter.unusedVariables false
set_option linter.unusedSimpArgs false
namespace Go.Proofs.YtpdeaekmgljeaaaGreatDoor
open Go Go.Abs

theorem fineLB_mem : ∀ {l : List Ex} {x : Ex}, fineLB l = true → x ∈ l → fineB x = true
  | y :: l, x, h, hx => by
    rw [fineLB, Bool.and_eq_true] at h
    rcases List.mem_cons.1 hx with rfl | hx
    · exact h.1
    · exact fineLB_mem h.2 hx
theorem intsL_mem : ∀ {l : List Ex} {x : Ex}, intsL l → x ∈ l → intsE x
  | y :: l, x, h, hx => by
    rw [intsL] at h
    rcases List.mem_cons.1 hx with rfl | hx
    · exact h.1
    · exact intsL_mem h.2 hx
/-- What an expression that may be has, by kinds. -/
structure Own (k : Int) (s t : Str) (ls ns : List Str) (l : List Ex) : Prop where
  parts : (l.length : Int) = partsN k ls.length (decide (t ≠ []))
  text : textB k s = true
  match14 : k = 14 → ns.length = ls.length
theorem own_is {k p n : Int} {s t : Str} {ls ns : List Str} {l : List Ex} (h : ownB (.mk k p n s t ls ns l) = true) : Own k s t ls ns l := by
  rw [ownB] at h
  by_cases h0 : (l.length : Int) ≠ partsN k ls.length (decide (t ≠ [])) ∨ n < 0 ∨ (0 < n ∧ k ≠ 1) ∨ textB k s = false
  · rw [if_pos h0] at h; cases h
  · rw [if_neg h0] at h
    simp only [not_or] at h0
    refine ⟨Classical.byContradiction fun hh => h0.1 hh, by simpa using h0.2.2.2, fun h14 => ?_⟩
    subst h14
    simp at h
    omega
theorem kinds_of {k m : Int} {o : Bool} {len : Nat} (h : (len : Int) = partsN k m o) : k ∈ [1, 2, 3, 4, 5, 6, 7, 8, 9, 10, 11, 12, 13, 14, 15, 16, 17, 18, 19, 20, 21, (22 : Int)] := by
  apply Classical.byContradiction
  intro hn
  simp only [List.mem_cons, List.not_mem_nil, or_false, not_or] at hn
  unfold partsN at h
  rw [if_neg (by omega), if_neg (by omega), form_none (by
    intro j hj
    simp only [formsT, List.map_cons, List.map_nil, List.mem_cons, List.not_mem_nil, or_false] at hj
    omega)] at h
  simp at h
theorem k_TextE (e : Ex) : ∀ {σ : Sg}, csz e ≤ 1048576 → intsE e → fineB e = true → ACalls Tryz.prog 31 [.v (encE e)] σ fun r σ' => r = .v (.str (showL e)) ∧ σ' = σ := by
  refine Ex.ind (P := fun e => ∀ {σ : Sg}, csz e ≤ 1048576 → intsE e → fineB e = true → ACalls Tryz.prog 31 [.v (encE e)] σ fun r σ' => r = .v (.str (showL e)) ∧ σ' = σ) (fun k p n s t ls ns l ih0 => ?_) e
  intro σ he hi hf
  rw [fineB, Bool.and_eq_true] at hf
  rw [intsE] at hi
  have hO := own_is hf.1
  have hc : ∀ x ∈ l, csz x ≤ 1048576 := fun x hx => by
    have := cszL_mem hx
    simp only [csz] at he
    omega
  have hs : s.length ≤ 1048576 := by simp only [csz] at he; omega
  have hsh : ∀ x ∈ l, (showL x).length ≤ 8 * csz x := fun x hx => show_len x (intsL_mem hi.2 hx)
  have ih : ∀ x ∈ l, ∀ σ, ACalls Tryz.prog 31 [.v (encE x)] σ fun r σ' => r = .v (.str (showL x)) ∧ σ' = σ := fun x hx σ => ih0 x hx (hc x hx) (intsL_mem hi.2 hx) (fineLB_mem hf.2 hx)
  have ihs : ∀ x ∈ l, ∀ σ, ACalls Tryz.prog 56 [.v (encE x)] σ fun r σ' => r = .v (.str (smallT (kdE x, showL x))) ∧ σ' = σ := fun x hx σ => k_Small (by have := hsh x hx; have := hc x hx; omega) (ih x hx)
  have hp := hO.parts
  have hk := kinds_of hp
  rw [show showL (.mk k p n s t ls ns l) = showK k n s t ls ns (showQ l) by rw [showL]]
  simp only [List.mem_cons, List.not_mem_nil, or_false] at hk
  rcases hk with rfl | rfl | rfl | rfl | rfl | rfl | rfl | rfl | rfl | rfl | rfl | rfl | rfl | rfl | rfl | rfl | rfl | rfl | rfl | rfl | rfl | rfl
  · exact tx_1
  · exact tx_2 hs hO.text
  · exact tx_3 he (Int.ofNat_inj.1 hp) hsh ih ihs
  · exact tx_4 he (Int.ofNat_inj.1 hp) hsh ih ihs
  · exact tx_5 he (Int.ofNat_inj.1 hp) hsh ih ihs
  · exact tx_6 he (Int.ofNat_inj.1 hp) hsh ih ihs
  · exact tx_7 he (Int.ofNat_inj.1 hp) hsh ih ihs
  · exact tx_8 he (Int.ofNat_inj.1 hp) hsh ih
  · exact tx_9 he (Int.ofNat_inj.1 hp) hsh ih ihs
  · exact tx_10 he (Int.ofNat_inj.1 hp) hsh ih ihs
  · exact tx_11 he (Int.ofNat_inj.1 hp) hsh ih ihs
  · exact tx_12 he (Int.ofNat_inj.1 hp) hsh ih ihs
  · exact tx_13 he (Int.ofNat_inj.1 hp) hsh ih ihs
  · refine tx_14 he (hO.match14 rfl) ?_ hsh ih
    by_cases ht : t = []
    · rw [if_pos ht]; simp [partsN, ht] at hp; omega
    · rw [if_neg ht]; simp [partsN, ht] at hp; omega
  · exact tx_15 he (Int.ofNat_inj.1 hp) hsh ih ihs
  · exact tx_16 he (Int.ofNat_inj.1 hp) hsh ih ihs
  · exact tx_17 he (Int.ofNat_inj.1 hp) hsh ih ihs
  · exact tx_18 he (Int.ofNat_inj.1 hp) hsh ih ihs
  · exact tx_19 he (Int.ofNat_inj.1 hp) hsh ih ihs
  · exact tx_20 he (Int.ofNat_inj.1 hp) hsh ih ihs
  · exact tx_21 he (Int.ofNat_inj.1 hp) hsh ih ihs
  · exact tx_22 he (Int.ofNat_inj.1 hp) hsh ih ihs
end Go.Proofs.YtpdeaekmgljeaaaGreatDoor

/-
  Expressions as text: all kinds, the document's word; Text. (Own work.)
-/
set_option linter.unusedVariables false
set_option linter.unusedSimpArgs false
namespace Go.Proofs.YtpdeaekmgljeaaaGreatDoor
open Go Go.Abs

theorem k_ShowR (e : Ex) : ∀ {σ : Sg}, csz e ≤ 1048576 → intsE e → fineB e = true → ACalls Tryz.prog 12 [.v (encE e)] σ fun r σ' => r = .v (.str (showL e)) ∧ σ' = σ := by
  refine Ex.ind (P := fun e => ∀ {σ : Sg}, csz e ≤ 1048576 → intsE e → fineB e = true → ACalls Tryz.prog 12 [.v (encE e)] σ fun r σ' => r = .v (.str (showL e)) ∧ σ' = σ) (fun k p n s t ls ns l ih0 => ?_) e
  intro σ he hi hf
  rw [fineB, Bool.and_eq_true] at hf
  rw [intsE] at hi
  have hO := own_is hf.1
  have hc : ∀ x ∈ l, csz x ≤ 1048576 := fun x hx => by
    have := cszL_mem hx
    simp only [csz] at he
    omega
  have hs : s.length ≤ 1048576 := by simp only [csz] at he; omega
  have hsh : ∀ x ∈ l, (showL x).length ≤ 8 * csz x := fun x hx => show_len x (intsL_mem hi.2 hx)
  have ih : ∀ x ∈ l, ∀ σ, ACalls Tryz.prog 12 [.v (encE x)] σ fun r σ' => r = .v (.str (showL x)) ∧ σ' = σ := fun x hx σ => ih0 x hx (hc x hx) (intsL_mem hi.2 hx) (fineLB_mem hf.2 hx)
  have ihs : ∀ x ∈ l, ∀ σ, ACalls Tryz.prog 37 [.v (encE x)] σ fun r σ' => r = .v (.str (smallT (kdE x, showL x))) ∧ σ' = σ := fun x hx σ => k_SP (by have := hsh x hx; have := hc x hx; omega) (ih x hx)
  have hp := hO.parts
  have hk := kinds_of hp
  rw [show showL (.mk k p n s t ls ns l) = showK k n s t ls ns (showQ l) by rw [showL]]
  simp only [List.mem_cons, List.not_mem_nil, or_false] at hk
  rcases hk with rfl | rfl | rfl | rfl | rfl | rfl | rfl | rfl | rfl | rfl | rfl | rfl | rfl | rfl | rfl | rfl | rfl | rfl | rfl | rfl | rfl | rfl
  · exact rx_1
  · exact rx_2 hs hO.text
  · exact rx_3 he (Int.ofNat_inj.1 hp) hsh ih ihs
  · exact rx_4 he (Int.ofNat_inj.1 hp) hsh ih ihs
  · exact rx_5 he (Int.ofNat_inj.1 hp) hsh ih ihs
  · exact rx_6 he (Int.ofNat_inj.1 hp) hsh ih ihs
  · exact rx_7 he (Int.ofNat_inj.1 hp) hsh ih ihs
  · exact rx_8 he (Int.ofNat_inj.1 hp) hsh ih
  · exact rx_9 he (Int.ofNat_inj.1 hp) hsh ih ihs
  · exact rx_10 he (Int.ofNat_inj.1 hp) hsh ih ihs
  · exact rx_11 he (Int.ofNat_inj.1 hp) hsh ih ihs
  · exact rx_12 he (Int.ofNat_inj.1 hp) hsh ih ihs
  · exact rx_13 he (Int.ofNat_inj.1 hp) hsh ih ihs
  · refine rx_14 he (hO.match14 rfl) ?_ hsh (by have := show_len (.mk 14 p n s t ls ns l) (by rw [intsE]; exact hi); rw [showL] at this; omega) ih
    by_cases ht : t = []
    · rw [if_pos ht]; simp [partsN, ht] at hp; omega
    · rw [if_neg ht]; simp [partsN, ht] at hp; omega
  · exact rx_15 he (Int.ofNat_inj.1 hp) hsh ih ihs
  · exact rx_16 he (Int.ofNat_inj.1 hp) hsh ih ihs
  · exact rx_17 he (Int.ofNat_inj.1 hp) hsh ih ihs
  · exact rx_18 he (Int.ofNat_inj.1 hp) hsh ih ihs
  · exact rx_19 he (Int.ofNat_inj.1 hp) hsh ih ihs
  · exact rx_20 he (Int.ofNat_inj.1 hp) hsh ih ihs
  · exact rx_21 he (Int.ofNat_inj.1 hp) hsh ih ihs
  · exact rx_22 he (Int.ofNat_inj.1 hp) hsh ih ihs
/-- The text of an expression, or that it may not be. -/
def textR (e : Ex) : D := if mayB e = true then .tup [.v (.str (showL e)), .v .inil] else .tup [.v (.str []), .v (.iface 32 (.int .i64 1))]
theorem k_ShText {e : Ex} {σ : Sg} (he : csz e ≤ 1048576) (hi : intsE e) : ACalls Tryz.prog 10 [.v (encE e)] σ fun r σ' => r = textR e ∧ σ' = σ := by
  have km := fun σ => k_May (e := e) (σ := σ) he
  have kt := fun h σ => k_TextE e (σ := σ) he hi h
  unfold textR
  cases hm : mayB e with
  | false =>
    rw [hm] at km
    cases e with
    | mk k p n s t ls ns l =>
    rw [encE_mk] at km ⊢
    refine acalls_fit Tryz.func10 (by kernel_rfl) c10 rfl (by simp [a10]) fun hf => ?_
    clear hf
    simp -implicitDefEqProofs (maxSteps := 2000000) (disch := omega) [-getElem?_pos, a10]
    refine (km _).then fun r hr => ?_
    subst hr
    simp -implicitDefEqProofs (maxSteps := 2000000) (disch := omega) [-getElem?_pos]
    exact .fin _ ⟨rfl, rfl⟩ (.refl _)
  | true =>
    rw [hm] at km
    have hfine : fineB e = true := by
      unfold mayB at hm
      simp only [Bool.and_eq_true] at hm
      exact hm.2.2
    replace kt := kt hfine
    obtain ⟨Z, hZ⟩ : ∃ Z, Z = showL e := ⟨_, rfl⟩
    rw [← hZ] at kt ⊢
    clear hZ
    cases e with
    | mk k p n s t ls ns l =>
    rw [encE_mk] at km kt ⊢
    refine acalls_fit Tryz.func10 (by kernel_rfl) c10 rfl (by simp [a10]) fun hf => ?_
    clear hf
    simp -implicitDefEqProofs (maxSteps := 2000000) (disch := omega) [-getElem?_pos, a10]
    refine (km _).then fun r hr => ?_
    subst hr
    simp -implicitDefEqProofs (maxSteps := 2000000) (disch := omega) [-getElem?_pos]
    refine (kt _).then fun r hr => ?_
    subst hr
    simp -implicitDefEqProofs (maxSteps := 2000000) (disch := omega) [-getElem?_pos]
    exact .fin _ ⟨rfl, rfl⟩ (.refl _)
end Go.Proofs.YtpdeaekmgljeaaaGreatDoor

/-
  ShowTells: the law, from the example. (Own work.)
-/
set_option linter.unusedVariables false
set_option linter.unusedSimpArgs false
namespace Go.Proofs.YtpdeaekmgljeaaaGreatDoor
open Go Go.Abs

theorem k_Law6 {e : Ex} {σ : Sg} (he : csz e ≤ 1048576) (hi : intsE e) (ku : ∀ σ, ACalls Tryz.prog 8 [] σ fun r σ' => r = .v (.bool true) ∧ σ' = σ) : ACalls Tryz.prog 3 [.v (encE e)] σ fun r σ' => r = .v (.bool true) := by
  have kf := fun σ => k_Few (e := e) (σ := σ) he
  have kt := fun σ => k_ShText (e := e) (σ := σ) he hi
  have km := fun σ => k_RMay (e := e) (σ := σ) he
  have ks := fun h σ => k_ShowR e (σ := σ) he hi h
  unfold textR at kt
  have hfine : mayB e = true → fineB e = true := by
    intro hm
    unfold mayB at hm
    simp only [Bool.and_eq_true] at hm
    exact hm.2.2
  generalize mayB e = m at *
  generalize showL e = Z at *
  replace ks := fun h => ks (hfine h)
  clear hfine hi
  cases e with
  | mk k p n s t ls ns l =>
  rw [encE_mk] at *
  refine acalls_fit Tryz.func3 (by kernel_rfl) c3 rfl (by simp [a3]) fun hf => ?_
  clear hf
  simp -implicitDefEqProofs (maxSteps := 2000000) (disch := omega) [-getElem?_pos, a3]
  refine (ku _).then fun r hr => ?_
  subst hr
  simp -implicitDefEqProofs (maxSteps := 2000000) (disch := omega) [-getElem?_pos]
  refine (kf _).then fun r hr => ?_
  obtain ⟨b, rfl⟩ := hr
  cases b with
  | false =>
    simp -implicitDefEqProofs (maxSteps := 2000000) (disch := omega) [-getElem?_pos]
    exact .fin _ rfl (.refl _)
  | true =>
    simp -implicitDefEqProofs (maxSteps := 2000000) (disch := omega) [-getElem?_pos]
    refine (kt _).then fun r hr => ?_
    subst hr
    cases m with
    | false =>
      simp -implicitDefEqProofs (maxSteps := 2000000) (disch := omega) [-getElem?_pos]
      refine (km _).then fun r hr => ?_
      subst hr
      simp -implicitDefEqProofs (maxSteps := 2000000) (disch := omega) [-getElem?_pos]
      exact ⟨by kernel_rfl, .fin _ rfl (.refl _)⟩
    | true =>
      simp -implicitDefEqProofs (maxSteps := 2000000) (disch := omega) [-getElem?_pos]
      refine (km _).then fun r hr => ?_
      subst hr
      simp -implicitDefEqProofs (maxSteps := 2000000) (disch := omega) [-getElem?_pos]
      refine (ks rfl _).then fun r hr => ?_
      subst hr
      simp -implicitDefEqProofs (maxSteps := 2000000) (disch := omega) [-getElem?_pos]
      exact .fin _ rfl (.refl _)
end Go.Proofs.YtpdeaekmgljeaaaGreatDoor

/-
  slices.Sort, slices.Sorted, maps.Keys, maps.Copy, laid at this program: written by the kit's tool lay-plain.mjs, in plain words.
-/
namespace Go.Proofs.YtpdeaekmgljeaaaGreatDoor
open Go.Shelf
def keysLays_ren : Go.Shelf.Ren := ⟨fun | 7 => 49 | 10 => 77 | n => n, fun | 23 => 77 | 26 => 9 | 3 => 4 | 28 => 75 | 0 => 0 | 27 => 74 | 33 => 113 | 4 => 4 | n => n, fun | n => n⟩
theorem keysLays : Go.Proofs.SlLaysZ.n7 Tryz.prog keysLays_ren := {
  mixed := by kernel_rfl
  f7 := ⟨Tryz.f49.name, by decide, Tryz.func49.trans (congrArg some (by kernel_rfl))⟩
  f10 := ⟨Tryz.f77.name, by decide, Tryz.func77.trans (congrArg some (by kernel_rfl))⟩
  t0 := Tryz.underlying0
  a0 := Tryz.isAgg0
  z0 := Tryz.sizeOf0
  v0 := Tryz.zeroValue0
  t4 := Tryz.underlying4
  a4 := Tryz.isAgg4
  z4 := Tryz.sizeOf4
  v4 := Tryz.zeroValue4
  t23 := Tryz.underlying77
  a23 := Tryz.isAgg77
  z23 := Tryz.sizeOf77
  v23 := Tryz.zeroValue77
  t26 := Tryz.underlying9
  a26 := Tryz.isAgg9
  z26 := Tryz.sizeOf9
  v26 := Tryz.zeroValue9
  t27 := Tryz.underlying74
  a27 := Tryz.isAgg74
  z27 := Tryz.sizeOf74
  v27 := Tryz.zeroValue74
  t28 := Tryz.underlying75
  a28 := Tryz.isAgg75
  z28 := Tryz.sizeOf75
  v28 := Tryz.zeroValue75
  t33 := Tryz.underlying113
  a33 := Tryz.isAgg113
  z33 := Tryz.sizeOf113
  v33 := Tryz.zeroValue113 }
def sortedLays_ren : Go.Shelf.Ren := ⟨fun | 6 => 48 | 8 => 75 | 9 => 76 | 11 => 112 | 13 => 114 | 12 => 113 | 23 => 154 | 24 => 137 | 14 => 145 | 15 => 146 | 16 => 147 | 17 => 148 | 18 => 149 | 19 => 150 | 20 => 151 | 21 => 152 | 22 => 153 | 25 => 178 | 26 => 179 | 27 => 180 | 28 => 181 | 29 => 182 | 30 => 183 | 31 => 194 | n => n, fun | 26 => 9 | 28 => 75 | 24 => 22 | 0 => 0 | 3 => 3 | 37 => 164 | 48 => 187 | 50 => 137 | 4 => 4 | 40 => 199 | 39 => 198 | 45 => 204 | 5 => 5 | 9 => 9 | 51 => 221 | 55 => 225 | 57 => 237 | 58 => 34 | 33 => 113 | n => n, fun | n => n⟩
theorem sortedLays : Go.Proofs.SlLaysZ.n6 Tryz.prog sortedLays_ren := {
  mixed := by kernel_rfl
  f6 := ⟨Tryz.f48.name, by decide, Tryz.func48.trans (congrArg some (by kernel_rfl))⟩
  f8 := ⟨Tryz.f75.name, by decide, Tryz.func75.trans (congrArg some (by kernel_rfl))⟩
  f11 := ⟨Tryz.f112.name, by decide, Tryz.func112.trans (congrArg some (by kernel_rfl))⟩
  t0 := Tryz.underlying0
  a0 := Tryz.isAgg0
  z0 := Tryz.sizeOf0
  v0 := Tryz.zeroValue0
  t24 := Tryz.underlying22
  a24 := Tryz.isAgg22
  z24 := Tryz.sizeOf22
  v24 := Tryz.zeroValue22
  t26 := Tryz.underlying9
  a26 := Tryz.isAgg9
  z26 := Tryz.sizeOf9
  v26 := Tryz.zeroValue9
  t28 := Tryz.underlying75
  a28 := Tryz.isAgg75
  z28 := Tryz.sizeOf75
  v28 := Tryz.zeroValue75
  i26 := by kernel_rfl }
def sortMLays_ren : Go.Shelf.Ren := ⟨fun | 6 => 76 | 8 => 114 | 9 => 113 | 19 => 154 | 20 => 137 | 21 => 145 | 22 => 146 | 23 => 147 | 24 => 148 | 25 => 149 | 26 => 150 | 27 => 151 | 28 => 152 | 29 => 153 | 36 => 178 | 31 => 179 | 32 => 180 | 37 => 181 | 38 => 182 | 39 => 183 | 41 => 194 | n => n, fun | 27 => 22 | 29 => 9 | 3 => 3 | 32 => 164 | 26 => 22 | 0 => 0 | 44 => 187 | 46 => 137 | 4 => 4 | 36 => 199 | 35 => 198 | 41 => 204 | 5 => 5 | 9 => 9 | 53 => 221 | 57 => 225 | 63 => 237 | 64 => 34 | n => n, fun | n => n⟩
theorem sortMLays : Go.Proofs.SlLaysM.n6 Tryz.prog sortMLays_ren := {
  mixed := by kernel_rfl
  f6 := ⟨Tryz.f76.name, by decide, Tryz.func76.trans (congrArg some (by kernel_rfl))⟩
  f8 := Tryz.func114.trans (congrArg some (by kernel_rfl))
  f9 := ⟨Tryz.f113.name, by decide, Tryz.func113.trans (congrArg some (by kernel_rfl))⟩
  f19 := Tryz.func154.trans (congrArg some (by kernel_rfl))
  f20 := Tryz.func137.trans (congrArg some (by kernel_rfl))
  f21 := ⟨Tryz.f145.name, by decide, Tryz.func145.trans (congrArg some (by kernel_rfl))⟩
  f22 := ⟨Tryz.f146.name, by decide, Tryz.func146.trans (congrArg some (by kernel_rfl))⟩
  f23 := ⟨Tryz.f147.name, by decide, Tryz.func147.trans (congrArg some (by kernel_rfl))⟩
  f24 := ⟨Tryz.f148.name, by decide, Tryz.func148.trans (congrArg some (by kernel_rfl))⟩
  f25 := ⟨Tryz.f149.name, by decide, Tryz.func149.trans (congrArg some (by kernel_rfl))⟩
  f26 := ⟨Tryz.f150.name, by decide, Tryz.func150.trans (congrArg some (by kernel_rfl))⟩
  f27 := ⟨Tryz.f151.name, by decide, Tryz.func151.trans (congrArg some (by kernel_rfl))⟩
  f28 := ⟨Tryz.f152.name, by decide, Tryz.func152.trans (congrArg some (by kernel_rfl))⟩
  f29 := ⟨Tryz.f153.name, by decide, Tryz.func153.trans (congrArg some (by kernel_rfl))⟩
  f31 := Tryz.func179.trans (congrArg some (by kernel_rfl))
  f32 := Tryz.func180.trans (congrArg some (by kernel_rfl))
  f36 := ⟨Tryz.f178.name, by decide, Tryz.func178.trans (congrArg some (by kernel_rfl))⟩
  f37 := ⟨Tryz.f181.name, by decide, Tryz.func181.trans (congrArg some (by kernel_rfl))⟩
  f38 := ⟨Tryz.f182.name, by decide, Tryz.func182.trans (congrArg some (by kernel_rfl))⟩
  f39 := ⟨Tryz.f183.name, by decide, Tryz.func183.trans (congrArg some (by kernel_rfl))⟩
  f41 := ⟨Tryz.f194.name, by decide, Tryz.func194.trans (congrArg some (by kernel_rfl))⟩
  t0 := Tryz.underlying0
  a0 := Tryz.isAgg0
  z0 := Tryz.sizeOf0
  v0 := Tryz.zeroValue0
  t3 := Tryz.underlying3
  a3 := Tryz.isAgg3
  z3 := Tryz.sizeOf3
  v3 := Tryz.zeroValue3
  t4 := Tryz.underlying4
  a4 := Tryz.isAgg4
  z4 := Tryz.sizeOf4
  v4 := Tryz.zeroValue4
  t5 := Tryz.underlying5
  a5 := Tryz.isAgg5
  z5 := Tryz.sizeOf5
  v5 := Tryz.zeroValue5
  t9 := Tryz.underlying9
  a9 := Tryz.isAgg9
  z9 := Tryz.sizeOf9
  v9 := Tryz.zeroValue9
  t26 := Tryz.underlying22
  a26 := Tryz.isAgg22
  z26 := Tryz.sizeOf22
  v26 := Tryz.zeroValue22
  t27 := Tryz.underlying22
  a27 := Tryz.isAgg22
  z27 := Tryz.sizeOf22
  v27 := Tryz.zeroValue22
  t29 := Tryz.underlying9
  a29 := Tryz.isAgg9
  z29 := Tryz.sizeOf9
  v29 := Tryz.zeroValue9
  t32 := Tryz.underlying164
  a32 := Tryz.isAgg164
  z32 := Tryz.sizeOf164
  v32 := Tryz.zeroValue164
  t35 := Tryz.underlying198
  a35 := Tryz.isAgg198
  z35 := Tryz.sizeOf198
  v35 := Tryz.zeroValue198
  t36 := Tryz.underlying199
  a36 := Tryz.isAgg199
  z36 := Tryz.sizeOf199
  v36 := Tryz.zeroValue199
  t41 := Tryz.underlying204
  a41 := Tryz.isAgg204
  z41 := Tryz.sizeOf204
  v41 := Tryz.zeroValue204
  t44 := Tryz.underlying187
  a44 := Tryz.isAgg187
  z44 := Tryz.sizeOf187
  v44 := Tryz.zeroValue187
  t46 := Tryz.underlying137
  a46 := Tryz.isAgg137
  z46 := Tryz.sizeOf137
  v46 := Tryz.zeroValue137
  t53 := Tryz.underlying221
  a53 := Tryz.isAgg221
  z53 := Tryz.sizeOf221
  v53 := Tryz.zeroValue221
  t57 := Tryz.underlying225
  a57 := Tryz.isAgg225
  z57 := Tryz.sizeOf225
  v57 := Tryz.zeroValue225
  t63 := Tryz.underlying237
  a63 := Tryz.isAgg237
  z63 := Tryz.sizeOf237
  v63 := Tryz.zeroValue237
  t64 := Tryz.underlying34
  a64 := Tryz.isAgg34
  z64 := Tryz.sizeOf34
  v64 := Tryz.zeroValue34 }
def copyLays_ren : Go.Shelf.Ren := ⟨fun | 5 => 79 | n => n, fun | 23 => 77 | 24 => 77 | 26 => 9 | 27 => 4 | 0 => 0 | 4 => 4 | n => n, fun | n => n⟩
theorem copyLays : Go.Proofs.SlLaysX.n5 Tryz.prog copyLays_ren := {
  mixed := by kernel_rfl
  f5 := ⟨Tryz.f79.name, by decide, Tryz.func79.trans (congrArg some (by kernel_rfl))⟩
  t0 := Tryz.underlying0
  a0 := Tryz.isAgg0
  z0 := Tryz.sizeOf0
  v0 := Tryz.zeroValue0
  t4 := Tryz.underlying4
  a4 := Tryz.isAgg4
  z4 := Tryz.sizeOf4
  v4 := Tryz.zeroValue4
  t23 := Tryz.underlying77
  a23 := Tryz.isAgg77
  z23 := Tryz.sizeOf77
  v23 := Tryz.zeroValue77
  t24 := Tryz.underlying77
  a24 := Tryz.isAgg77
  z24 := Tryz.sizeOf77
  v24 := Tryz.zeroValue77
  a26 := Tryz.isAgg9
  z26 := Tryz.sizeOf9
  a27 := Tryz.isAgg4
  z27 := Tryz.sizeOf4 }
end Go.Proofs.YtpdeaekmgljeaaaGreatDoor

/-
  Maps that are sets of names: their keys, sorted; one laid into another. (Own work, over the kit's contracts.)
-/
set_option linter.unusedVariables false
set_option linter.unusedSimpArgs false
namespace Go.Proofs.YtpdeaekmgljeaaaGreatDoor
open Go Go.Abs Go.Maps Go.Sort Go.RowKit Go.Shelf Go.WideElems

def sortS (l : List Str) : List Str := l.mergeSort fun x y => decide (x ≤ y)
theorem sortS_len (l : List Str) : (sortS l).length = l.length := by simp [sortS]
/-- A set of names. -/
def mS (l : List Str) : Ob := .map (l.map fun s => (V.str s, D.v (.bool true)))

theorem fresh_fz {σ : Sg} {m : Gh} {w w' : World} (h : Inv σ m w) {g off : Nat} (hg : w.heap.size ≤ g) (hg' : g < w'.heap.size) : Fz m w' g off := by
  refine ⟨hg', fun hm => ?_⟩
  rcases hm with hm | ⟨tk, htk, hb, _⟩
  · have := h.lt_obj hm; omega
  · obtain ⟨us, ty, h5, _⟩ := (h.tk tk htk).2.2.2 g hb
    have := (Array.getElem?_eq_some_iff.1 h5).1
    omega

/-- A true value reads. -/
def RT : Value → Option (DataW Unit × List MemPlace)
  | .bool true => some (.lit (.bool true), [])
  | _ => none
theorem RT_some {v : Value} {z : DataW Unit × List MemPlace} (h : RT v = some z) : v = .bool true ∧ z = (.lit (.bool true), []) := by
  unfold RT at h
  split at h
  · cases h; exact ⟨rfl, rfl⟩
  · cases h
theorem keyOf_s {s : Str} (h : s.length ≤ maxLen) : keyOf Tryz.prog 9 (encStr s) = some (.string s) := by
  have hk : Tryz.prog.underlying 9 = some .string := by kernel_rfl
  unfold maxLen at h
  simp [keyOf, hk, mapKey, encStr, ByteArray.size, maxLen, h]

theorem own_of {w : World} {m : Gh} {l : List Str} {b : Nat} (hl : l.length ≤ maxLen) (r : ObRep m w (mS l) b) :
    ∃ D0 : DataW Unit, w.ownsMap Tryz.prog 9 RT b l.length D0 ∧ (strKeys D0).Perm l ∧ Maps.size D0 = l.length ∧ IsMap D0 ∧ ∀ x, has D0 (.string x) = true ↔ x ∈ l := by
  obtain ⟨ms, clock, hh, hsz, hrep, hst⟩ := r
  rw [List.length_map] at hsz
  have hent : ∀ (i : Nat) e, ms[i]? = some e → ∃ s, l[i]? = some s ∧ e.key = encStr s ∧ e.val = .bool true ∧ s.length ≤ maxLen := by
    intro i e he
    have hlt : i < l.length := by rw [← hsz]; exact (Array.getElem?_eq_some_iff.1 he).1
    obtain ⟨h1, h2⟩ := hrep i (V.str l[i], D.v (.bool true)) e (by simp [hlt]) he
    refine ⟨l[i], List.getElem?_eq_getElem hlt, ?_, ?_, ?_⟩
    · dsimp only at h1
      generalize e.key = u at h1
      cases h1
      rfl
    · dsimp only at h2
      generalize e.val = u at h2
      have h3 := h2.v_inv
      cases h3
      rfl
    · dsimp only at h1
      generalize e.key = u at h1
      cases h1
      assumption
  have hrd : ∀ (i : Nat) e, ms[i]? = some e → ∃ s, l[i]? = some s ∧ WideElems.rd Tryz.prog 9 RT e = some (.string s, .lit (.bool true)) := by
    intro i e he
    obtain ⟨s, h1, h2, h3, h4⟩ := hent i e he
    refine ⟨s, h1, ?_⟩
    unfold WideElems.rd
    rw [h2, h3, keyOf_s h4]
    rfl
  have hmap : ms.toList.map (rg Tryz.prog 9 RT) = l.map fun s => ((Lit.string s, DataW.lit (.bool true)) : Lit × DataW Unit) := by
    apply List.ext_getElem?
    intro i
    rw [List.getElem?_map, List.getElem?_map]
    by_cases hi : i < l.length
    · have hms : ms[i]? = some ms[i] := Array.getElem?_eq_getElem (by omega)
      obtain ⟨s, h1, h2⟩ := hrd i _ hms
      rw [h1, show ms.toList[i]? = some ms[i] by simp [hi, hsz]]
      simp only [Option.map_some, rg_of h2]
    · rw [List.getElem?_eq_none (by simp; omega), List.getElem?_eq_none (by omega)]
      rfl
  have hp : ((ms.toList.map (rg Tryz.prog 9 RT)).foldr DataW.insert []).Perm (l.map fun s => ((Lit.string s, DataW.lit (.bool true)) : Lit × DataW Unit)) := by
    have := WideShapes.sorted_perm (ms.toList.map (rg Tryz.prog 9 RT))
    rwa [hmap] at this ⊢
  refine ⟨.map ((ms.toList.map (rg Tryz.prog 9 RT)).foldr DataW.insert []), ⟨ms, clock, hh, ⟨by omega, hst.1, fun x hx => ?_⟩, by omega, rfl⟩, ?_, ?_, ⟨_, rfl⟩, fun x => ?_⟩
  · obtain ⟨i, hi⟩ := List.mem_iff_getElem?.1 hx
    obtain ⟨s, _, h⟩ := hrd i x (by simpa using hi)
    exact ⟨_, h⟩
  · have := hp.map fun p => strOf p.1
    simpa [strKeys, Function.comp_def, strOf] using this
  · have := hp.length_eq
    simpa [Maps.size] using this
  · rw [has_eq, List.any_eq_true]
    constructor
    · rintro ⟨p, hp1, hp2⟩
      have h3 := hp.mem_iff.1 hp1
      obtain ⟨s, hs, rfl⟩ := List.mem_map.1 h3
      have := WideAt.sameKey_eq hp2
      cases this
      exact hs
    · intro hx
      exact ⟨(Lit.string x, DataW.lit (.bool true)), hp.mem_iff.2 (List.mem_map.2 ⟨x, hx, rfl⟩), WideAt.sameKey_self (by trivial)⟩

theorem k_Keys {o : Nat} {σ : Sg} : ACalls Tryz.prog 49 [.map o] σ fun r σ' => r = .fn 77 [.ptr σ.objs.length 0] ∧ σ' = ⟨σ.objs ++ [.cells [.map o]], σ.toks⟩ := by
  refine acalls_fit Tryz.func49 (by kernel_rfl) c49 rfl (by simp [a49]) fun hf => ?_
  clear hf
  simp -implicitDefEqProofs (maxSteps := 2000000) (disch := omega) [-getElem?_pos, a49]
  exact ⟨_, _, WeakR.refl _ _ _, rfl, rfl⟩

theorem flat_str : ∀ l : List Str, V.flat (l.map V.str) = l.map V.str
  | [] => rfl
  | a :: l => by
    have := flat_str l
    simp only [V.flat, List.map_cons, List.flatMap_cons] at *
    rw [this]
    rfl
theorem sorts (m : Nat) : Go.Proofs.AnyZ.SortsIn Tryz.prog sortedLays_ren Fence.wide m :=
  ⟨fun blk off cap ss W hH hblk hsz => callsIn_wide.2 (Go.Proofs.AnyM.slices_Sort_string sortMLays blk off cap ss W hH hblk hsz),
   fun p cap W => callsIn_wide.2 (Go.Proofs.AnyM.slices_Sort_string_none sortMLays p cap W)⟩

set_option maxHeartbeats 1000000 in
theorem k_Sorted {l : List Str} {o p : Nat} {σ : Sg} (hp : σ.objs[p]? = some (.cells [.map o])) (ho : σ.objs[o]? = some (mS l)) (hl : l.length ≤ 1000000) :
    ACalls Tryz.prog 48 [.fn 77 [.ptr p 0]] σ fun r σ' => r = .v (vS (sortS l)) ∧ σ' = σ := by
  refine ⟨⟨_, Tryz.func48, by kernel_rfl, by kernel_rfl⟩, fun m w us hI hlen hr => ?_⟩
  obtain ⟨u, rfl⟩ : ∃ u, us = [u] := by
    match us, hlen with
    | [u], _ => exact ⟨u, rfl⟩
  have h0 := hr 0 _ u rfl rfl
  cases h0 with
  | fn _ _ cus hcl hcr =>
  obtain ⟨u1, rfl⟩ : ∃ u1, cus = [u1] := by
    match cus, hcl with
    | [u], _ => exact ⟨u, rfl⟩
  have h1 := hcr 0 _ u1 rfl rfl
  cases h1 with
  | ptr _ _ bp hbp =>
  have hbp := hI.live hp (by simp) hbp
  obtain ⟨pus, pty, hph, hpsz, hpr, _⟩ := hI.ob p _ bp hp hbp
  obtain ⟨u2, hu2⟩ : ∃ u2, pus[0]? = some u2 := ⟨_, Array.getElem?_eq_getElem (Nat.lt_of_lt_of_le (by simp) hpsz)⟩
  have h2 := (hpr 0 _ u2 rfl hu2).1
  cases h2 with
  | map _ b hb =>
  have hb := hI.live ho (by simp [mS]) hb
  have hmx : l.length ≤ maxLen := by simp only [maxLen]; omega
  obtain ⟨D0, hown, hperm, hsize, _, _⟩ := own_of hmx (hI.ob o _ b ho hb)
  have hcell : w.cell? ⟨bp, 0, none⟩ = some (.map (some b)) := by rw [cell_of_row w bp 0 pus pty (0, 0) hph]; exact hu2
  have hlt : bp < w.heap.size := (Array.getElem?_eq_some_iff.1 hph).1
  have hseq : SeqGives Fence.wide 2 Tryz.prog 77 #[.pointer (some ⟨bp, 0, none⟩)] encStr (fun ss => ss.Perm (strKeys D0)) (Maps.size D0) w :=
    Go.Proofs.AnyZ.keys_gives (ρ := keysLays_ren) { keysLays with } Fence.wide 2 trivial rfl (by omega) bp b l.length D0 w hlt hcell hown
  have hC := Go.Proofs.AnyZ.sorted_in sortedLays Fence.wide 5 trivial trivial trivial trivial rfl (by omega) (sorts _) (enters_of Tryz.func76 (by kernel_rfl) rfl) 77 #[.pointer (some ⟨bp, 0, none⟩)] trivial (enters_of Tryz.func77 (by kernel_rfl) rfl) _ _ (by rw [hsize]; exact hmx) (by rw [hsize]; omega) _ hseq
  refine (callsIn_wide.1 hC).mono fun e w' ⟨v, ss, he, hS, hrow, hnil, hbl⟩ => ?_
  obtain ⟨hI', hX⟩ := Inv.below hI hbl
  have hss : ss.Perm l := hS.trans hperm
  have hsort : ss.mergeSort (fun x y => decide (x ≤ y)) = sortS l := mergeSort_of_perm hss
  rw [hsort] at hrow
  refine ⟨v, _, σ, m, he, ⟨rfl, rfl⟩, hI', hX, .v _ _ ?_⟩
  obtain ⟨hn, hrow⟩ := hrow
  have hlen2 := hss.length_eq
  rcases hrow with ⟨rfl, h0⟩ | ⟨g, cap, cur, rfl, hg, hgh, hnc, hcm, hcs, htk⟩
  · have : sortS l = [] := List.eq_nil_of_length_eq_zero (by rw [sortS_len]; omega)
    rw [this]
    exact .slNil none false none
  · have hxl : ((sortS l).map V.str).length = ss.length := by simp [sortS_len, hlen2]
    have hmem : ∀ s ∈ sortS l, s.length ≤ maxLen := fun s hs => by
      have hs' : s ∈ l := (List.mergeSort_perm l _).mem_iff.1 hs
      exact strKeys_le hown (by kernel_rfl) s (hperm.mem_iff.2 hs')
    have hfl : V.flat ((sortS l).map V.str) = (sortS l).map V.str := flat_str _
    have := RepV.at_head (w := w') (F := Fz m w') none (xs := (sortS l).map V.str) (cs := (sortS l).map encStr) (cap := cap) (full := false) hgh (by simp [shn]) (fun i u hi => by
        rw [← htk, List.getElem?_take] at hi
        split at hi
        · simpa using hi
        · cases hi) (fun i hi => fresh_fz hI hg (Array.getElem?_eq_some_iff.1 hgh).1) (by simp [V.shape]) (by rw [hfl]; simp [V.one]) (by rw [hxl]; exact hnc) hcm (by simp) (fun i c u hc hu => by
        rw [hfl, List.getElem?_map] at hc
        rw [List.getElem?_map] at hu
        cases hs : (sortS l)[i]? with
        | none => rw [hs] at hc; cases hc
        | some s =>
          rw [hs] at hc hu
          cases hc
          cases hu
          exact .str s (hmem s (List.mem_of_getElem? hs)))
    rw [hxl] at this
    exact this

/-- One set laid into another. -/
theorem k_Copy {ld ls : List Str} {d s : Nat} {σ : Sg} (hds : d ≠ s) (hd : σ.objs[d]? = some (mS ld)) (hs : σ.objs[s]? = some (mS ls)) (hld : ld.length ≤ 1000000) (hls : ls.length ≤ 1000000) :
    ACalls Tryz.prog 79 [.map d, .map s] σ fun r σ' => r = .tup [] ∧ ∃ l', l'.Nodup ∧ (∀ x, x ∈ l' ↔ x ∈ ld ∨ x ∈ ls) ∧ l'.length ≤ ld.length + ls.length ∧ σ' = σ.put d (mS l') := by
  refine ⟨⟨_, Tryz.func79, by kernel_rfl, by kernel_rfl⟩, fun m w us hI hlen hr => ?_⟩
  obtain ⟨u1, u2, rfl⟩ : ∃ u1 u2, us = [u1, u2] := by
    match us, hlen with
    | [u, v], _ => exact ⟨u, v, rfl⟩
  have h1 := hr 0 _ u1 rfl rfl
  have h2 := hr 1 _ u2 rfl rfl
  cases h1 with
  | map _ bd hbd =>
  cases h2 with
  | map _ bs hbs =>
  have hbd := hI.live hd (by simp [mS]) hbd
  have hbs := hI.live hs (by simp [mS]) hbs
  have nd : m.objb.Nodup := (List.nodup_append.1 hI.nodup).1
  have hne : bd ≠ bs := by
    rintro rfl
    exact hds (objb_inj nd hbd hbs)
  have hm1 : ld.length ≤ maxLen := by simp only [maxLen]; omega
  have hm2 : ls.length ≤ maxLen := by simp only [maxLen]; omega
  obtain ⟨Dd, hownd, _, _, hMd, hmd⟩ := own_of hm1 (hI.ob d _ bd hd hbd)
  obtain ⟨Ds, howns, hps, hsz, ⟨es, rfl⟩, hms⟩ := own_of hm2 (hI.ob s _ bs hs hbs)
  have hC := Go.Proofs.AnyX.maps_Copy copyLays (string_keyed (by kernel_rfl)) RT bd bs ld.length ls.length Dd (.map es) w hownd howns hne (by rw [hsz]; simp only [maxLen]; omega)
  rw [show copyLays_ren.t 26 = 9 from rfl] at hC
  refine hC.mono fun e w' ⟨he, hown', _, hgr⟩ => ?_
  obtain ⟨ms', clock', hh', hF, hsz', hD'⟩ := hown'
  have hmem : bd ∈ m.objb := Gh.mem_objb.2 (List.mem_of_getElem? hbd)
  have old : ∀ k, k < w.heap.size → k ≠ bd → w'.heap[k]? = w.heap[k]? := fun k hk hne => hgr.block k hk (by simpa using hne)
  have hX : Ext m w m w' := .turned hmem hgr.os hgr.tape hgr.output hgr.size old
  have hent : ∀ x ∈ ms'.toList, ∃ t : Str, x.key = encStr t ∧ x.val = .bool true ∧ t.length ≤ maxLen ∧ rg Tryz.prog 9 RT x = (.string t, .lit (.bool true)) := by
    intro x hx
    obtain ⟨y, hy⟩ := hF.reads x hx
    obtain ⟨t, h3, h4, h5⟩ := Maps.keyOf_str (by kernel_rfl) (rd_key hy)
    obtain ⟨z, h6, h7⟩ := rd_val hy
    obtain ⟨h8, h9⟩ := RT_some h6
    refine ⟨t, h3, h8, h5, ?_⟩
    rw [rg_of hy]
    rw [h9] at h7
    exact Prod.ext h4 h7
  obtain ⟨l', hl'⟩ : ∃ l' : List Str, ms'.toList.map (·.key) = l'.map encStr := by
    refine ⟨ms'.toList.map fun x => (match x.key with | .string b => b.data.toList | _ => []), ?_⟩
    rw [List.map_map]
    apply List.map_congr_left
    intro x hx
    obtain ⟨t, h3, _⟩ := hent x hx
    simp [h3]
  have hlen' : l'.length = ms'.size := by
    have := congrArg List.length hl'
    simpa using this.symm
  have hat : ∀ (i : Nat) x, ms'[i]? = some x → ∃ t, l'[i]? = some t ∧ x.key = encStr t ∧ x.val = .bool true ∧ t.length ≤ maxLen := by
    intro i x hx
    obtain ⟨t, h3, h4, h5, _⟩ := hent x (by simpa using Array.mem_of_getElem? hx)
    have h6 := congrArg (·[i]?) hl'
    simp only [List.getElem?_map] at h6
    rw [show ms'.toList[i]? = some x by simpa using hx] at h6
    cases h7 : l'[i]? with
    | none => rw [h7] at h6; cases h6
    | some t' =>
      rw [h7] at h6
      simp only [Option.map_some, Option.some.injEq] at h6
      rw [h3] at h6
      exact ⟨t, by rw [encStr_inj h6], h3, h4, h5⟩
  have hnd : l'.Nodup := by
    have h3 := hF.stamped.2.2
    rw [hl'] at h3
    exact (List.pairwise_map.1 h3).imp fun {a b} hab e => hab (by rw [e])
  have hrgs : ms'.toList.map (rg Tryz.prog 9 RT) = l'.map fun t => ((Lit.string t, DataW.lit (.bool true)) : Lit × DataW Unit) := by
    apply List.ext_getElem?
    intro i
    rw [List.getElem?_map, List.getElem?_map]
    cases hx : ms'[i]? with
    | none =>
      have : ms'.size ≤ i := by simpa using hx
      rw [List.getElem?_eq_none (by simpa using this), List.getElem?_eq_none (by omega)]
      rfl
    | some x =>
      obtain ⟨t, h3, h4, _⟩ := hat i x hx
      obtain ⟨t', h5, _, _, h6⟩ := hent x (by simpa using Array.mem_of_getElem? hx)
      rw [h3, show ms'.toList[i]? = some x by simpa using hx, Option.map_some, Option.map_some, h6]
      rw [h4] at h5
      rw [encStr_inj h5]
  have hhas : ∀ x, has (Lib.mergeD Dd (.map es)) (.string x) = true ↔ x ∈ l' := by
    intro x
    rw [hD', has_eq, List.any_eq_true]
    constructor
    · rintro ⟨p, hp1, hp2⟩
      have h3 := (WideShapes.sorted_perm _).mem_iff.1 hp1
      rw [hrgs] at h3
      obtain ⟨t, ht, rfl⟩ := List.mem_map.1 h3
      have := WideAt.sameKey_eq hp2
      cases this
      exact ht
    · intro hx
      refine ⟨(Lit.string x, DataW.lit (.bool true)), (WideShapes.sorted_perm _).mem_iff.2 ?_, WideAt.sameKey_self (by trivial)⟩
      rw [hrgs]
      exact List.mem_map.2 ⟨x, hx, rfl⟩
  have hmerge : ∀ (es : List (Lit × DataW Unit)) (D : DataW Unit), IsMap D → (∀ p ∈ es, WideAt.IsKeyLit p.1) → ∀ k, has (es.foldl (fun D p => D.put p.1 p.2) D) k = true ↔ has D k = true ∨ ∃ p ∈ es, p.1 = k := by
    intro es
    induction es with
    | nil => intro D _ _ k; simp
    | cons p es ih =>
      intro D hD hk k
      rw [List.foldl_cons, ih _ (hD.put _ _) (fun q hq => hk q (by simp [hq])) k]
      by_cases e : k = p.1
      · subst e
        rw [has_put_same hD (hk p (by simp))]
        simp
      · rw [has_put_other e]
        constructor
        · rintro (h | ⟨q, hq, rfl⟩)
          · exact .inl h
          · exact .inr ⟨q, by simp [hq], rfl⟩
        · rintro (h | ⟨q, hq, rfl⟩)
          · exact .inl h
          · rcases List.mem_cons.1 hq with rfl | hq
            · exact absurd rfl e
            · exact .inr ⟨q, hq, rfl⟩
  have hI' := hI.turned hbd hX old (mS l') ⟨ms', clock', hh', by simp [hlen'], fun i x e hx he => ?_, hF.stamped, fun h => nomatch h⟩
  · refine ⟨_, _, _, m, he, ⟨rfl, l', hnd, fun x => ?_, by rw [hlen']; rw [hsz] at hsz'; exact hsz', rfl⟩, hI', hX, .tup [] [] rfl (by simp)⟩
    rw [← hhas, ← hmd, ← hms]
    have hkl : ∀ p ∈ es, WideAt.IsKeyLit p.1 := fun p hp => by
      obtain ⟨es0, he0, hk0⟩ := howns.keysOf
      cases he0
      obtain ⟨v, hv⟩ := hk0 p hp
      obtain ⟨t, _, h4, _⟩ := Maps.keyOf_str (by kernel_rfl) hv
      rw [h4]
      trivial
    show has (es.foldl (fun D p => D.put p.1 p.2) Dd) (.string x) = true ↔ _
    rw [hmerge es Dd hMd hkl]
    refine or_congr Iff.rfl ?_
    rw [has_eq, List.any_eq_true]
    constructor
    · rintro ⟨p, hp, e⟩
      exact ⟨p, hp, by rw [e]; exact WideAt.sameKey_self (by trivial)⟩
    · rintro ⟨p, hp, e⟩
      exact ⟨p, hp, WideAt.sameKey_eq e⟩
  · rw [List.getElem?_map] at hx
    obtain ⟨t, h3, h4, h5, h6⟩ := hat i e he
    rw [h3] at hx
    cases hx
    exact ⟨by rw [h4]; exact .str t h6, by rw [h5]; exact .v _ _ (.bool true)⟩
end Go.Proofs.YtpdeaekmgljeaaaGreatDoor
