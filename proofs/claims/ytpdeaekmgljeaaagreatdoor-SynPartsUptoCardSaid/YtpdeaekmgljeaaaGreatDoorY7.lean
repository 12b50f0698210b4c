/-
  Expressions as literals; the example of layer 5. (Own work.)
-/
import Derived.Test.YtpdeaekmgljeaaaGreatDoorY6
set_option linter.unusedVariables false
set_option linter.unusedSimpArgs false
namespace Go.Proofs.YtpdeaekmgljeaaaGreatDoor
open Go Go.Abs

def celE : Ex → List V
  | .mk k p n s t ls ns l => [.int .i64 k, .int .i64 p, .int .i64 n, .str s, .str t, .sl none false (ls.map .str), .sl none false (ns.map .str), .sl (some 8) false (l.map encE)]
theorem celE_enc (e : Ex) : encE e = .agg (celE e) := by cases e; exact encE_mk
theorem celE_one (e : Ex) : ∀ c ∈ celE e, c.one = true := by cases e; simp [celE, V.one]
theorem VLes.append : ∀ {a b c d : List V}, VLes a b → VLes c d → VLes (a ++ c) (b ++ d)
  | [], [], _, _, _, h => h
  | x :: a, y :: b, _, _, h, k => ⟨h.1, VLes.append h.2 k⟩
  | [], _ :: _, _, _, h, _ => h.elim
  | _ :: _, [], _, _, h, _ => h.elim
/-- Literals that stand for expressions. -/
def ELes : List V → List Ex → Prop
  | [], [] => True
  | .agg cs :: xs, e :: l => VLes cs (celE e) ∧ ELes xs l
  | _, _ => False
theorem ELes.flat : ∀ {xs : List V} {l : List Ex}, ELes xs l → VLes (V.flat xs) (V.flat (l.map encE)) ∧ xs.length = l.length
  | [], [], _ => ⟨trivial, rfl⟩
  | .agg cs :: xs, e :: l, h => by
    obtain ⟨h1, h2⟩ := ELes.flat h.2
    refine ⟨?_, by simp [h2]⟩
    simp only [V.flat, List.map_cons, List.flatMap_cons, celE_enc, V.cells] at h1 ⊢
    exact VLes.append h.1 h1
theorem flat_one : ∀ l : List Ex, ∀ c ∈ V.flat (l.map encE), c.one = true
  | [], c, h => by cases h
  | e :: l, c, h => by
    simp only [V.flat, List.map_cons, List.flatMap_cons, celE_enc, V.cells, List.mem_append] at h
    rcases h with h | h
    · exact celE_one e c h
    · exact flat_one l c (by simpa only [V.flat, celE_enc] using h)
theorem exs_le {f : Bool} {xs : List V} {l : List Ex} (h : ELes xs l) : VLe (.sl (some 8) f xs) (.sl (some 8) false (l.map encE)) := by
  obtain ⟨h1, h2⟩ := h.flat
  exact .sl (by simpa using h2) (fun y hy => by obtain ⟨e, _, rfl⟩ := List.mem_map.1 hy; exact encE_shape e) (flat_one l) h1
theorem ex_le {cs : List V} {e : Ex} (h : VLes cs (celE e)) : VLe (.agg cs) (encE e) := by
  rw [celE_enc]
  exact .agg h (celE_one e)
def exA : Ex := .mk 3 0 0 [97] [] [] [] []
def exB : Ex := .mk 3 0 0 [98] [] [] [] []
def exP : Ex := .mk 5 0 0 [] [] [] [] [exA, exB]
def exF : Ex := .mk 4 0 0 [97] [] [] [] [exP]
def ex0 : Ex := .mk 0 0 0 [] [] [] [] []
theorem leaf_le {k p n : Int} {s t : Str} : VLes [.int .i64 k, .int .i64 p, .int .i64 n, .str s, .str t, .snil, .snil, .snil] (celE (.mk k p n s t [] [] [])) := ⟨.refl _, .refl _, .refl _, .refl _, .refl _, .snil, .snil, .snil, trivial⟩
theorem exP_le : VLes [.int .i64 5, .int .i64 0, .int .i64 0, .str [], .str [], .snil, .snil, .sl (some 8) true [.agg [.int .i64 3, .int .i64 0, .int .i64 0, .str [97], .str [], .snil, .snil, .snil], .agg [.int .i64 3, .int .i64 0, .int .i64 0, .str [98], .str [], .snil, .snil, .snil]]] (celE exP) :=
  ⟨.refl _, .refl _, .refl _, .refl _, .refl _, .snil, .snil, exs_le ⟨leaf_le, leaf_le, trivial⟩, trivial⟩
theorem exF_le : VLes [.int .i64 4, .int .i64 0, .int .i64 0, .str [97], .str [], .snil, .snil, .sl (some 8) true [.agg [.int .i64 5, .int .i64 0, .int .i64 0, .str [], .str [], .snil, .snil, .sl (some 8) true [.agg [.int .i64 3, .int .i64 0, .int .i64 0, .str [97], .str [], .snil, .snil, .snil], .agg [.int .i64 3, .int .i64 0, .int .i64 0, .str [98], .str [], .snil, .snil, .snil]]]]] (celE exF) :=
  ⟨.refl _, .refl _, .refl _, .refl _, .refl _, .snil, .snil, exs_le ⟨exP_le, trivial⟩, trivial⟩
theorem exF_fv : fvs exF = [[98]] := by rfl
theorem exF_may : mayB exF = true := by kernel_rfl
theorem ex0_may : mayB ex0 = false := by kernel_rfl
theorem exF_dep : dep exF = 3 := by rfl
theorem one_of {l : List Str} {x : Str} (hn : l.Nodup) (h : ∀ y, y ∈ l ↔ y ∈ [x]) : l = [x] := by
  match l with
  | [] => exact absurd ((h x).2 (by simp)) (by simp)
  | [a] => rw [List.mem_singleton.1 ((h a).1 (by simp))]
  | a :: b :: l =>
    have h1 := List.mem_singleton.1 ((h a).1 (by simp))
    have h2 := List.mem_singleton.1 ((h b).1 (by simp))
    rw [List.nodup_cons] at hn
    exact absurd (by rw [h1, h2]; simp) hn.1
theorem k_Up5 {σ : Sg} : ACalls Tryz.prog 22 [] σ fun r σ' => r = .v (.bool true) ∧ σ' = σ := by
  have hF := (ex_le exF_le).d
  have h0 := (ex_le (leaf_le (k := 0) (p := 0) (n := 0) (s := []) (t := []))).d
  refine acalls_fit Tryz.func22 (by kernel_rfl) c22 rfl (by simp [a22]) fun hf => ?_
  clear hf
  simp -implicitDefEqProofs (maxSteps := 2000000) (disch := omega) [-getElem?_pos, a22]
  refine ((k_Free exF (by decide)).arg1 hF).then fun r hr => ?_
  obtain ⟨l, rfl, hn, hl⟩ := hr
  rw [exF_fv] at hl
  obtain rfl := one_of hn hl
  simp -implicitDefEqProofs (maxSteps := 2000000) (disch := omega) [-getElem?_pos]
  refine ((k_May (e := exF) (by decide)).arg1 hF).then fun r hr => ?_
  rw [exF_may] at hr
  subst hr
  simp -implicitDefEqProofs (maxSteps := 2000000) (disch := omega) [-getElem?_pos]
  refine ((k_May (e := ex0) (by decide)).arg1 h0).then fun r hr => ?_
  rw [ex0_may] at hr
  subst hr
  simp -implicitDefEqProofs (maxSteps := 2000000) (disch := omega) [-getElem?_pos]
  refine ((k_Depth exF (by decide)).arg1 hF).then fun r hr => ?_
  rw [exF_dep] at hr
  subst hr
  simp -implicitDefEqProofs (maxSteps := 2000000) (disch := omega) [-getElem?_pos]
  exact .fin _ ⟨rfl, rfl⟩ (.refl _)
end Go.Proofs.YtpdeaekmgljeaaaGreatDoor
