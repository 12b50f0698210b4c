/-
  Types: the text, walked. (Own work.)
-/
import Derived.Test.YtkpnhcccocaakaaDoorT10
set_option linter.unusedVariables false
set_option linter.unusedSimpArgs false
namespace Go.Proofs.YtkpnhcccocaakaaDoor
open Go Go.Abs

theorem nsz_mem {l : List Str} {x : Str} (h : x ∈ l) : x.length ≤ nsz l := by
  induction l with
  | nil => cases h
  | cons y l ih =>
    simp only [nsz]
    rcases List.mem_cons.1 h with rfl | h
    · omega
    · have := ih h; omega
@[reducible] def vW (ts rs : List Int) : V := .agg [vI ts, vI rs]
def itemsO (ls xs : List Str) (i : Nat) : List V := ((items ls xs).take i).map .str
theorem itemsO_zero (ls xs : List Str) : itemsO ls xs 0 = [] := rfl
theorem itemsO_step {ls xs : List Str} {i : Nat} {s x : Str} (h1 : ls[i]? = some s) (h2 : xs[i]? = some x) : itemsO ls xs i ++ [.str (s ++ [32, 58, 32] ++ x)] = itemsO ls xs (i + 1) := by
  unfold itemsO
  rw [List.take_add_one, items_get ls xs i s x h1 h2]
  simp
theorem itemsO_all {ls xs : List Str} (h : ls.length = xs.length) {i : Nat} (hi : xs.length ≤ i) : itemsO ls xs i = (items ls xs).map .str := by
  unfold itemsO
  rw [List.take_of_length_le (by rw [items_len ls xs h]; omega)]
theorem itemsO_len {ls xs : List Str} (h : ls.length = xs.length) {i : Nat} (hi : i ≤ xs.length) : (itemsO ls xs i).length = i := by
  unfold itemsO
  rw [List.length_map, List.length_take, items_len ls xs h]
  omega
theorem k_WRow {k n tl : Int} {l : List Tp} {ls : List Str} {ts rs : List Int} {o c : UInt8} {σ : Sg} (h1 : ts.length ≤ 3000000) (h2 : rs.length ≤ 3000000) (he : tbk (.mk k n l ls tl) ≤ 1048576) (hll : ls.length = l.length)
    (ih : ∀ x ∈ l, ∀ σ, ACalls Tryd.prog 32 [.v (vW ts rs), .v (encT x)] σ fun r σ' => r = .v (.str (txt ts rs x)) ∧ σ' = σ) :
    ACalls Tryd.prog 49 [.v (vW ts rs), .v (encT (.mk k n l ls tl)), .v (.str [o]), .v (.str [c])] σ fun r σ' => r = .v (.str ([o] ++ rowT rs tl ls (txtL ts rs l) ++ [c])) ∧ σ' = σ := by
  simp only [tbk] at he
  have hl1 := tbkL_len l
  rw [encT_mk]
  have hxl : (txtL ts rs l).length = l.length := by rw [txtL_eq, List.length_map]
  have hrow := rowT_len (tl := tl) (ls := ls) (xs := txtL ts rs l) h2
  have htx : lenL (txtL ts rs l) ≤ 8 * tbkL l := by
    clear ih hll hrow hxl he hl1
    induction l with
    | nil => simp [txtL, lenL]
    | cons x l ih2 =>
      have e1 := txt_len ts rs h1 h2 x
      simp only [txtL, lenL, tbkL]
      omega
  refine acalls_fit Tryd.func49 (by kernel_rfl) c49 rfl (by simp [a49]) fun hf => ?_
  clear hf
  simp -implicitDefEqProofs (maxSteps := 2000000) (disch := omega) [-getElem?_pos, a49]
  refine W_loop (α := Nat) 0 (fun i => ls.length - i) (fun i => ⟨[(2, .v (.str [o])), (3, .v (.str [c])), (4, .ptr σ.objs.length 0), (5, .ptr (σ.objs.length + 1) 0), (9, .tsl σ.toks.length none (itemsO ls (txtL ts rs l) i)), (14, .v (.sl none false (ls.map .str))), (15, .v (.int .i64 ls.length)), (16, .v (.int .i64 i))], ⟨σ.objs ++ [.cells [.v (vI ts), .v (vI rs)], .cells [.v (.int .i64 k), .v (.int .i64 n), .v (.sl (some 5) false (l.map encT)), .v (.sl none false (ls.map .str)), .v (.int .i64 tl)]], σ.toks ++ [i]⟩⟩)
    (fun i => i ≤ ls.length) (.tok (i := 9) (sh := none) (by simp [itemsO]) (by simp)) (by omega) fun i hi => ?_
  have hil := itemsO_len (ls := ls) (xs := txtL ts rs l) (by omega) (i := i) (by omega)
  simp -implicitDefEqProofs (maxSteps := 2000000) (disch := omega) [-getElem?_pos]
  refine .mk (fun h => ?_) fun h => ?_
  · simp -implicitDefEqProofs (maxSteps := 2000000) (disch := omega) [-getElem?_pos]
    repeat refine ⟨by omega, ?_⟩
    intro s hs
    have hs1 := nsz_mem (List.mem_of_getElem? hs)
    refine ⟨by omega, by omega, fun x hx => ?_⟩
    have hx0 : (txtL ts rs l)[i]? = some (txt ts rs x) := by rw [txtL_eq, List.getElem?_map, hx]; rfl
    have hx1 := txt_len ts rs h1 h2 x
    have hx2 := tbkL_mem (List.mem_of_getElem? hx)
    refine (ih x (List.mem_of_getElem? hx) _).then fun r hr => ?_
    subst hr
    have hst := itemsO_step hs hx0
    simp only [List.append_assoc, List.cons_append, List.nil_append] at hst
    simp -implicitDefEqProofs (maxSteps := 2000000) (disch := omega) [-getElem?_pos, hil, hst]
    exact ⟨by omega, by omega, i + 1, by omega, by dsimp only; omega, .eq (by simp)⟩
  · have hieq : i = l.length := by omega
    subst hieq
    have hL := items_len ls (txtL ts rs l) (by omega)
    rw [itemsO_all (by omega) (by omega)] at hil ⊢
    unfold rowT tailT at hrow ⊢
    rw [hxl] at hrow ⊢
    obtain ⟨J, hJ⟩ : ∃ J, J = Lib.join (items ls (txtL ts rs l)) [44, 32] := ⟨_, rfl⟩
    have hj := k_Join (L := items ls (txtL ts rs l)) (sep := [44, 32]) (σ := ⟨σ.objs ++ [.cells [.v (vI ts), .v (vI rs)], .cells [.v (.int .i64 k), .v (.int .i64 n), .v (.sl (some 5) false (l.map encT)), .v (.sl none false (ls.map .str)), .v (.int .i64 tl)]], σ.toks ++ [l.length]⟩) (by omega) (by simp only [List.length_append] at hrow; omega)
    rw [← hJ] at hj hrow ⊢
    generalize items ls (txtL ts rs l) = I at *
    simp -implicitDefEqProofs (maxSteps := 2000000) (disch := omega) [-getElem?_pos]
    refine (ACalls.argA hj .tsl).then fun r hr => ?_
    subst hr
    by_cases htl : 0 ≤ tl
    rotate_left
    · rw [if_neg htl, List.append_nil] at hrow
      rw [if_neg htl]
      simp -implicitDefEqProofs (maxSteps := 2000000) (disch := omega) [-getElem?_pos, htl]
      exact ⟨by omega, by omega, .finS _ σ ⟨rfl, rfl⟩ (.refl _) (fun ob h => .inl h) (by simp) (by simp) (by simp) (by simp) (by simp)⟩
    rw [if_pos htl] at hrow ⊢
    have hI : I.length = l.length := by omega
    by_cases hl0 : 0 < l.length
    · rw [if_pos hl0] at hrow ⊢
      simp only [List.length_append, List.length_cons, List.length_nil] at hrow
      have hl0' : 0 < I.length := by omega
      simp -implicitDefEqProofs (maxSteps := 2000000) (disch := omega) [-getElem?_pos, htl, hl0']
      refine ⟨by omega, ?_⟩
      refine k_IndexIX.then fun r hr => ?_
      subst hr
      simp -implicitDefEqProofs (maxSteps := 2000000) (disch := omega) [-getElem?_pos]
      refine k_Itoa.then fun r hr => ?_
      obtain ⟨rfl, hlen⟩ := hr
      generalize Lib.itoa (ixI rs tl) = Z at *
      simp -implicitDefEqProofs (maxSteps := 2000000) (disch := omega) [-getElem?_pos]
      exact ⟨by omega, by omega, by omega, by omega, .finS _ σ ⟨rfl, rfl⟩ (by simp) (fun ob h => .inl h) (by simp) (by simp) (by simp) (by simp) (by simp)⟩
    · rw [if_neg hl0, List.nil_append] at hrow ⊢
      simp only [List.length_append, List.length_cons, List.length_nil] at hrow
      have hl0' : ¬ 0 < I.length := by omega
      simp -implicitDefEqProofs (maxSteps := 2000000) (disch := omega) [-getElem?_pos, htl, hl0']
      refine k_IndexIX.then fun r hr => ?_
      subst hr
      simp -implicitDefEqProofs (maxSteps := 2000000) (disch := omega) [-getElem?_pos]
      refine k_Itoa.then fun r hr => ?_
      obtain ⟨rfl, hlen⟩ := hr
      generalize Lib.itoa (ixI rs tl) = Z at *
      simp -implicitDefEqProofs (maxSteps := 2000000) (disch := omega) [-getElem?_pos]
      exact ⟨by omega, by omega, by omega, by omega, .finS _ σ ⟨rfl, rfl⟩ (by simp) (fun ob h => .inl h) (by simp) (by simp) (by simp) (by simp) (by simp)⟩

theorem tfine {k n tl : Int} {l : List Tp} {ls : List Str} (h : fineR (.mk k n l ls tl) = true) : okT k n l ls tl = true ∧ ∀ x ∈ l, fineR x = true := by
  simp only [fineR, Bool.and_eq_true] at h
  refine ⟨h.1, ?_⟩
  have h2 := h.2
  clear h
  induction l with
  | nil => simp
  | cons x l ih =>
    simp only [fineRL, Bool.and_eq_true] at h2
    intro y hy
    rcases List.mem_cons.1 hy with rfl | hy
    · exact h2.1
    · exact ih h2.2 y hy
theorem okT_kinds {k n tl : Int} {l : List Tp} {ls : List Str} (h : okT k n l ls tl = true) : partsN k ls = l.length := by
  unfold okT at h
  simp only [Bool.and_eq_true, decide_eq_true_eq] at h
  exact h.1.1.1
theorem k_WText (t : Tp) {ts rs : List Int} (h1 : ts.length ≤ 3000000) (h2 : rs.length ≤ 3000000) : ∀ {σ : Sg}, tbk t ≤ 1048576 → fineR t = true → ACalls Tryd.prog 32 [.v (vW ts rs), .v (encT t)] σ fun r σ' => r = .v (.str (txt ts rs t)) ∧ σ' = σ := by
  refine Tp.ind (P := fun t => ∀ {σ : Sg}, tbk t ≤ 1048576 → fineR t = true → ACalls Tryd.prog 32 [.v (vW ts rs), .v (encT t)] σ fun r σ' => r = .v (.str (txt ts rs t)) ∧ σ' = σ) (fun k n l ls tl ih => ?_) t
  intro σ he hfi
  obtain ⟨hok, hfl⟩ := tfine hfi
  have hp := okT_kinds hok
  have hrow := fun (o c : UInt8) σ (hll : ls.length = l.length) => k_WRow (k := k) (n := n) (tl := tl) (l := l) (ls := ls) (o := o) (c := c) (σ := σ) h1 h2 he hll (fun x hx σ => ih x hx (by have := tbkL_mem hx; simp only [tbk] at he; omega) (hfl x hx))
  simp only [tbk] at he
  obtain ⟨T, hT⟩ : ∃ T, T = txt ts rs (.mk k n l ls tl) := ⟨_, rfl⟩
  rw [← hT]
  rw [txt] at hT
  rw [encT_mk] at hrow ⊢
  refine acalls_fit Tryd.func32 (by kernel_rfl) c32 rfl (by simp [a32]) fun hf => ?_
  clear hf
  by_cases k1 : k = 1
  · subst k1; simp -implicitDefEqProofs (maxSteps := 2000000) (disch := omega) [-getElem?_pos, a32]; exact .fin _ ⟨by rw [hT]; simp [txtK], rfl⟩ (.refl _)
  by_cases k2 : k = 2
  · subst k2; simp -implicitDefEqProofs (maxSteps := 2000000) (disch := omega) [-getElem?_pos, a32]; exact .fin _ ⟨by rw [hT]; simp [txtK], rfl⟩ (.refl _)
  by_cases k3 : k = 3
  · subst k3
    simp only [partsN] at hp
    obtain ⟨x, y, rfl⟩ : ∃ x y, l = [x, y] := by
      match l, hp with
      | [x, y], _ => exact ⟨x, y, rfl⟩
    have hx := fun σ => ih x (by simp) (σ := σ) (by simp only [tbkL] at he; omega) (hfl x (by simp))
    have hy := fun σ => ih y (by simp) (σ := σ) (by simp only [tbkL] at he; omega) (hfl y (by simp))
    have lx := txt_len ts rs h1 h2 x
    have ly := txt_len ts rs h1 h2 y
    simp only [tbkL] at he
    obtain ⟨tx, htx⟩ : ∃ tx, tx = txt ts rs x := ⟨_, rfl⟩
    obtain ⟨ty, hty⟩ : ∃ ty, ty = txt ts rs y := ⟨_, rfl⟩
    obtain ⟨x0, hx0⟩ : ∃ x0, x0 = x := ⟨_, rfl⟩
    simp only [txtL, List.map_cons, List.map_nil] at hT
    rw [← htx] at hx lx hT
    rw [← hty] at hy ly hT
    cases x with
    | mk kx nx lx2 lsx tlx =>
    rw [encT_mk] at hx
    simp only [List.map_cons, List.map_nil]
    rw [encT_mk]
    simp -implicitDefEqProofs (maxSteps := 2000000) (disch := omega) [-getElem?_pos, a32]
    refine (hx _).then fun r hr => ?_
    subst hr
    simp -implicitDefEqProofs (maxSteps := 2000000) (disch := omega) [-getElem?_pos]
    refine (k_Within (by omega)).then fun r hr => ?_
    subst hr
    have hpl := par_len (decide (kx = 3)) tx
    generalize hpar : par (decide (kx = 3)) tx = p at *
    simp -implicitDefEqProofs (maxSteps := 2000000) (disch := omega) [-getElem?_pos]
    refine ⟨by omega, ?_⟩
    refine (hy _).then fun r hr => ?_
    subst hr
    simp -implicitDefEqProofs (maxSteps := 2000000) (disch := omega) [-getElem?_pos]
    exact ⟨by omega, .finS _ σ ⟨by rw [hT]; simp [txtK, kdT, ← hpar], rfl⟩ (.refl _) (fun ob h => .inl h) (by simp) (by simp) (by simp) (by simp) (by simp)⟩
  by_cases k4 : k = 4
  · subst k4
    simp only [partsN] at hp
    have hll : ls.length = l.length := by simp at hp; omega
    simp -implicitDefEqProofs (maxSteps := 2000000) (disch := omega) [-getElem?_pos, a32]
    refine (hrow 123 125 _ hll).then fun r hr => ?_
    subst hr
    simp -implicitDefEqProofs (maxSteps := 2000000) (disch := omega) [-getElem?_pos]
    exact .finS _ σ ⟨by rw [hT]; simp [txtK], rfl⟩ (.refl _) (fun ob h => .inl h) (by simp) (by simp) (by simp) (by simp) (by simp)
  by_cases k5 : k = 5
  · subst k5
    simp only [partsN] at hp
    have hll : ls.length = l.length := by simp at hp; omega
    simp -implicitDefEqProofs (maxSteps := 2000000) (disch := omega) [-getElem?_pos, a32]
    refine (hrow 60 62 _ hll).then fun r hr => ?_
    subst hr
    simp -implicitDefEqProofs (maxSteps := 2000000) (disch := omega) [-getElem?_pos]
    exact .finS _ σ ⟨by rw [hT]; simp [txtK], rfl⟩ (.refl _) (fun ob h => .inl h) (by simp) (by simp) (by simp) (by simp) (by simp)
  by_cases k6 : k = 6
  · subst k6
    simp only [partsN] at hp
    obtain ⟨x, rfl⟩ : ∃ x, l = [x] := by
      match l, hp with
      | [x], _ => exact ⟨x, rfl⟩
    have hx := fun σ => ih x (by simp) (σ := σ) (by simp only [tbkL] at he; omega) (hfl x (by simp))
    have lx := txt_len ts rs h1 h2 x
    simp only [tbkL] at he
    obtain ⟨tx, htx⟩ : ∃ tx, tx = txt ts rs x := ⟨_, rfl⟩
    simp only [txtL, List.map_cons, List.map_nil] at hT
    rw [← htx] at hx lx hT
    cases x with
    | mk kx nx lx2 lsx tlx =>
    rw [encT_mk] at hx
    simp only [List.map_cons, List.map_nil]
    rw [encT_mk]
    have hd : decide (kx = 3 ∨ kx = 6) = (decide (kx = 3) || decide (kx = 6)) := by simp
    by_cases h3 : kx = 3
    · subst h3
      simp -implicitDefEqProofs (maxSteps := 2000000) (disch := omega) [-getElem?_pos, a32]
      refine (hx _).then fun r hr => ?_
      subst hr
      simp -implicitDefEqProofs (maxSteps := 2000000) (disch := omega) [-getElem?_pos]
      refine (k_Within (by omega)).then fun r hr => ?_
      subst hr
      have hpl := par_len true tx
      generalize hpar : par true tx = p at *
      simp -implicitDefEqProofs (maxSteps := 2000000) (disch := omega) [-getElem?_pos]
      exact ⟨by omega, .finS _ σ ⟨by rw [hT]; simp [txtK, kdT, ← hpar], rfl⟩ (.refl _) (fun ob h => .inl h) (by simp) (by simp) (by simp) (by simp) (by simp)⟩
    · simp -implicitDefEqProofs (maxSteps := 2000000) (disch := omega) [-getElem?_pos, a32]
      refine (hx _).then fun r hr => ?_
      subst hr
      simp -implicitDefEqProofs (maxSteps := 2000000) (disch := omega) [-getElem?_pos, h3]
      refine (k_Within (by omega)).then fun r hr => ?_
      subst hr
      have hpl := par_len (decide (kx = 6)) tx
      generalize hpar : par (decide (kx = 6)) tx = p at *
      simp -implicitDefEqProofs (maxSteps := 2000000) (disch := omega) [-getElem?_pos]
      exact ⟨by omega, .finS _ σ ⟨by rw [hT]; simp [txtK, kdT, ← hpar, h3], rfl⟩ (.refl _) (fun ob h => .inl h) (by simp) (by simp) (by simp) (by simp) (by simp)⟩
  by_cases k7 : k = 7
  · subst k7
    simp -implicitDefEqProofs (maxSteps := 2000000) (disch := omega) [-getElem?_pos, a32]
    refine k_IndexIX.then fun r hr => ?_
    subst hr
    simp -implicitDefEqProofs (maxSteps := 2000000) (disch := omega) [-getElem?_pos]
    refine k_Itoa.then fun r hr => ?_
    obtain ⟨rfl, hlen⟩ := hr
    generalize hz : Lib.itoa (ixI ts n) = Z at *
    simp -implicitDefEqProofs (maxSteps := 2000000) (disch := omega) [-getElem?_pos]
    exact ⟨by omega, .finS _ σ ⟨by rw [hT]; simp [txtK, hz], rfl⟩ (.refl _) (fun ob h => .inl h) (by simp) (by simp) (by simp) (by simp) (by simp)⟩
  exfalso
  simp only [partsN, k1, k2, k3, k4, k5, k6, k7, or_self, if_false] at hp
  omega
end Go.Proofs.YtkpnhcccocaakaaDoor
