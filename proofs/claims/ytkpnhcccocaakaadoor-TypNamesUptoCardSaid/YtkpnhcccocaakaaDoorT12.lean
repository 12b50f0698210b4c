/-
  Types: the document's text, walked. (Own work.)
-/
import Derived.Test.YtkpnhcccocaakaaDoorT11
set_option linter.unusedVariables false
set_option linter.unusedSimpArgs false
namespace Go.Proofs.YtkpnhcccocaakaaDoor
open Go Go.Abs

def joinTo (ls xs : List Str) (i : Nat) : Str := Lib.join ((items ls xs).take i) [44, 32]
theorem joinTo_zero (ls xs : List Str) : joinTo ls xs 0 = [] := rfl
theorem joinTo_step {ls xs : List Str} {i : Nat} {s x : Str} (h1 : ls[i]? = some s) (h2 : xs[i]? = some x) : joinTo ls xs (i + 1) = if i = 0 then s ++ [32, 58, 32] ++ x else joinTo ls xs i ++ [44, 32] ++ (s ++ [32, 58, 32] ++ x) := by
  have h3 := items_get ls xs i s x h1 h2
  have h4 := (List.getElem?_eq_some_iff.1 h3).1
  unfold joinTo
  rw [List.take_add_one, h3]
  simp only [Option.toList_some]
  rw [join_snoc]
  by_cases hi : i = 0
  · subst hi; simp
  · rw [if_neg hi, if_neg]
    intro h
    have := congrArg List.length h
    rw [List.length_take, List.length_nil] at this
    omega
theorem lenL_take : ∀ (L : List Str) (i : Nat), lenL (L.take i) ≤ lenL L
  | [], i => by simp [lenL]
  | x :: L, 0 => by simp [lenL]
  | x :: L, i + 1 => by have := lenL_take L i; simp only [List.take_succ_cons, lenL]; omega
theorem joinTo_len (ls xs : List Str) (i : Nat) : (joinTo ls xs i).length ≤ lenL xs + 5 * nsz ls := by
  have h1 := join_len [44, 32] ((items ls xs).take i)
  have h2 := lenL_take (items ls xs) i
  have h3 := items_lenL ls xs
  have h4 : ((items ls xs).take i).length ≤ (items ls xs).length := by simp; omega
  simp only [List.length_cons, List.length_nil] at h1
  unfold joinTo
  omega
theorem joinTo_all {ls xs : List Str} {i : Nat} (h : (items ls xs).length ≤ i) : joinTo ls xs i = Lib.join (items ls xs) [44, 32] := by
  unfold joinTo
  rw [List.take_of_length_le h]
def nmO (a b : Nat) (ts rs : List Int) : Ob := .cells [.tsl a none (ts.map fun n => V.int .i64 n), .tsl b none (rs.map fun n => V.int .i64 n)]
def RTextOk (p a b : Nat) (ts rs : List Int) (t : Tp) : Prop := ∀ {σ : Sg}, tbk t ≤ 1048576 → fineR t = true → σ.objs[p]? = some (nmO a b ts rs) → ACalls Tryd.prog 33 [.ptr p 0, .v (encT t)] σ fun r σ' => r = .v (.str (txt ts rs t)) ∧ σ' = σ
set_option maxHeartbeats 2000000 in
theorem k_RTextW (t : Tp) {p a b : Nat} {ts rs : List Int} (h1 : ts.length ≤ 3000000) (h2 : rs.length ≤ 3000000) : RTextOk p a b ts rs t := by
  refine Tp.ind (P := RTextOk p a b ts rs) (fun k n l ls tl ih => ?_) t
  intro σ he hfi hpo
  have hpl := (List.getElem?_eq_some_iff.1 hpo).1
  obtain ⟨hok, hfl⟩ := tfine hfi
  have hp := okT_kinds hok
  simp only [tbk] at he
  have hll0 := tbkL_len l
  obtain ⟨T, hT⟩ : ∃ T, T = txt ts rs (.mk k n l ls tl) := ⟨_, rfl⟩
  rw [← hT]
  rw [txt] at hT
  have hxl : (txtL ts rs l).length = l.length := by rw [txtL_eq, List.length_map]
  have htx : lenL (txtL ts rs l) ≤ 8 * tbkL l := by
    clear ih hxl he hll0 hp hok hfi hfl hT
    induction l with
    | nil => simp [txtL, lenL]
    | cons x l ih2 =>
      have e1 := txt_len ts rs h1 h2 x
      simp only [txtL, lenL, tbkL]
      omega
  have hp0 : ∀ r, (σ.objs ++ r)[p]? = some (.cells [.tsl a none (ts.map fun n => V.int .i64 n), .tsl b none (rs.map fun n => V.int .i64 n)]) := fun r => by rw [List.getElem?_append_left hpl]; exact hpo
  rw [encT_mk]
  refine acalls_fit Tryd.func33 (by kernel_rfl) c33 rfl (by simp [a33]) fun hf => ?_
  clear hf
  by_cases k1 : k = 1
  · subst k1; simp -implicitDefEqProofs (maxSteps := 2000000) (disch := omega) [-getElem?_pos, a33]; exact .fin _ ⟨by rw [hT]; simp [txtK], rfl⟩ (.refl _)
  by_cases k2 : k = 2
  · subst k2; simp -implicitDefEqProofs (maxSteps := 2000000) (disch := omega) [-getElem?_pos, a33]; exact .fin _ ⟨by rw [hT]; simp [txtK], rfl⟩ (.refl _)
  by_cases k3 : k = 3
  · subst k3
    simp only [partsN] at hp
    obtain ⟨x, y, rfl⟩ : ∃ x y, l = [x, y] := by
      match l, hp with
      | [x, y], _ => exact ⟨x, y, rfl⟩
    have hx := fun σ h => ih x (by simp) (σ := σ) (by simp only [tbkL] at he; omega) (hfl x (by simp)) h
    have hy := fun σ h => ih y (by simp) (σ := σ) (by simp only [tbkL] at he; omega) (hfl y (by simp)) h
    have lx := txt_len ts rs h1 h2 x
    have ly := txt_len ts rs h1 h2 y
    simp only [tbkL] at he
    obtain ⟨tx, htx⟩ : ∃ tx, tx = txt ts rs x := ⟨_, rfl⟩
    obtain ⟨ty, hty⟩ : ∃ ty, ty = txt ts rs y := ⟨_, rfl⟩
    simp only [txtL, List.map_cons, List.map_nil] at hT
    rw [← htx] at hx lx hT
    rw [← hty] at hy ly hT
    cases x with
    | mk kx nx lx2 lsx tlx =>
    rw [encT_mk] at hx
    simp only [List.map_cons, List.map_nil]
    rw [encT_mk]
    simp -implicitDefEqProofs (maxSteps := 2000000) (disch := omega) [-getElem?_pos, a33]
    refine (hx _ (hp0 _)).then fun r hr => ?_
    subst hr
    simp -implicitDefEqProofs (maxSteps := 2000000) (disch := omega) [-getElem?_pos]
    refine .mk (fun h3 => ?_) fun h3 => ?_
    · simp -implicitDefEqProofs (maxSteps := 2000000) (disch := omega) [-getElem?_pos]
      refine ⟨by omega, by omega, by omega, ?_⟩
      refine (hy _ (hp0 _)).then fun r hr => ?_
      subst hr
      simp -implicitDefEqProofs (maxSteps := 2000000) (disch := omega) [-getElem?_pos]
      exact ⟨by omega, .finS _ σ ⟨by rw [hT]; simp [txtK, kdT, par, h3], rfl⟩ (.refl _) (fun ob h => .inl h) (by simp) (by simp) (by simp) (by simp) (by simp)⟩
    · simp -implicitDefEqProofs (maxSteps := 2000000) (disch := omega) [-getElem?_pos]
      refine ⟨by omega, ?_⟩
      refine (hy _ (hp0 _)).then fun r hr => ?_
      subst hr
      simp -implicitDefEqProofs (maxSteps := 2000000) (disch := omega) [-getElem?_pos]
      exact ⟨by omega, .finS _ σ ⟨by rw [hT]; simp [txtK, kdT, par, h3], rfl⟩ (.refl _) (fun ob h => .inl h) (by simp) (by simp) (by simp) (by simp) (by simp)⟩
  by_cases k6 : k = 6
  · subst k6
    simp only [partsN] at hp
    obtain ⟨x, rfl⟩ : ∃ x, l = [x] := by
      match l, hp with
      | [x], _ => exact ⟨x, rfl⟩
    have hx := fun σ h => ih x (by simp) (σ := σ) (by simp only [tbkL] at he; omega) (hfl x (by simp)) h
    have lx := txt_len ts rs h1 h2 x
    simp only [tbkL] at he
    obtain ⟨tx, htx⟩ : ∃ tx, tx = txt ts rs x := ⟨_, rfl⟩
    simp only [txtL, List.map_cons, List.map_nil] at hT
    rw [← htx] at hx lx hT
    cases x with
    | mk kx nx lx2 lsx tlx =>
    rw [encT_mk] at hx
    simp only [List.map_cons, List.map_nil]
    rw [encT_mk]
    by_cases h3 : kx = 3 ∨ kx = 6
    · rcases h3 with h3 | h3
      · subst h3
        simp -implicitDefEqProofs (maxSteps := 2000000) (disch := omega) [-getElem?_pos, a33]
        refine (hx _ (hp0 _)).then fun r hr => ?_
        subst hr
        simp -implicitDefEqProofs (maxSteps := 2000000) (disch := omega) [-getElem?_pos]
        exact ⟨by omega, by omega, by omega, .finS _ σ ⟨by rw [hT]; simp [txtK, kdT, par], rfl⟩ (.refl _) (fun ob h => .inl h) (by simp) (by simp) (by simp) (by simp) (by simp)⟩
      · subst h3
        simp -implicitDefEqProofs (maxSteps := 2000000) (disch := omega) [-getElem?_pos, a33]
        refine (hx _ (hp0 _)).then fun r hr => ?_
        subst hr
        simp -implicitDefEqProofs (maxSteps := 2000000) (disch := omega) [-getElem?_pos]
        exact ⟨by omega, by omega, by omega, .finS _ σ ⟨by rw [hT]; simp [txtK, kdT, par], rfl⟩ (.refl _) (fun ob h => .inl h) (by simp) (by simp) (by simp) (by simp) (by simp)⟩
    · have h3a : ¬ kx = 3 := fun h => h3 (.inl h)
      have h3b : ¬ kx = 6 := fun h => h3 (.inr h)
      simp -implicitDefEqProofs (maxSteps := 2000000) (disch := omega) [-getElem?_pos, a33]
      refine (hx _ (hp0 _)).then fun r hr => ?_
      subst hr
      simp -implicitDefEqProofs (maxSteps := 2000000) (disch := omega) [-getElem?_pos, h3a, h3b]
      exact ⟨by omega, .finS _ σ ⟨by rw [hT]; simp [txtK, kdT, par, h3a, h3b], rfl⟩ (.refl _) (fun ob h => .inl h) (by simp) (by simp) (by simp) (by simp) (by simp)⟩
  by_cases k7 : k = 7
  · subst k7
    simp -implicitDefEqProofs (maxSteps := 2000000) (disch := omega) [-getElem?_pos, a33, hp0]
    refine (ACalls.argA k_AtX .tsl).then fun r hr => ?_
    subst hr
    simp -implicitDefEqProofs (maxSteps := 2000000) (disch := omega) [-getElem?_pos]
    refine k_Itoa.then fun r hr => ?_
    obtain ⟨rfl, hlen⟩ := hr
    generalize hz : Lib.itoa (ixI ts n) = Z at *
    simp -implicitDefEqProofs (maxSteps := 2000000) (disch := omega) [-getElem?_pos]
    exact ⟨by omega, .finS _ σ ⟨by rw [hT]; simp [txtK, hz], rfl⟩ (.refl _) (fun ob h => .inl h) (by simp) (by simp) (by simp) (by simp) (by simp)⟩
  by_cases k4 : k = 4
  · subst k4
    simp only [partsN] at hp
    have hll : ls.length = l.length := by simp at hp; omega
    have hrow := rowT_len (tl := tl) (ls := ls) (xs := txtL ts rs l) h2
    have hI := items_len ls (txtL ts rs l) (by omega)
    rw [hxl] at hI
    have hjl := join_len [44, 32] (items ls (txtL ts rs l))
    have hjl2 := items_lenL ls (txtL ts rs l)
    simp only [List.length_cons, List.length_nil] at hjl
    simp -implicitDefEqProofs (maxSteps := 2000000) (disch := omega) [-getElem?_pos, a33, hp0]
    refine W_loop (α := Nat) 0 (fun i => l.length - i) (fun i => ⟨[(0, .ptr p 0), (3, .ptr σ.objs.length 0), (7, .v (.str (joinTo ls (txtL ts rs l) i))), (8, .v (.int .i64 i))], ⟨σ.objs ++ [.cells [.v (.int .i64 4), .v (.int .i64 n), .v (.sl (some 5) false (l.map encT)), .v (.sl none false (ls.map .str)), .v (.int .i64 tl)]], σ.toks⟩⟩)
      (fun i => i ≤ l.length) (.eq (by simp [joinTo_zero])) (by omega) fun i hi => ?_
    have hjt := joinTo_len ls (txtL ts rs l) i
    simp -implicitDefEqProofs (maxSteps := 2000000) (disch := omega) [-getElem?_pos]
    refine .mk (fun h => ?_) fun h => ?_
    · simp -implicitDefEqProofs (maxSteps := 2000000) (disch := omega) [-getElem?_pos]
      obtain ⟨s, hs⟩ : ∃ s, ls[i]? = some s := ⟨_, List.getElem?_eq_getElem (by omega)⟩
      obtain ⟨x, hx⟩ : ∃ x, l[i]? = some x := ⟨_, List.getElem?_eq_getElem h⟩
      have hs1 := nsz_mem (List.mem_of_getElem? hs)
      have hx0 : (txtL ts rs l)[i]? = some (txt ts rs x) := by rw [txtL_eq, List.getElem?_map, hx]; rfl
      have hx1 := txt_len ts rs h1 h2 x
      have hx2 := tbkL_mem (List.mem_of_getElem? hx)
      have hjs := joinTo_step hs hx0
      have hix := fun σ h => ih x (List.mem_of_getElem? hx) (σ := σ) (by omega) (hfl x (List.mem_of_getElem? hx)) h
      refine .mk (fun h0 => ?_) fun h0 => ?_
      · rw [if_neg (by omega)] at hjs
        simp only [List.append_assoc, List.cons_append, List.nil_append] at hjs
        simp -implicitDefEqProofs (maxSteps := 2000000) (disch := omega) [-getElem?_pos]
        refine ⟨by omega, by omega, fun s' hs' => ?_⟩
        obtain rfl : s' = s := by rw [hs] at hs'; exact (Option.some.inj hs').symm
        refine ⟨by omega, by omega, by omega, fun x' hx' => ?_⟩
        obtain rfl : x' = x := by rw [hx] at hx'; exact (Option.some.inj hx').symm
        refine (hix _ (hp0 _)).then fun r hr => ?_
        subst hr
        simp -implicitDefEqProofs (maxSteps := 2000000) (disch := omega) [-getElem?_pos]
        exact ⟨by omega, i + 1, by omega, by dsimp only; omega, .eq (by simp [hjs])⟩
      · obtain rfl : i = 0 := by omega
        rw [if_pos rfl] at hjs
        simp only [List.append_assoc, List.cons_append, List.nil_append, Nat.zero_add] at hjs
        simp -implicitDefEqProofs (maxSteps := 2000000) (disch := omega) [-getElem?_pos, joinTo_zero]
        refine ⟨by omega, fun s' hs' => ?_⟩
        obtain rfl : s' = s := by rw [hs] at hs'; exact (Option.some.inj hs').symm
        refine ⟨by omega, by omega, by omega, fun x' hx' => ?_⟩
        obtain rfl : x' = x := by rw [hx] at hx'; exact (Option.some.inj hx').symm
        refine (hix _ (hp0 _)).then fun r hr => ?_
        subst hr
        simp -implicitDefEqProofs (maxSteps := 2000000) (disch := omega) [-getElem?_pos]
        exact ⟨by omega, 1, by omega, by dsimp only; omega, .eq (by simp [hjs])⟩
    have hil : i = l.length := by omega
    subst hil
    rw [joinTo_all (by omega)] at hjt ⊢
    obtain ⟨J, hJ⟩ : ∃ J, J = Lib.join (items ls (txtL ts rs l)) [44, 32] := ⟨_, rfl⟩
    have hTT : T = [123] ++ (J ++ tailT rs tl l.length) ++ [125] := by rw [hT, hJ]; simp [txtK, rowT, hxl]
    unfold tailT at hTT
    rw [← hJ] at hjt ⊢
    simp -implicitDefEqProofs (maxSteps := 2000000) (disch := omega) [-getElem?_pos]
    by_cases htl : 0 ≤ tl
    rotate_left
    · rw [if_neg htl] at hTT
      simp -implicitDefEqProofs (maxSteps := 2000000) (disch := omega) [-getElem?_pos, htl]
      exact ⟨by omega, by omega, .finS _ σ ⟨by rw [hTT]; simp, rfl⟩ (.refl _) (fun ob h => .inl h) (by simp) (by simp) (by simp) (by simp) (by simp)⟩
    rw [if_pos htl] at hTT
    by_cases hl0 : 0 < l.length
    · rw [if_pos hl0] at hTT
      simp -implicitDefEqProofs (maxSteps := 2000000) (disch := omega) [-getElem?_pos, htl, hl0, hp0]
      refine ⟨by omega, by omega, ?_⟩
      refine (ACalls.argA k_AtX .tsl).then fun r hr => ?_
      subst hr
      simp -implicitDefEqProofs (maxSteps := 2000000) (disch := omega) [-getElem?_pos]
      refine k_Itoa.then fun r hr => ?_
      obtain ⟨rfl, hlen⟩ := hr
      generalize Lib.itoa (ixI rs tl) = Z at *
      simp -implicitDefEqProofs (maxSteps := 2000000) (disch := omega) [-getElem?_pos]
      exact ⟨by omega, by omega, by omega, .finS _ σ ⟨by rw [hTT]; simp, rfl⟩ (.refl _) (fun ob h => .inl h) (by simp) (by simp) (by simp) (by simp) (by simp)⟩
    · rw [if_neg hl0] at hTT
      simp -implicitDefEqProofs (maxSteps := 2000000) (disch := omega) [-getElem?_pos, htl, hl0, hp0]
      refine ⟨by omega, ?_⟩
      refine (ACalls.argA k_AtX .tsl).then fun r hr => ?_
      subst hr
      simp -implicitDefEqProofs (maxSteps := 2000000) (disch := omega) [-getElem?_pos]
      refine k_Itoa.then fun r hr => ?_
      obtain ⟨rfl, hlen⟩ := hr
      generalize Lib.itoa (ixI rs tl) = Z at *
      simp -implicitDefEqProofs (maxSteps := 2000000) (disch := omega) [-getElem?_pos]
      exact ⟨by omega, by omega, by omega, .finS _ σ ⟨by rw [hTT]; simp, rfl⟩ (.refl _) (fun ob h => .inl h) (by simp) (by simp) (by simp) (by simp) (by simp)⟩

  by_cases k5 : k = 5
  · subst k5
    simp only [partsN] at hp
    have hll : ls.length = l.length := by simp at hp; omega
    have hrow := rowT_len (tl := tl) (ls := ls) (xs := txtL ts rs l) h2
    have hI := items_len ls (txtL ts rs l) (by omega)
    rw [hxl] at hI
    have hjl := join_len [44, 32] (items ls (txtL ts rs l))
    have hjl2 := items_lenL ls (txtL ts rs l)
    simp only [List.length_cons, List.length_nil] at hjl
    simp -implicitDefEqProofs (maxSteps := 2000000) (disch := omega) [-getElem?_pos, a33, hp0]
    refine W_loop (α := Nat) 0 (fun i => l.length - i) (fun i => ⟨[(0, .ptr p 0), (3, .ptr σ.objs.length 0), (7, .v (.str (joinTo ls (txtL ts rs l) i))), (8, .v (.int .i64 i))], ⟨σ.objs ++ [.cells [.v (.int .i64 5), .v (.int .i64 n), .v (.sl (some 5) false (l.map encT)), .v (.sl none false (ls.map .str)), .v (.int .i64 tl)]], σ.toks⟩⟩)
      (fun i => i ≤ l.length) (.eq (by simp [joinTo_zero])) (by omega) fun i hi => ?_
    have hjt := joinTo_len ls (txtL ts rs l) i
    simp -implicitDefEqProofs (maxSteps := 2000000) (disch := omega) [-getElem?_pos]
    refine .mk (fun h => ?_) fun h => ?_
    · simp -implicitDefEqProofs (maxSteps := 2000000) (disch := omega) [-getElem?_pos]
      obtain ⟨s, hs⟩ : ∃ s, ls[i]? = some s := ⟨_, List.getElem?_eq_getElem (by omega)⟩
      obtain ⟨x, hx⟩ : ∃ x, l[i]? = some x := ⟨_, List.getElem?_eq_getElem h⟩
      have hs1 := nsz_mem (List.mem_of_getElem? hs)
      have hx0 : (txtL ts rs l)[i]? = some (txt ts rs x) := by rw [txtL_eq, List.getElem?_map, hx]; rfl
      have hx1 := txt_len ts rs h1 h2 x
      have hx2 := tbkL_mem (List.mem_of_getElem? hx)
      have hjs := joinTo_step hs hx0
      have hix := fun σ h => ih x (List.mem_of_getElem? hx) (σ := σ) (by omega) (hfl x (List.mem_of_getElem? hx)) h
      refine .mk (fun h0 => ?_) fun h0 => ?_
      · rw [if_neg (by omega)] at hjs
        simp only [List.append_assoc, List.cons_append, List.nil_append] at hjs
        simp -implicitDefEqProofs (maxSteps := 2000000) (disch := omega) [-getElem?_pos]
        refine ⟨by omega, by omega, fun s' hs' => ?_⟩
        obtain rfl : s' = s := by rw [hs] at hs'; exact (Option.some.inj hs').symm
        refine ⟨by omega, by omega, by omega, fun x' hx' => ?_⟩
        obtain rfl : x' = x := by rw [hx] at hx'; exact (Option.some.inj hx').symm
        refine (hix _ (hp0 _)).then fun r hr => ?_
        subst hr
        simp -implicitDefEqProofs (maxSteps := 2000000) (disch := omega) [-getElem?_pos]
        exact ⟨by omega, i + 1, by omega, by dsimp only; omega, .eq (by simp [hjs])⟩
      · obtain rfl : i = 0 := by omega
        rw [if_pos rfl] at hjs
        simp only [List.append_assoc, List.cons_append, List.nil_append, Nat.zero_add] at hjs
        simp -implicitDefEqProofs (maxSteps := 2000000) (disch := omega) [-getElem?_pos, joinTo_zero]
        refine ⟨by omega, fun s' hs' => ?_⟩
        obtain rfl : s' = s := by rw [hs] at hs'; exact (Option.some.inj hs').symm
        refine ⟨by omega, by omega, by omega, fun x' hx' => ?_⟩
        obtain rfl : x' = x := by rw [hx] at hx'; exact (Option.some.inj hx').symm
        refine (hix _ (hp0 _)).then fun r hr => ?_
        subst hr
        simp -implicitDefEqProofs (maxSteps := 2000000) (disch := omega) [-getElem?_pos]
        exact ⟨by omega, 1, by omega, by dsimp only; omega, .eq (by simp [hjs])⟩
    have hil : i = l.length := by omega
    subst hil
    rw [joinTo_all (by omega)] at hjt ⊢
    obtain ⟨J, hJ⟩ : ∃ J, J = Lib.join (items ls (txtL ts rs l)) [44, 32] := ⟨_, rfl⟩
    have hTT : T = [60] ++ (J ++ tailT rs tl l.length) ++ [62] := by rw [hT, hJ]; simp [txtK, rowT, hxl]
    unfold tailT at hTT
    rw [← hJ] at hjt ⊢
    simp -implicitDefEqProofs (maxSteps := 2000000) (disch := omega) [-getElem?_pos]
    by_cases htl : 0 ≤ tl
    rotate_left
    · rw [if_neg htl] at hTT
      simp -implicitDefEqProofs (maxSteps := 2000000) (disch := omega) [-getElem?_pos, htl]
      exact ⟨by omega, by omega, .finS _ σ ⟨by rw [hTT]; simp, rfl⟩ (.refl _) (fun ob h => .inl h) (by simp) (by simp) (by simp) (by simp) (by simp)⟩
    rw [if_pos htl] at hTT
    by_cases hl0 : 0 < l.length
    · rw [if_pos hl0] at hTT
      simp -implicitDefEqProofs (maxSteps := 2000000) (disch := omega) [-getElem?_pos, htl, hl0, hp0]
      refine ⟨by omega, by omega, ?_⟩
      refine (ACalls.argA k_AtX .tsl).then fun r hr => ?_
      subst hr
      simp -implicitDefEqProofs (maxSteps := 2000000) (disch := omega) [-getElem?_pos]
      refine k_Itoa.then fun r hr => ?_
      obtain ⟨rfl, hlen⟩ := hr
      generalize Lib.itoa (ixI rs tl) = Z at *
      simp -implicitDefEqProofs (maxSteps := 2000000) (disch := omega) [-getElem?_pos]
      exact ⟨by omega, by omega, by omega, .finS _ σ ⟨by rw [hTT]; simp, rfl⟩ (.refl _) (fun ob h => .inl h) (by simp) (by simp) (by simp) (by simp) (by simp)⟩
    · rw [if_neg hl0] at hTT
      simp -implicitDefEqProofs (maxSteps := 2000000) (disch := omega) [-getElem?_pos, htl, hl0, hp0]
      refine ⟨by omega, ?_⟩
      refine (ACalls.argA k_AtX .tsl).then fun r hr => ?_
      subst hr
      simp -implicitDefEqProofs (maxSteps := 2000000) (disch := omega) [-getElem?_pos]
      refine k_Itoa.then fun r hr => ?_
      obtain ⟨rfl, hlen⟩ := hr
      generalize Lib.itoa (ixI rs tl) = Z at *
      simp -implicitDefEqProofs (maxSteps := 2000000) (disch := omega) [-getElem?_pos]
      exact ⟨by omega, by omega, by omega, .finS _ σ ⟨by rw [hTT]; simp, rfl⟩ (.refl _) (fun ob h => .inl h) (by simp) (by simp) (by simp) (by simp) (by simp)⟩

  exfalso
  simp only [partsN, k1, k2, k3, k4, k5, k6, k7, or_self, if_false] at hp
  omega
end Go.Proofs.YtkpnhcccocaakaaDoor
