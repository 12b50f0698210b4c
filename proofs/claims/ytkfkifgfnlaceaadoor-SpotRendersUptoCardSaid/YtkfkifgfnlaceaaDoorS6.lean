/-
  SpotStays: the law. (Own work.)
-/
import Derived.Test.YtkfkifgfnlaceaaDoorS5
set_option linter.unusedVariables false
set_option linter.unusedSimpArgs false
namespace Go.Proofs.YtkfkifgfnlaceaaDoor
open Go Go.Abs

/-- Where the loop over the stages stands: how many are done, the two errors, what lies in memory by now. -/
structure YSt where
  i : Nat
  d : D
  e : D
  os : List Ob
structure YIn (σ : Sg) (stages : List Str) (o : Nat) (a n : Int) (x : YSt) : Prop where
  hi : x.i ≤ stages.length
  hd : ∃ ss, Chn (σ.objs ++ x.os) x.d (some (o, a)) n ss
  he : ∃ ss, Chn (σ.objs ++ x.os) x.e none n ss
theorem stays_loop {a n : Int} {stages : List Str} {σ : Sg} {st : St} {d0 e0 : D} {os0 : List Ob} {o : Nat} (hs : stages.length ≤ 100)
    (hd : Chn (σ.objs ++ os0) d0 (some (o, a)) n []) (he : Chn (σ.objs ++ os0) e0 none n [[97]])
    (hw : Weak σ st ⟨[(0, .v (.int .i64 a)), (1, .v (.int .i64 n)), (2, .v (vS stages)), (7, .v (.bool true)), (8, d0), (9, e0), (10, .v (.int .i64 0))], ⟨σ.objs ++ os0, σ.toks⟩⟩) :
    W Tryd.prog σ (loopX (tlX 5 a5.body)) (QBlk 0 (QSeq Tryd.prog σ (contX (tlX 5 a5.body)) (Post σ a5.res RT))) st := by
  refine W_loop (α := YSt) ⟨0, d0, e0, os0⟩ (fun x => stages.length - x.i) (fun x => ⟨[(0, .v (.int .i64 a)), (1, .v (.int .i64 n)), (2, .v (vS stages)), (7, .v (.bool true)), (8, x.d), (9, x.e), (10, .v (.int .i64 x.i))], ⟨σ.objs ++ x.os, σ.toks⟩⟩)
    (fun x => YIn σ stages o a n x) hw ⟨Nat.zero_le _, ⟨_, hd⟩, ⟨_, he⟩⟩ fun ⟨i, d, e, os⟩ ⟨hi, ⟨s1, hd⟩, ⟨s2, he⟩⟩ => ?_
  dsimp only at hi hd he ⊢
  simp -implicitDefEqProofs (maxSteps := 2000000) (disch := omega) [-getElem?_pos]
  refine .mk (fun h => ?_) fun h => ?_
  · obtain ⟨s, hg⟩ : ∃ s, stages[i]? = some s := ⟨stages[i], List.getElem?_eq_getElem (by omega)⟩
    simp -implicitDefEqProofs (maxSteps := 2000000) (disch := omega) [-getElem?_pos, hg]
    refine ⟨h, ?_⟩
    refine (k_Wrap hd).mono fun r σ' hr => ?_
    obtain ⟨rfl, rfl⟩ := hr
    simp -implicitDefEqProofs (maxSteps := 2000000) (disch := omega) [-getElem?_pos, hg]
    refine ⟨h, ?_⟩
    refine (k_Wrap (σ := ⟨σ.objs ++ (os ++ [wrapO s d]), σ.toks⟩) (by rw [← List.append_assoc]; exact he.more)).mono fun r σ' hr => ?_
    obtain ⟨rfl, rfl⟩ := hr
    simp -implicitDefEqProofs (maxSteps := 2000000) (disch := omega) [-getElem?_pos, hg]
    refine ⟨⟨i + 1, .iface 67 (.ptr (σ.objs ++ os).length 0), .iface 67 (.ptr (σ.objs ++ (os ++ [wrapO s d])).length 0), os ++ [wrapO s d] ++ [wrapO s e]⟩, ⟨h, ⟨s :: s1, ?_⟩, ⟨s :: s2, ?_⟩⟩, by dsimp only; omega, .eq2 (by simp) (by simp)⟩
    · dsimp only
      rw [← List.append_assoc, ← List.append_assoc]
      exact (Chn.wrap _ _ _ _ _ _ (by simp) hd.more).more
    · dsimp only
      rw [← List.append_assoc]
      refine .wrap _ s e none n s2 (by simp) ?_
      rw [← List.append_assoc]
      exact he.more.more
  · have hp := hd.place _ _ rfl
    have k1 := k_Place (σ := ⟨σ.objs ++ os, σ.toks⟩) hd hd.place
    have k2 := k_Place (σ := ⟨σ.objs ++ os, σ.toks⟩) he he.place
    simp -implicitDefEqProofs (maxSteps := 2000000) (disch := omega) [-getElem?_pos, a5, tlX, contX]
    refine k1.then fun r hr => ?_
    subst hr
    unfold plT
    simp -implicitDefEqProofs (maxSteps := 2000000) (disch := omega) [-getElem?_pos]
    refine k2.then fun r hr => ?_
    subst hr
    unfold plT
    simp -implicitDefEqProofs (maxSteps := 2000000) (disch := omega) [-getElem?_pos]
    refine k_Place0.then fun r hr => ?_
    subst hr
    unfold plT
    simp -implicitDefEqProofs (maxSteps := 2000000) (disch := omega) [-getElem?_pos]
    refine (k_AsS (σ := ⟨σ.objs ++ (os ++ [.cells [.v .pnil]]), σ.toks⟩) (c := σ.objs.length + os.length) (x := .v .pnil) (by simp) (by rw [← List.append_assoc]; exact hd.more)).mono fun r σ' hr => ?_
    obtain ⟨rfl, rfl⟩ := hr
    unfold asS
    have ho : (σ.objs ++ (os ++ [.cells [.ptr o 0]]))[o]? = some (spotO a n) := by rw [← List.append_assoc]; exact get_more hp
    have hd2 : Chn (Sg.mk (σ.objs ++ (os ++ [.cells [.ptr o 0]])) σ.toks).objs d (some (o, a)) n s1 := by show Chn (σ.objs ++ (os ++ [.cells [.ptr o 0]])) _ _ _ _; rw [← List.append_assoc]; exact hd.more
    have he2 : Chn (Sg.mk (σ.objs ++ (os ++ [.cells [.ptr o 0]])) σ.toks).objs e none n s2 := by show Chn (σ.objs ++ (os ++ [.cells [.ptr o 0]])) _ _ _ _; rw [← List.append_assoc]; exact he.more
    simp -implicitDefEqProofs (maxSteps := 2000000) (disch := omega) [-getElem?_pos, ho]
    refine (k_Is hd2).then fun r hr => ?_
    subst hr
    simp -implicitDefEqProofs (maxSteps := 2000000) (disch := omega) [-getElem?_pos]
    refine (k_Is he2).then fun r hr => ?_
    subst hr
    simp -implicitDefEqProofs (maxSteps := 2000000) (disch := omega) [-getElem?_pos]
    refine (k_Number hd2).then fun r hr => ?_
    subst hr
    simp -implicitDefEqProofs (maxSteps := 2000000) (disch := omega) [-getElem?_pos]
    refine (k_Number he2).then fun r hr => ?_
    subst hr
    simp -implicitDefEqProofs (maxSteps := 2000000) (disch := omega) [-getElem?_pos]
    refine k_Number0.then fun r hr => ?_
    subst hr
    simp -implicitDefEqProofs (maxSteps := 2000000) (disch := omega) [-getElem?_pos]
    exact .fin _ rfl (.refl _)
theorem k_Stays {a n : Int} {stages : List Str} {σ : Sg} (hs : stages.length ≤ 1048576) :
    ACalls Tryd.prog 5 [.v (.int .i64 a), .v (.int .i64 n), .v (vS stages)] σ fun r σ' => r = .v (.bool true) := by
  refine acalls_fit Tryd.func5 (by kernel_rfl) c5 rfl (by simp [a5]) fun hf => ?_
  clear hf
  simp -implicitDefEqProofs (maxSteps := 2000000) (disch := omega) [-getElem?_pos, a5]
  refine k_Up.then fun r hr => ?_
  subst hr
  simp -implicitDefEqProofs (maxSteps := 2000000) (disch := omega) [-getElem?_pos]
  refine .mk (fun h => ?_) fun h => ?_
  · simp -implicitDefEqProofs (maxSteps := 2000000) (disch := omega) [-getElem?_pos]
    exact .fin _ rfl (.refl _)
  simp -implicitDefEqProofs (maxSteps := 2000000) (disch := omega) [-getElem?_pos]
  refine k_At.mono fun r σ' hr => ?_
  obtain ⟨rfl, rfl⟩ := hr
  simp -implicitDefEqProofs (maxSteps := 2000000) (disch := omega) [-getElem?_pos]
  refine (k_Wrap (.code n)).mono fun r σ' hr => ?_
  obtain ⟨rfl, rfl⟩ := hr
  simp -implicitDefEqProofs (maxSteps := 2000000) (disch := omega) [-getElem?_pos, a5, tlX, contX]
  exact stays_loop (a := a) (n := n) (stages := stages) (os0 := [spotO a n, wrapO [97] (.v (.iface 28 (.int .i64 n)))]) (o := σ.objs.length) (by omega) (.spot _ _ _ (by simp)) (.wrap (σ.objs.length + 1) _ _ _ _ _ (by simp) (.code n)) (.eq2 (by simp) (by simp))
end Go.Proofs.YtkfkifgfnlaceaaDoor
