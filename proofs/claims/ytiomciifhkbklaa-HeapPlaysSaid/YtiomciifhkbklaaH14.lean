/-
  A heap, walked: one of n; the document's example. (Own work.)
-/
import Derived.Test.YtiomciifhkbklaaH13
set_option linter.unusedVariables false
set_option linter.unusedSimpArgs false
set_option maxHeartbeats 1000000
namespace Go.Proofs.Ytiomciifhkbklaa
open Go Go.Abs

theorem pre_of {α : Type} {l l' : List α} (h : ∀ i, i < l.length → l'[i]? = l[i]?) : l' = l ++ l'.drop l.length := by
  have ht : l'.take l.length = l := by
    refine List.ext_getElem? fun i => ?_
    rw [List.getElem?_take]
    split
    · rename_i hi
      exact h i hi
    · rename_i hi
      exact (List.getElem?_eq_none (by omega)).symm
  conv => lhs; rw [← List.take_append_drop l.length l', ht]
def PickR (n : Nat) (r : D) : Prop := ∃ q : Nat, q < n ∧ r = .v (.int .i64 q)
theorem k_Pick {c : Int} {n : Nat} {σ : Sg} (hn : 0 < n) (hl : n ≤ 1000000) : ACalls Try.prog 8 [.v (.int .i64 c), .v (.int .i64 n)] σ fun r σ' => PickR n r ∧ σ' = σ := by
  have hm : ∀ x : Int, 0 ≤ x → ∃ q : Nat, q < n ∧ x.tmod n = q := fun x hx => by
    refine ⟨(x.tmod n).toNat, ?_, ?_⟩
    · have h1 := Int.tmod_lt_of_pos x (b := n) (by omega)
      have h2 := Int.tmod_nonneg (n : Int) hx
      omega
    · have h2 := Int.tmod_nonneg (n : Int) hx
      omega
  have hnz : ¬ (n : Int) = 0 := by omega
  refine acalls_fit Try.func8 (by kernel_rfl) c8 rfl (by simp [a8]) fun hf => ?_
  simp at hf
  by_cases h1 : c < 0
  · obtain ⟨q, hq, he⟩ := hm (-(c + 1)) (by omega)
    simp -implicitDefEqProofs (maxSteps := 2000000) (disch := omega) [-getElem?_pos, a8, h1, hnz, he]
    exact ⟨by omega, .fin _ ⟨⟨q, hq, rfl⟩, rfl⟩ (.refl _)⟩
  · obtain ⟨q, hq, he⟩ := hm c (by omega)
    simp -implicitDefEqProofs (maxSteps := 2000000) (disch := omega) [-getElem?_pos, a8, h1, hnz, he]
    exact ⟨by omega, .fin _ ⟨⟨q, hq, rfl⟩, rfl⟩ (.refl _)⟩
def emO : List Ho := []
theorem ok_nil : OkO [] := ⟨by simp, by simp, by simp [tot]⟩
def o5 : Ho := ⟨1, [⟨false, 5⟩]⟩
def oE : Ho := ⟨2, []⟩
theorem room1 : roomO 10 [] [⟨false, 5⟩] [] = ⟨[], [⟨false, 5⟩], []⟩ := by kernel_rfl
theorem room2 : roomO 10 [o5] [] [] = ⟨[o5], [], []⟩ := by kernel_rfl
theorem col2 : colO [o5, oE] [⟨true, 2⟩] = [oE] := by kernel_rfl
theorem colR2 : colR [o5, oE] [⟨true, 2⟩] = [⟨true, 0⟩] := by kernel_rfl
theorem ok1 : OkO [o5] := by
  refine ⟨?_, ?_, by decide⟩
  · intro o ho; rw [List.mem_singleton.1 ho]; decide
  · intro o ho w hw
    rw [List.mem_singleton.1 ho] at hw
    simp [o5] at hw
    subst hw
    intro h; cases h
theorem ok2 : OkO [o5, oE] := ok_app (o := oE) ok1 (by decide) (by simp [oE]) (by decide)
theorem k_Up2 {σ : Sg} : ACalls Try.prog 5 [] σ fun r σ' => r = .v (.bool true) ∧ σ' = σ := by
  refine acalls_fit Try.func5 (by kernel_rfl) c5 rfl (by simp [a5]) fun hf => ?_
  clear hf
  simp -implicitDefEqProofs (maxSteps := 2000000) (disch := omega) [-getElem?_pos, a5]
  refine (k_New (half := 10) (by decide)).mono fun r σ1 hq => ?_
  obtain ⟨rfl, rfl⟩ := hq
  have h1 : Hp ⟨σ.objs ++ [.cells [.v (.int .i64 10), .v .snil, .v .snil, .v (.int .i64 0)]], σ.toks⟩ σ.objs.length (σ.objs.length + 1) (σ.objs.length + 2) 10 [] 0 (.v .snil) (.v .snil) :=
    ⟨by simp, .nil, .nil, by omega, by omega, by omega⟩
  have hl1 : σ.objs.length < (σ.objs ++ [Ob.cells [.v (.int .i64 10), .v .snil, .v .snil, .v (.int .i64 0)]]).length := by simp
  simp -implicitDefEqProofs (maxSteps := 2000000) (disch := omega) [-getElem?_pos]
  refine (k_NewBad (half := 0) (.inl (by decide))).then fun r hq => ?_
  subst hq
  simp -implicitDefEqProofs (maxSteps := 2000000) (disch := omega) [-getElem?_pos]
  have m1 := (k_Make (l := [⟨false, 5⟩]) (roots := []) (kind := 1) (f := true) (g := false) h1 ok_nil (fun w hw => by rw [List.mem_singleton.1 hw]; intro h; cases h) (by simp) (by simp) (by simp) (by decide) (by decide)).args
    (ds := [.ptr σ.objs.length 0, .v (.int .i64 1), .v (.sl (some 2) true [.agg [.bool false, .int .i64 5]]), .v .snil]) rfl fun i d d' hd hd' => by
      match i with
      | 0 => cases hd; cases hd'; exact .refl _
      | 1 => cases hd; cases hd'; exact .refl _
      | 2 => cases hd; cases hd'; exact .refl _
      | 3 => cases hd; cases hd'; exact .snil
      | n + 4 => simp at hd
  refine m1.mono fun r σ2 hq => ?_
  obtain ⟨oL2, oH2, dl2, dh2, runs2, os2, hH2, hFr2, hn1, hn2, ⟨g2, hr2⟩, hrun2⟩ := hq
  rw [room1] at hr2
  have hr2' : os2 = [o5] := by
    rcases hr2 with ⟨hfu, _⟩ | ⟨_, h, _⟩
    · exact absurd hfu (by unfold fullO; decide)
    · exact h
  have hrv : ∃ v : List D, r = .tup v := by
    rcases hr2 with ⟨_, _, h⟩ | ⟨_, _, h⟩ <;> exact ⟨_, h⟩
  obtain ⟨rv, rfl⟩ := hrv
  subst hr2'
  rw [show roomR 10 [] [⟨false, 5⟩] 0 = 0 by kernel_rfl] at hrun2
  subst hrun2
  simp -implicitDefEqProofs (maxSteps := 2000000) (disch := omega) [-getElem?_pos]
  have m2 := (k_Make (l := []) (roots := []) (kind := 2) (f := false) (g := false) hH2 ok1 (by simp) (by simp) (by simp) (by simp) (by decide) (by decide)).args
    (ds := [.ptr σ.objs.length 0, .v (.int .i64 2), .v .snil, .v .snil]) rfl fun i d d' hd hd' => by
      match i with
      | 0 => cases hd; cases hd'; exact .refl _
      | 1 => cases hd; cases hd'; exact .refl _
      | 2 => cases hd; cases hd'; exact .snil
      | 3 => cases hd; cases hd'; exact .snil
      | n + 4 => simp at hd
  refine m2.mono fun r σ3 hq => ?_
  obtain ⟨oL3, oH3, dl3, dh3, runs3, os3, hH3, hFr3, hn3, hn4, ⟨g3, hr3⟩, hrun3⟩ := hq
  rw [room2] at hr3
  obtain ⟨_, hos3, rfl⟩ : ¬ fullO 10 ⟨[o5], [], []⟩ ∧ os3 = [o5, oE] ∧ r = .tup [.v (.int .i64 2), .v (.sl (some 2) false []), .v (.sl (some 2) g3 []), .v .inil] := by
    rcases hr3 with ⟨hfu, _⟩ | ⟨h0, h, h'⟩
    · exact absurd hfu (by unfold fullO; decide)
    · exact ⟨h0, h, h'⟩
  subst hos3
  rw [show roomR 10 [o5] [] 0 = 0 by kernel_rfl] at hrun3
  subst hrun3
  simp -implicitDefEqProofs (maxSteps := 2000000) (disch := omega) [-getElem?_pos]
  refine (k_At _ _).then fun r hq => ?_
  subst hq
  simp -implicitDefEqProofs (maxSteps := 2000000) (disch := omega) [-getElem?_pos]
  have m3 := k_Collect (roots := [⟨true, 2⟩]) (f := true) hH3 ok2 (fun w hw => by rw [List.mem_singleton.1 hw]; exact fun _ => ⟨1, by kernel_rfl⟩) (by simp)
  rw [colR2, col2] at m3
  refine m3.mono fun r σ4 hq => ?_
  obtain ⟨rfl, oL4, oH4, dl4, dh4, hH4, hFr4, _⟩ := hq
  simp -implicitDefEqProofs (maxSteps := 2000000) (disch := omega) [-getElem?_pos]
  refine ⟨by kernel_rfl, ?_⟩
  refine (k_At _ _).then fun r hq => ?_
  subst hq
  simp -implicitDefEqProofs (maxSteps := 2000000) (disch := omega) [-getElem?_pos]
  refine (k_Used hH4).then fun r hq => ?_
  subst hq
  simp -implicitDefEqProofs (maxSteps := 2000000) (disch := omega) [-getElem?_pos, oE, tot, osz]
  refine (k_Runs hH4).then fun r hq => ?_
  subst hq
  rw [show IntKind.i64.wrap (0 + 1) = 1 by kernel_rfl]
  simp -implicitDefEqProofs (maxSteps := 2000000) (disch := omega) [-getElem?_pos]
  have q1 := hn1.resolve_left fun e => e.2 rfl
  have q2 := hn2.resolve_left fun e => e.2 rfl
  have q3 : σ.objs.length + 1 ≤ oL3 := by
    have := hFr2.len
    simp at q1 this
    rcases hn3 with ⟨e, _⟩ | e <;> omega
  have q4 : σ.objs.length + 1 ≤ oH3 := by
    have := hFr2.len
    simp at q2 this
    rcases hn4 with ⟨e, _⟩ | e <;> omega
  simp at q1 q2
  have f1 : Fr σ σ2 (fun _ => False) := by
    have f0 : Fr σ ⟨σ.objs ++ [.cells [.v (.int .i64 10), .v .snil, .v .snil, .v (.int .i64 0)]], σ.toks⟩ (fun _ => False) := by simpa using Fr.add σ [.cells [.v (.int .i64 10), .v .snil, .v .snil, .v (.int .i64 0)]] [] (fun _ => False)
    refine f0.trans hFr2 (fun _ _ h => h) fun i hi e => ?_
    rcases e with e | ⟨e, _⟩ | ⟨e, _⟩ <;> omega
  have f2 : Fr σ σ3 (fun _ => False) := f1.trans hFr3 (fun _ _ h => h) fun i hi e => by
    rcases e with e | ⟨e, _⟩ | ⟨e, _⟩ <;> omega
  have f3 : Fr σ σ4 (fun _ => False) := f2.trans hFr4 (fun _ _ h => h) fun i hi e => by
    rcases e with e | ⟨e, _⟩ | ⟨e, _⟩ <;> omega
  exact .fin _ ⟨rfl, rfl⟩ (.refl _) (by simp) (pre_of fun i hi => f3.keep i hi id) (pre_of fun i hi => f3.tkeep i hi)
end Go.Proofs.Ytiomciifhkbklaa
