/-
  What is to be told of a type. (Own work.)
-/
import Derived.Test.YtppdghfpbliaeaaDoorE11
set_option linter.unusedVariables false
set_option linter.unusedSimpArgs false
namespace Go.Proofs.YtppdghfpbliaeaaDoor
open Go Go.Abs

def vN (p : Int × Str) : V := .agg [.int .i64 p.1, .str p.2]
def needsOf (lk : Int → List Str) (rows : List Int) : List (Int × Str) := rows.flatMap fun r => (lk r).map fun s => (r, s)
def accN (nd : List (Int × Str)) (r : Int) (l : List Str) : List (Int × Str) := nd ++ l.map fun s => (r, s)
theorem needsOf_len {lk : Int → List Str} (hlk : ∀ n, (lk n).length ≤ 1048576) (rows : List Int) : (needsOf lk rows).length ≤ rows.length * 1048576 := by
  induction rows with
  | nil => simp [needsOf]
  | cons r l ih =>
    have := hlk r
    simp only [needsOf, List.flatMap_cons, List.length_append, List.length_map, List.length_cons] at ih ⊢
    omega
theorem needsOf_take {lk : Int → List Str} {rows : List Int} {i : Nat} {r : Int} (h : rows[i]? = some r) : needsOf lk (rows.take (i + 1)) = needsOf lk (rows.take i) ++ (lk r).map fun s => (r, s) := by
  rw [List.take_add_one, h]
  simp [needsOf]
theorem k_Needs {t : Tp} {f : D} {lk : Int → List Str} {σ : Sg} (he : tbk t ≤ 1048576) (hlk : ∀ n, (lk n).length ≤ 1048576)
    (hfn : ∀ gs ts n, WCall Tryd.prog f [.v (.int .i64 n)] ⟨σ.objs ++ gs, σ.toks ++ ts⟩ fun r σ' => r = .v (vS (lk n)) ∧ σ' = ⟨σ.objs ++ gs, σ.toks ++ ts⟩) :
    ACalls Tryd.prog 22 [.v (encT t), f] σ fun r σ' => r = .v (.sl (some 2) false ((if (fineS t 0).1 = true then needsOf lk (vis t ⟨[], []⟩).rs else []).map vN)) ∧ σ' = σ := by
  have hmay := fun σ => k_May t (σ := σ) (Nat.le_trans (tsz_tbk t) he)
  have hvars := fun σ => k_Vars (t := t) (σ := σ) he
  have hvl := (vis_len t ⟨[], []⟩).2
  obtain ⟨k, n, l, ls, tl⟩ := t
  have hE := encT_mk (k := k) (n := n) (l := l) (ls := ls) (tl := tl)
  rw [hE] at hmay hvars ⊢
  generalize Tp.mk k n l ls tl = t at *
  refine acalls_fit Tryd.func22 (by kernel_rfl) c22 rfl (by simp [a22]) fun hf => ?_
  clear hf
  simp -implicitDefEqProofs (maxSteps := 2000000) (disch := omega) [-getElem?_pos, a22]
  refine (hmay _).then fun r hr => ?_
  subst hr
  by_cases hm : (fineS t 0).1 = true
  rotate_left
  · simp -implicitDefEqProofs (maxSteps := 2000000) (disch := omega) [-getElem?_pos, hm]
    exact .finS _ σ ⟨rfl, rfl⟩ (by simp) (fun ob h => .inl h) (by simp) (by simp) (by simp) (by simp) (by simp)
  simp -implicitDefEqProofs (maxSteps := 2000000) (disch := omega) [-getElem?_pos, hm]
  refine (hvars _).then fun r hr => ?_
  subst hr
  generalize (vis t ⟨[], []⟩).rs = rows at *
  have hrl : rows.length ≤ 1048576 := by simp at hvl; omega
  simp -implicitDefEqProofs (maxSteps := 2000000) (disch := omega) [-getElem?_pos]
  have hbx : ∀ B, ([B] : List Ob) = [B] := fun _ => rfl
  generalize hB : Ob.cells [.v (.int .i64 k), .v (.int .i64 n), .v (.sl (some 5) false (l.map encT)), .v (.sl none false (ls.map .str)), .v (.int .i64 tl)] = B at *
  refine W_loop (α := Nat) 0 (fun i => rows.length - i) (fun i => ⟨[(1, f), (5, .tsl σ.toks.length (some 2) ((needsOf lk (rows.take i)).map vN)), (20, .v (vI rows)), (21, .v (.int .i64 rows.length)), (22, .v (.int .i64 i))], ⟨σ.objs ++ [B], σ.toks ++ [(needsOf lk (rows.take i)).length]⟩⟩) (fun i => i ≤ rows.length)
    (.tok (i := 5) (sh := some 2) (by simp [needsOf]) (by simp)) (by omega) fun i hi => ?_
  simp -implicitDefEqProofs (maxSteps := 2000000) (disch := omega) [-getElem?_pos]
  refine .mk (fun h => ?_) fun h => ?_
  · simp -implicitDefEqProofs (maxSteps := 2000000) (disch := omega) [-getElem?_pos]
    refine ⟨by omega, fun r hr => ?_⟩
    have hnt := needsOf_take (lk := lk) hr
    have hnl := needsOf_len hlk (rows.take i)
    have hlr := hlk r
    rw [List.length_take] at hnl
    generalize needsOf lk (rows.take i) = nd at *
    refine (hfn _ _ _).then fun r' hr' => ?_
    subst hr'
    simp -implicitDefEqProofs (maxSteps := 2000000) (disch := omega) [-getElem?_pos]
    refine W_loop (α := Nat) 0 (fun j => (lk r).length - j) (fun j => ⟨[(1, f), (5, .tsl σ.toks.length (some 2) ((accN nd r ((lk r).take j)).map vN)), (9, .v (.int .i64 r)), (20, .v (vI rows)), (21, .v (.int .i64 rows.length)), (22, .v (.int .i64 i)), (28, .v (vS (lk r))), (29, .v (.int .i64 (lk r).length)), (30, .v (.int .i64 j))], ⟨σ.objs ++ [B], σ.toks ++ [nd.length + j]⟩⟩) (fun j => j ≤ (lk r).length)
      (.eq (by simp [accN])) (by omega) fun j hj => ?_
    have hlt : ((lk r).take j).length = j := by rw [List.length_take]; omega
    generalize hacc : accN nd r ((lk r).take j) = acc
    have hal : nd.length + j = acc.length := by rw [← hacc, accN, List.length_append, List.length_map, hlt]
    rw [hal]
    simp -implicitDefEqProofs (maxSteps := 2000000) (disch := omega) [-getElem?_pos]
    refine .mk (fun h2 => ?_) fun h2 => ?_
    · simp -implicitDefEqProofs (maxSteps := 2000000) (disch := omega) [-getElem?_pos]
      refine ⟨by omega, fun s hs => ?_⟩
      have hj1 : (lk r).take (j + 1) = (lk r).take j ++ [s] := by rw [List.take_add_one, hs]; rfl
      have ha1 : accN nd r ((lk r).take (j + 1)) = acc ++ [(r, s)] := by rw [hj1, ← hacc]; simp [accN]
      refine ⟨by omega, ?_⟩
      exact ⟨j + 1, by omega, by show (lk r).length - (j + 1) < (lk r).length - j; omega, .eq2 (by rw [← hal, Nat.add_assoc]) (by rw [ha1]; simp [vN])⟩
    · have hjl : j = (lk r).length := by omega
      subst hjl
      rw [List.take_length] at hacc
      simp -implicitDefEqProofs (maxSteps := 2000000) (disch := omega) [-getElem?_pos]
      exact ⟨i + 1, by omega, by show rows.length - (i + 1) < rows.length - i; omega, .eq2 (by rw [hnt]; exact congrArg _ (by rw [← hacc]; rfl)) (by rw [hnt, ← hacc]; simp [accN])⟩
  · have hil : i = rows.length := by omega
    subst hil
    rw [List.take_length]
    simp -implicitDefEqProofs (maxSteps := 2000000) (disch := omega) [-getElem?_pos]
    exact .finS _ σ ⟨rfl, rfl⟩ .tsl (fun ob h => .inl h) (by simp) (by simp) (by simp) (by simp) (by simp)
end Go.Proofs.YtppdghfpbliaeaaDoor
