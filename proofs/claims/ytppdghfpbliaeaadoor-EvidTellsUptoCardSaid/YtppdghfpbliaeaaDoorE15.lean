/-
  The law EvidTells, its last loop: what is to be told, compared. (Own work.)
-/
import Derived.Test.YtppdghfpbliaeaaDoorE14
set_option linter.unusedVariables false
set_option linter.unusedSimpArgs false
namespace Go.Proofs.YtppdghfpbliaeaaDoor
open Go Go.Abs

def tlX : Nat → X → X
  | 0, x => x
  | n + 1, .seq _ b => tlX n b
  | _, x => x
def loopX : X → X
  | .seq (.seq _ (.block _ l)) _ => l
  | x => x
def contX : X → X
  | .seq _ r => r
  | x => x
def RT (r : D) (_ : Sg) : Prop := r = .v (.bool true)
@[reducible] def QT : XE → St → Prop := Post ⟨[], []⟩ a4.res RT
theorem needsOf_app (lk : Int → List Str) (a b : List Int) : needsOf lk (a ++ b) = needsOf lk a ++ needsOf lk b := by simp [needsOf]
theorem needsOf_get {lk : Int → List Str} {rs : List Int} {i j : Nat} {r : Int} {s : Str} (hr : rs[i]? = some r) (hs : (lk r)[j]? = some s) : (needsOf lk rs)[(needsOf lk (rs.take i)).length + j]? = some (r, s) := by
  have e : rs = rs.take (i + 1) ++ rs.drop (i + 1) := (List.take_append_drop _ _).symm
  have e2 : needsOf lk rs = needsOf lk (rs.take i) ++ ((lk r).map (fun s => (r, s)) ++ needsOf lk (rs.drop (i + 1))) := by
    conv => lhs; rw [e]
    rw [← List.append_assoc, ← needsOf_take hr, needsOf_app]
  rw [e2, List.getElem?_append_right (by omega), Nat.add_sub_cancel_left, List.getElem?_append_left (by rw [List.length_map]; exact (List.getElem?_eq_some_iff.1 hs).1), List.getElem?_map, hs]
  rfl
theorem needsOf_le {lk : Int → List Str} {rs : List Int} {i : Nat} : (needsOf lk (rs.take i)).length ≤ (needsOf lk rs).length := by
  have e : needsOf lk rs = needsOf lk (rs.take i) ++ needsOf lk (rs.drop i) := by
    conv => lhs; rw [← List.take_append_drop i rs]
    rw [needsOf_app]
  rw [e, List.length_append]
  omega
theorem tells_L4 {ll : List (List Str)} {rs ts : List Int} {os : List Ob} {tk : List Nat} {p a b : Nat} {st : St} (hll : ∀ n, (lkOf ll n).length ≤ 1048576) (hrs : rs.length ≤ 1048576) (h2 : os[2]? = some (.cells [.v (vSS ll)])) (hp : os[p]? = some (.cells [.tsl a none (ts.map fun n => V.int .i64 n), .tsl b none (rs.map fun n => V.int .i64 n)]))
    (hw : Weak ⟨[], []⟩ st ⟨[(13, .v (.bool true)), (32, .fn 20 [.ptr 2 0]), (33, .ptr p 0), (34, .v (.sl (some 2) false ((needsOf (lkOf ll) rs).map vN))), (35, .v (.int .i64 0)), (36, .v (.int .i64 0))], ⟨os, tk⟩⟩) :
    W Tryd.prog ⟨[], []⟩ (loopX (tlX 28 a4.body)) (QBlk 4 (QSeq Tryd.prog ⟨[], []⟩ (contX (tlX 28 a4.body)) QT)) st := by
  have hnl := needsOf_len hll rs
  generalize hnd : needsOf (lkOf ll) rs = nd at *
  refine W_loop (α := Nat) 0 (fun i => rs.length - i) (fun i => ⟨[(13, .v (.bool true)), (32, .fn 20 [.ptr 2 0]), (33, .ptr p 0), (34, .v (.sl (some 2) false (nd.map vN))), (35, .v (.int .i64 (needsOf (lkOf ll) (rs.take i)).length)), (36, .v (.int .i64 i))], ⟨os, tk⟩⟩) (fun i => i ≤ rs.length) (by simpa [needsOf] using hw) (by omega) fun i hi => ?_
  have hle : (needsOf (lkOf ll) (rs.take i)).length ≤ nd.length := by rw [← hnd]; exact needsOf_le
  simp -implicitDefEqProofs (maxSteps := 2000000) (disch := omega) [-getElem?_pos, hp]
  refine .mk (fun h => ?_) fun h => ?_
  · simp -implicitDefEqProofs (maxSteps := 2000000) (disch := omega) [-getElem?_pos, hp]
    refine ⟨by omega, fun r hr => ?_⟩
    refine (k_Lack h2).then fun r' hr' => ?_
    subst hr'
    have hta : (needsOf (lkOf ll) (rs.take (i + 1))).length = (needsOf (lkOf ll) (rs.take i)).length + (lkOf ll r).length := by rw [needsOf_take hr]; simp
    have hgt : ∀ j s, (lkOf ll r)[j]? = some s → nd[(needsOf (lkOf ll) (rs.take i)).length + j]? = some (r, s) := fun j s hs => by rw [← hnd]; exact needsOf_get hr hs
    have hlr := hll r
    generalize lkOf ll r = m at *
    generalize (needsOf (lkOf ll) (rs.take i)).length = c0 at *
    simp -implicitDefEqProofs (maxSteps := 2000000) (disch := omega) [-getElem?_pos, hp]
    refine W_loop (α := Nat) 0 (fun j => m.length - j) (fun j => ⟨[(13, .v (.bool true)), (32, .fn 20 [.ptr 2 0]), (33, .ptr p 0), (34, .v (.sl (some 2) false (nd.map vN))), (35, .v (.int .i64 ((c0 + j : Nat) : Int))), (36, .v (.int .i64 i)), (37, .v (vS m)), (38, .v (.int .i64 j))], ⟨os, tk⟩⟩) (fun j => j ≤ m.length) (.eq (by simp)) (by omega) fun j hj => ?_
    simp -implicitDefEqProofs (maxSteps := 2000000) (disch := omega) [-getElem?_pos, hp]
    refine .mk (fun h3 => ?_) fun h3 => ?_
    · simp -implicitDefEqProofs (maxSteps := 2000000) (disch := omega) [-getElem?_pos, hp]
      obtain ⟨s, hs⟩ : ∃ s, m[j]? = some s := ⟨_, List.getElem?_eq_getElem h3⟩
      have hg := hgt j s hs
      have hgl := (List.getElem?_eq_some_iff.1 hg).1
      refine .mk (fun hh => absurd hh (by omega)) fun hh => ?_
      simp -implicitDefEqProofs (maxSteps := 2000000) (disch := omega) [-getElem?_pos, hp, hr, hs, hg, vN]
      refine ⟨by omega, by omega, fun y x s' hy hyv => ?_⟩
      rw [show ((c0 : Int) + (j : Int)).toNat = c0 + j by omega, hg] at hy
      cases hy
      subst hyv
      simp -implicitDefEqProofs (maxSteps := 2000000) (disch := omega) [-getElem?_pos, hp, hr, hs, hg, vN]
      exact ⟨h, h3, j + 1, by omega, by show m.length - (j + 1) < m.length - j; omega, .eq (by simp [Int.add_assoc])⟩
    · have hjl : j = m.length := by omega
      subst hjl
      simp -implicitDefEqProofs (maxSteps := 2000000) (disch := omega) [-getElem?_pos, hp]
      exact ⟨i + 1, by omega, by show rs.length - (i + 1) < rs.length - i; omega, .eq (by simp [hta])⟩
  · have hil : i = rs.length := by omega
    subst hil
    rw [List.take_length, hnd]
    simp -implicitDefEqProofs (maxSteps := 2000000) (disch := omega) [-getElem?_pos, a4, tlX, contX]
    exact .fin _ rfl (.refl _)
end Go.Proofs.YtppdghfpbliaeaaDoor
