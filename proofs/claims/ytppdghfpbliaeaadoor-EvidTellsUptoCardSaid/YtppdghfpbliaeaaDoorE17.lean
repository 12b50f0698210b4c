/-
  The law EvidTells, its second part: two core expressions, compared. (Own work.)
-/
import Derived.Test.YtppdghfpbliaeaaDoorE16
set_option linter.unusedVariables false
set_option linter.unusedSimpArgs false
namespace Go.Proofs.YtppdghfpbliaeaaDoor
open Go Go.Abs

theorem tells_L0 {k n tl : Int} {l : List Tp} {ls : List Str} {N row : Int} {label : Str} {kn : List (Int × Str)} {vs : List Int} {ll : List (List Str)} {os : List Ob} {st : St} {p q : Nat} {d0 d1 d2 d3 d4 e0 e1 e2 e3 e4 : D} {L : V}
    (he : tbk (.mk k n l ls tl) ≤ 1048576) (hll : ∀ n, (lkOf ll n).length ≤ 1048576) (hkv : kn.length ≤ vs.length) (hk50 : kn.length ≤ 50)
    (h0 : os[0]? = some (tCells k n l ls tl)) (h1 : os[1]? = some (.cells [.v (.int .i64 N), .v (.int .i64 row), .v (.str label)])) (h2 : os[2]? = some (.cells [.v (vSS ll)]))
    (hp : os[p]? = some (.cells [d0, d1, d2, d3, d4, .v L])) (hq : os[q]? = some (.cells [e0, e1, e2, e3, e4, .v L])) (hL : L = .snil ∨ ∃ (M : Int) (nm : Str), L = .sl (some 6) true [coV 3 0 nm .snil, coV 1 M [] .snil])
    (hw : Weak ⟨[], []⟩ st ⟨[(3, .v (.sl (some 2) false (kn.map vN))), (4, .v (vI vs)), (6, .ptr 0 0), (8, .ptr 1 0), (11, .ptr 2 0), (13, .v (.bool true)), (16, .v (.bool (fineS (.mk k n l ls tl) 0).1)), (19, .ptr p 0), (22, .ptr q 0), (23, .v (.int .i64 0))], ⟨os, []⟩⟩) :
    W Tryd.prog ⟨[], []⟩ (loopX (tlX 14 a4.body)) (QBlk 0 (QSeq Tryd.prog ⟨[], []⟩ (contX (tlX 14 a4.body)) QT)) st := by
  have hos : 2 < os.length := (List.getElem?_eq_some_iff.1 h2).1
  have g1 : ∀ r, (os ++ r)[1]? = some (.cells [.v (.int .i64 N), .v (.int .i64 row), .v (.str label)]) := fun r => by rw [List.getElem?_append_left (by omega), h1]
  refine W_loop (α := Nat) 0 (fun i => 2 - i) (fun i => ⟨[(3, .v (.sl (some 2) false (kn.map vN))), (4, .v (vI vs)), (6, .ptr 0 0), (8, .ptr 1 0), (11, .ptr 2 0), (13, .v (.bool true)), (16, .v (.bool (fineS (.mk k n l ls tl) 0).1)), (19, .ptr p 0), (22, .ptr q 0), (23, .v (.int .i64 i))], ⟨os, []⟩⟩) (fun i => i ≤ 2) hw (by omega) fun i hi => ?_
  rcases hL with rfl | ⟨M, nm, rfl⟩
  · simp -implicitDefEqProofs (maxSteps := 2000000) (disch := omega) [-getElem?_pos, hp, hq]
    refine .mk (fun h => absurd h (by omega)) fun h => ?_
    simp -implicitDefEqProofs (maxSteps := 2000000) (disch := omega) [-getElem?_pos, hp, hq, g1, a4, tlX, contX]
    exact tells_L2 he hll hkv hk50 h0 h1 h2 (.eq2 (by simp [mN]) (by simp))
  · by_cases h0i : i = 0
    · subst h0i
      simp -implicitDefEqProofs (maxSteps := 2000000) (disch := omega) [-getElem?_pos, hp, hq, coV]
      exact ⟨1, by omega, by show 2 - 1 < 2 - 0; omega, .eq (by simp)⟩
    by_cases h1i : i = 1
    · subst h1i
      simp -implicitDefEqProofs (maxSteps := 2000000) (disch := omega) [-getElem?_pos, hp, hq, coV]
      exact ⟨2, by omega, by show 2 - 2 < 2 - 1; omega, .eq (by simp)⟩
    · have : i = 2 := by omega
      subst this
      simp -implicitDefEqProofs (maxSteps := 2000000) (disch := omega) [-getElem?_pos, hp, hq]
      simp -implicitDefEqProofs (maxSteps := 2000000) (disch := omega) [-getElem?_pos, hp, hq, g1, a4, tlX, contX]
      exact tells_L2 he hll hkv hk50 h0 h1 h2 (.eq2 (by simp [mN]) (by simp))
end Go.Proofs.YtppdghfpbliaeaaDoor
