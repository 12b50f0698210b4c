/-
  The law EvidTells, its third part: what is known, a map; an offset as a number. (Own work.)
-/
import Derived.Test.YtppdghfpbliaeaaDoorE15
set_option linter.unusedVariables false
set_option linter.unusedSimpArgs false
namespace Go.Proofs.YtppdghfpbliaeaaDoor
open Go Go.Abs

structure MSt where
  i : Nat
  es : List ((Int × Str) × Int)
def tCells (k n : Int) (l : List Tp) (ls : List Str) (tl : Int) : Ob := .cells [.v (.int .i64 k), .v (.int .i64 n), .v (.sl (some 5) false (l.map encT)), .v (.sl none false (ls.map .str)), .v (.int .i64 tl)]
theorem tells_L2 {k n tl : Int} {l : List Tp} {ls : List Str} {N row : Int} {label : Str} {kn : List (Int × Str)} {vs : List Int} {ll : List (List Str)} {os : List Ob} {st : St}
    (he : tbk (.mk k n l ls tl) ≤ 1048576) (hll : ∀ n, (lkOf ll n).length ≤ 1048576) (hkv : kn.length ≤ vs.length) (hk50 : kn.length ≤ 50)
    (h0 : os[0]? = some (tCells k n l ls tl)) (h1 : os[1]? = some (.cells [.v (.int .i64 N), .v (.int .i64 row), .v (.str label)])) (h2 : os[2]? = some (.cells [.v (vSS ll)]))
    (hw : Weak ⟨[], []⟩ st ⟨[(3, .v (.sl (some 2) false (kn.map vN))), (4, .v (vI vs)), (6, .ptr 0 0), (8, .ptr 1 0), (11, .ptr 2 0), (13, .v (.bool true)), (16, .v (.bool (fineS (.mk k n l ls tl) 0).1)), (24, .map os.length), (25, .v (.int .i64 N)), (26, .v (.bool (decide (row < 0)))), (27, .v (.int .i64 0))], ⟨os ++ [.map (mN [])], []⟩⟩) :
    W Tryd.prog ⟨[], []⟩ (loopX (tlX 18 a4.body)) (QBlk 2 (QSeq Tryd.prog ⟨[], []⟩ (contX (tlX 18 a4.body)) QT)) st := by
  have hos : 2 < os.length := (List.getElem?_eq_some_iff.1 h2).1
  have g0 : ∀ r, (os ++ r)[0]? = some (tCells k n l ls tl) := fun r => by rw [List.getElem?_append_left (by omega), h0]
  have g1 : ∀ r, (os ++ r)[1]? = some (.cells [.v (.int .i64 N), .v (.int .i64 row), .v (.str label)]) := fun r => by rw [List.getElem?_append_left (by omega), h1]
  have g2 : ∀ r, (os ++ r)[2]? = some (.cells [.v (vSS ll)]) := fun r => by rw [List.getElem?_append_left (by omega), h2]
  have gm : ∀ x r, (os ++ (x :: r))[os.length]? = some x := fun x r => by rw [List.getElem?_append_right (Nat.le_refl _)]; simp
  have gs : ∀ x y r, (os ++ (x :: r)).set os.length y = os ++ (y :: r) := fun x y r => by rw [List.set_append_right _ _ (Nat.le_refl _)]; simp
  have gp : ∀ x y r, (os ++ (x :: y :: r))[os.length + 1]? = some y := fun x y r => by rw [List.getElem?_append_right (by omega)]; simp
  have gps : ∀ x y z r, (os ++ (x :: y :: r)).set (os.length + 1) z = os ++ (x :: z :: r) := fun x y z r => by rw [List.set_append_right _ _ (by omega)]; simp
  have hE := encT_mk (k := k) (n := n) (l := l) (ls := ls) (tl := tl)
  obtain ⟨vv, hvv⟩ : ∃ vv : Vs, vv = vis (.mk k n l ls tl) ⟨[], []⟩ := ⟨_, rfl⟩
  have hvl := vis_len (.mk k n l ls tl) ⟨[], []⟩
  rw [← hvv] at hvl
  have hrl : vv.rs.length ≤ 1048576 := by simp at hvl; omega
  have hmeet : ∀ es, ACalls Tryd.prog 21 [.ptr (os.length + 1) 0, .v (encT (.mk k n l ls tl))] ⟨os ++ [.map (mN es), .cells [.tsl 0 none [], .tsl 1 none []]], [0, 0]⟩ fun r σ' => r = .tup [] ∧ σ' = ⟨os ++ [.map (mN es), .cells [.tsl 0 none (vv.ts.map fun n => V.int .i64 n), .tsl 1 none (vv.rs.map fun n => V.int .i64 n)]], [vv.ts.length, vv.rs.length]⟩ := fun es => by
    have hVO : ∀ w : Vs, VO ⟨os ++ [.map (mN es), .cells []], [0, 0]⟩ (os.length + 1) 0 1 w = ⟨os ++ [.map (mN es), .cells [.tsl 0 none (w.ts.map fun n => V.int .i64 n), .tsl 1 none (w.rs.map fun n => V.int .i64 n)]], [w.ts.length, w.rs.length]⟩ := fun w => by
      simp [VO, List.set_append_right]
    have := k_Meet (.mk k n l ls tl) (p := os.length + 1) (a := 0) (b := 1) (w := ⟨[], []⟩) (σ := ⟨os ++ [.map (mN es), .cells []], [0, 0]⟩) he (by simp; omega) (by simp; omega) (by simp) (by simp) (by simp) (by simp)
    rw [hVO, hVO, ← hvv] at this
    exact this
  rw [hE] at hmeet
  have hneeds := fun f lk σ => k_Needs (t := .mk k n l ls tl) (f := f) (lk := lk) (σ := σ) he
  rw [hE] at hneeds
  refine W_loop (α := MSt) ⟨0, []⟩ (fun x => kn.length - x.i) (fun x => ⟨[(3, .v (.sl (some 2) false (kn.map vN))), (4, .v (vI vs)), (6, .ptr 0 0), (8, .ptr 1 0), (11, .ptr 2 0), (13, .v (.bool true)), (16, .v (.bool (fineS (.mk k n l ls tl) 0).1)), (24, .map os.length), (25, .v (.int .i64 N)), (26, .v (.bool (decide (row < 0)))), (27, .v (.int .i64 x.i))], ⟨os ++ [.map (mN x.es)], []⟩⟩) (fun x => x.i ≤ kn.length) hw (by simp) fun ⟨i, es⟩ hi => ?_
  dsimp only at hi ⊢
  simp -implicitDefEqProofs (maxSteps := 2000000) (disch := omega) [-getElem?_pos, gm, gs, g0, g1, g2]
  refine .mk (fun h => ?_) fun h => ?_
  · simp -implicitDefEqProofs (maxSteps := 2000000) (disch := omega) [-getElem?_pos, gm, gs, g0, g1, g2]
    refine ⟨h, ?_⟩
    rintro y x s hx rfl
    refine ⟨by omega, fun v hv => ?_⟩
    rw [mset_N]
    refine ⟨rfl, keysOk_N es, ⟨i + 1, setN (x, s) v es⟩, by dsimp only; omega, by show kn.length - (i + 1) < kn.length - i; omega, .eq (by simp)⟩
  · have hil : i = kn.length := by omega
    clear hw
    have hmf := mfind_N (row, label) es
    simp only [vN] at hmf
    have hval := k_ValueN (N := N) (row := row) (label := label) (o := os.length) (es := es) (σ := ⟨os ++ [.map (mN es)], []⟩) (gm _ _)
    by_cases hrow : row < 0
    · have hv : valN N row label es = (.int .i64 N, .inil) := by rw [valN, if_pos hrow]
      rw [hv] at hval
      simp -implicitDefEqProofs (maxSteps := 2000000) (disch := omega) [-getElem?_pos, gm, gs, g0, g1, g2, a4, contX, tlX, keysOk_N, hrow, hmf]
      refine hval.then fun r hr => ?_
      subst hr
      simp -implicitDefEqProofs (maxSteps := 2000000) (disch := omega) [-getElem?_pos, gm, gs, g0, g1, g2, keysOk_N, hrow, hmf]
      skip
      refine .mk (fun hm => ?_) fun hm => ?_
      · simp -implicitDefEqProofs (maxSteps := 2000000) (disch := omega) [-getElem?_pos, gm, gs, g0, g1, g2, gp, gps, tCells]
        refine ACalls.tokObj (o := os.length + 1) (k := 0) (cs := [.v .snil, .v .snil]) none (gp _ _ _) rfl ?_
        refine ACalls.tokObj (o := os.length + 1) (k := 1) (cs := [.tsl 0 none [], .v .snil]) none (by simp [gps, gp]) rfl ?_
        simp only [gps, List.set_cons_zero, List.set_cons_succ, List.length_nil, List.length_append, List.length_cons, List.nil_append, List.cons_append]
        refine (hmeet es).mono fun r σ' hr => ?_
        obtain ⟨rfl, rfl⟩ := hr
        simp -implicitDefEqProofs (maxSteps := 2000000) (disch := omega) [-getElem?_pos, gm, gs, g0, g1, g2, gp, gps, tCells]
        refine (hneeds _ (lkOf ll) _ hll fun gs ts n => ?_).then fun r hr => ?_
        · rw [WCall_caps]
          exact k_Lack (by simp [g2])
        subst hr
        rw [if_pos hm]
        simp -implicitDefEqProofs (maxSteps := 2000000) (disch := omega) [-getElem?_pos, gm, gs, g0, g1, g2, gp, gps]
        exact tells_L4 (ts := vv.ts) (rs := vv.rs) (p := os.length + 1) (a := 0) (b := 1) hll hrl (g2 _) (gp _ _ _) (.eq (by simp [hvv]))
      · simp -implicitDefEqProofs (maxSteps := 2000000) (disch := omega) [-getElem?_pos, gm, gs, g0, g1, g2, gp, gps, tCells]
        refine (hneeds _ (lkOf ll) _ hll fun gs ts n => ?_).then fun r hr => ?_
        · rw [WCall_caps]
          exact k_Lack (by simp [g2])
        subst hr
        rw [if_neg hm]
        simp -implicitDefEqProofs (maxSteps := 2000000) (disch := omega) [-getElem?_pos, gm, gs, g0, g1, g2, gp, gps]
        refine W_loop (α := Nat) 0 (fun _ => 0) (fun _ => ⟨[(13, .v (.bool true)), (33, .ptr (os.length + 1) 0), (34, .v (.sl (some 2) false [])), (35, .v (.int .i64 0)), (36, .v (.int .i64 0))], ⟨os ++ [.map (mN es), .cells [.v .snil, .v .snil]], []⟩⟩) (fun _ => True) (.eq (by simp)) trivial fun _ _ => ?_
        simp -implicitDefEqProofs (maxSteps := 2000000) (disch := omega) [-getElem?_pos, gp]
        exact .fin _ rfl (.refl _)

    cases hg : getN (row, label) es with
    | none =>
      have hv : valN N row label es = (.int .i64 0, .iface 47 (.int .i64 4)) := by rw [valN, if_neg hrow, hg]
      rw [hv] at hval
      rw [hg] at hmf
      simp -implicitDefEqProofs (maxSteps := 2000000) (disch := omega) [-getElem?_pos, gm, gs, g0, g1, g2, a4, contX, tlX, keysOk_N, hrow, hmf, mgot]
      refine hval.then fun r hr => ?_
      subst hr
      simp -implicitDefEqProofs (maxSteps := 2000000) (disch := omega) [-getElem?_pos, gm, gs, g0, g1, g2, keysOk_N, hrow, hmf, mgot]
      refine ⟨by kernel_rfl, ?_⟩
      refine .mk (fun hm => ?_) fun hm => ?_
      · simp -implicitDefEqProofs (maxSteps := 2000000) (disch := omega) [-getElem?_pos, gm, gs, g0, g1, g2, gp, gps, tCells]
        refine ACalls.tokObj (o := os.length + 1) (k := 0) (cs := [.v .snil, .v .snil]) none (gp _ _ _) rfl ?_
        refine ACalls.tokObj (o := os.length + 1) (k := 1) (cs := [.tsl 0 none [], .v .snil]) none (by simp [gps, gp]) rfl ?_
        simp only [gps, List.set_cons_zero, List.set_cons_succ, List.length_nil, List.length_append, List.length_cons, List.nil_append, List.cons_append]
        refine (hmeet es).mono fun r σ' hr => ?_
        obtain ⟨rfl, rfl⟩ := hr
        simp -implicitDefEqProofs (maxSteps := 2000000) (disch := omega) [-getElem?_pos, gm, gs, g0, g1, g2, gp, gps, tCells]
        refine (hneeds _ (lkOf ll) _ hll fun gs ts n => ?_).then fun r hr => ?_
        · rw [WCall_caps]
          exact k_Lack (by simp [g2])
        subst hr
        rw [if_pos hm]
        simp -implicitDefEqProofs (maxSteps := 2000000) (disch := omega) [-getElem?_pos, gm, gs, g0, g1, g2, gp, gps]
        exact tells_L4 (ts := vv.ts) (rs := vv.rs) (p := os.length + 1) (a := 0) (b := 1) hll hrl (g2 _) (gp _ _ _) (.eq (by simp [hvv]))
      · simp -implicitDefEqProofs (maxSteps := 2000000) (disch := omega) [-getElem?_pos, gm, gs, g0, g1, g2, gp, gps, tCells]
        refine (hneeds _ (lkOf ll) _ hll fun gs ts n => ?_).then fun r hr => ?_
        · rw [WCall_caps]
          exact k_Lack (by simp [g2])
        subst hr
        rw [if_neg hm]
        simp -implicitDefEqProofs (maxSteps := 2000000) (disch := omega) [-getElem?_pos, gm, gs, g0, g1, g2, gp, gps]
        refine W_loop (α := Nat) 0 (fun _ => 0) (fun _ => ⟨[(13, .v (.bool true)), (33, .ptr (os.length + 1) 0), (34, .v (.sl (some 2) false [])), (35, .v (.int .i64 0)), (36, .v (.int .i64 0))], ⟨os ++ [.map (mN es), .cells [.v .snil, .v .snil]], []⟩⟩) (fun _ => True) (.eq (by simp)) trivial fun _ _ => ?_
        simp -implicitDefEqProofs (maxSteps := 2000000) (disch := omega) [-getElem?_pos, gp]
        exact .fin _ rfl (.refl _)

    | some v =>
      have hv : valN N row label es = (.int .i64 (IntKind.i64.wrap (N + v)), .inil) := by rw [valN, if_neg hrow, hg]
      rw [hv] at hval
      rw [hg] at hmf
      simp -implicitDefEqProofs (maxSteps := 2000000) (disch := omega) [-getElem?_pos, gm, gs, g0, g1, g2, a4, contX, tlX, keysOk_N, hrow, hmf, mgot]
      refine hval.then fun r hr => ?_
      subst hr
      simp -implicitDefEqProofs (maxSteps := 2000000) (disch := omega) [-getElem?_pos, gm, gs, g0, g1, g2, keysOk_N, hrow, hmf, mgot]
      skip
      refine .mk (fun hm => ?_) fun hm => ?_
      · simp -implicitDefEqProofs (maxSteps := 2000000) (disch := omega) [-getElem?_pos, gm, gs, g0, g1, g2, gp, gps, tCells]
        refine ACalls.tokObj (o := os.length + 1) (k := 0) (cs := [.v .snil, .v .snil]) none (gp _ _ _) rfl ?_
        refine ACalls.tokObj (o := os.length + 1) (k := 1) (cs := [.tsl 0 none [], .v .snil]) none (by simp [gps, gp]) rfl ?_
        simp only [gps, List.set_cons_zero, List.set_cons_succ, List.length_nil, List.length_append, List.length_cons, List.nil_append, List.cons_append]
        refine (hmeet es).mono fun r σ' hr => ?_
        obtain ⟨rfl, rfl⟩ := hr
        simp -implicitDefEqProofs (maxSteps := 2000000) (disch := omega) [-getElem?_pos, gm, gs, g0, g1, g2, gp, gps, tCells]
        refine (hneeds _ (lkOf ll) _ hll fun gs ts n => ?_).then fun r hr => ?_
        · rw [WCall_caps]
          exact k_Lack (by simp [g2])
        subst hr
        rw [if_pos hm]
        simp -implicitDefEqProofs (maxSteps := 2000000) (disch := omega) [-getElem?_pos, gm, gs, g0, g1, g2, gp, gps]
        exact tells_L4 (ts := vv.ts) (rs := vv.rs) (p := os.length + 1) (a := 0) (b := 1) hll hrl (g2 _) (gp _ _ _) (.eq (by simp [hvv]))
      · simp -implicitDefEqProofs (maxSteps := 2000000) (disch := omega) [-getElem?_pos, gm, gs, g0, g1, g2, gp, gps, tCells]
        refine (hneeds _ (lkOf ll) _ hll fun gs ts n => ?_).then fun r hr => ?_
        · rw [WCall_caps]
          exact k_Lack (by simp [g2])
        subst hr
        rw [if_neg hm]
        simp -implicitDefEqProofs (maxSteps := 2000000) (disch := omega) [-getElem?_pos, gm, gs, g0, g1, g2, gp, gps]
        refine W_loop (α := Nat) 0 (fun _ => 0) (fun _ => ⟨[(13, .v (.bool true)), (33, .ptr (os.length + 1) 0), (34, .v (.sl (some 2) false [])), (35, .v (.int .i64 0)), (36, .v (.int .i64 0))], ⟨os ++ [.map (mN es), .cells [.v .snil, .v .snil]], []⟩⟩) (fun _ => True) (.eq (by simp)) trivial fun _ _ => ?_
        simp -implicitDefEqProofs (maxSteps := 2000000) (disch := omega) [-getElem?_pos, gp]
        exact .fin _ rfl (.refl _)

end Go.Proofs.YtppdghfpbliaeaaDoor
