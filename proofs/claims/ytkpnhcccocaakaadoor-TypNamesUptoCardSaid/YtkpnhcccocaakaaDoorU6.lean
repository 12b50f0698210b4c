/-
  Types: Put. (Own work.)
-/
import Derived.Test.YtkpnhcccocaakaaDoorU5
set_option linter.unusedVariables false
set_option linter.unusedSimpArgs false
namespace Go.Proofs.YtkpnhcccocaakaaDoor
open Go Go.Abs

def itOb (d : D) (n : Nat) (seen : List Nat) : Ob := match d with
  | .map o => .iter (some o) n seen
  | _ => .iter none 0 []
theorem WX_mrangeT {d : D} {es : List NT} {σ : Sg} {K : D → Sg → Prop} (h : MapIs d es σ) : WX .mrange [d] σ K = K (.ptr σ.objs.length 0) (σ.add (itOb d es.length [])) := by
  rcases h with ⟨rfl, rfl⟩ | ⟨o, rfl, h⟩
  · rfl
  · rw [WX_mrange, h, mT, WMap_some, List.length_map]
    rfl
theorem WX_mnextT {d : D} {es : List NT} {σ : Sg} {i : Nat} {seen : List Nat} {K : D → Sg → Prop} (h : MapIs d es σ) (hi : σ.objs[i]? = some (itOb d es.length seen)) :
    WX .mnext [.ptr i 0] σ K = (((∀ j, j < es.length → j ∈ seen) → K (.tup [.v (.bool false)]) σ) ∧ ∀ (j : Nat) (e : NT), es[j]? = some e → j ∉ seen → K (.tup [.v (.bool true), .v (.int .i64 e.n), .v (encT e.t)]) (σ.put i (itOb d es.length (seen ++ [j])))) := by
  rcases h with ⟨rfl, rfl⟩ | ⟨o, rfl, h⟩
  · rw [WX_mnext, hi]
    simp [itOb]
  · rw [WX_mnext, hi]
    simp only [itOb, WIter_some, h, mT, WMap_some, WNx, List.length_map, true_and]
    apply propext
    refine and_congr_right fun _ => ⟨fun k j e he hs => ?_, fun k j x hx hs => ?_⟩
    · exact k j _ (by rw [List.getElem?_map, he]; rfl) hs
    · rw [List.getElem?_map] at hx
      cases he : es[j]? with
      | none => rw [he] at hx; cases hx
      | some e =>
        rw [he] at hx
        cases hx
        exact k j e he hs
theorem WX_mentryT {d : D} {es : List NT} {σ : Sg} {i j : Nat} {e : NT} {seen : List Nat} {K : D → Sg → Prop} (h : MapIs d es σ) (hi : σ.objs[i]? = some (itOb d es.length (seen ++ [j]))) (he : es[j]? = some e) :
    WX .mentry [.ptr i 0] σ K = K (.tup [.v (.int .i64 e.n), .v (encT e.t)]) σ := by
  rcases h with ⟨rfl, rfl⟩ | ⟨o, rfl, h⟩
  · cases he
  · rw [WX_mentry, hi]
    simp only [itOb, WIter_some, h, mT, WMap_some, WEn, List.length_map, true_and]
    apply propext
    constructor
    · rintro ⟨pre, j2, x, hs, hx, hk⟩
      obtain ⟨_, hj⟩ := List.append_inj' hs rfl
      cases hj
      rw [List.getElem?_map, he] at hx
      cases hx
      exact hk
    · intro hk
      exact ⟨seen, j, _, rfl, by rw [List.getElem?_map, he]; rfl, hk⟩
theorem MapIs.low {d : D} {es : List NT} {σ : Sg} (h : MapIs d es σ) {N T : Nat} (hN : σ.objs.length ≤ N) : d.low N T := by
  rcases h with ⟨rfl, rfl⟩ | ⟨o, rfl, h⟩
  · simp
  · have := (List.getElem?_eq_some_iff.1 h).1
    simp only [D.low]
    omega
theorem MapIs.itlow {d : D} {es : List NT} {σ : Sg} (h : MapIs d es σ) {n : Nat} {s : List Nat} {N T : Nat} (hN : σ.objs.length ≤ N) : (itOb d n s).low N T := by
  rcases h with ⟨rfl, rfl⟩ | ⟨o, rfl, h⟩
  · exact trivial
  · have := (List.getElem?_eq_some_iff.1 h).1
    simp only [itOb, Ob.low]
    omega
theorem MapIs.or {d : D} {es : List NT} {σ : Sg} (h : MapIs d es σ) : d = .v .mnil ∨ ∃ o, d = .map o := by
  rcases h with ⟨h, _⟩ | ⟨o, h, _⟩
  · exact .inl h
  · exact .inr ⟨o, h⟩
theorem all3 {P : Ob → Prop} {a b c : Ob} (h1 : P a) (h2 : P b) (h3 : P c) : ∀ ob ∈ [a, b, c], P ob := by simp [h1, h2, h3]
theorem all4 {P : Ob → Prop} {a b c d : Ob} (h1 : P a) (h2 : P b) (h3 : P c) (h4 : P d) : ∀ ob ∈ [a, b, c, d], P ob := by simp [h1, h2, h3, h4]
def left (n : Nat) (seen : List Nat) : Nat := ((List.range n).filter fun j => !seen.contains j).length
theorem left_lt {n j : Nat} {seen : List Nat} (hj : j < n) (hs : j ∉ seen) : left n (seen ++ [j]) < left n seen := by
  have e : (List.range n).filter (fun i => !(seen ++ [j]).contains i) = ((List.range n).filter fun i => !seen.contains i).filter fun i => !(i == j) := by
    rw [List.filter_filter]
    congr 1
    funext i
    by_cases h1 : i = j <;> by_cases h2 : i ∈ seen <;> simp [h1, h2]
  unfold left
  rw [e]
  exact List.length_filter_lt_length_iff_exists.2 ⟨j, List.mem_filter.2 ⟨List.mem_range.2 hj, by simpa using hs⟩, by simp⟩
theorem k_Put (t : Tp) {dX dY : D} {X Y : List NT} {σ : Sg} (he : tbk t ≤ 1048576) (hMX : MapIs dX X σ) (hMY : MapIs dY Y σ) (hX : ∀ e ∈ X, tbk e.t ≤ 1048576 ∧ (fineS e.t 0).1 = true) (hY : ∀ e ∈ Y, tbk e.t ≤ 1048576 ∧ (fineS e.t 0).1 = true ∧ kdT e.t = 4)
    (hX2 : ∀ n x, getT n X = some x → tnd x = 1 ∧ tbk x ≤ 1048576) (hY2 : ∀ n x, getT n Y = some x → tnd x = 1 ∧ tbk x ≤ 1048576) (hfi : (fineS t 0).1 = true) (hY0 : bareY Y) :
    ACalls Tryd.prog 18 [.v (encT t), dX, dY] σ fun r σ' => r = .tup [.v (encT (putT X Y t)), .v .inil] ∧ σ' = σ := by
  have gR : ∀ r tk K, WX .mrange [dX] ⟨σ.objs ++ r, tk⟩ K = K (.ptr (σ.objs ++ r).length 0) ⟨(σ.objs ++ r) ++ [itOb dX X.length []], tk⟩ := fun r tk K => WX_mrangeT (hMX.app r tk)
  have gR2 : ∀ r tk K, WX .mrange [dY] ⟨σ.objs ++ r, tk⟩ K = K (.ptr (σ.objs ++ r).length 0) ⟨(σ.objs ++ r) ++ [itOb dY Y.length []], tk⟩ := fun r tk K => WX_mrangeT (hMY.app r tk)
  have hmay := fun σ => k_May t (σ := σ) (Nat.le_trans (tsz_tbk t) he)
  rw [hfi] at hmay
  have gN : ∀ A B r tk K seen, WX .mnext [.ptr (σ.objs.length + 2) 0] ⟨σ.objs ++ (A :: B :: itOb dX X.length seen :: r), tk⟩ K = _ := fun A B r tk K seen => WX_mnextT (seen := seen) (hMX.app _ tk) (by simp)
  have gE : ∀ A B r tk K j e seen, X[j]? = some e → WX .mentry [.ptr (σ.objs.length + 2) 0] ⟨σ.objs ++ (A :: B :: itOb dX X.length (seen ++ [j]) :: r), tk⟩ K = _ := fun A B r tk K j e seen he => WX_mentryT (seen := seen) (hMX.app _ tk) (by simp) he
  have gN2 : ∀ A B C r tk K seen, WX .mnext [.ptr (σ.objs.length + 3) 0] ⟨σ.objs ++ (A :: B :: C :: itOb dY Y.length seen :: r), tk⟩ K = _ := fun A B C r tk K seen => WX_mnextT (seen := seen) (hMY.app _ tk) (by simp)
  have gE2 : ∀ A B C r tk K j e seen, Y[j]? = some e → WX .mentry [.ptr (σ.objs.length + 3) 0] ⟨σ.objs ++ (A :: B :: C :: itOb dY Y.length (seen ++ [j]) :: r), tk⟩ K = _ := fun A B C r tk K j e seen he => WX_mentryT (seen := seen) (hMY.app _ tk) (by simp) he
  have hlX : ∀ N T, σ.objs.length ≤ N → dX.low N T := fun N T => hMX.low
  have hlY : ∀ N T, σ.objs.length ≤ N → dY.low N T := fun N T => hMY.low
  have hiX : ∀ s N T, σ.objs.length ≤ N → (itOb dX X.length s).low N T := fun s N T => hMX.itlow
  have hiY : ∀ s N T, σ.objs.length ≤ N → (itOb dY Y.length s).low N T := fun s N T => hMY.itlow
  obtain ⟨k, n, l, ls, tl⟩ := t
  rw [encT_mk] at hmay ⊢
  refine acalls_fit Tryd.func18 (by kernel_rfl) c18 rfl (by simp [a18]) fun hf => ?_
  clear hf
  simp -implicitDefEqProofs (maxSteps := 2000000) (disch := omega) [-getElem?_pos, a18]
  refine (hmay _).then fun r hr => ?_
  subst hr
  simp -implicitDefEqProofs (maxSteps := 2000000) (disch := omega) [-getElem?_pos, gR]
  refine W_loop (α := List Nat) [] (left X.length) (fun seen => ⟨[(0, .v (.agg [.int .i64 k, .int .i64 n, .sl (some 5) false (l.map encT), .sl none false (ls.map .str), .int .i64 tl])), (1, dX), (2, dY), (3, .ptr σ.objs.length 0), (6, .ptr (σ.objs.length + 1) 0), (7, .v .inil), (20, .ptr (σ.objs.length + 2) 0)],
      ⟨σ.objs ++ [Ob.cells [.v (.int .i64 k), .v (.int .i64 n), .v (.sl (some 5) false (l.map encT)), .v (.sl none false (ls.map .str)), .v (.int .i64 tl)], Ob.cells [.v (.int .i64 0), .v (.int .i64 0), .v .snil, .v .snil, .v (.int .i64 0)], itOb dX X.length seen], σ.toks⟩⟩)
    (fun seen => True) (.eq (by simp)) trivial fun seen _ => ?_
  simp -implicitDefEqProofs (maxSteps := 2000000) (disch := omega) [-getElem?_pos, gN, -WX_mentry]
  refine ⟨fun hall => ?_, fun j e hje hjs => ?_⟩
  · simp -implicitDefEqProofs (maxSteps := 2000000) (disch := omega) [-getElem?_pos, gR2]
    refine W_loop (α := List Nat) [] (left Y.length) (fun se2 => ⟨[(0, .v (.agg [.int .i64 k, .int .i64 n, .sl (some 5) false (l.map encT), .sl none false (ls.map .str), .int .i64 tl])), (1, dX), (2, dY), (3, .ptr σ.objs.length 0), (6, .ptr (σ.objs.length + 1) 0), (7, .v .inil), (31, .ptr (σ.objs.length + 3) 0)],
        ⟨σ.objs ++ [Ob.cells [.v (.int .i64 k), .v (.int .i64 n), .v (.sl (some 5) false (l.map encT)), .v (.sl none false (ls.map .str)), .v (.int .i64 tl)], Ob.cells [.v (.int .i64 0), .v (.int .i64 0), .v .snil, .v .snil, .v (.int .i64 0)], itOb dX X.length seen, itOb dY Y.length se2], σ.toks⟩⟩)
      (fun seen => True) (.eq (by simp)) trivial fun se2 _ => ?_
    simp -implicitDefEqProofs (maxSteps := 2000000) (disch := omega) [-getElem?_pos, gN2, -WX_mentry]
    refine ⟨fun hall => ?_, fun j e hje hjs => ?_⟩
    · have hro : fineR (.mk k n l ls tl) = true ∧ tnd (.mk k n l ls tl) ≤ 4000 := by
        rw [fine_may] at hfi
        simpa using hfi
      have hcnt := fun A B C E r => k_CountP (.mk k n l ls tl) (p := σ.objs.length + 4) (dX := dX) (dY := dY) (tw := false) (X := X) (Y := Y) hX2 hY2 (σ := ⟨σ.objs ++ (A :: B :: C :: E :: Ob.cells [dX, dY, .v (.bool false)] :: r), σ.toks⟩) he hro.1 (by simp) (hMX.app _ _) (hMY.app _ _)
      have hput := fun A B C E r => k_PutP (.mk k n l ls tl) (p := σ.objs.length + 4) (dX := dX) (dY := dY) (X := X) (Y := Y) (fun n x h => (hX2 n x h).2) hY0 (σ := ⟨σ.objs ++ (A :: B :: C :: E :: Ob.cells [dX, dY, .v (.bool false)] :: r), σ.toks⟩) he hro.1 (by simp) (hMX.app _ _) (hMY.app _ _)
      have hnd := hro.2
      generalize tnd (.mk k n l ls tl) = nd at hcnt hnd
      generalize putT X Y (.mk k n l ls tl) = res at hput
      obtain ⟨k2, n2, l2, ls2, tl2⟩ := res
      rw [encT_mk, encT_mk] at hput
      rw [encT_mk] at hcnt
      rw [encT_mk]
      rcases hMX.or with rfl | ⟨o1, rfl⟩ <;> rcases hMY.or with rfl | ⟨o2, rfl⟩
      all_goals simp -implicitDefEqProofs (maxSteps := 2000000) (disch := omega) [-getElem?_pos]
      all_goals refine (hcnt _ _ _ _ _).then fun r hr => ?_
      all_goals subst hr
      all_goals simp -implicitDefEqProofs (maxSteps := 2000000) (disch := omega) [-getElem?_pos]
      all_goals refine .mk (fun h => by omega) fun h => ?_
      all_goals simp -implicitDefEqProofs (maxSteps := 2000000) (disch := omega) [-getElem?_pos]
      all_goals refine (hput _ _ _ _ _).then fun r hr => ?_
      all_goals subst hr
      all_goals simp -implicitDefEqProofs (maxSteps := 2000000) (disch := omega) [-getElem?_pos]
      all_goals exact .finS _ σ ⟨rfl, rfl⟩ (.refl _) (fun ob h => .inl h) (by simp) (by simp) (by simp) (by simp) (by simp)
    · have hme := List.mem_of_getElem? hje
      have gE1 := fun A B C r tk K => gE2 A B C r tk K j e se2 hje
      have hm := fun σ => k_May e.t (σ := σ) (Nat.le_trans (tsz_tbk e.t) (hY e hme).1)
      have h4 := (hY e hme).2.2
      rw [(hY e hme).2.1] at hm
      obtain ⟨en, k2, n2, l2, ls2, tl2⟩ := e
      rw [encT_mk] at hm gE1
      change k2 = 4 at h4
      subst h4
      simp -implicitDefEqProofs (maxSteps := 2000000) (disch := omega) [-getElem?_pos, gE1]
      refine (hm _).then fun r hr => ?_
      subst hr
      simp -implicitDefEqProofs (maxSteps := 2000000) (disch := omega) [-getElem?_pos]
      exact ⟨se2 ++ [j], trivial, left_lt (List.getElem?_eq_some_iff.1 hje).1 hjs, .dropX (ys := [_, _, _, _]) (by rfl) rfl (by simp) (by exact all4 (by simp) (by simp) (hiX _ _ _ (by simp)) (hiY _ _ _ (by simp))) (by simp) (by simp [hlX, hlY])⟩
  · have hme := List.mem_of_getElem? hje
    have gE1 := fun A B r tk K => gE A B r tk K j e seen hje
    have hm := fun σ => k_May e.t (σ := σ) (Nat.le_trans (tsz_tbk e.t) (hX e hme).1)
    rw [(hX e hme).2] at hm
    obtain ⟨en, k2, n2, l2, ls2, tl2⟩ := e
    rw [encT_mk] at hm gE1
    simp -implicitDefEqProofs (maxSteps := 2000000) (disch := omega) [-getElem?_pos, gE1]
    refine (hm _).then fun r hr => ?_
    subst hr
    simp -implicitDefEqProofs (maxSteps := 2000000) (disch := omega) [-getElem?_pos]
    exact ⟨seen ++ [j], trivial, left_lt (List.getElem?_eq_some_iff.1 hje).1 hjs, .dropX (ys := [_, _, _]) (by rfl) rfl (by simp) (by exact all3 (by simp) (by simp) (hiX _ _ _ (by simp))) (by simp) (by simp [hlX, hlY])⟩
end Go.Proofs.YtkpnhcccocaakaaDoor
