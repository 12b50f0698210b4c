/-
  Scope: a name is sought among what is bound, the last first (a range over a function: in the machine's own terms). (Own work; after the kit's worked proof of slices.All.)
-/
import Derived.Test.YtpdeaekmgljeaaaGreatDoorQ06
import Derived.Test.YtpdeaekmgljeaaaGreatDoorChecked
import Derived.RangeFuncBox
import Derived.RangeFuncNested
import Derived.RangeFuncLeaves
import Derived.Shelf.Abstract
import Derived.WalkKit
import Derived.OwnWalkIn
import Derived.TacticsInMore
import Derived.LoopNIn
import Derived.LoopIn
import Derived.Lib.ItoaLen
import Derived.CallsIn
import Derived.LaidEql
import Derived.Stop.Asserts
import Derived.RowKitTokens
import Derived.Below
import Derived.OneCell
import Derived.Shelf.SlIter.Nil
import Derived.Shelf.SortM.Plain
import Derived.Shelf.SortM.SortNone
import Derived.Ground.GgzProg
import Derived.Ground.SlgmProg
import Derived.Ground.SlmpProg
import Derived.Shelf.SlMaps.Copy
import Derived.Shelf.SlGeneric
import Derived.Sort.KeysCollected
import Derived.Lib.SlMapMerge
set_option linter.unusedVariables false
set_option linter.unusedSimpArgs false
namespace Go.Proofs.YtpdeaekmgljeaaaGreatDoor
open Go Go.RowKit Go.Shelf
attribute [local go_sem] Oper.semAt_some
abbrev Frm := List UInt8 × List UInt8
abbrev strV (s : List UInt8) : Value := .string ⟨s.toArray⟩
abbrev frV (x : Frm) : Value := .agg #[strV x.1, strV x.2]
def backF (zs : List Frm) (j : Nat) : Nat × Frm := (zs.length - 1 - j, zs[zs.length - 1 - j]?.getD ([], []))
def uptoF (zs : List Frm) (k : Nat) : List (Nat × Frm) := (List.range k).map (backF zs)
theorem uptoF_succ (zs : List Frm) (k : Nat) : uptoF zs (k + 1) = uptoF zs k ++ [backF zs k] := by simp [uptoF, List.range_succ]
theorem uptoF_length (zs : List Frm) (k : Nat) : (uptoF zs k).length = k := by simp [uptoF]
set_option maxRecDepth 100000 in
set_option maxHeartbeats 4000000 in
theorem back1_in (F : Fence) (n : Nat) (h7 : F.fn 141) (hro : F.round = none) (hn : 1 ≤ n) (l Bs n₀ b off cap : Nat) (zs : List Frm) (hreach : zs.length * 32 ≤ 140737488351232) (hb : b < n₀) (J Jx : List (Nat × Frm) → World → Prop)
    (hY : ∀ pre x W, J pre W → pre.length < zs.length → YieldAt F (n - 1) Tryz.prog l #[.int .i64 (x.1 : Int), frV x.2] W fun e W' =>
      (e = .returned (.bool true) ∧ J (pre ++ [x]) W' ∧ Below n₀ W W') ∨ (e = .returned (.bool false) ∧ Jx (pre ++ [x]) W'))
    (W : World) (hBs : W.cell? ⟨Bs, 0, none⟩ = some (.slice (some ⟨b, off, none⟩) zs.length cap)) (hBb : Bs < n₀) (hc : ∀ j x, zs[j]? = some x → W.cell? ⟨b, off + j * 2, none⟩ = some (strV x.1) ∧ W.cell? ⟨b, off + j * 2 + 1, none⟩ = some (strV x.2)) (h0 : J [] W) :
    CallsIn F n Tryz.prog 141 #[.func (.yield l) #[] #[], .pointer (some ⟨Bs, 0, none⟩)] W fun e W' => (∃ v, e = .returned v) ∧
      ((∃ ys, ys = uptoF zs zs.length ∧ J ys W') ∨ (∃ pre, (∃ k, k ≤ zs.length ∧ pre = uptoF zs k) ∧ Jx pre W')) := by
  refine callsIn_of_wp Tryz.func141 rfl h7 ?_ hro
  simp only [Tryz.ntmps141, List.size_toArray, List.length_cons, List.length_nil, Nat.reduceAdd, Nat.reduceSub, Array.replicate_succ, Array.replicate_zero, List.push_toArray, List.append_toArray, List.nil_append, List.cons_append]
  gi_wp2
  gi_loopw [3] (fun i wr => ∃ k : Nat, k ≤ zs.length ∧ i = .int .i64 ((zs.length : Int) - 1 - k) ∧ J (uptoF zs k) wr ∧ Below n₀ W wr)
    (fun i _ => (intOf i + 1).toNat)
  case atStart => exact ⟨0, Nat.zero_le _, by simp, h0, Below.refl _ _⟩
  case round =>
    obtain ⟨k, hk, rfl, hJs, hnx⟩ := hrel
    have hBk := (hnx.cell (p := ⟨Bs, 0, none⟩) hBb).trans hBs
    by_cases hlt : k < zs.length
    · obtain ⟨x, hx⟩ : ∃ x, zs[zs.length - 1 - k]? = some x := ⟨_, List.getElem?_eq_getElem (by omega)⟩
      obtain ⟨c1, c2⟩ := hc _ x hx
      have c1 := (hnx.cell (p := ⟨b, off + (zs.length - 1 - k) * 2, none⟩) hb).trans c1
      have c2 := (hnx.cell (p := ⟨b, off + (zs.length - 1 - k) * 2 + 1, none⟩) hb).trans c2
      obtain ⟨fn, tmps, assign, body, hy, hR⟩ := hY _ (backF zs k) wr hJs (by rw [uptoF_length]; exact hlt)
      have hbk : backF zs k = (zs.length - 1 - k, x) := by unfold backF; rw [hx]; rfl
      rw [hbk] at hy hR
      dsimp only [frV] at hy
      have hsub : (zs.length : Int) - 1 - k = ((zs.length - 1 - k : Nat) : Int) := by omega
      rw [hsub]
      gi_wp2
      refine hR.mono ?_
      rintro e W3 (⟨rfl, hJ3, hk3⟩ | ⟨rfl, hJx3⟩)
      · gi_wp2
        go_roundw
        case rel => exact ⟨k + 1, by omega, by simp <;> omega, by rw [uptoF_succ, hbk]; exact hJ3, hnx.trans hk3⟩
        case measure => simp [intOf]
      · gi_wp2
        refine bodyPost_ret (results_none rfl _ _ _) rfl ?_
        exact ⟨⟨_, rfl⟩, .inr ⟨_, ⟨k + 1, by omega, by rw [uptoF_succ, hbk]⟩, hJx3⟩⟩
    · obtain rfl : k = zs.length := by omega
      gi_wp2
      go_end0
      exact ⟨⟨_, rfl⟩, .inl ⟨_, rfl, hJs⟩⟩
set_option maxRecDepth 100000 in
set_option maxHeartbeats 1000000 in
theorem back1_nil_in (F : Fence) (n : Nat) (h7 : F.fn 141) (hro : F.round = none) (l Bs : Nat) (J : List (Nat × Frm) → World → Prop) (W : World) (a : Option Addr) (cap : Nat) (hBs : W.cell? ⟨Bs, 0, none⟩ = some (.slice a 0 cap)) (h0 : J [] W) :
    CallsIn F n Tryz.prog 141 #[.func (.yield l) #[] #[], .pointer (some ⟨Bs, 0, none⟩)] W fun e W' => (∃ v, e = .returned v) ∧ J [] W' := by
  refine callsIn_of_wp Tryz.func141 rfl h7 ?_ hro
  simp only [Tryz.ntmps141, List.size_toArray, List.length_cons, List.length_nil, Nat.reduceAdd, Nat.reduceSub, Array.replicate_succ, Array.replicate_zero, List.push_toArray, List.append_toArray, List.nil_append, List.cons_append]
  gi_wp2
  gi_loopw [3] (fun i wr => i = .int .i64 (-1) ∧ J [] wr) (fun _ _ => 0)
  case atStart => exact ⟨rfl, h0⟩
  case round =>
    obtain ⟨rfl, hJs⟩ := hrel
    gi_wp2
    go_end0
    exact ⟨⟨_, rfl⟩, hJs⟩
set_option maxHeartbeats 1000000 in
theorem back_in (F : Fence) (n : Nat) (h5 : F.fn 104) (hro : F.round = none) (a : Option Addr) (len cap : Nat) (w : World) :
    CallsIn F n Tryz.prog 104 #[.slice a len cap] w fun e w' => e = .returned (.func (.func 141) #[] #[.pointer (some ⟨w.heap.size, 0, none⟩)]) ∧ w' = w.alloc (.cells #[.slice a len cap] 102) := by
  refine callsIn_of_wp Tryz.func104 rfl h5 ?_ hro
  simp only [Tryz.ntmps104, List.size_toArray, List.length_cons, List.length_nil, Nat.reduceAdd, Nat.reduceSub, Array.replicate_succ, Array.replicate_zero, List.push_toArray, List.append_toArray, List.nil_append, List.cons_append]
  gi_wp2
  go_ret
  exact ⟨rfl, rfl⟩
def FrmsAt (n₀ : Nat) (W : World) (sv : Value) (zs : List Frm) : Prop :=
  (zs = [] ∧ ∃ a cap, sv = .slice a 0 cap) ∨ ∃ b off cap, sv = .slice (some ⟨b, off, none⟩) zs.length cap ∧ b < n₀ ∧ ∀ j x, zs[j]? = some x → W.cell? ⟨b, off + j * 2, none⟩ = some (strV x.1) ∧ W.cell? ⟨b, off + j * 2 + 1, none⟩ = some (strV x.2)
theorem FrmsAt.below {n₀ : Nat} {A B : World} (h : Below n₀ A B) {sv : Value} {zs : List Frm} : FrmsAt n₀ A sv zs → FrmsAt n₀ B sv zs
  | .inl e => .inl e
  | .inr ⟨b, off, cap, e, hb, hc⟩ => .inr ⟨b, off, cap, e, hb, fun j x hx => ⟨(h.cell (p := ⟨b, off + j * 2, none⟩) hb).trans (hc j x hx).1, (h.cell (p := ⟨b, off + j * 2 + 1, none⟩) hb).trans (hc j x hx).2⟩⟩
theorem back_stops (F : Fence) (n : Nat) (h7 : F.fn 141) (hro : F.round = none) (hn : 1 ≤ n) (Bs n₀ : Nat) (sv : Value) (zs : List Frm) (hreach : zs.length * 32 ≤ 140737488351232) (w : World) (hBs : Bs < n₀) (hn₀ : n₀ ≤ w.heap.size)
    (hc : w.cell? ⟨Bs, 0, none⟩ = some sv) (hI : FrmsAt n₀ w sv zs) :
    SeqStopsK F n Tryz.prog 141 #[.pointer (some ⟨Bs, 0, none⟩)] (fun x : Nat × Frm => #[Value.int .i64 (x.1 : Int), frV x.2]) (Below n₀) (fun ys => ys = uptoF zs zs.length) (fun pre => ∃ k, k ≤ zs.length ∧ pre = uptoF zs k) zs.length w := fun l J Jx W hW _ _ hY h0 => by
  have hc' := (hW.cell (p := ⟨Bs, 0, none⟩) (Nat.lt_of_lt_of_le hBs hn₀)).trans hc
  rcases hI.below (hW.mono hn₀) with ⟨rfl, a, cap, rfl⟩ | ⟨b, off, cap, rfl, hb, hcs⟩
  · exact (back1_nil_in F n h7 hro l Bs J W a cap hc' h0).mono fun e W' ⟨he, hj⟩ => ⟨he, .inl ⟨_, rfl, hj⟩⟩
  · exact back1_in F n h7 hro hn l Bs n₀ b off cap zs hreach hb J Jx hY W hc' hBs hcs h0
def findF (zs : List Frm) (s : List UInt8) : List UInt8 × Bool := match zs.reverse.find? fun x => decide (x.1 = s) with
  | some x => (x.2, true)
  | none => (s, false)
theorem uptoF_rev (zs : List Frm) (k : Nat) (hk : k ≤ zs.length) : (uptoF zs k).map (·.2) = zs.reverse.take k := by
  apply List.ext_getElem
  · simp only [uptoF, List.length_map, List.length_range, List.length_take, List.length_reverse]; omega
  · intro i h1 h2
    have hi : i < k := by simp [uptoF] at h1; exact h1
    simp [uptoF, backF]
    rw [List.getElem?_eq_getElem (by omega)]
    simp
theorem find_done {zs : List Frm} {s : List UInt8} (h : ∀ p ∈ uptoF zs zs.length, p.2.1 ≠ s) : findF zs s = (s, false) := by
  have hr := uptoF_rev zs zs.length (Nat.le_refl _)
  rw [List.take_of_length_le (by simp)] at hr
  unfold findF
  rw [← hr]
  have : ((uptoF zs zs.length).map (·.2)).find? (fun x => decide (x.1 = s)) = none := by
    rw [List.find?_eq_none]
    intro x hx
    obtain ⟨p, hp, rfl⟩ := List.mem_map.1 hx
    simpa using h p hp
  rw [this]
theorem find_stop {zs : List Frm} {s : List UInt8} {k : Nat} (hk : k ≤ zs.length) {ini : List (Nat × Frm)} {last : Nat × Frm} (he : uptoF zs k = ini ++ [last]) (h : ∀ p ∈ ini, p.2.1 ≠ s) (hl : last.2.1 = s) : findF zs s = (last.2.2, true) := by
  have hr := uptoF_rev zs k hk
  rw [he, List.map_append, List.map_singleton] at hr
  unfold findF
  rw [← List.take_append_drop k zs.reverse, ← hr, List.append_assoc, List.find?_append]
  have h1 : (ini.map (·.2)).find? (fun x => decide (x.1 = s)) = none := by
    rw [List.find?_eq_none]
    intro x hx
    obtain ⟨p, hp, rfl⟩ := List.mem_map.1 hx
    simpa using h p hp
  rw [h1]
  simp [hl]
theorem FrmsAt.mono {n₀ n₁ : Nat} (h : n₀ ≤ n₁) {W : World} {sv : Value} {zs : List Frm} : FrmsAt n₀ W sv zs → FrmsAt n₁ W sv zs
  | .inl e => .inl e
  | .inr ⟨b, off, cap, e, hb, hc⟩ => .inr ⟨b, off, cap, e, Nat.lt_of_lt_of_le hb h, hc⟩
theorem boxed_kept {A B : World} {b : Nat} {t : TypeId} {v : Value} {row : Option Nat} (h : Boxed A b t v) (hg : A.grownBy B row) (hr : ∀ r, row = some r → ∃ o : Obj, A.heap[r]? = some o ∧ o.isCells = false) : Boxed B b t v := boxed_own (β := Unit) b t (fun _ => v) () A B row h hg hr
set_option maxRecDepth 100000 in
set_option maxHeartbeats 4000000 in
theorem find_in (F : Fence) (n : Nat) (h4 : F.fn 69) (h6 : F.fn 104) (h8 : F.fn 141) (hro : F.round = none) (hn : 3 ≤ n) (a : Option Addr) (len cap : Nat) (zs : List Frm) (s : List UInt8) (hreach : zs.length * 32 ≤ 140737488351232) (w : World) (hI : FrmsAt w.heap.size w (.slice a len cap) zs) :
    CallsIn F n Tryz.prog 69 #[.slice a len cap, strV s] w fun e W' => e = .returned (.tuple #[strV (findF zs s).1, .bool (findF zs s).2]) ∧ Below w.heap.size w W' := by
  have h1 : 1 ≤ n := by omega
  refine callsIn_of_wp_marks Tryz.func69 rfl h4 ?_ hro
  simp only [Tryz.ntmps69, List.size_toArray, List.length_cons, List.length_nil, Nat.reduceAdd, Nat.reduceSub, Array.replicate_succ, Array.replicate_zero, List.push_toArray, List.append_toArray, List.nil_append, List.cons_append]
  gi_wp2_with (gi_at_call 104; refine (back_in F (n - 1) h6 hro _ _ _ _).mono ?_; rintro e w' ⟨rfl, rfl⟩)
  have hB0 : Below w.heap.size w ((((w.alloc (.cells #[strV s] 9)).alloc (.cells #[.string ⟨#[]⟩] 9)).alloc (.cells #[.bool false] 4)).alloc (.cells #[.slice a len cap] 102)) :=
    ((((Below.refl _ w).alloc (Nat.le_refl _) _).alloc (by simp) _).alloc (by simp; omega) _).alloc (by simp; omega) _
  have b0 := (((Boxed.new w 9 (strV s)).alloc (.cells #[.string ⟨#[]⟩] 9)).alloc (.cells #[.bool false] 4)).alloc (.cells #[.slice a len cap] 102)
  have b1 := ((Boxed.new (w.alloc (.cells #[strV s] 9)) 9 (.string ⟨#[]⟩)).alloc (.cells #[.bool false] 4)).alloc (.cells #[.slice a len cap] 102)
  have b2 := (Boxed.new ((w.alloc (.cells #[strV s] 9)).alloc (.cells #[.string ⟨#[]⟩] 9)) 4 (.bool false)).alloc (.cells #[.slice a len cap] 102)
  have b3 := Boxed.new (((w.alloc (.cells #[strV s] 9)).alloc (.cells #[.string ⟨#[]⟩] 9)).alloc (.cells #[.bool false] 4)) 102 (.slice a len cap)
  have hs0 : ((((w.alloc (.cells #[strV s] 9)).alloc (.cells #[.string ⟨#[]⟩] 9)).alloc (.cells #[.bool false] 4)).alloc (.cells #[.slice a len cap] 102)).heap.size = w.heap.size + 4 := by simp
  generalize ((((w.alloc (.cells #[strV s] 9)).alloc (.cells #[.string ⟨#[]⟩] 9)).alloc (.cells #[.bool false] 4)).alloc (.cells #[.slice a len cap] 102)) = W0 at hB0 b0 b1 b2 b3 hs0 ⊢
  simp only [World.size_alloc] at b1 b2 b3
  refine wpIn_rangeFunc_ownH hro h1 (gf := 141) (lb := #[.pointer (some ⟨w.heap.size + 1 + 1 + 1, 0, none⟩)]) rfl h8 (enters_of Tryz.func141 (by kernel_rfl) rfl)
    (back_stops F (n - 1) h8 hro (by omega) (w.heap.size + 1 + 1 + 1) W0.heap.size _ zs hreach W0 (by omega) (Nat.le_refl _) b3.cell ((hI.below hB0).mono (by omega))) belowK_t (belowK_b (Nat.le_refl _)) (Below.refl _ _) (fun _ => rfl)
    (fun pre W => ((∀ p ∈ pre, p.2.1 ≠ s) ∧ Boxed W w.heap.size 9 (strV s) ∧ Boxed W (w.heap.size + 1) 9 (.string ⟨#[]⟩) ∧ Boxed W (w.heap.size + 1 + 1) 4 (.bool false) ∧ W0.heap.size ≤ W.heap.size) ∧ Below w.heap.size w W)
    (fun c pre W => (c = .ret ∧ ∃ ini last, pre = ini ++ [last] ∧ (∀ p ∈ ini, p.2.1 ≠ s) ∧ last.2.1 = s ∧ Boxed W (w.heap.size + 1) 9 (strV last.2.2) ∧ Boxed W (w.heap.size + 1 + 1) 4 (.bool true)) ∧ Below w.heap.size w W)
    (OwnFrom.and (Own.from (fun st A B row hs hg hr => ⟨hs.1, boxed_kept hs.2.1 hg hr, boxed_kept hs.2.2.1 hg hr, boxed_kept hs.2.2.2.1 hg hr, Nat.le_trans hs.2.2.2.2 hg.size⟩) _) (ownFrom_below (Nat.le_refl _) (by omega)))
    (fun c => OwnFrom.and (Own.from (fun st A B row hs hg hr => by obtain ⟨hc, ini, last, e1, e2, e3, e4, e5⟩ := hs; exact ⟨hc, ini, last, e1, e2, e3, boxed_kept e4 hg hr, boxed_kept e5 hg hr⟩) _) (ownFrom_below (Nat.le_refl _) (by omega)))
    ⟨⟨by simp, b0, b1, b2, Nat.le_refl _⟩, hB0⟩
    (fun x a' W => ∃ c, a' = { tmps := #[.slice a len cap, strV s, undef, .pointer (some ⟨w.heap.size, 0, none⟩), .pointer (some ⟨w.heap.size + 1, 0, none⟩), .pointer (some ⟨w.heap.size + 1 + 1, 0, none⟩), undef, .pointer (some ⟨c, 0, none⟩), .slice a len cap, .func (.func 141) #[] #[.pointer (some ⟨w.heap.size + 1 + 1 + 1, 0, none⟩)], .int .i64 (x.1 : Int), frV x.2, undef, undef, undef, undef, undef, undef, undef], defers := [] } ∧ W.cell? ⟨c, 0, none⟩ = some (strV x.2.1) ∧ W.cell? ⟨c, 1, none⟩ = some (strV x.2.2))
    (fun x a' => Own.from (fun st A B row hs hg hr => by obtain ⟨c, h1, h2, h3⟩ := hs; exact ⟨c, h1, cell_kept h2 hg hr, cell_kept h3 hg hr⟩) _) ?assign ?body ?done ?stop
  case assign =>
    rintro l pre ⟨xi, xn, xa⟩ W K ⟨⟨hp, c0, c1, c2, hsz⟩, hB⟩ hK
    gi_wp2
    have hnew := World.alloc_heap_new W (.cells #[strV xn, strV xa] 105)
    exact hK _ _ (KeepsFrom.of_grownBy (World.grownBy_alloc W _ none) (by simp)) ((Below.refl _ W).alloc hsz _) ⟨⟨hp, c0.alloc _, c1.alloc _, c2.alloc _, by rw [World.size_alloc]; omega⟩, hB.alloc hB.size _⟩
      ⟨W.heap.size, rfl, by rw [World.cell?, hnew]; rfl, by rw [World.cell?, hnew]; rfl⟩
  case body =>
    rintro l pre x a' W hl hrec ⟨⟨hp, c0, c1, c2, hsz⟩, hB⟩ ⟨c, rfl, d1, d2⟩ _
    have g0 := c0.cell
    have g1 := c1.cell
    have g2 := c2.cell
    have f1 := c1.frozen
    have f2 := c2.frozen
    obtain ⟨xi, xn, xa⟩ := x
    dsimp only at d1 d2
    gi_wp2
    · rename_i hx
      have hx : xn = s := by simpa using hx
      exact ⟨((KeepsOthers.setCell _ _ _).from _).trans ((KeepsOthers.setCell _ _ _).from _), ⟨rfl, pre, (xi, xn, xa), rfl, hp, hx, (c1.set _).other (by omega) _, (c2.other (by omega) _).set _⟩, (hB.setCell (p := ⟨w.heap.size + 1, 0, none⟩) (Nat.le_succ _) _).setCell (p := ⟨w.heap.size + 1 + 1, 0, none⟩) (by show _ ≤ w.heap.size + 1 + 1; omega) _⟩
    · rename_i hx
      have hx : xn ≠ s := by simpa using hx
      exact ⟨KeepsFrom.refl _ _, Below.refl _ _, ⟨fun p hp' => (List.mem_append.1 hp').elim (hp p) (fun e => by simp at e; subst e; exact hx), c0, c1, c2, hsz⟩, hB⟩
  case done =>
    rintro D ys W hD rfl ⟨⟨hne, c0, c1, c2, hsz⟩, hB⟩ hK
    have g0 := c0.cell
    have g1 := c1.cell
    have g2 := c2.cell
    have f1 := c1.frozen
    have f2 := c2.frozen
    gi_wp2
    have k1 := (c1.set (strV s)).other (B' := w.heap.size + 1 + 1) (by omega) (.bool false)
    have k2 := (c2.other (B' := w.heap.size + 1) (by omega) (strV s)).set (.bool false)
    have hK2 := (KeepsOthers.setCell (W.setCell ⟨w.heap.size + 1, 0, none⟩ (strV s)) ⟨w.heap.size + 1 + 1, 0, none⟩ (.bool false)).same D _ ((KeepsOthers.setCell W ⟨w.heap.size + 1, 0, none⟩ (strV s)).same D _ hK rfl) rfl
    refine ⟨by simp, .inl ⟨_, _, rfl, run_takeDeferred hK2, ?_⟩⟩
    have m1 := (boxed_kept k1 (grownBy_putObj' _ D (.deferred none)) (fun r e => by cases e; exact ⟨_, hK2, rfl⟩)).cell
    have m2 := (boxed_kept k2 (grownBy_putObj' _ D (.deferred none)) (fun r e => by cases e; exact ⟨_, hK2, rfl⟩)).cell
    refine ⟨.tuple #[strV s, .bool false], ?_, by rw [find_done hne], ((hB.setCell (p := ⟨w.heap.size + 1, 0, none⟩) (Nat.le_succ _) _).setCell (p := ⟨w.heap.size + 1 + 1, 0, none⟩) (by show _ ≤ w.heap.size + 1 + 1; omega) _).trans (belowK_b (w := w) (Nat.le_refl _) _ D _ _ (by omega) hK2 rfl rfl)⟩
    simp [results, Tryz.f69, go_sem, m1, m2]
  case stop =>
    rintro D c pre W hD ⟨k, hk, rfl⟩ ⟨⟨rfl, ini, last, e1, e2, e3, e4, e5⟩, hB⟩ hK
    gi_wp2
    refine ⟨by simp, .inl ⟨_, _, rfl, run_takeDeferred hK, ?_⟩⟩
    have m1 := (boxed_kept e4 (grownBy_putObj' _ D (.deferred none)) (fun r e => by cases e; exact ⟨_, hK, rfl⟩)).cell
    have m2 := (boxed_kept e5 (grownBy_putObj' _ D (.deferred none)) (fun r e => by cases e; exact ⟨_, hK, rfl⟩)).cell
    refine ⟨.tuple #[strV last.2.2, .bool true], ?_, by rw [find_stop hk e1 e2 e3], hB.trans (belowK_b (w := w) (Nat.le_refl _) W D _ _ (by omega) hK rfl rfl)⟩
    simp [results, Tryz.f69, go_sem, m1, m2]
end Go.Proofs.YtpdeaekmgljeaaaGreatDoor
namespace Go.Proofs.YtpdeaekmgljeaaaGreatDoor
open Go Go.Abs Go.RowKit
def encFr (x : Frm) : V := .agg [.str x.1, .str x.2]
def vF (l : List Frm) : V := .sl (some 2) false (l.map encFr)
theorem flat_frm : ∀ (l : List Frm) (j : Nat) (x : Frm), l[j]? = some x → (V.flat (l.map encFr))[j * 2]? = some (.str x.1) ∧ (V.flat (l.map encFr))[j * 2 + 1]? = some (.str x.2)
  | [], j, x, h => by simp at h
  | y :: l, 0, x, h => by
    cases h
    exact ⟨rfl, rfl⟩
  | y :: l, j + 1, x, h => by
    have ih := flat_frm l j x (by simpa using h)
    have e : (j + 1) * 2 = j * 2 + 1 + 1 := by omega
    rw [e]
    exact ih
theorem findF_from (zs : List Frm) (s : Str) : (findF zs s).1 = s ∨ ∃ x ∈ zs, (findF zs s).1 = x.2 := by
  unfold findF
  cases h : zs.reverse.find? (fun x => decide (x.1 = s)) with
  | none => exact .inl rfl
  | some x => exact .inr ⟨x, List.mem_reverse.1 (List.mem_of_find?_eq_some h), rfl⟩
theorem k_Find {zs : List Frm} {s : Str} {f : Bool} {σ : Sg} (hL : zs.length ≤ 4000000) : ACalls Tryz.prog 69 [.v (.sl (some 2) f (zs.map encFr)), .v (.str s)] σ fun r σ' => r = .tup [.v (.str (findF zs s).1), .v (.bool (findF zs s).2)] ∧ σ' = σ := by
  refine ⟨⟨_, Tryz.func69, by kernel_rfl, by kernel_rfl⟩, fun m w us hI hl hr => ?_⟩
  match us, hl with
  | [u1, u2], _ =>
  have g1 := (hr 0 _ _ rfl rfl).v_inv
  have g2 := (hr 1 _ _ rfl rfl).v_inv
  clear hr
  cases g2 with
  | str _ hs =>
  obtain ⟨a, cap, rfl, hc1, hc2, _, _, _, hor⟩ := g1.sl_inv
  clear g1
  rw [List.length_map] at hc1 hor ⊢
  have hF : FrmsAt w.heap.size w (.slice a zs.length cap) zs ∧ ∀ x ∈ zs, x.2.length ≤ maxLen := by
    rcases hor with ⟨h, _⟩ | ⟨b, off, us, rfl, hcell, hrep⟩
    · have hz : zs = [] := List.map_eq_nil_iff.1 h
      subst hz
      exact ⟨.inl ⟨rfl, _, _, rfl⟩, by simp⟩
    · cases zs with
      | nil => exact ⟨.inl ⟨rfl, _, _, rfl⟩, by simp⟩
      | cons z zs =>
      have hall0 : True := trivial
      suffices hall : ∀ j x, (z :: zs)[j]? = some x → (w.cell? ⟨b, off + j * 2, none⟩ = some (strV x.1) ∧ w.cell? ⟨b, off + j * 2 + 1, none⟩ = some (strV x.2)) ∧ x.2.length ≤ maxLen from
        ⟨.inr ⟨b, off, cap, rfl, (hcell 0 (by simp [shn])).2.1, fun j x hx => (hall j x hx).1⟩, fun x hx => by obtain ⟨j, hj⟩ := List.mem_iff_getElem?.1 hx; exact (hall j x hj).2⟩
      intro j x hx
      have hj := (List.getElem?_eq_some_iff.1 hx).1
      obtain ⟨f1, f2⟩ := flat_frm _ _ _ hx
      have h1 := hrep _ _ f1
      have h2 := hrep _ _ f2
      have e1 := (hcell (j * 2) (by simp only [shn]; omega)).1
      have e2 := (hcell (j * 2 + 1) (by simp only [shn]; omega)).1
      rw [Nat.add_assoc]
      rw [e1, e2]
      generalize us (j * 2) = v1 at h1
      generalize us (j * 2 + 1) = v2 at h2
      cases h1
      cases h2 with
      | str _ hl2 => exact ⟨⟨rfl, rfl⟩, hl2⟩
  refine (callsIn_wide.1 (find_in Fence.wide 3 trivial trivial trivial rfl (by omega) a zs.length cap zs s (by omega) w hF.1)).mono fun e w' ⟨he, hw⟩ => ?_
  obtain ⟨hI', hX⟩ := Inv.below hI hw
  exact ⟨_, _, σ, m, he, ⟨rfl, rfl⟩, hI', hX, by
    refine .tup _ _ rfl fun i d u hd hu => ?_
    match i with
    | 0 =>
      cases hd
      cases hu
      refine .v _ _ (.str _ ?_)
      rcases findF_from zs s with h | ⟨x, hx, h⟩
      · rw [h]; exact hs
      · rw [h]; exact hF.2 x hx
    | 1 =>
      cases hd
      cases hu
      exact .v _ _ (.bool _)
    | i + 2 => simp at hd⟩
theorem k_Itoa {n : Int} {σ : Sg} : ACalls Tryz.prog 71 [.v (.int .i64 n)] σ fun r σ' => (r = .v (.str (Lib.itoa n)) ∧ (Lib.itoa n).length ≤ 21) ∧ σ' = σ := by
  refine ⟨⟨_, Tryz.func71, by kernel_rfl, by kernel_rfl⟩, fun m w us hI hl hr => ?_⟩
  match us, hl with
  | [u], _ =>
    have h0 := hr 0 _ _ rfl rfl
    cases h0 with
    | v _ _ hv =>
      cases hv with
      | int _ _ hn =>
        have hn1 : -9223372036854775808 ≤ n := hn.1
        have hn2 : n ≤ 9223372036854775807 := hn.2
        refine (Go.Proofs.Any.strconv_Itoa itoaLays n hn1 hn2 w (tab_is hI)).mono fun e w' ⟨he, k, os, hw⟩ => ?_
        subst hw
        obtain ⟨hI', hX⟩ := grown_inv hI k os
        have hlen := Lib.itoa_length_le n hn1 hn2
        exact ⟨_, _, σ, m, he, ⟨⟨rfl, hlen⟩, rfl⟩, hI', hX, .v _ _ (.str _ (by unfold maxLen; omega))⟩
theorem k_CloneS {l : List Str} {σ : Sg} (hl : l.length ≤ 1048576) : ACalls Tryz.prog 66 [.v (vS l)] σ fun r σ' => r = .v (vS l) ∧ σ' = σ := by
  refine acalls_fit Tryz.func66 (by kernel_rfl) c66 rfl (by simp [a66]) fun hf => ?_
  clear hf
  simp -implicitDefEqProofs (maxSteps := 2000000) (disch := omega) [-getElem?_pos, a66]
  refine ⟨⟨by omega, .fin _ ⟨rfl, rfl⟩ .tsl⟩, fun h => .fin _ ⟨rfl, rfl⟩ ?_⟩
  rw [h]
  exact VLe.snil.d
theorem k_With {f g : Bool} {l x : List Frm} {σ : Sg} (hl : l.length + x.length ≤ 4000000) : ACalls Tryz.prog 70 [.v (.sl (some 2) f (l.map encFr)), .v (.sl (some 2) g (x.map encFr))] σ fun r σ' => r = .v (vF (l ++ x)) ∧ σ' = σ := by
  refine acalls_fit Tryz.func70 (by kernel_rfl) c70 rfl (by simp [a70]) fun hf => ?_
  clear hf
  simp -implicitDefEqProofs (maxSteps := 2000000) (disch := omega) [-getElem?_pos, a70]
  exact ⟨by omega, .fin _ ⟨rfl, rfl⟩ (by unfold vF; rw [List.map_append]; exact .tsl)⟩
end Go.Proofs.YtpdeaekmgljeaaaGreatDoor
namespace Go.Proofs.YtpdeaekmgljeaaaGreatDoor
open Go Go.Abs
structure Rn where
  old : List Str
  free : List Int
def asR (r : Rn) : Str := [118] ++ Lib.itoa (r.old.length : Int)
def bindR (s : Str) (r : Rn) : Rn := ⟨r.old ++ [s], r.free⟩
def zF : Frm := ([], [])
def namesR : List Str → Rn → List Frm × Rn
  | [], r => ([], r)
  | x :: l, r => ((x, asR r) :: (namesR l (bindR x r)).1, (namesR l (bindR x r)).2)
structure Hd where
  s : Str
  t : Str
  ns : List Str
  fs : Frm
  ft : Frm
  fn : List Frm
  r : Rn
def headN (k p : Int) (s t : Str) (ns : List Str) (env : List Frm) (r : Rn) : Hd :=
  if k = 3 then ⟨(findF env s).1, t, [], zF, zF, [], if (findF env s).2 = true then r else ⟨r.old, r.free ++ [p]⟩⟩
  else if k = 4 ∨ k = 6 then ⟨asR r, t, [], (s, asR r), zF, [], bindR s r⟩
  else if k = 7 then ⟨asR r, asR (bindR s r), [], (s, asR r), (t, asR (bindR s r)), [], bindR t (bindR s r)⟩
  else if k = 14 then (if t = [] then ⟨s, t, (namesR ns r).1.map (·.2), zF, zF, (namesR ns r).1, (namesR ns r).2⟩
    else ⟨s, asR (namesR ns r).2, (namesR ns r).1.map (·.2), zF, (t, asR (namesR ns r).2), (namesR ns r).1, bindR t (namesR ns r).2⟩)
  else ⟨s, t, [], zF, zF, [], r⟩
def innerN (k : Int) (h : Hd) (env : List Frm) (i : Nat) : List Frm :=
  if k = 4 ∨ (k = 6 ∧ i = 1) ∨ (k = 7 ∧ i = 1) then env ++ [h.fs]
  else if k = 7 then env ++ [h.fs, h.ft]
  else if k = 14 ∧ 0 < i ∧ i ≤ h.fn.length then env ++ [(h.fn[i - 1]?).getD zF]
  else if k = 14 ∧ 0 < i then env ++ [h.ft]
  else env
structure ER where
  e : Ex
  r : Rn
structure LR where
  l : List Ex
  r : Rn
mutual
def goN : Ex → List Frm → Rn → ER
  | .mk k p n s t ls ns l, env, r => ⟨.mk k p n (headN k p s t ns env r).s (headN k p s t ns env r).t ls (headN k p s t ns env r).ns (goL k (headN k p s t ns env r) env 0 l (headN k p s t ns env r).r).l, (goL k (headN k p s t ns env r) env 0 l (headN k p s t ns env r).r).r⟩
def goL (k : Int) (h : Hd) (env : List Frm) : Nat → List Ex → Rn → LR
  | _, [], r => ⟨[], r⟩
  | i, x :: l, r => ⟨(goN x (innerN k h env i) r).e :: (goL k h env (i + 1) l (goN x (innerN k h env i) r).r).l, (goL k h env (i + 1) l (goN x (innerN k h env i) r).r).r⟩
end
theorem goL_app (k : Int) (h : Hd) (env : List Frm) : ∀ (i : Nat) (a b : List Ex) (r : Rn), goL k h env i (a ++ b) r = ⟨(goL k h env i a r).l ++ (goL k h env (i + a.length) b (goL k h env i a r).r).l, (goL k h env (i + a.length) b (goL k h env i a r).r).r⟩
  | i, [], b, r => by simp [goL]
  | i, x :: a, b, r => by
    simp only [List.cons_append, goL, goL_app k h env (i + 1) a b, List.length_cons, LR.mk.injEq, true_and]
    rw [show i + 1 + a.length = i + (a.length + 1) from by omega]
    exact ⟨rfl, rfl⟩
theorem goL_snoc (k : Int) (h : Hd) (env : List Frm) {a : List Ex} {x : Ex} {r : Rn} : goL k h env 0 (a ++ [x]) r = ⟨(goL k h env 0 a r).l ++ [(goN x (innerN k h env a.length) (goL k h env 0 a r).r).e], (goN x (innerN k h env a.length) (goL k h env 0 a r).r).r⟩ := by
  rw [goL_app]
  simp [goL]
theorem namesR_len : ∀ (l : List Str) (r : Rn), (namesR l r).1.length = l.length ∧ (namesR l r).2.old.length = r.old.length + l.length ∧ (namesR l r).2.free = r.free
  | [], r => ⟨rfl, rfl, rfl⟩
  | x :: l, r => by
    obtain ⟨i1, i2, i3⟩ := namesR_len l (bindR x r)
    refine ⟨by simp [namesR, i1], ?_, i3⟩
    simp only [namesR]
    rw [i2]
    simp only [bindR, List.length_append, List.length_cons, List.length_nil]
    omega
theorem namesR_snoc : ∀ (l : List Str) (x : Str) (r : Rn), namesR (l ++ [x]) r = ((namesR l r).1 ++ [(x, asR (namesR l r).2)], bindR x (namesR l r).2)
  | [], x, r => rfl
  | y :: l, x, r => by simp only [List.cons_append, namesR, namesR_snoc l x]
theorem headN_len (k p : Int) (s t : Str) (ns : List Str) (env : List Frm) (r : Rn) : (headN k p s t ns env r).r.old.length ≤ r.old.length + 2 + ns.length ∧ (headN k p s t ns env r).r.free.length ≤ r.free.length + 1 := by
  have h1 := namesR_len ns r
  unfold headN
  split
  · split <;> simp <;> omega
  · split
    · simp [bindR] <;> omega
    · split
      · simp [bindR] <;> omega
      · split
        · split
          · dsimp only; rw [h1.2.1, h1.2.2]; omega
          · simp only [bindR, List.length_append, List.length_singleton]; rw [h1.2.1, h1.2.2]; omega
        · dsimp only; omega
theorem innerN_len (k : Int) (h : Hd) (env : List Frm) (i : Nat) : (innerN k h env i).length ≤ env.length + 2 := by
  unfold innerN
  split
  · simp
  · split
    · simp
    · split
      · simp
      · split
        · simp
        · omega
theorem nsz_ge : ∀ l : List Str, l.length ≤ nsz l
  | [] => by simp
  | x :: l => by have := nsz_ge l; simp only [nsz, List.length_cons]; omega
theorem goN_len (e : Ex) : ∀ (env : List Frm) (r : Rn), (goN e env r).r.old.length ≤ r.old.length + csz e ∧ (goN e env r).r.free.length ≤ r.free.length + csz e := by
  refine Ex.ind (P := fun e => ∀ (env : List Frm) (r : Rn), (goN e env r).r.old.length ≤ r.old.length + csz e ∧ (goN e env r).r.free.length ≤ r.free.length + csz e) (fun k p n s t ls ns l ih => ?_) e
  intro env r
  have hh := headN_len k p s t ns env r
  have hn := nsz_ge ns
  rw [goN]
  dsimp only
  generalize headN k p s t ns env r = h at *
  have hL : ∀ (l : List Ex) (i : Nat) (r : Rn), (∀ x ∈ l, ∀ (env : List Frm) (r : Rn), (goN x env r).r.old.length ≤ r.old.length + csz x ∧ (goN x env r).r.free.length ≤ r.free.length + csz x) → (goL k h env i l r).r.old.length ≤ r.old.length + cszL l ∧ (goL k h env i l r).r.free.length ≤ r.free.length + cszL l := by
    intro l
    induction l with
    | nil => intro i r _; simp [goL]
    | cons x l ihl =>
      intro i r hx
      have h1 := hx x (by simp) (innerN k h env i) r
      have h2 := ihl (i + 1) (goN x (innerN k h env i) r).r fun y hy => hx y (by simp [hy])
      simp only [goL, cszL]
      omega
  have h3 := hL l 0 h.r ih
  rw [csz]
  omega
theorem WeakR.freezeI {B : Sg} {t o : Nat} {os : List Ob} {ts : List Nat} {xs : List V} (ho : B.objs.length ≤ o) (hcs : (B.objs ++ os)[o]? = some (.cells (xs.map .v))) (hne : xs ≠ []) :
    WeakR B (.iface t (.ptr o 0)) ⟨B.objs ++ os, B.toks ++ ts⟩ (.iface t (.imm (some xs.length) (.agg xs) 0)) B := by
  intro m0 m w0 w u hB hX hI hR
  have hI' := hI.take (n := B.objs.length) (k := B.toks.length) (by
    simp only [List.take_left]
    intro ob hm
    exact hB.ob_low hm)
  simp only [List.take_left] at hI'
  refine ⟨_, hI', ?_, hX.take (by rw [hB.lobj]; exact Nat.le_refl _) (by rw [hB.tok_len]; exact Nat.le_refl _)⟩
  cases hR with
  | iface _ _ u h =>
  cases h with
  | ptr _ _ b hb =>
  have hb := hI.live hcs (fun e => hne (List.map_eq_nil_iff.1 (by injection e))) hb
  obtain ⟨us, ty, hh, hsz, hob, hone⟩ := hI.ob o _ b hcs hb
  have hnm : ∀ off', ¬ (m.take B.objs.length B.toks.length).mut b off' := by
    rintro off' (h | ⟨tk, h, h2, _⟩)
    · have h3 := Gh.mem_objb.1 h
      simp only [Gh.take] at h3
      obtain ⟨j, hj⟩ := List.mem_iff_getElem?.1 h3
      rw [List.getElem?_take] at hj
      split at hj
      · rename_i hlt
        have := objb_inj (List.nodup_append.1 hI.nodup).1 hj hb
        omega
      · cases hj
    · have h3 : tk ∈ m.toks := List.mem_of_mem_take h
      exact Gh.own_not_obj hI.nodup h3 h2 (Gh.mem_objb.2 (List.mem_of_getElem? hb))
  have hbs : b < w.heap.size := (Array.getElem?_eq_some_iff.1 hh).1
  have hat : ∀ (i : Nat) c, xs[i]? = some c → ∃ u, us[i]? = some u ∧ RepV w (Fz m w) c u ∧ u.oneCell' = true := by
    intro i c hc
    have h3 : (xs.map D.v)[i]? = some (.v c) := by rw [List.getElem?_map, hc]; rfl
    have hlt : i < us.size := Nat.lt_of_lt_of_le (List.getElem?_eq_some_iff.1 h3).1 hsz
    obtain ⟨q1, q2⟩ := hob i _ us[i] h3 (Array.getElem?_eq_getElem hlt)
    exact ⟨_, Array.getElem?_eq_getElem hlt, q1.v_inv, q2⟩
  refine .iface _ _ _ (.imm (some xs.length) (.agg xs) 0 b 0 (fun i => us.getD i undef) rfl (fun c hc => ?_) (fun i hi => ?_) fun i c hc => ?_)
  · obtain ⟨i, hi⟩ := List.mem_iff_getElem?.1 hc
    obtain ⟨u, _, h3, h4⟩ := hat i c hi
    cases h3 <;> first | rfl | (simp [Value.oneCell'] at h4)
  · replace hi : i < xs.length := hi
    obtain ⟨u, h3, _⟩ := hat i _ (List.getElem?_eq_getElem hi)
    refine ⟨?_, hbs, hnm _⟩
    rw [cell_of_row w b (0 + i) us ty (0, 0) hh, Nat.zero_add, h3]
    simp [Array.getD_eq_getD_getElem?, h3]
  · obtain ⟨u, h3, h4, _⟩ := hat i c hc
    have e : us.getD i undef = u := by simp [Array.getD_eq_getD_getElem?, h3]
    show RepV _ _ c (us.getD i undef)
    rw [e]
    exact h4.mono fun b' off' hf => ⟨rfl, hf.1, fun hx => hf.2 (Gh.take_mut hx)⟩
theorem PostV.freezeI {B : Sg} {t o : Nat} {R : D → Sg → Prop} (xs : List V) {σ : Sg} (h : R (.iface t (.imm (some xs.length) (.agg xs) 0)) B) (hcs : σ.objs[o]? = some (.cells (xs.map .v))) (hne : xs ≠ []) (ho : B.objs.length ≤ o := by simp)
    (hos : σ.objs = B.objs ++ σ.objs.drop B.objs.length := by simp) (hts : σ.toks = B.toks ++ σ.toks.drop B.toks.length := by simp) : PostV B (.iface t (.ptr o 0)) σ R := by
  obtain ⟨os, ts⟩ := σ
  dsimp only at hos hts hcs
  refine ⟨_, B, ?_, h⟩
  rw [hos, hts]
  exact WeakR.freezeI ho (by rw [← hos]; exact hcs) hne
def spotV (i : Int) (c : Int) : D := .iface 56 (.imm (some 2) (.agg [.int .i64 i, .int .i64 c]) 0)
theorem k_SpotF {i c : Int} {σ : Sg} : ACalls Tryz.prog 43 [.v (.int .i64 i), .v (.int .i64 c)] σ fun r σ' => r = spotV i c ∧ σ' = σ := by
  refine acalls_fit Tryz.func43 (by kernel_rfl) c43 rfl (by simp [a43]) fun hf => ?_
  clear hf
  simp -implicitDefEqProofs (maxSteps := 2000000) (disch := omega) [-getElem?_pos, a43]
  exact PostV.freezeI [.int .i64 i, .int .i64 c] ⟨rfl, rfl⟩ (by simp) (by simp)
@[reducible] def wRef : Str := [114, 101, 102]
@[reducible] def wPrint : Str := [112, 114, 105, 110, 116]
@[reducible] def wShow : Str := [115, 104, 111, 119]
structure PSt where
  i : Nat
  bad : Option Int
structure RE where
  e : Ex
  st : PSt
structure RS where
  s : Str
  st : PSt
structure Itm where
  p : Int
  key : Str
  own : Str
  e : Ex
abbrev PF := PSt → RE
structure PC where
  L : List Tk
  E : Nat
  srt : List Itm → List Itm
def zTk : Tk := ⟨0, 0, 0, []⟩
def zEx : Ex := .mk 0 0 0 [] [] [] [] []
def advP (st : PSt) : PSt := ⟨st.i + 1, st.bad⟩
def failP (q : Int) (st : PSt) : PSt := ⟨st.i, some (st.bad.getD q)⟩
def placeP (C : PC) (st : PSt) : Int := match C.L[st.i]? with
  | some t => t.i
  | none => C.E
def ahd (C : PC) (st : PSt) (n : Nat) : Tk := if st.bad.isSome = true then zTk else (C.L[st.i + n]?).getD zTk
def seesT (t : Tk) (s : Str) : Bool := (decide (t.k = 2) || decide (t.k = 6)) && decide (t.s = s)
def sees (C : PC) (st : PSt) (n : Nat) (s : Str) : Bool := seesT (ahd C st n) s
def mustP (C : PC) (s : Str) (st : PSt) : PSt := if sees C st 0 s = true then advP st else failP (placeP C st) st
def textP (C : PC) (k : Int) (st : PSt) : RS := if (ahd C st 0).k = k then ⟨(ahd C st 0).s, advP st⟩ else ⟨[], failP (placeP C st) st⟩
def opP (C : PC) (ops : List Str) (st : PSt) : Option Str := ops.find? fun s => sees C st 0 s
def headP (t : Tk) : Option Int := if t.k = 3 then some 13
  else if t.k = 2 ∨ t.k = 6 then (if t.s = wRef then some 17 else if t.s = wPrint then some 20 else if t.s = wShow then some 21 else if t.s = [33] then some 18 else none)
  else none
inductive FR where
  | ext (p : Int) (s : Str) (a b : Ex) (st : PSt)
  | all (l : List Itm) (st : PSt)
def a53 : AFun := ⟨14,[],(.seq (.reg [8] [⟨some 4,none,.mv (.t 0)⟩,⟨some 5,none,.nilck (.t 4)⟩,⟨some 6,none,.faddr 3 (.t 5)⟩,⟨some 7,none,.load none (.t 6)⟩,⟨some 8,none,.bin .eql .ifc true (.t 7) (.c .inil)⟩]) (.cond (.t 8) (.reg [] [⟨some 9,none,.mv (.t 0)⟩,⟨some 10,none,.mv (.t 1)⟩,⟨some 11,none,.call (.c (.fn 43)) [.t 10,.c (.int .i64 3)]⟩,⟨some 12,none,.nilck (.t 9)⟩,⟨some 13,none,.faddr 3 (.t 12)⟩,⟨none,none,.store 1 (.t 13) (.t 11)⟩]) .skip))⟩
theorem c53 : compF Tryz.prog [0, 1, 8] Tryz.f53 = some a53 := by kernel_rfl
def a85 : AFun := ⟨12,[],(.seq (.reg [7] [⟨some 4,none,.mv (.t 0)⟩,⟨some 5,none,.mv (.t 1)⟩,⟨some 6,none,.call (.c (.fn 83)) [.t 4,.t 5]⟩,⟨some 7,none,.un .not (.t 6)⟩]) (.cond (.t 7) (.reg [] [⟨some 8,none,.mv (.t 0)⟩,⟨some 9,none,.mv (.t 0)⟩,⟨some 10,none,.call (.c (.fn 54)) [.t 9]⟩,⟨some 11,none,.call (.c (.fn 53)) [.t 8,.t 10]⟩]) .skip))⟩
theorem c85 : compF Tryz.prog [0, 1, 7] Tryz.f85 = some a85 := by kernel_rfl
def a127 : AFun := ⟨9,[.tmp 4],(.seq (.reg [4] [⟨some 4,none,.mv (.c (.bool false))⟩]) (.seq (.reg [4] [⟨some 5,none,.mv (.t 0)⟩,⟨some 6,none,.mv (.t 1)⟩,⟨some 7,none,.call (.c (.fn 160)) [.t 5,.t 6]⟩,⟨some 8,none,.bin .geq .other true (.t 7) (.c (.int .i64 0))⟩,⟨some 4,none,.mv (.t 8)⟩]) .ret))⟩
theorem c127 : compF Tryz.prog [0, 1, 4] Tryz.f127 = some a127 := by kernel_rfl
theorem low_set2 {os : List Ob} {p n k : Nat} {X Y : Ob} (h : Y.low n k) : ∀ ob ∈ os.set p Y, ob ∈ os.set p X ∨ ob.low n k := by
  intro ob hm
  obtain ⟨i, hi⟩ := List.mem_iff_getElem?.1 hm
  rw [List.getElem?_set] at hi
  by_cases hp : p = i
  · rw [if_pos hp] at hi
    split at hi
    · cases hi; exact .inr h
    · cases hi
  · rw [if_neg hp] at hi
    refine .inl (List.mem_of_getElem? (i := i) ?_)
    rw [List.getElem?_set_ne hp]
    exact hi
theorem pstart {Q : Sg → Prop} {σ : Sg} {p : Nat} {X : Ob} (hp : σ.objs[p]? = some X) (h : ∀ (os : List Ob) (tk : List Nat), p < os.length → Q ⟨os.set p X, tk⟩) : Q σ := by
  obtain ⟨os, tk⟩ := σ
  have hl : p < os.length := (List.getElem?_eq_some_iff.1 hp).1
  have : os = os.set p X := by
    refine List.ext_getElem? fun i => ?_
    rw [List.getElem?_set]
    split
    · rename_i h; subst h; exact hp
    · rfl
  rw [this]
  exact h os tk hl
structure OkP (C : PC) (st : PSt) : Prop where
  i : st.i ≤ C.L.length
  l : C.L.length ≤ 1000000
def takeP (C : PC) (s : Str) (st : PSt) : PSt := if sees C st 0 s = true then advP st else st
theorem ahd_in {C : PC} {st : PSt} (h : (ahd C st 0).k ≠ 0) : st.bad = none ∧ st.i < C.L.length := by
  unfold ahd at h
  obtain ⟨i, bad⟩ := st
  cases bad with
  | some z => exact absurd rfl h
  | none =>
    refine ⟨rfl, Nat.lt_of_not_le fun hle => ?_⟩
    rw [if_neg (by simp)] at h
    dsimp only at h hle
    rw [List.getElem?_eq_none (by omega)] at h
    exact h rfl
theorem sees_in {C : PC} {st : PSt} {s : Str} (h : sees C st 0 s = true) : st.bad = none ∧ st.i < C.L.length := by
  refine ahd_in fun hk => ?_
  unfold sees seesT at h
  rw [hk] at h
  simp at h
theorem OkP.adv {C : PC} {st : PSt} (ok : OkP C st) (h : st.i < C.L.length) : OkP C (advP st) := ⟨h, ok.l⟩
theorem OkP.fail {C : PC} {st : PSt} {q : Int} (ok : OkP C st) : OkP C (failP q st) := ⟨ok.i, ok.l⟩
theorem OkP.take {C : PC} {st : PSt} {s : Str} (ok : OkP C st) : OkP C (takeP C s st) := by
  unfold takeP
  split
  · rename_i h; exact ok.adv (sees_in h).2
  · exact ok
theorem OkP.must {C : PC} {st : PSt} {s : Str} (ok : OkP C st) : OkP C (mustP C s st) := by
  unfold mustP
  split
  · rename_i h; exact ok.adv (sees_in h).2
  · exact ok.fail
theorem OkP.text {C : PC} {st : PSt} {k : Int} (ok : OkP C st) (hk : k ≠ 0) : OkP C (textP C k st).st := by
  unfold textP
  split
  · rename_i h; exact ok.adv (ahd_in (by rw [h]; exact hk)).2
  · exact ok.fail
def tokD (a : Option Nat) (xs : List V) : D := match a with
  | none => .v .snil
  | some T => .tsl T none xs
def tokOk (tk : List Nat) (a : Option Nat) (n : Nat) : Prop := match a with
  | none => n = 0
  | some T => tk[T]? = some n
def renOb (a b : Option Nat) (r : Rn) : Ob := .cells [tokD a (r.old.map .str), tokD b (r.free.map (.int .i64))]
structure RStep (tk : List Nat) (a b : Option Nat) (r : Rn) (tk' : List Nat) (a' b' : Option Nat) (r' : Rn) : Prop where
  len : tk.length ≤ tk'.length
  keep : ∀ i n, tk[i]? = some n → a ≠ some i → b ≠ some i → tk'[i]? = some n
  oa : tokOk tk' a' r'.old.length
  ob : tokOk tk' b' r'.free.length
  ne : ∀ i, a' = some i → b' ≠ some i
  fa : a' = a ∨ ∃ i, a' = some i ∧ tk.length ≤ i
  fb : b' = b ∨ ∃ i, b' = some i ∧ tk.length ≤ i
structure ROk (tk : List Nat) (a b : Option Nat) (r : Rn) : Prop where
  oa : tokOk tk a r.old.length
  ob : tokOk tk b r.free.length
  ne : ∀ i, a = some i → b ≠ some i
theorem RStep.ok {tk tk' : List Nat} {a b a' b' : Option Nat} {r r' : Rn} (h : RStep tk a b r tk' a' b' r') : ROk tk' a' b' r' := ⟨h.oa, h.ob, h.ne⟩
theorem RStep.refl {tk : List Nat} {a b : Option Nat} {r : Rn} (h : ROk tk a b r) : RStep tk a b r tk a b r := ⟨Nat.le_refl _, fun _ _ h _ _ => h, h.oa, h.ob, h.ne, .inl rfl, .inl rfl⟩
theorem RStep.fresh {tk tk' : List Nat} {a b a' b' : Option Nat} {r r' : Rn} (h : RStep tk a b r tk' a' b' r') {i n : Nat} (hi : tk[i]? = some n) (ha : a ≠ some i) (hb : b ≠ some i) : tk'[i]? = some n ∧ a' ≠ some i ∧ b' ≠ some i := by
  have hl := (List.getElem?_eq_some_iff.1 hi).1
  refine ⟨h.keep i n hi ha hb, fun e => ?_, fun e => ?_⟩
  · rcases h.fa with h1 | ⟨j, h1, h2⟩
    · exact ha (h1 ▸ e)
    · rw [h1] at e; cases e; omega
  · rcases h.fb with h1 | ⟨j, h1, h2⟩
    · exact hb (h1 ▸ e)
    · rw [h1] at e; cases e; omega
theorem RStep.trans {tk tk' tk2 : List Nat} {a b a' b' a2 b2 : Option Nat} {r r' r2 : Rn} (h : RStep tk a b r tk' a' b' r') (k : RStep tk' a' b' r' tk2 a2 b2 r2) : RStep tk a b r tk2 a2 b2 r2 := by
  refine ⟨Nat.le_trans h.len k.len, fun i n hi ha hb => ?_, k.oa, k.ob, k.ne, ?_, ?_⟩
  · obtain ⟨h1, h2, h3⟩ := h.fresh hi ha hb
    exact k.keep i n h1 h2 h3
  · rcases k.fa with h1 | ⟨i, h1, h2⟩
    · rw [h1]; exact h.fa
    · exact .inr ⟨i, h1, Nat.le_trans h.len h2⟩
  · rcases k.fb with h1 | ⟨i, h1, h2⟩
    · rw [h1]; exact h.fb
    · exact .inr ⟨i, h1, Nat.le_trans h.len h2⟩
theorem renOb_low {a b : Option Nat} {r : Rn} {tk : List Nat} (h : ROk tk a b r) {n : Nat} : (renOb a b r).low n tk.length := by
  have h1 : ∀ (a : Option Nat) (xs : List V) (m : Nat), tokOk tk a m → (tokD a xs).low n tk.length := by
    intro a xs m h
    cases a with
    | none => trivial
    | some T => exact (List.getElem?_eq_some_iff.1 h).1
  unfold renOb
  exact ⟨h1 _ _ _ h.oa, h1 _ _ _ h.ob, trivial⟩
theorem k_BindN {a b : Option Nat} {r : Rn} {s : Str} {p : Nat} {σ : Sg} (hp : σ.objs[p]? = some (renOb a b r)) (ok : ROk σ.toks a b r) (hl : r.old.length ≤ 4000000) :
    ACalls Tryz.prog 68 [.ptr p 0, .v (.str s)] σ fun x σ' => x = .v (.str (asR r)) ∧ ∃ a' tk', σ' = ⟨σ.objs.set p (renOb a' b (bindR s r)), tk'⟩ ∧ RStep σ.toks a b r tk' a' b (bindR s r) := by
  have ki := fun σ => k_Itoa (n := (r.old.length : Int)) (σ := σ)
  have hpl := (List.getElem?_eq_some_iff.1 hp).1
  unfold renOb at hp ⊢
  unfold asR
  generalize hb : tokD b (r.free.map (.int .i64)) = B at hp ⊢
  obtain ⟨ok1, ok2, ok3⟩ := ok
  cases a with
  | none =>
    have h0 : r.old = [] := List.length_eq_zero_iff.1 ok1
    unfold tokD at hp
    dsimp only at hp
    refine acalls_fit Tryz.func68 (by kernel_rfl) c68 rfl (by simp [a68]) fun hf => ?_
    clear hf
    simp -implicitDefEqProofs (maxSteps := 2000000) (disch := omega) [-getElem?_pos, a68, hp, hpl]
    have ki := fun σ => k_Itoa (n := 0) (σ := σ)
    refine (ki _).then fun r' hr => ?_
    obtain ⟨rfl, hlen⟩ := hr
    simp -implicitDefEqProofs (maxSteps := 2000000) (disch := omega) [-getElem?_pos]
    refine ⟨by omega, ⟨_, _, WeakR.refl _ _ _, by rw [h0]; rfl, some σ.toks.length, σ.toks ++ [1], ?_, ?_⟩⟩
    · unfold bindR
      dsimp only
      rw [h0, hb]
      rfl
    · refine ⟨by simp, fun i n h _ _ => ?_, ?_, ?_, fun i h h2 => ?_, .inr ⟨_, rfl, Nat.le_refl _⟩, .inl rfl⟩
      · rw [List.getElem?_append_left (List.getElem?_eq_some_iff.1 h).1]; exact h
      · unfold bindR tokOk
        dsimp only
        rw [h0]
        simp
      · unfold bindR
        dsimp only
        cases b with
        | none => exact ok2
        | some Tb => exact (List.getElem?_append_left (List.getElem?_eq_some_iff.1 ok2).1).trans ok2
      · cases h
        cases b with
        | none => cases h2
        | some Tb =>
          cases h2
          have := (List.getElem?_eq_some_iff.1 ok2).1
          omega
  | some T =>
    unfold tokD at hp
    dsimp only at hp
    unfold tokOk at ok1
    dsimp only at ok1
    refine acalls_fit Tryz.func68 (by kernel_rfl) c68 rfl (by simp [a68]) fun hf => ?_
    clear hf
    simp -implicitDefEqProofs (maxSteps := 2000000) (disch := omega) [-getElem?_pos, a68, hp, hpl, ok1]
    refine ⟨by omega, (ki _).then fun r' hr => ?_⟩
    obtain ⟨rfl, hlen⟩ := hr
    simp -implicitDefEqProofs (maxSteps := 2000000) (disch := omega) [-getElem?_pos]
    refine ⟨by omega, ⟨_, _, WeakR.refl _ _ _, rfl, some T, σ.toks.set T (r.old.length + 1), ?_, ?_⟩⟩
    · unfold bindR
      dsimp only
      rw [hb, List.map_append]
      rfl
    · have hT := (List.getElem?_eq_some_iff.1 ok1).1
      refine ⟨by simp, fun i n h hne _ => ?_, ?_, ?_, ok3, .inl rfl, .inl rfl⟩
      · rw [List.getElem?_set_ne (fun e => hne (by rw [e]))]; exact h
      · unfold bindR tokOk
        dsimp only
        rw [List.getElem?_set_self hT, List.length_append]
        rfl
      · unfold bindR
        dsimp only
        cases b with
        | none => exact ok2
        | some Tb =>
          unfold tokOk at ok2 ⊢
          dsimp only at ok2 ⊢
          rw [List.getElem?_set_ne (fun e => ok3 T rfl (by rw [e]))]
          exact ok2
theorem PostV.keepS {B : Sg} {r : D} {R : D → Sg → Prop} (r' : D) {os xs : List Ob} {tk : List Nat} (h : R r' ⟨os, tk⟩) (hr : D.Le r r') (hlen : B.objs.length ≤ os.length) (htk : B.toks.length ≤ tk.length)
    (hob : ∀ ob ∈ os, ob ∈ B.objs ∨ ob.low os.length tk.length) (hb : r'.low os.length tk.length := by simp) : PostV B r ⟨os ++ xs, tk⟩ R := by
  have := WeakR.drop (B := B) (xs := xs) (ts' := []) hlen htk hob hr hb
  rw [List.append_nil] at this
  exact ⟨r', _, this, h⟩
theorem k_Own1 {a b : Option Nat} {r : Rn} {s : Str} {p o : Nat} {σ : Sg} (hp : σ.objs[p]? = some (renOb a b r)) (ho : σ.objs[o]? = some (.cells [.ptr p 0])) (ok : ROk σ.toks a b r) (hl : r.old.length ≤ 4000000) :
    ACalls Tryz.prog 67 [.v (.str s), .ptr o 0] σ fun x σ' => x = .v (encFr (s, asR r)) ∧ ∃ a' tk', σ' = ⟨σ.objs.set p (renOb a' b (bindR s r)), tk'⟩ ∧ RStep σ.toks a b r tk' a' b (bindR s r) := by
  have hpl := (List.getElem?_eq_some_iff.1 hp).1
  have hol := (List.getElem?_eq_some_iff.1 ho).1
  have hset : σ.objs.set p (renOb a b r) = σ.objs := set_same hp
  have kb := fun ρ => k_BindN (a := a) (b := b) (r := r) (s := s) (p := p) (σ := ⟨σ.objs ++ ρ, σ.toks⟩) (by rw [List.getElem?_append_left hpl]; exact hp) ok hl
  have go : ∀ ρ, (σ.objs ++ ρ)[o]? = some (.cells [.ptr p 0]) := fun ρ => by rw [List.getElem?_append_left hol]; exact ho
  refine acalls_fit Tryz.func67 (by kernel_rfl) c67 rfl (by simp [a67]) fun hf => ?_
  clear hf
  simp -implicitDefEqProofs (maxSteps := 2000000) (disch := omega) [-getElem?_pos, a67, go]
  refine (kb _).mono fun x σ' hr => ?_
  obtain ⟨rfl, a', tk', rfl, hst⟩ := hr
  rw [List.set_append_left _ _ hpl]
  simp -implicitDefEqProofs (maxSteps := 2000000) (disch := omega) [-getElem?_pos]
  refine PostV.keepS _ ⟨rfl, a', tk', rfl, hst⟩ (.refl _) (by simp) hst.len (fun ob hob => ?_)
  rw [← hset]
  exact low_set2 (X := renOb a b r) (renOb_low hst.ok) ob hob
def rem (C : PC) (st : PSt) : Nat := if st.bad.isSome = true then 0 else C.L.length - st.i
structure Fwd (C : PC) (st st' : PSt) : Prop where
  ok : OkP C st → OkP C st'
  le : rem C st' ≤ rem C st
  bd : st'.bad = none → st.bad = none
theorem Fwd.refl (C : PC) (st : PSt) : Fwd C st st := ⟨id, Nat.le_refl _, id⟩
theorem Fwd.trans {C : PC} {a b c : PSt} (h : Fwd C a b) (k : Fwd C b c) : Fwd C a c := ⟨fun o => k.ok (h.ok o), Nat.le_trans k.le h.le, fun b => h.bd (k.bd b)⟩
theorem rem_fail {C : PC} {st : PSt} {q : Int} : rem C (failP q st) = 0 := rfl
theorem rem_adv {C : PC} {st : PSt} : rem C (advP st) = rem C st - 1 := by
  unfold rem advP
  dsimp only
  split
  · rfl
  · omega
theorem Fwd.fail {C : PC} {st : PSt} {q : Int} : Fwd C st (failP q st) := ⟨OkP.fail, by rw [rem_fail]; exact Nat.zero_le _, fun h => (by cases h)⟩
theorem Fwd.adv {C : PC} {st : PSt} (h : st.bad = none ∧ st.i < C.L.length) : Fwd C st (advP st) := ⟨fun o => o.adv h.2, by rw [rem_adv]; omega, fun h2 => h.1⟩
theorem Fwd.must {C : PC} {st : PSt} {s : Str} : Fwd C st (mustP C s st) := by
  unfold mustP
  split
  · rename_i h; exact .adv (sees_in h)
  · exact .fail
theorem Fwd.text {C : PC} {st : PSt} {k : Int} (hk : k ≠ 0) : Fwd C st (textP C k st).st := by
  unfold textP
  split
  · rename_i h; exact .adv (ahd_in (by rw [h]; exact hk))
  · exact .fail
theorem op_in {C : PC} {st : PSt} {ops : List Str} {s : Str} (h : opP C ops st = some s) : sees C st 0 s = true := by
  unfold opP at h
  exact List.find?_some h
theorem Fwd.op {C : PC} {st : PSt} {ops : List Str} {s : Str} (h : opP C ops st = some s) : Fwd C st (advP st) := .adv (sees_in (op_in h))
theorem Fwd.dup {C : PC} {st : PSt} {b : Bool} {q : Int} : Fwd C st (if b = true then failP q st else st) := by
  split
  · exact .fail
  · exact .refl C st
def FR.st : FR → PSt
  | .ext _ _ _ _ st => st
  | .all _ st => st
def celE : Ex → List V
  | .mk k p n s t ls ns l => [.int .i64 k, .int .i64 p, .int .i64 n, .str s, .str t, .sl none false (ls.map .str), .sl none false (ns.map .str), .sl (some 8) false (l.map encE)]
theorem celE_enc (e : Ex) : encE e = .agg (celE e) := by cases e; exact encE_mk
theorem celE_one (e : Ex) : ∀ c ∈ celE e, c.one = true := by cases e; simp [celE, V.one]
theorem VLes.append : ∀ {a b c d : List V}, VLes a b → VLes c d → VLes (a ++ c) (b ++ d)
  | [], [], _, _, _, h => h
  | x :: a, y :: b, _, _, h, k => ⟨h.1, VLes.append h.2 k⟩
  | [], _ :: _, _, _, h, _ => h.elim
  | _ :: _, [], _, _, h, _ => h.elim
def ELes : List V → List Ex → Prop
  | [], [] => True
  | .agg cs :: xs, e :: l => VLes cs (celE e) ∧ ELes xs l
  | _, _ => False
theorem ELes.flat : ∀ {xs : List V} {l : List Ex}, ELes xs l → VLes (V.flat xs) (V.flat (l.map encE)) ∧ xs.length = l.length
  | [], [], _ => ⟨trivial, rfl⟩
  | .agg cs :: xs, e :: l, h => by
    obtain ⟨h1, h2⟩ := ELes.flat h.2
    refine ⟨?_, by simp [h2]⟩
    simp only [V.flat, List.map_cons, List.flatMap_cons, celE_enc, V.cells] at h1 ⊢
    exact VLes.append h.1 h1
theorem flat_one : ∀ l : List Ex, ∀ c ∈ V.flat (l.map encE), c.one = true
  | [], c, h => by cases h
  | e :: l, c, h => by
    simp only [V.flat, List.map_cons, List.flatMap_cons, celE_enc, V.cells, List.mem_append] at h
    rcases h with h | h
    · exact celE_one e c h
    · exact flat_one l c (by simpa only [V.flat, celE_enc] using h)
theorem exs_le {f : Bool} {xs : List V} {l : List Ex} (h : ELes xs l) : VLe (.sl (some 8) f xs) (.sl (some 8) false (l.map encE)) := by
  obtain ⟨h1, h2⟩ := h.flat
  exact .sl (by simpa using h2) (fun y hy => by obtain ⟨e, _, rfl⟩ := List.mem_map.1 hy; exact encE_shape e) (flat_one l) h1
theorem ex_le {cs : List V} {e : Ex} (h : VLes cs (celE e)) : VLe (.agg cs) (encE e) := by
  rw [celE_enc]
  exact .agg h (celE_one e)
theorem VLes.len : ∀ {xs ys : List V}, VLes xs ys → xs.length = ys.length
  | [], [], _ => rfl
  | x :: xs, y :: ys, h => by simp [VLes.len h.2]
  | [], _ :: _, h => h.elim
  | _ :: _, [], h => h.elim
theorem VLes.at : ∀ {xs ys : List V} {i : Nat} {x y : V}, VLes xs ys → xs[i]? = some x → ys[i]? = some y → VLe x y
  | _ :: _, _ :: _, 0, _, _, h, h1, h2 => by cases h1; cases h2; exact h.1
  | _ :: xs, _ :: ys, i + 1, x, y, h, h1, h2 => VLes.at (i := i) h.2 (by simpa using h1) (by simpa using h2)
def zOb : Ob := .cells [.v (.int .i64 0), .v (.int .i64 0), .v (.int .i64 0), .v (.str []), .v (.str []), .v .snil, .v .snil, .v .snil]
set_option maxHeartbeats 4000000
def Go1Ct (e : Ex) : Prop := ∀ (env : List Frm) (f : Bool) (r : Rn) (a b : Option Nat) (p : Nat) (σ : Sg), csz e ≤ 1048576 → env.length + csz e ≤ 3000000 → r.old.length + csz e ≤ 3000000 → r.free.length + csz e ≤ 3000000 → σ.objs[p]? = some (renOb a b r) → ROk σ.toks a b r →
    ACalls Tryz.prog 42 [.ptr p 0, .v (encE e), .v (.sl (some 2) f (env.map encFr))] σ fun x σ' => x = .v (encE (goN e env r).e) ∧ ∃ a' b' tk', σ' = ⟨σ.objs.set p (renOb a' b' (goN e env r).r), tk'⟩ ∧ RStep σ.toks a b r tk' a' b' (goN e env r).r
def tlX : Nat → X → X
  | 0, x => x
  | n + 1, .seq _ b => tlX n b
  | _, x => x
def loopX : X → X
  | .seq (.seq _ (.block _ l)) _ => l
  | x => x
def contX : X → X
  | .seq _ r => r
  | x => x
def frOb (x : Frm) : Ob := .cells [.v (.str x.1), .v (.str x.2)]
def outOb (k q n : Int) (s t : Str) (ls : List Str) (dn L : D) : Ob := .cells [.v (.int .i64 k), .v (.int .i64 q), .v (.int .i64 n), .v (.str s), .v (.str t), .v (.sl none false (ls.map .str)), dn, L]
def LD (sh : Sh) (xs : List V) (d : D) : Prop := (d = .v .snil ∧ xs = []) ∨ ∃ T, d = .tsl T sh xs
structure GoS where
  i : Nat
  a : Option Nat
  b : Option Nat
  tk : List Nat
  L : D
  G : List Ob
def LTok (n : Nat) (st : GoS) (xs : List V) : Prop := (st.L = .v .snil ∧ xs = []) ∨ ∃ T, st.L = .tsl T (some 8) xs ∧ st.tk[T]? = some xs.length ∧ st.a ≠ some T ∧ st.b ≠ some T ∧ n ≤ T
structure GoI (k : Int) (h : Hd) (env : List Frm) (l : List Ex) (tk : List Nat) (a b : Option Nat) (r : Rn) (st : GoS) : Prop where
  i : st.i ≤ l.length
  rs : RStep tk a b r st.tk st.a st.b (goL k h env 0 (l.take st.i) h.r).r
  L : LTok tk.length st ((goL k h env 0 (l.take st.i) h.r).l.map encE)
theorem RStep.more {tk tk' : List Nat} {a b a' b' : Option Nat} {r r' : Rn} (h : RStep tk a b r tk' a' b' r') (n : Nat) : RStep tk a b r (tk' ++ [n]) a' b' r' := by
  have hk : ∀ (c : Option Nat) (m : Nat), tokOk tk' c m → tokOk (tk' ++ [n]) c m := by
    intro c m hc
    cases c with
    | none => exact hc
    | some T => exact (List.getElem?_append_left (List.getElem?_eq_some_iff.1 hc).1).trans hc
  refine ⟨by rw [List.length_append]; exact Nat.le_trans h.len (Nat.le_add_right _ _), fun i m hi ha hb => ?_, hk _ _ h.oa, hk _ _ h.ob, h.ne, h.fa, h.fb⟩
  have := h.keep i m hi ha hb
  rw [List.getElem?_append_left (List.getElem?_eq_some_iff.1 this).1]
  exact this
theorem RStep.put {tk tk' : List Nat} {a b a' b' : Option Nat} {r r' : Rn} (h : RStep tk a b r tk' a' b' r') {T : Nat} (n : Nat) (hT : tk.length ≤ T) (ha : a' ≠ some T) (hb : b' ≠ some T) : RStep tk a b r (tk'.set T n) a' b' r' := by
  have hk : ∀ (c : Option Nat) (m : Nat), c ≠ some T → tokOk tk' c m → tokOk (tk'.set T n) c m := by
    intro c m hne hc
    cases c with
    | none => exact hc
    | some S =>
      unfold tokOk at hc ⊢
      dsimp only at hc ⊢
      rw [List.getElem?_set_ne (fun e => hne (by rw [e]))]
      exact hc
  refine ⟨by rw [List.length_set]; exact h.len, fun i m hi hia hib => ?_, hk _ _ ha h.oa, hk _ _ hb h.ob, h.ne, h.fa, h.fb⟩
  have hl := (List.getElem?_eq_some_iff.1 hi).1
  rw [List.getElem?_set_ne (by omega)]
  exact h.keep i m hi hia hib
theorem RStep.lt {tk tk' : List Nat} {a b a' b' : Option Nat} {r r' : Rn} (h : RStep tk a b r tk' a' b' r') : a' ≠ some tk'.length ∧ b' ≠ some tk'.length := by
  have hk : ∀ (c : Option Nat) (m : Nat), tokOk tk' c m → c ≠ some tk'.length := by
    intro c m hc e
    subst e
    have := (List.getElem?_eq_some_iff.1 hc).1
    omega
  exact ⟨hk _ _ h.oa, hk _ _ h.ob⟩
theorem D.Le.aggW {ds : List D} {vs : List V} (hl : ds.length = vs.length) (h : ∀ (i : Nat) d v, ds[i]? = some d → vs[i]? = some v → D.Le d (.v v)) : D.Le (.agg ds) (.v (.agg vs)) := fun m w u hu => by
  cases hu with
  | agg _ us hl2 h1 hr =>
    have ha : ∀ xs : List V, allV (xs.map .v) = some xs := by
      intro xs
      induction xs with
      | nil => rfl
      | cons y ys ih => simp [allV, ih]
    have hm : mkAgg (vs.map .v) = .v (.agg vs) := by unfold mkAgg; rw [ha]
    rw [← hm]
    refine mkAgg_rep (by simp; omega) h1 fun i d u hd hu => ?_
    rw [List.getElem?_map] at hd
    cases hv : vs[i]? with
    | none => rw [hv] at hd; cases hd
    | some v =>
      rw [hv] at hd
      cases hd
      obtain ⟨d, hd⟩ : ∃ d, ds[i]? = some d := ⟨_, List.getElem?_eq_getElem (by rw [hl]; exact (List.getElem?_eq_some_iff.1 hv).1)⟩
      exact h i d v hd hv m w u (hr i d u hd hu)
theorem go_le {k q n : Int} {s t : Str} {ls ns : List Str} {l : List Ex} {dn L : D} (hn : D.Le dn (.v (.sl none false (ns.map .str)))) (hL : D.Le L (.v (.sl (some 8) false (l.map encE)))) :
    D.Le (.agg [.v (.int .i64 k), .v (.int .i64 q), .v (.int .i64 n), .v (.str s), .v (.str t), .v (.sl none false (ls.map .str)), dn, L]) (.v (encE (.mk k q n s t ls ns l))) := by
  rw [encE_mk]
  refine D.Le.aggW rfl fun i d v hd hv => ?_
  match i with
  | 0 => cases hd; cases hv; exact .refl _
  | 1 => cases hd; cases hv; exact .refl _
  | 2 => cases hd; cases hv; exact .refl _
  | 3 => cases hd; cases hv; exact .refl _
  | 4 => cases hd; cases hv; exact .refl _
  | 5 => cases hd; cases hv; exact .refl _
  | 6 => cases hd; cases hv; exact hn
  | 7 => cases hd; cases hv; exact hL
  | n + 8 => simp at hd
theorem go_le0 {k q n : Int} {s t : Str} {ls : List Str} : D.Le (.v (.agg [.int .i64 k, .int .i64 q, .int .i64 n, .str s, .str t, .sl none false (ls.map .str), .snil, .snil])) (.v (encE (.mk k q n s t ls [] []))) := by
  rw [encE_mk]
  refine VLe.d (VLe.agg ?_ fun c hc => ?_)
  · exact ⟨.refl _, .refl _, .refl _, .refl _, .refl _, .refl _, .snil, .snil, trivial⟩
  simp only [List.mem_cons, List.not_mem_nil, or_false] at hc
  rcases hc with rfl | rfl | rfl | rfl | rfl | rfl | rfl | rfl <;> rfl
theorem take_succ_get {α : Type} {l : List α} {i : Nat} {x : α} (h : l[i]? = some x) : l.take (i + 1) = l.take i ++ [x] := by rw [List.take_add_one, h]; rfl
theorem gz_mem {l : List Ex} {x : Ex} (h : x ∈ l) : csz x ≤ cszL l := by
  induction l with
  | nil => cases h
  | cons y l ih =>
    simp only [cszL]
    rcases List.mem_cons.1 h with rfl | h
    · omega
    · have := ih h; omega
theorem gz_get {l : List Ex} {i : Nat} {x : Ex} (h : l[i]? = some x) : cszL (l.take i) + csz x ≤ cszL l := by
  induction l generalizing i with
  | nil => simp at h
  | cons y l ih =>
    cases i with
    | zero => cases h; simp [cszL]
    | succ i => have := ih (i := i) (by simpa using h); simp only [List.take_succ_cons, cszL]; omega
theorem gz_take : ∀ (l : List Ex) (i : Nat), cszL (l.take i) ≤ cszL l
  | [], i => by simp
  | y :: l, 0 => by simp [cszL]
  | y :: l, i + 1 => by have := gz_take l i; simp only [List.take_succ_cons, cszL]; omega
theorem goL_len (k : Int) (h : Hd) (env : List Frm) : ∀ (l : List Ex) (i : Nat) (r : Rn), (goL k h env i l r).r.old.length ≤ r.old.length + cszL l ∧ (goL k h env i l r).r.free.length ≤ r.free.length + cszL l ∧ (goL k h env i l r).l.length = l.length
  | [], i, r => by simp [goL]
  | x :: l, i, r => by
    have h1 := goN_len x (innerN k h env i) r
    have h2 := goL_len k h env l (i + 1) (goN x (innerN k h env i) r).r
    simp only [goL, cszL, List.length_cons]
    omega
theorem go1_loop {k q n : Int} {s t : Str} {ls ns : List Str} {l : List Ex} {env : List Frm} {f : Bool} {h : Hd} {r : Rn} {a b : Option Nat} {p : Nat} {os : List Ob} {tk : List Nat} {df dn : D} {st : St} {s0 : GoS} (ih : ∀ x ∈ l, Go1Ct x) (hl : p < os.length)
    (hc : cszL l ≤ 1048576) (hen : env.length + 2 + cszL l ≤ 3000000) (hold : h.r.old.length + cszL l ≤ 3000000) (hfree : h.r.free.length + cszL l ≤ 3000000)
    (hdf : LD (some 2) (h.fn.map encFr) df) (hdn : LD none (h.ns.map .str) dn) (hI : GoI k h env l tk a b r s0) (h0 : s0.i = 0)
    (hw : Weak ⟨os.set p (renOb a b r), tk⟩ st ⟨[(2, .v (.sl (some 2) f (env.map encFr))), (3, .ptr os.length 0), (4, .ptr (os.length + 1) 0), (6, .ptr (os.length + 2) 0), (7, .ptr (os.length + 3) 0), (9, .ptr (os.length + 4) 0), (10, .ptr (os.length + 5) 0), (11, df), (115, .v (.sl (some 8) false (l.map encE))), (116, .v (.int .i64 l.length)), (117, .v (.int .i64 s0.i))],
      ⟨os.set p (renOb s0.a s0.b (goL k h env 0 (l.take s0.i) h.r).r) ++ (.cells [.ptr p 0] :: obE (.mk k q n s t ls ns l) :: zOb :: outOb k q n h.s h.t ls dn s0.L :: frOb h.fs :: frOb h.ft :: s0.G), s0.tk⟩⟩) :
    W Tryz.prog ⟨os.set p (renOb a b r), tk⟩ (loopX (tlX 7 a42.body)) (QBlk 3 (QSeq Tryz.prog ⟨os.set p (renOb a b r), tk⟩ (contX (tlX 7 a42.body)) (Post ⟨os.set p (renOb a b r), tk⟩ a42.res fun x σ' => x = .v (encE (.mk k q n h.s h.t ls h.ns (goL k h env 0 l h.r).l)) ∧ ∃ a' b' tk', σ' = ⟨os.set p (renOb a' b' (goL k h env 0 l h.r).r), tk'⟩ ∧ RStep tk a b r tk' a' b' (goL k h env 0 l h.r).r))) st := by
  refine W_loop (α := GoS) s0 (fun x => l.length - x.i) (fun x => ⟨[(2, .v (.sl (some 2) f (env.map encFr))), (3, .ptr os.length 0), (4, .ptr (os.length + 1) 0), (6, .ptr (os.length + 2) 0), (7, .ptr (os.length + 3) 0), (9, .ptr (os.length + 4) 0), (10, .ptr (os.length + 5) 0), (11, df), (115, .v (.sl (some 8) false (l.map encE))), (116, .v (.int .i64 l.length)), (117, .v (.int .i64 x.i))],
      ⟨os.set p (renOb x.a x.b (goL k h env 0 (l.take x.i) h.r).r) ++ (.cells [.ptr p 0] :: obE (.mk k q n s t ls ns l) :: zOb :: outOb k q n h.s h.t ls dn x.L :: frOb h.fs :: frOb h.ft :: x.G), x.tk⟩⟩) (fun x => GoI k h env l tk a b r x) hw hI fun ⟨i, a', b', tk', L, G⟩ ⟨hi, hrs, hL⟩ => ?_
  clear hw hI
  dsimp only at hi hrs hL ⊢
  have hcL := cszL_len l
  simp -implicitDefEqProofs (maxSteps := 2000000) (disch := omega) [-getElem?_pos]
  refine .mk (fun hlt => ?_) fun hlt => ?_
  · obtain ⟨x, hx⟩ : ∃ x, l[i]? = some x := ⟨_, List.getElem?_eq_getElem (by omega)⟩
    have ihx := ih x (List.mem_of_getElem? hx)
    have hcx := gz_mem (List.mem_of_getElem? hx)
    have hlen1 := goL_len k h env (l.take i) 0 h.r
    have hin2 := innerN_len k h env i
    have htk := gz_take l i
    have hget := gz_get hx
    have hrec : ∀ (d : D) (hd : d = .v (vF (innerN k h env i)) ∨ ∃ g, d = .v (.sl (some 2) g ((innerN k h env i).map encFr))) (ρ : List Ob), ACalls Tryz.prog 42 [.ptr p 0, .v (encE x), d] ⟨os.set p (renOb a' b' (goL k h env 0 (l.take i) h.r).r) ++ ρ, tk'⟩ fun y σ' => y = .v (encE (goN x (innerN k h env i) (goL k h env 0 (l.take i) h.r).r).e) ∧ ∃ a2 b2 tk2, σ' = ⟨os.set p (renOb a2 b2 (goN x (innerN k h env i) (goL k h env 0 (l.take i) h.r).r).r) ++ ρ, tk2⟩ ∧ RStep tk' a' b' (goL k h env 0 (l.take i) h.r).r tk2 a2 b2 (goN x (innerN k h env i) (goL k h env 0 (l.take i) h.r).r).r := by
      intro d hd ρ
      have hgo := fun g => ihx (innerN k h env i) g (goL k h env 0 (l.take i) h.r).r a' b' p ⟨os.set p (renOb a' b' (goL k h env 0 (l.take i) h.r).r) ++ ρ, tk'⟩ (by omega) (by omega) (by omega) (by omega) (by simp [hl]) hrs.ok
      simp only [set_app_set hl] at hgo
      rcases hd with rfl | ⟨g, rfl⟩
      · exact hgo false
      · exact hgo g
    have hnext : (goL k h env 0 (l.take (i + 1)) h.r) = ⟨(goL k h env 0 (l.take i) h.r).l ++ [(goN x (innerN k h env i) (goL k h env 0 (l.take i) h.r).r).e], (goN x (innerN k h env i) (goL k h env 0 (l.take i) h.r).r).r⟩ := by
      rw [take_succ_get hx, goL_snoc, List.length_take, Nat.min_eq_left hi]
    have hXl : (goL k h env 0 (l.take i) h.r).l.length ≤ l.length := by rw [hlen1.2.2, List.length_take]; omega
    clear ih ihx hcx hlen1 htk hget
    generalize hNX : goN x (innerN k h env i) (goL k h env 0 (l.take i) h.r).r = NX at *
    generalize goL k h env 0 (l.take i) h.r = LX at *
    have hfsl : env.length + 1 ≤ 4000000 ∧ env.length + 2 ≤ 4000000 := by omega
    cases x with
    | mk k9 p9 n9 s9 t9 ls9 ns9 l9 =>
    rw [encE_mk] at hrec
    by_cases h4 : k = 4
    focus
      have b4 : (k == 4) = true := by rw [h4]; rfl
      have b6 : (k == 6) = false := by rw [h4]; rfl
      have b7 : (k == 7) = false := by rw [h4]; rfl
      have b14 : (k == 14) = false := by rw [h4]; rfl
      have hin : innerN k h env i = env ++ [h.fs] := by unfold innerN; simp [h4]
      have hd9 := hrec (.v (vF (env ++ [h.fs]))) (.inl (by rw [hin]))
      simp -implicitDefEqProofs (maxSteps := 2000000) (disch := omega) [-getElem?_pos, hx, obE_mk, encE_mk, frOb, b4, b6, b7, b14]
      refine ⟨by omega, ?_⟩
      refine (k_With (l := env) (x := [h.fs]) (f := f) (g := true) (by simp; omega)).then fun y hy => ?_
      subst hy
      simp -implicitDefEqProofs (maxSteps := 2000000) (disch := omega) [-getElem?_pos]
    rotate_left 1
    by_cases h6 : k = 6
    focus
      have b4 : (k == 4) = false := by rw [h6]; rfl
      have b6 : (k == 6) = true := by rw [h6]; rfl
      have b7 : (k == 7) = false := by rw [h6]; rfl
      have b14 : (k == 14) = false := by rw [h6]; rfl
      by_cases hi1 : i = 1
      focus
        have hb1 : ((i : Int) == 1) = true := by rw [hi1]; rfl
        have hin : innerN k h env i = env ++ [h.fs] := by unfold innerN; simp [h6, hi1]
        have hd9 := hrec (.v (vF (env ++ [h.fs]))) (.inl (by rw [hin]))
        simp -implicitDefEqProofs (maxSteps := 2000000) (disch := omega) [-getElem?_pos, hx, obE_mk, encE_mk, frOb, b4, b6, b7, b14, hb1]
        refine ⟨by omega, ?_⟩
        refine (k_With (l := env) (x := [h.fs]) (f := f) (g := true) (by simp; omega)).then fun y hy => ?_
        subst hy
        simp -implicitDefEqProofs (maxSteps := 2000000) (disch := omega) [-getElem?_pos]
      rotate_left 1
      have hb1 : ((i : Int) == 1) = false := beq_false_of_ne (by omega)
      have hin : innerN k h env i = env := by unfold innerN; simp [h6, hi1]
      have hd9 := hrec (.v (.sl (some 2) f (env.map encFr))) (.inr ⟨f, by rw [hin]⟩)
      simp -implicitDefEqProofs (maxSteps := 2000000) (disch := omega) [-getElem?_pos, hx, obE_mk, encE_mk, frOb, b4, b6, b7, b14, hb1]
      refine ⟨by omega, ?_⟩
    rotate_left 2
    by_cases h7 : k = 7
    focus
      have b4 : (k == 4) = false := by rw [h7]; rfl
      have b6 : (k == 6) = false := by rw [h7]; rfl
      have b7 : (k == 7) = true := by rw [h7]; rfl
      have b14 : (k == 14) = false := by rw [h7]; rfl
      by_cases hi1 : i = 1
      focus
        have hb1 : ((i : Int) == 1) = true := by rw [hi1]; rfl
        have hin : innerN k h env i = env ++ [h.fs] := by unfold innerN; simp [h7, hi1]
        have hd9 := hrec (.v (vF (env ++ [h.fs]))) (.inl (by rw [hin]))
        simp -implicitDefEqProofs (maxSteps := 2000000) (disch := omega) [-getElem?_pos, hx, obE_mk, encE_mk, frOb, b4, b6, b7, b14, hb1]
        refine ⟨by omega, ?_⟩
        refine (k_With (l := env) (x := [h.fs]) (f := f) (g := true) (by simp; omega)).then fun y hy => ?_
        subst hy
        simp -implicitDefEqProofs (maxSteps := 2000000) (disch := omega) [-getElem?_pos]
      rotate_left 1
      have hb1 : ((i : Int) == 1) = false := beq_false_of_ne (by omega)
      have hin : innerN k h env i = env ++ [h.fs, h.ft] := by unfold innerN; simp [h7, hi1]
      have hd9 := hrec (.v (vF (env ++ [h.fs, h.ft]))) (.inl (by rw [hin]))
      simp -implicitDefEqProofs (maxSteps := 2000000) (disch := omega) [-getElem?_pos, hx, obE_mk, encE_mk, frOb, b4, b6, b7, b14, hb1]
      refine ⟨by omega, ?_⟩
      refine (k_With (l := env) (x := [h.fs, h.ft]) (f := f) (g := true) (by simp; omega)).then fun y hy => ?_
      subst hy
      simp -implicitDefEqProofs (maxSteps := 2000000) (disch := omega) [-getElem?_pos]
    rotate_left 2
    by_cases h14 : k = 14
    focus
      have b4 : (k == 4) = false := by rw [h14]; rfl
      have b6 : (k == 6) = false := by rw [h14]; rfl
      have b7 : (k == 7) = false := by rw [h14]; rfl
      have b14 : (k == 14) = true := by rw [h14]; rfl
      by_cases hi0 : i = 0
      focus
        have hn0 : ¬ 0 < i := by omega
        have hin : innerN k h env i = env := by unfold innerN; simp [h14, hi0]
        have hd9 := hrec (.v (.sl (some 2) f (env.map encFr))) (.inr ⟨f, by rw [hin]⟩)
        simp -implicitDefEqProofs (maxSteps := 2000000) (disch := omega) [-getElem?_pos, hx, obE_mk, encE_mk, frOb, b4, b6, b7, b14, hn0]
        refine ⟨by omega, ?_⟩
      rotate_left 1
      by_cases hil : i ≤ h.fn.length
      focus
        obtain ⟨yf, hyf⟩ : ∃ yf, h.fn[i - 1]? = some yf := ⟨_, List.getElem?_eq_getElem (by omega)⟩
        have hipos : 0 < i := by omega
        have hin : innerN k h env i = env ++ [yf] := by unfold innerN; simp [h14, hipos, hil, hyf]
        have hd9 := hrec (.v (vF (env ++ [yf]))) (.inl (by rw [hin]))
        rcases hdf with ⟨rfl, hn0⟩ | ⟨T0, rfl⟩
        · exact absurd (List.map_eq_nil_iff.1 hn0) (fun e => by rw [e] at hil; simp at hil; omega)
        have e1 : ((i : Int) - 1).toNat = i - 1 := by omega
        obtain ⟨y1, y2⟩ := yf
        simp -implicitDefEqProofs (maxSteps := 2000000) (disch := omega) [-getElem?_pos, hx, obE_mk, encE_mk, frOb, b4, b6, b7, b14, hipos, hil, e1, hyf, encFr]
        refine ⟨by omega, by omega, by omega, ?_⟩
        refine (k_With (l := env) (x := [(y1, y2)]) (f := f) (g := true) (by simp; omega)).then fun y hy => ?_
        subst hy
        simp -implicitDefEqProofs (maxSteps := 2000000) (disch := omega) [-getElem?_pos]
      rotate_left 1
      have hipos : 0 < i := by omega
      have hin : innerN k h env i = env ++ [h.ft] := by unfold innerN; simp [h14, hipos, hil]
      have hd9 := hrec (.v (vF (env ++ [h.ft]))) (.inl (by rw [hin]))
      have hil' : h.fn.length < i := by omega
      rcases hdf with ⟨rfl, hn0⟩ | ⟨T0, rfl⟩
      focus
        simp -implicitDefEqProofs (maxSteps := 2000000) (disch := omega) [-getElem?_pos, hx, obE_mk, encE_mk, frOb, b4, b6, b7, b14, hipos]
        refine ⟨by omega, .mk (fun h0 => absurd h0 (by omega)) fun h0 => ?_⟩
        simp -implicitDefEqProofs (maxSteps := 2000000) (disch := omega) [-getElem?_pos, b4, b6, b7, b14, hipos, frOb, obE_mk]
        refine (k_With (l := env) (x := [h.ft]) (f := f) (g := true) (by simp; omega)).then fun y hy => ?_
        subst hy
        simp -implicitDefEqProofs (maxSteps := 2000000) (disch := omega) [-getElem?_pos]
      rotate_left
      simp -implicitDefEqProofs (maxSteps := 2000000) (disch := omega) [-getElem?_pos, hx, obE_mk, encE_mk, frOb, b4, b6, b7, b14, hipos, hil]
      refine ⟨by omega, ?_⟩
      refine (k_With (l := env) (x := [h.ft]) (f := f) (g := true) (by simp; omega)).then fun y hy => ?_
      subst hy
      simp -implicitDefEqProofs (maxSteps := 2000000) (disch := omega) [-getElem?_pos]
    rotate_left 4
    have b4 : (k == 4) = false := beq_false_of_ne h4
    have b6 : (k == 6) = false := beq_false_of_ne h6
    have b7 : (k == 7) = false := beq_false_of_ne h7
    have b14 : (k == 14) = false := beq_false_of_ne h14
    have hin : innerN k h env i = env := by unfold innerN; simp [h4, h6, h7, h14]
    have hd9 := hrec (.v (.sl (some 2) f (env.map encFr))) (.inr ⟨f, by rw [hin]⟩)
    simp -implicitDefEqProofs (maxSteps := 2000000) (disch := omega) [-getElem?_pos, hx, obE_mk, encE_mk, frOb, b4, b6, b7, b14]
    refine ⟨by omega, ?_⟩
    all_goals
      skip
      obtain ⟨⟨k8, p8, n8, s8, t8, ls8, ns8, l8⟩, rX⟩ := NX
      obtain ⟨lX, rl⟩ := LX
      dsimp only at *
      simp only [encE_mk (k := k8)] at hd9
      rcases hL with ⟨rfl, hL0⟩ | ⟨TL, rfl, hT, hTa, hTb, hTn⟩
      focus
        simp -implicitDefEqProofs (maxSteps := 2000000) (disch := omega) [-getElem?_pos, outOb]
        refine (hd9 _).mono fun y σ' hr => ?_
        obtain ⟨rfl, a2, b2, tk2, rfl, hst⟩ := hr
        simp -implicitDefEqProofs (maxSteps := 2000000) (disch := omega) [-getElem?_pos]
        have hlX : lX = [] := List.map_eq_nil_iff.1 hL0
        exact ⟨⟨i + 1, a2, b2, tk2 ++ [1], .tsl tk2.length (some 8) [encE (.mk k8 p8 n8 s8 t8 ls8 ns8 l8)], _⟩, ⟨by dsimp only; omega, by rw [hnext]; exact (hrs.trans hst).more 1, by rw [hnext, hlX]; exact .inr ⟨_, rfl, by simp, hst.lt.1, hst.lt.2, Nat.le_trans hrs.len hst.len⟩⟩, by dsimp only; omega, .eq2 (by simp [hnext, outOb, encE_mk, frOb, obE_mk]; rfl) (by simp)⟩
      simp -implicitDefEqProofs (maxSteps := 2000000) (disch := omega) [-getElem?_pos, outOb]
      refine (hd9 _).mono fun y σ' hr => ?_
      obtain ⟨rfl, a2, b2, tk2, rfl, hst⟩ := hr
      obtain ⟨q1, q2, q3⟩ := hst.fresh hT hTa hTb
      simp -implicitDefEqProofs (maxSteps := 2000000) (disch := omega) [-getElem?_pos, q1]
      refine ⟨by omega, ⟨⟨i + 1, a2, b2, tk2.set TL (lX.length + 1), .tsl TL (some 8) (lX.map encE ++ [encE (.mk k8 p8 n8 s8 t8 ls8 ns8 l8)]), _⟩, ⟨by dsimp only; omega, by rw [hnext]; exact (hrs.trans hst).put _ hTn q2 q3, by rw [hnext]; exact .inr ⟨TL, by simp, by have := (List.getElem?_eq_some_iff.1 q1).1; simp [this], q2, q3, hTn⟩⟩, by dsimp only; omega, .eq2 (by simp [hnext, outOb, encE_mk, frOb, obE_mk]; rfl) (by simp)⟩⟩
  · obtain rfl : i = l.length := by omega
    rw [List.take_length] at hrs hL
    rcases hL with ⟨rfl, hL0⟩ | ⟨TL, rfl, hT, hTa, hTb, hTn⟩
    focus
      have hL1 : (goL k h env 0 l h.r).l = [] := List.map_eq_nil_iff.1 hL0
      rw [hL1]
      rcases hdn with ⟨rfl, hn0⟩ | ⟨TN, rfl⟩
      focus
        have hn1 : h.ns = [] := List.map_eq_nil_iff.1 hn0
        rw [hn1]
        simp -implicitDefEqProofs (maxSteps := 2000000) (disch := omega) [-getElem?_pos, outOb, contX, tlX, a42, zOb]
        refine PostV.keepS _ ⟨rfl, a', b', tk', rfl, hrs⟩ go_le0 (by simp) hrs.len (low_set2 (renOb_low hrs.ok)) (by simp)
      simp -implicitDefEqProofs (maxSteps := 2000000) (disch := omega) [-getElem?_pos, outOb, contX, tlX, a42, zOb]
      refine PostV.keepS _ ⟨rfl, a', b', tk', rfl, hrs⟩ (go_le .tsl VLe.snil.d) (by simp) hrs.len (low_set2 (renOb_low hrs.ok)) (by simp)
    rcases hdn with ⟨rfl, hn0⟩ | ⟨TN, rfl⟩
    focus
      have hn1 : h.ns = [] := List.map_eq_nil_iff.1 hn0
      rw [hn1]
      simp -implicitDefEqProofs (maxSteps := 2000000) (disch := omega) [-getElem?_pos, outOb, contX, tlX, a42, zOb]
      refine PostV.keepS _ ⟨rfl, a', b', tk', rfl, hrs⟩ (go_le VLe.snil.d .tsl) (by simp) hrs.len (low_set2 (renOb_low hrs.ok)) (by simp)
    simp -implicitDefEqProofs (maxSteps := 2000000) (disch := omega) [-getElem?_pos, outOb, contX, tlX, a42, zOb]
    refine PostV.keepS _ ⟨rfl, a', b', tk', rfl, hrs⟩ (go_le .tsl .tsl) (by simp) hrs.len (low_set2 (renOb_low hrs.ok)) (by simp)
set_option maxHeartbeats 1000000
theorem go1_go {k q n : Int} {s t : Str} {ls ns : List Str} {l : List Ex} {env : List Frm} {f : Bool} {h : Hd} {r : Rn} {a b a' b' : Option Nat} {p : Nat} {os : List Ob} {tk tk' : List Nat} {df dn : D} {st : St} {G : List Ob} (ih : ∀ x ∈ l, Go1Ct x) (hl : p < os.length)
    (hc : cszL l ≤ 1048576) (hen : env.length + 2 + cszL l ≤ 3000000) (hold : h.r.old.length + cszL l ≤ 3000000) (hfree : h.r.free.length + cszL l ≤ 3000000)
    (hdf : LD (some 2) (h.fn.map encFr) df) (hdn : LD none (h.ns.map .str) dn) (hst : RStep tk a b r tk' a' b' h.r)
    (hw : Weak ⟨os.set p (renOb a b r), tk⟩ st ⟨[(2, .v (.sl (some 2) f (env.map encFr))), (3, .ptr os.length 0), (4, .ptr (os.length + 1) 0), (6, .ptr (os.length + 2) 0), (7, .ptr (os.length + 3) 0), (9, .ptr (os.length + 4) 0), (10, .ptr (os.length + 5) 0), (11, df), (115, .v (.sl (some 8) false (l.map encE))), (116, .v (.int .i64 l.length)), (117, .v (.int .i64 0))],
      ⟨os.set p (renOb a' b' h.r) ++ (.cells [.ptr p 0] :: obE (.mk k q n s t ls ns l) :: zOb :: outOb k q n h.s h.t ls dn (.v .snil) :: frOb h.fs :: frOb h.ft :: G), tk'⟩⟩) :
    W Tryz.prog ⟨os.set p (renOb a b r), tk⟩ (loopX (tlX 7 a42.body)) (QBlk 3 (QSeq Tryz.prog ⟨os.set p (renOb a b r), tk⟩ (contX (tlX 7 a42.body)) (Post ⟨os.set p (renOb a b r), tk⟩ a42.res fun x σ' => x = .v (encE (.mk k q n h.s h.t ls h.ns (goL k h env 0 l h.r).l)) ∧ ∃ a' b' tk', σ' = ⟨os.set p (renOb a' b' (goL k h env 0 l h.r).r), tk'⟩ ∧ RStep tk a b r tk' a' b' (goL k h env 0 l h.r).r))) st := by
  have h0 : goL k h env 0 (l.take 0) h.r = ⟨[], h.r⟩ := by simp [goL]
  refine go1_loop (s := s) (t := t) (ns := ns) (f := f) (s0 := ⟨0, a', b', tk', .v .snil, G⟩) ih hl hc hen hold hfree hdf hdn ⟨Nat.zero_le _, by dsimp only; rw [h0]; exact hst, by dsimp only; rw [h0]; exact .inl ⟨rfl, rfl⟩⟩ rfl ?_
  dsimp only
  rw [h0]
  exact hw
structure NmS where
  i : Nat
  a : Option Nat
  tk : List Nat
  df : D
  dn : D
  G : List Ob
structure NmI (ns : List Str) (tk : List Nat) (a b : Option Nat) (r : Rn) (st : NmS) : Prop where
  i : st.i ≤ ns.length
  rs : RStep tk a b r st.tk st.a b (namesR (ns.take st.i) r).2
  d : (st.i = 0 ∧ st.df = .v .snil ∧ st.dn = .v .snil) ∨ ∃ TF TN, st.df = .tsl TF (some 2) ((namesR (ns.take st.i) r).1.map encFr) ∧ st.dn = .tsl TN none (((namesR (ns.take st.i) r).1.map (·.2)).map .str) ∧ TF ≠ TN ∧
    st.tk[TF]? = some st.i ∧ st.tk[TN]? = some st.i ∧ st.a ≠ some TF ∧ st.a ≠ some TN ∧ b ≠ some TF ∧ b ≠ some TN ∧ tk.length ≤ TF ∧ tk.length ≤ TN
theorem RStep.freeN {tk : List Nat} {a : Option Nat} {r : Rn} {q : Int} (ok : ROk tk a none r) : RStep tk a none r (tk ++ [1]) a (some tk.length) ⟨r.old, r.free ++ [q]⟩ := by
  obtain ⟨ok1, ok2, ok3⟩ := ok
  refine ⟨by simp, fun i n h _ _ => ?_, ?_, ?_, fun i h h2 => ?_, .inl rfl, .inr ⟨_, rfl, Nat.le_refl _⟩⟩
  · rw [List.getElem?_append_left (List.getElem?_eq_some_iff.1 h).1]; exact h
  · cases a with
    | none => exact ok1
    | some T => exact (List.getElem?_append_left (List.getElem?_eq_some_iff.1 ok1).1).trans ok1
  · have h0 : r.free = [] := List.length_eq_zero_iff.1 ok2
    unfold tokOk
    dsimp only
    rw [h0]
    simp
  · cases h2
    subst h
    have := (List.getElem?_eq_some_iff.1 ok1).1
    omega
theorem RStep.freeS {tk : List Nat} {a : Option Nat} {T : Nat} {r : Rn} {q : Int} (ok : ROk tk a (some T) r) : RStep tk a (some T) r (tk.set T (r.free.length + 1)) a (some T) ⟨r.old, r.free ++ [q]⟩ := by
  obtain ⟨ok1, ok2, ok3⟩ := ok
  have hT := (List.getElem?_eq_some_iff.1 ok2).1
  refine ⟨by simp, fun i n h _ hne => ?_, ?_, ?_, ok3, .inl rfl, .inl rfl⟩
  · rw [List.getElem?_set_ne (fun e => hne (by rw [e]))]; exact h
  · cases a with
    | none => exact ok1
    | some Ta =>
      unfold tokOk at ok1 ⊢
      dsimp only at ok1 ⊢
      rw [List.getElem?_set_ne (fun e => ok3 Ta rfl (by rw [e]))]
      exact ok1
  · unfold tokOk
    dsimp only
    rw [List.getElem?_set_self hT, List.length_append]
    rfl
theorem k_Go1 (e : Ex) : Go1Ct e := by
  refine Ex.ind (P := Go1Ct) (fun k q n s t ls ns l ih => ?_) e
  intro env f r a b p σ he hen hold hfree hp ok
  revert ok
  refine pstart (Q := fun σ => ROk σ.toks a b r → ACalls Tryz.prog 42 [.ptr p 0, .v (encE (.mk k q n s t ls ns l)), .v (.sl (some 2) f (env.map encFr))] σ fun x σ' => x = .v (encE (goN (.mk k q n s t ls ns l) env r).e) ∧ ∃ a' b' tk', σ' = ⟨σ.objs.set p (renOb a' b' (goN (.mk k q n s t ls ns l) env r).r), tk'⟩ ∧ RStep σ.toks a b r tk' a' b' (goN (.mk k q n s t ls ns l) env r).r) hp fun os tk hl ok => ?_
  clear hp σ
  dsimp only at ok
  rw [csz] at he hen hold hfree
  have hns := nsz_ge ns
  have hls := nsz_ge ls
  have kcl := fun σ => k_CloneS (l := ls) (σ := σ) (by omega)
  have ko := fun (a b : Option Nat) (r : Rn) (s : Str) (tk : List Nat) (ρ : List Ob) (ok : ROk tk a b r) hl' => k_Own1 (a := a) (b := b) (r := r) (s := s) (p := p) (o := os.length) (σ := ⟨os.set p (renOb a b r) ++ .cells [.ptr p 0] :: ρ, tk⟩) (by simp [hl]) (by simp) ok hl'
  have kfi := fun σ => k_Find (zs := env) (s := s) (f := f) (σ := σ) (by omega)
  simp only [List.set_set]
  rw [goN]
  have hh := headN_len k q s t ns env r
  have hgo := fun (h : Hd) (a' b' : Option Nat) (tk' : List Nat) (df dn : D) (st : St) (G : List Ob) (hr1 : h.r.old.length ≤ r.old.length + 2 + ns.length) (hr2 : h.r.free.length ≤ r.free.length + 1) => go1_go (k := k) (q := q) (n := n) (s := s) (t := t) (ls := ls) (ns := ns) (l := l) (env := env) (f := f) (h := h) (r := r) (a := a) (b := b) (p := p) (os := os) (tk := tk) (a' := a') (b' := b') (tk' := tk') (df := df) (dn := dn) (st := st) (G := G) ih hl (by omega) (by omega) (by omega) (by omega)
  unfold vS at kcl
  rw [encE_mk]
  dsimp only
  by_cases h3 : k = 3
  · subst h3
    generalize hH : headN 3 q s t ns env r = h at *
    refine acalls_fit Tryz.func42 (by kernel_rfl) c42 rfl (by simp [a42]) fun hf => ?_
    clear hf
    simp -implicitDefEqProofs (maxSteps := 2000000) (disch := omega) [-getElem?_pos, a42]
    refine (kcl _).then fun x hx => ?_
    subst hx
    simp -implicitDefEqProofs (maxSteps := 2000000) (disch := omega) [-getElem?_pos]
    refine (kfi _).then fun x hx => ?_
    subst hx
    simp -implicitDefEqProofs (maxSteps := 2000000) (disch := omega) [-getElem?_pos]
    refine .mk (fun hfd => ?_) fun hfd => ?_
    · have hH2 : h = ⟨(findF env s).1, t, [], zF, zF, [], r⟩ := by rw [← hH]; unfold headN; rw [if_pos rfl, if_pos hfd]
      subst hH2
      simp -implicitDefEqProofs (maxSteps := 2000000) (disch := omega) [-getElem?_pos]
      refine hgo ⟨(findF env s).1, t, [], zF, zF, [], r⟩ a b tk (.v .snil) (.v .snil) _ [] hh.1 hh.2 (.inl ⟨rfl, rfl⟩) (.inl ⟨rfl, rfl⟩) (RStep.refl ok) (.eq2 (by simp [outOb, zOb, frOb, zF, obE_mk]; done) (by simp))
    have hH2 : h = ⟨(findF env s).1, t, [], zF, zF, [], ⟨r.old, r.free ++ [q]⟩⟩ := by rw [← hH]; unfold headN; rw [if_pos rfl, if_neg hfd]
    subst hH2
    cases b with
    | none =>
      have h0 : r.free = [] := List.length_eq_zero_iff.1 ok.ob
      unfold renOb tokD
      dsimp only
      simp -implicitDefEqProofs (maxSteps := 2000000) (disch := omega) [-getElem?_pos, hl]
      refine hgo ⟨(findF env s).1, t, [], zF, zF, [], ⟨r.old, r.free ++ [q]⟩⟩ a (some tk.length) (tk ++ [1]) (.v .snil) (.v .snil) _ [] hh.1 hh.2 (.inl ⟨rfl, rfl⟩) (.inl ⟨rfl, rfl⟩) (RStep.freeN ok) (.eq2 (by simp [outOb, zOb, frOb, zF, obE_mk, h0, renOb, tokD]; done) (by simp))
    | some T =>
      have ok2 : tk[T]? = some r.free.length := ok.ob
      unfold renOb tokD
      dsimp only
      simp -implicitDefEqProofs (maxSteps := 2000000) (disch := omega) [-getElem?_pos, hl, ok2]
      refine ⟨by omega, hgo ⟨(findF env s).1, t, [], zF, zF, [], ⟨r.old, r.free ++ [q]⟩⟩ a (some T) (tk.set T (r.free.length + 1)) (.v .snil) (.v .snil) _ [] hh.1 hh.2 (.inl ⟨rfl, rfl⟩) (.inl ⟨rfl, rfl⟩) (RStep.freeS ok) (.eq2 (by simp [outOb, zOb, frOb, zF, obE_mk, renOb, tokD]; done) (by simp))⟩
  have hb3 : (k == 3) = false := beq_false_of_ne h3
  by_cases h4 : k = 4
  · have hH2 : headN k q s t ns env r = ⟨asR r, t, [], (s, asR r), zF, [], bindR s r⟩ := by unfold headN; rw [if_neg h3, if_pos (.inl h4)]
    rw [hH2] at hh ⊢
    have hb4 : (k == 4) = true := by rw [h4]; rfl
    refine acalls_fit Tryz.func42 (by kernel_rfl) c42 rfl (by simp [a42]) fun hf => ?_
    clear hf
    simp -implicitDefEqProofs (maxSteps := 2000000) (disch := omega) [-getElem?_pos, a42, hb3, hb4]
    refine (kcl _).then fun x hx => ?_
    subst hx
    simp -implicitDefEqProofs (maxSteps := 2000000) (disch := omega) [-getElem?_pos, hb3, hb4]
    refine (ko _ _ _ s _ _ ok (by omega)).mono fun x σ' hx => ?_
    obtain ⟨rfl, a', tk', rfl, hst⟩ := hx
    simp -implicitDefEqProofs (maxSteps := 2000000) (disch := omega) [-getElem?_pos, encFr]
    exact hgo ⟨asR r, t, [], (s, asR r), zF, [], bindR s r⟩ a' b tk' (.v .snil) (.v .snil) _ [] hh.1 hh.2 (.inl ⟨rfl, rfl⟩) (.inl ⟨rfl, rfl⟩) hst (.eq2 (by simp [outOb, zOb, frOb, zF, obE_mk]; done) (by simp))
  have hb4 : (k == 4) = false := beq_false_of_ne h4
  by_cases h6 : k = 6
  · have hH2 : headN k q s t ns env r = ⟨asR r, t, [], (s, asR r), zF, [], bindR s r⟩ := by unfold headN; rw [if_neg h3, if_pos (.inr h6)]
    rw [hH2] at hh ⊢
    have hb6 : (k == 6) = true := by rw [h6]; rfl
    refine acalls_fit Tryz.func42 (by kernel_rfl) c42 rfl (by simp [a42]) fun hf => ?_
    clear hf
    simp -implicitDefEqProofs (maxSteps := 2000000) (disch := omega) [-getElem?_pos, a42, hb3, hb4, hb6]
    refine (kcl _).then fun x hx => ?_
    subst hx
    simp -implicitDefEqProofs (maxSteps := 2000000) (disch := omega) [-getElem?_pos, hb3, hb4, hb6]
    refine (ko _ _ _ s _ _ ok (by omega)).mono fun x σ' hx => ?_
    obtain ⟨rfl, a', tk', rfl, hst⟩ := hx
    simp -implicitDefEqProofs (maxSteps := 2000000) (disch := omega) [-getElem?_pos, encFr]
    exact hgo ⟨asR r, t, [], (s, asR r), zF, [], bindR s r⟩ a' b tk' (.v .snil) (.v .snil) _ [] hh.1 hh.2 (.inl ⟨rfl, rfl⟩) (.inl ⟨rfl, rfl⟩) hst (.eq2 (by simp [outOb, zOb, frOb, zF, obE_mk]; done) (by simp))
  have hb6 : (k == 6) = false := beq_false_of_ne h6
  by_cases h7 : k = 7
  · have hH2 : headN k q s t ns env r = ⟨asR r, asR (bindR s r), [], (s, asR r), (t, asR (bindR s r)), [], bindR t (bindR s r)⟩ := by unfold headN; rw [if_neg h3, if_neg (by omega), if_pos h7]
    rw [hH2] at hh ⊢
    have hb7 : (k == 7) = true := by rw [h7]; rfl
    refine acalls_fit Tryz.func42 (by kernel_rfl) c42 rfl (by simp [a42]) fun hf => ?_
    clear hf
    simp -implicitDefEqProofs (maxSteps := 2000000) (disch := omega) [-getElem?_pos, a42, hb3, hb4, hb6, hb7]
    refine (kcl _).then fun x hx => ?_
    subst hx
    simp -implicitDefEqProofs (maxSteps := 2000000) (disch := omega) [-getElem?_pos, hb3, hb4, hb6, hb7]
    refine (ko _ _ _ s _ _ ok (by omega)).mono fun x σ' hx => ?_
    obtain ⟨rfl, a1, tk1, rfl, hst1⟩ := hx
    simp -implicitDefEqProofs (maxSteps := 2000000) (disch := omega) [-getElem?_pos, encFr]
    refine (ko _ _ _ t _ _ hst1.ok (by simp [bindR]; omega)).mono fun x σ' hx => ?_
    obtain ⟨rfl, a2, tk2, rfl, hst2⟩ := hx
    simp -implicitDefEqProofs (maxSteps := 2000000) (disch := omega) [-getElem?_pos, encFr]
    exact hgo ⟨asR r, asR (bindR s r), [], (s, asR r), (t, asR (bindR s r)), [], bindR t (bindR s r)⟩ a2 b tk2 (.v .snil) (.v .snil) _ [] hh.1 hh.2 (.inl ⟨rfl, rfl⟩) (.inl ⟨rfl, rfl⟩) (hst1.trans hst2) (.eq2 (by simp [outOb, zOb, frOb, zF, obE_mk]; done) (by simp))
  have hb7 : (k == 7) = false := beq_false_of_ne h7
  by_cases h14 : k = 14
  · have hb14 : (k == 14) = true := by rw [h14]; rfl
    refine acalls_fit Tryz.func42 (by kernel_rfl) c42 rfl (by simp [a42]) fun hf => ?_
    clear hf
    simp -implicitDefEqProofs (maxSteps := 2000000) (disch := omega) [-getElem?_pos, a42, hb3, hb4, hb6, hb7, hb14]
    refine (kcl _).then fun x hx => ?_
    subst hx
    simp -implicitDefEqProofs (maxSteps := 2000000) (disch := omega) [-getElem?_pos, hb3, hb4, hb6, hb7, hb14]
    refine W_loop (α := NmS) ⟨0, a, tk, .v .snil, .v .snil, []⟩ (fun x => ns.length - x.i) (fun x => ⟨[(2, .v (.sl (some 2) f (env.map encFr))), (3, .ptr os.length 0), (4, .ptr (os.length + 1) 0), (6, .ptr (os.length + 2) 0), (7, .ptr (os.length + 3) 0), (8, .fn 67 [.ptr os.length 0]), (9, .ptr (os.length + 4) 0), (10, .ptr (os.length + 5) 0), (11, x.df), (83, .v (.sl none false (ns.map .str))), (84, .v (.int .i64 ns.length)), (85, .v (.int .i64 x.i))],
        ⟨os.set p (renOb x.a b (namesR (ns.take x.i) r).2) ++ (.cells [.ptr p 0] :: obE (.mk k q n s t ls ns l) :: zOb :: outOb k q n s t ls x.dn (.v .snil) :: frOb zF :: frOb zF :: x.G), x.tk⟩⟩) (fun x => NmI ns tk a b r x)
      (.eq2 (by simp [outOb, zOb, frOb, zF, obE_mk, namesR]; done) (by simp)) ⟨Nat.zero_le _, by simp only [List.take_zero, namesR]; exact RStep.refl ok, .inl ⟨rfl, rfl, rfl⟩⟩ fun ⟨i, a', tk', df, dn, G⟩ ⟨hi, hrs, hd⟩ => ?_
    dsimp only at hi hrs hd ⊢
    have hnl := namesR_len (ns.take i) r
    rw [List.length_take, Nat.min_eq_left hi] at hnl
    simp -implicitDefEqProofs (maxSteps := 2000000) (disch := omega) [-getElem?_pos]
    refine .mk (fun hlt => ?_) fun hlt => ?_
    · obtain ⟨x, hx⟩ : ∃ x, ns[i]? = some x := ⟨_, List.getElem?_eq_getElem (by omega)⟩
      have hnext : namesR (ns.take (i + 1)) r = ((namesR (ns.take i) r).1 ++ [(x, asR (namesR (ns.take i) r).2)], bindR x (namesR (ns.take i) r).2) := by rw [take_succ_get hx, namesR_snoc]
      simp -implicitDefEqProofs (maxSteps := 2000000) (disch := omega) [-getElem?_pos, hx, obE_mk]
      refine ⟨by omega, ?_⟩
      refine (ko _ _ _ x _ _ hrs.ok (by omega)).mono fun y σ' hy => ?_
      obtain ⟨rfl, a2, tk2, rfl, hst⟩ := hy
      generalize hNX : namesR (ns.take i) r = NX at *
      rcases hd with ⟨h0, rfl, rfl⟩ | ⟨TF, TN, rfl, rfl, hne, hTF, hTN, hf1, hf2, hf3, hf4, hf5, hf6⟩
      · simp -implicitDefEqProofs (maxSteps := 2000000) (disch := omega) [-getElem?_pos, encFr, outOb]
        have hn0 : NX.1 = [] := List.length_eq_zero_iff.1 (by omega)
        have hl2 := (hst.more 1).lt
        rw [List.length_append, List.length_singleton] at hl2
        refine ⟨⟨i + 1, a2, tk2 ++ [1, 1], .tsl tk2.length (some 2) [.agg [.str x, .str (asR NX.2)]], .tsl (tk2.length + 1) none [.str (asR NX.2)], _⟩, ⟨by dsimp only; omega, ?_, .inr ⟨tk2.length, tk2.length + 1, ?_⟩⟩, by dsimp only; omega, .eq2 (by simp [hnext, outOb, zOb, frOb, zF, obE_mk]; rfl) (by simp)⟩
        · have := ((hrs.trans hst).more 1).more 1
          rw [List.append_assoc] at this
          dsimp only
          rw [hnext]
          exact this
        · dsimp only
          rw [hnext, hn0]
          refine ⟨rfl, rfl, by omega, by rw [h0]; simp, by rw [h0]; simp, hst.lt.1, hl2.1, hst.lt.2, hl2.2, Nat.le_trans hrs.len hst.len, Nat.le_succ_of_le (Nat.le_trans hrs.len hst.len)⟩
      · obtain ⟨q1, q2, q3⟩ := hst.fresh hTF hf1 hf3
        obtain ⟨q4, q5, q6⟩ := hst.fresh hTN hf2 hf4
        have l1 := (List.getElem?_eq_some_iff.1 q1).1
        have l2 := (List.getElem?_eq_some_iff.1 q4).1
        simp -implicitDefEqProofs (maxSteps := 2000000) (disch := omega) [-getElem?_pos, encFr, outOb, q1, q4, hne]
        refine ⟨by omega, by omega, by omega, by omega, ⟨i + 1, a2, (tk2.set TF (NX.1.length + 1)).set TN (NX.1.length + 1), .tsl TF (some 2) (NX.1.map encFr ++ [.agg [.str x, .str (asR NX.2)]]), .tsl TN none (NX.1.map (V.str ∘ fun x => x.2) ++ [.str (asR NX.2)]), _⟩, ⟨by dsimp only; omega, ?_, .inr ⟨TF, TN, ?_⟩⟩, by dsimp only; omega, .eq2 (by simp [hnext, outOb, zOb, frOb, zF, obE_mk]; rfl) (by simp)⟩
        · dsimp only
          rw [hnext]
          exact ((hrs.trans hst).put _ hf5 q2 q3).put _ hf6 q5 q6
        · dsimp only
          rw [hnext]
          have hi2 : i = NX.1.length := by omega
          refine ⟨by simp [encFr], by simp, hne, ?_, ?_, q2, q5, q3, q6, hf5, hf6⟩
          · rw [List.getElem?_set_ne (fun e => hne e.symm), List.getElem?_set_self l1, hi2]
          · rw [List.getElem?_set_self (by simpa using l2), hi2]
    · obtain rfl : i = ns.length := by omega
      rw [List.take_length] at hrs hd hnl
      have hLD : LD (some 2) ((namesR ns r).1.map encFr) df ∧ LD none (((namesR ns r).1.map (·.2)).map .str) dn := by
        rcases hd with ⟨h0, rfl, rfl⟩ | ⟨TF, TN, rfl, rfl, _⟩
        · have hn0 : (namesR ns r).1 = [] := List.length_eq_zero_iff.1 (by omega)
          rw [hn0]
          exact ⟨.inl ⟨rfl, rfl⟩, .inl ⟨rfl, rfl⟩⟩
        · exact ⟨.inr ⟨_, rfl⟩, .inr ⟨_, rfl⟩⟩
      clear hd
      by_cases ht : t = []
      · have hH2 : headN k q s t ns env r = ⟨s, t, (namesR ns r).1.map (·.2), zF, zF, (namesR ns r).1, (namesR ns r).2⟩ := by unfold headN; rw [if_neg h3, if_neg (by omega), if_neg h7, if_pos h14, if_pos ht]
        rw [hH2] at hh ⊢
        subst ht
        simp -implicitDefEqProofs (maxSteps := 2000000) (disch := omega) [-getElem?_pos, obE_mk]
        have hg2 := fun st => hgo ⟨s, [], (namesR ns r).1.map (·.2), zF, zF, (namesR ns r).1, (namesR ns r).2⟩ a' b tk' df dn st G hh.1 hh.2 hLD.1 hLD.2 hrs
        clear hgo
        dsimp only at hg2
        refine hg2 _ ?_
        exact .eq2 (by simp [outOb, zOb, frOb, zF, obE_mk]; done) (by simp)
      · have hH2 : headN k q s t ns env r = ⟨s, asR (namesR ns r).2, (namesR ns r).1.map (·.2), zF, (t, asR (namesR ns r).2), (namesR ns r).1, bindR t (namesR ns r).2⟩ := by unfold headN; rw [if_neg h3, if_neg (by omega), if_neg h7, if_pos h14, if_neg ht]
        rw [hH2] at hh ⊢
        simp -implicitDefEqProofs (maxSteps := 2000000) (disch := omega) [-getElem?_pos, obE_mk, ht]
        refine (ko _ _ _ t _ _ hrs.ok (by omega)).mono fun y σ' hy => ?_
        obtain ⟨rfl, a2, tk2, rfl, hst⟩ := hy
        simp -implicitDefEqProofs (maxSteps := 2000000) (disch := omega) [-getElem?_pos, encFr, outOb, zOb, frOb]
        have hg2 := fun st => hgo ⟨s, asR (namesR ns r).2, (namesR ns r).1.map (·.2), zF, (t, asR (namesR ns r).2), (namesR ns r).1, bindR t (namesR ns r).2⟩ a2 b tk2 df dn st G hh.1 hh.2 hLD.1 hLD.2 (hrs.trans hst)
        clear hgo
        dsimp only at hg2
        refine hg2 _ ?_
        exact .eq2 (by simp [outOb, zOb, frOb, zF, obE_mk]; done) (by simp)
  have hb14 : (k == 14) = false := beq_false_of_ne h14
  have hH2 : headN k q s t ns env r = ⟨s, t, [], zF, zF, [], r⟩ := by unfold headN; rw [if_neg h3, if_neg (by omega), if_neg h7, if_neg h14]
  rw [hH2] at hh ⊢
  refine acalls_fit Tryz.func42 (by kernel_rfl) c42 rfl (by simp [a42]) fun hf => ?_
  clear hf
  simp -implicitDefEqProofs (maxSteps := 2000000) (disch := omega) [-getElem?_pos, a42, hb3, hb4, hb6, hb7, hb14]
  refine (kcl _).then fun x hx => ?_
  subst hx
  simp -implicitDefEqProofs (maxSteps := 2000000) (disch := omega) [-getElem?_pos, hb3, hb4, hb6, hb7, hb14]
  exact hgo ⟨s, t, [], zF, zF, [], r⟩ a b tk (.v .snil) (.v .snil) _ [] hh.1 hh.2 (.inl ⟨rfl, rfl⟩) (.inl ⟨rfl, rfl⟩) (RStep.refl ok) (.eq2 (by simp [outOb, zOb, frOb, zF, obE_mk]; done) (by simp))
def a15 : AFun := ⟨18,[.tmp 2,.tmp 3],(.seq (.reg [2,3] [⟨some 2,none,.mv (.c (.int .i64 0))⟩,⟨some 3,none,.mv (.c (.int .i64 0))⟩]) (.seq (.reg [4] [⟨some 4,none,.alloc [.pnil]⟩]) (.seq (.seq (.reg [7] [⟨some 5,none,.mv (.t 0)⟩,⟨some 6,none,.mkif 58 (.t 4)⟩,⟨some 7,none,.call (.c (.fn 40)) [.t 5,.t 6]⟩]) (.cond (.t 7) (.seq (.any [2,3] [(⟨some 8,none,.load none (.t 4)⟩,true),(⟨some 9,none,.nilck (.t 8)⟩,true),(⟨some 10,none,.faddr 1 (.t 9)⟩,true),(⟨some 11,none,.load none (.t 10)⟩,true),(⟨some 12,none,.load none (.t 4)⟩,false),(⟨some 13,none,.nilck (.t 12)⟩,false),(⟨some 14,none,.faddr 0 (.t 13)⟩,false),(⟨some 15,none,.load none (.t 14)⟩,false),(⟨some 2,none,.mv (.t 11)⟩,false),(⟨some 3,none,.mv (.t 15)⟩,true)]) .ret) .skip)) (.seq (.reg [2,3] [⟨some 16,none,.mv (.t 0)⟩,⟨some 17,none,.call (.c (.fn 41)) [.t 16]⟩,⟨some 2,none,.mv (.t 17)⟩,⟨some 3,none,.mv (.c (.int .i64 (-1)))⟩]) .ret))))⟩
theorem c15 : compF Tryz.prog [0, 2, 3, 4, 7] Tryz.f15 = some a15 := by kernel_rfl
end Go.Proofs.YtpdeaekmgljeaaaGreatDoor
namespace Go.Proofs.YtpdeaekmgljeaaaGreatDoor
open Go.RowKit Go.Extern.Stop Go.Stop Go.Extern
theorem as_nil (t : Value) (w : World) :
    Calls Tryz.prog 40 #[.nilIface, t] w fun e w' => e = .returned (.bool false) ∧ w' = w := by
  go_enter Tryz.func40, Tryz.ntmps40
  go_wp2
  go_ret
  exact ⟨rfl, rfl⟩
theorem As.valueOf27 (t : Addr) (w : World) : (ReflectliteValue.unpack (.iface 58 (.pointer (some t)))).run Tryz.prog w
    = .ok (.agg #[.pointer (some ⟨7, 58, none⟩), .pointer (some ⟨w.heap.size, 0, none⟩), .int .u64 150]) (w.alloc (.cells #[.pointer (some t)] 58)) := by kernel_rfl
theorem As.type27 (a : Addr) (w : World) : (ReflectliteValue.methodAny (ReflectliteValue.valueError "reflectlite.Value.Type" 0) (fun t _ _ _ => ReflectliteType.toType t) #[.agg #[.pointer (some ⟨7, 58, none⟩), .pointer (some a), .int .u64 150]]).run Tryz.prog w
    = .ok (.iface 143 (.agg #[.pointer (some ⟨7, 58, none⟩)])) w := by kernel_rfl
theorem As.methodKind (h : Value) (w : World) : (Go.method 376 143 (.agg #[h]) "Kind").run Tryz.prog w = .ok (226, h) w := by kernel_rfl
theorem As.kind27 (w : World) : ((ReflectliteType.abiMethod fun t => (fun a : Nat => Value.int IntKind.u8 (a : Int)) <$> Rtype.kind t) #[.pointer (some ⟨7, 58, none⟩)]).run Tryz.prog w = .ok (.int .u8 22) w := by kernel_rfl
theorem As.kind25 (w : World) : ((ReflectliteType.abiMethod fun t => (fun a : Nat => Value.int IntKind.u8 (a : Int)) <$> Rtype.kind t) #[.pointer (some ⟨7, 56, none⟩)]).run Tryz.prog w = .ok (.int .u8 22) w := by kernel_rfl
theorem rlm (z : Sem Value) (f : TypeId → Addr → Nat → Nat → Sem Value) (v : Value) :
    ReflectliteValue.method z f #[v] = (do match ← ReflectliteValue.parts v with | none => z | some (t, a, fl) => f t a fl (fl % 32)) := rfl
theorem As.parts27 (a : Addr) (w : World) : (ReflectliteValue.parts (.agg #[.pointer (some ⟨7, 58, none⟩), .pointer (some a), .int .u64 150])).run Tryz.prog w = .ok (some (58, a, 150)) w := by kernel_rfl
theorem As.isNil27 (a p : Addr) (W : World) (ha : W.cell? a = some (.pointer (some p))) :
    (ReflectliteValue.method (ReflectliteValue.valueError "reflectlite.Value.IsNil" 0) ReflectliteValue.isNil #[.agg #[.pointer (some ⟨7, 58, none⟩), .pointer (some a), .int .u64 150]]).run Tryz.prog W = .ok (.bool false) W := by
  rw [rlm]
  simp only [Sem.run_bind, As.parts27, Result.andThen]
  simp [ReflectliteValue.isNil, loadVar, isAgg, underlying, Tryz.underlying58, ha, Result.andThen]
theorem As.methodElem (h : Value) (w : World) : (Go.method 376 143 (.agg #[h]) "Elem").run Tryz.prog w = .ok (239, .agg #[h]) w := by kernel_rfl
theorem As.methodImplements (h : Value) (w : World) : (Go.method 376 143 (.agg #[h]) "Implements").run Tryz.prog w = .ok (240, .agg #[h]) w := by kernel_rfl
theorem As.methodAssignableTo (h : Value) (w : World) : (Go.method 376 143 (.agg #[h]) "AssignableTo").run Tryz.prog w = .ok (237, .agg #[h]) w := by kernel_rfl
theorem As.elem27 (w : World) : (ReflectliteType.method ReflectliteType.elem #[.agg #[.pointer (some ⟨7, 58, none⟩)]]).run Tryz.prog w = .ok (.iface 143 (.agg #[.pointer (some ⟨7, 56, none⟩)])) w := by kernel_rfl
theorem As.implements25 (w : World) : (ReflectliteType.relation "Implements" ReflectliteType.implements_ #[.agg #[.pointer (some ⟨7, 56, none⟩)], .iface 143 (.agg #[.pointer (some ⟨7, 29, none⟩)])]).run Tryz.prog w = .ok (.bool true) w := by kernel_rfl
theorem As.typeOf25 (v : Value) (w : World) : (ReflectliteType.typeOf #[.iface 56 v]).run Tryz.prog w = .ok (.iface 143 (.agg #[.pointer (some ⟨7, 56, none⟩)])) w := by kernel_rfl
theorem As.assignable25 (w : World) : (ReflectliteType.relation "AssignableTo" ReflectliteType.assignableTo #[.agg #[.pointer (some ⟨7, 56, none⟩)], .iface 143 (.agg #[.pointer (some ⟨7, 56, none⟩)])]).run Tryz.prog w = .ok (.bool true) w := by kernel_rfl
theorem As.valueOf25 (e : Addr) (w : World) : (ReflectliteValue.unpack (.iface 56 (.pointer (some e)))).run Tryz.prog w
    = .ok (.agg #[.pointer (some ⟨7, 56, none⟩), .pointer (some ⟨w.heap.size, 0, none⟩), .int .u64 150]) (w.alloc (.cells #[.pointer (some e)] 56)) := by kernel_rfl
theorem As.elemOf27 (w : World) : (Rtype.elem? 58).run Tryz.prog w = .ok (some 56) w := by kernel_rfl
theorem As.mk25 (p : Addr) (w : World) : (ReflectliteValue.mk 56 p ReflectliteValue.flagAddr).run Tryz.prog w = .ok (.agg #[.pointer (some ⟨7, 56, none⟩), .pointer (some p), .int .u64 406]) w := by kernel_rfl
theorem As.elemV27 (a p : Addr) (W : World) (ha : W.cell? a = some (.pointer (some p))) :
    (ReflectliteValue.method (ReflectliteValue.valueError "reflectlite.Value.Elem" 0) ReflectliteValue.elem #[.agg #[.pointer (some ⟨7, 58, none⟩), .pointer (some a), .int .u64 150]]).run Tryz.prog W
      = .ok (.agg #[.pointer (some ⟨7, 56, none⟩), .pointer (some p), .int .u64 406]) W := by
  rw [rlm]
  simp only [Sem.run_bind, As.parts27, Result.andThen]
  simp [ReflectliteValue.elem, loadVar, isAgg, underlying, Tryz.underlying58, ha, Result.andThen, As.elemOf27, As.mk25]
theorem rls (v x : Value) : ReflectliteValue.set #[v, x] = (do
    let (some (dst, a, fl), some (src, b, _)) := (← ReflectliteValue.parts v, ← ReflectliteValue.parts x)
      | unsupported (.noEntry "extern/(internal/reflectlite.Value).Set.zeroValue")
    if fl / ReflectliteValue.flagAddr % 2 == 0 then unsupported (.noEntry "extern/(internal/reflectlite.Value).Set.unaddressable")
    let val ← loadVar src b
    if ← Rtype.directlyAssignable dst src then storeVar dst a val
    else if ← Rtype.implements dst src then
      if (← Rtype.kind src) == 20 then
        match val with
        | .nilIface => unsupported (.noEntry "extern/reflectlite: a nil value of one interface type handed on as a value of another")
        | _ => storeVar dst a val
      else storeVar dst a (.iface src val)
    else panicString ("reflectlite.Set: value of type " ++ (← Rtype.spelt src) ++ " is not assignable to type " ++ (← Rtype.spelt dst))
    pure (.tuple #[])) := rfl
theorem As.parts25a (a : Addr) (w : World) : (ReflectliteValue.parts (.agg #[.pointer (some ⟨7, 56, none⟩), .pointer (some a), .int .u64 406])).run Tryz.prog w = .ok (some (56, a, 406)) w := by kernel_rfl
theorem As.parts25 (a : Addr) (w : World) : (ReflectliteValue.parts (.agg #[.pointer (some ⟨7, 56, none⟩), .pointer (some a), .int .u64 150])).run Tryz.prog w = .ok (some (56, a, 150)) w := by kernel_rfl
theorem As.direct25 (w : World) : (Rtype.directlyAssignable 56 56).run Tryz.prog w = .ok true w := by kernel_rfl
theorem As.set25 (ta b e : Addr) (old : Value) (W : World) (hb : W.cell? b = some (.pointer (some e))) (ht : W.cell? ta = some old) (hf : W.frozen? ta = false) :
    (ReflectliteValue.set #[.agg #[.pointer (some ⟨7, 56, none⟩), .pointer (some ta), .int .u64 406], .agg #[.pointer (some ⟨7, 56, none⟩), .pointer (some b), .int .u64 150]]).run Tryz.prog W
      = .ok (.tuple #[]) (W.setCell ta (.pointer (some e))) := by
  rw [rls]
  simp only [Sem.run_bind, As.parts25a, As.parts25, Result.andThen]
  simp [ReflectliteValue.flagAddr, loadVar, isAgg, underlying, Tryz.underlying56, hb, Result.andThen, As.direct25, storeVar, Value.cells, storeCells, Addr.add]
  rw [run_store Tryz.prog W ta _ _ (by rfl)]
  simp [ht, hf]
set_option maxHeartbeats 4000000 in
theorem as_hit (e t : Addr) (old : Value) (w : World) (hg : w.cell? ⟨0, 0, none⟩ = some (.iface 143 (.agg #[.pointer (some ⟨7, 29, none⟩)]))) (ht0 : w.cell? t = some old) (hf0 : w.frozen? t = false) :
    Calls Tryz.prog 40 #[.iface 56 (.pointer (some e)), .iface 58 (.pointer (some t))] w fun ev w' => ev = .returned (.bool true) ∧ w' = ((((w.alloc (.cells #[.pointer (some t)] 58)).alloc (.cells #[.pointer (some ⟨7, 58, none⟩), .pointer (some ⟨w.heap.size, 0, none⟩), .int .u64 150] 93)).alloc (.cells #[.pointer (some ⟨7, 58, none⟩), .pointer (some ⟨w.heap.size, 0, none⟩), .int .u64 150] 93)).alloc (.cells #[.pointer (some e)] 56)).setCell t (.pointer (some e)) := by
  have h6 := @run_callFunc_extern Tryz.prog 62 _ (fun args => ReflectliteValue.unpack (args.getD 0 (.tuple #[]))) Tryz.func62 (by kernel_rfl) (by kernel_rfl) (by kernel_rfl) (by kernel_rfl)
  have h7 := @run_callFunc_extern Tryz.prog 63 _ (ReflectliteValue.methodAny (ReflectliteValue.valueError "reflectlite.Value.Type" 0) (fun t _ _ _ => ReflectliteType.toType t)) Tryz.func63 (by kernel_rfl) (by kernel_rfl) (by kernel_rfl) (by kernel_rfl)
  have h8 := @run_callFunc_extern Tryz.prog 64 _ (ReflectliteValue.method (ReflectliteValue.valueError "reflectlite.Value.IsNil" 0) ReflectliteValue.isNil) Tryz.func64 (by kernel_rfl) (by kernel_rfl) (by kernel_rfl) (by kernel_rfl)
  have h27 := @run_callFunc_extern Tryz.prog 226 _ (ReflectliteType.abiMethod fun t => do pure (.int .u8 (← Rtype.kind t))) Tryz.func226 (by kernel_rfl) (by kernel_rfl) (by kernel_rfl) (by kernel_rfl)
  have h37 := @run_callFunc_extern Tryz.prog 239 _ (ReflectliteType.method ReflectliteType.elem) Tryz.func239 (by kernel_rfl) (by kernel_rfl) (by kernel_rfl) (by kernel_rfl)
  have h38 := @run_callFunc_extern Tryz.prog 240 _ (ReflectliteType.relation "Implements" ReflectliteType.implements_) Tryz.func240 (by kernel_rfl) (by kernel_rfl) (by kernel_rfl) (by kernel_rfl)
  have h10 := @run_callFunc_extern Tryz.prog 101 _ ReflectliteType.typeOf Tryz.func101 (by kernel_rfl) (by kernel_rfl) (by kernel_rfl) (by kernel_rfl)
  have h35 := @run_callFunc_extern Tryz.prog 237 _ (ReflectliteType.relation "AssignableTo" ReflectliteType.assignableTo) Tryz.func237 (by kernel_rfl) (by kernel_rfl) (by kernel_rfl) (by kernel_rfl)
  have h11 := @run_callFunc_extern Tryz.prog 102 _ (ReflectliteValue.method (ReflectliteValue.valueError "reflectlite.Value.Elem" 0) ReflectliteValue.elem) Tryz.func102 (by kernel_rfl) (by kernel_rfl) (by kernel_rfl) (by kernel_rfl)
  have h12 := @run_callFunc_extern Tryz.prog 103 _ ReflectliteValue.set Tryz.func103 (by kernel_rfl) (by kernel_rfl) (by kernel_rfl) (by kernel_rfl)
  have tO := As.typeOf25
  have mA := As.methodAssignableTo
  have a25 := As.assignable25
  have v25 := As.valueOf25
  have f6 := As.valueOf27
  have f7 := As.type27
  have mK := As.methodKind
  have mE := As.methodElem
  have mI := As.methodImplements
  have k27 := As.kind27
  have k25 := As.kind25
  have e27 := As.elem27
  have i25 := As.implements25
  have n8 := As.isNil27 ⟨w.heap.size, 0, none⟩ t ((w.alloc (.cells #[.pointer (some t)] 58)).alloc (.cells #[.pointer (some ⟨7, 58, none⟩), .pointer (some ⟨w.heap.size, 0, none⟩), .int .u64 150] 93)) (by simp)
  have hlt : 0 < w.heap.size := by
    rcases Nat.eq_zero_or_pos w.heap.size with h0 | h
    · simp [World.cell?, h0] at hg
    · exact h
  have hg2 : ((w.alloc (.cells #[.pointer (some t)] 58)).alloc (.cells #[.pointer (some ⟨7, 58, none⟩), .pointer (some ⟨w.heap.size, 0, none⟩), .int .u64 150] 93)).cell? ⟨0, 0, none⟩ = some (.iface 143 (.agg #[.pointer (some ⟨7, 29, none⟩)])) := by
    rw [World.cell?_alloc_lt _ _ ⟨0, 0, none⟩ (by simp), World.cell?_alloc_lt _ _ ⟨0, 0, none⟩ hlt]; exact hg
  have htl : t.block < w.heap.size := by
    rcases Nat.lt_or_ge t.block w.heap.size with h | h
    · exact h
    · simp [World.cell?, Array.getElem?_eq_none h] at ht0
  have el := As.elemV27 ⟨w.heap.size, 0, none⟩ t (((w.alloc (.cells #[.pointer (some t)] 58)).alloc (.cells #[.pointer (some ⟨7, 58, none⟩), .pointer (some ⟨w.heap.size, 0, none⟩), .int .u64 150] 93)).alloc (.cells #[.pointer (some ⟨7, 58, none⟩), .pointer (some ⟨w.heap.size, 0, none⟩), .int .u64 150] 93)) (by rw [World.cell?_alloc_lt _ _ ⟨w.heap.size, 0, none⟩ (by simp; omega)]; simp)
  have st := As.set25 t ⟨w.heap.size + 1 + 1 + 1, 0, none⟩ e old ((((w.alloc (.cells #[.pointer (some t)] 58)).alloc (.cells #[.pointer (some ⟨7, 58, none⟩), .pointer (some ⟨w.heap.size, 0, none⟩), .int .u64 150] 93)).alloc (.cells #[.pointer (some ⟨7, 58, none⟩), .pointer (some ⟨w.heap.size, 0, none⟩), .int .u64 150] 93)).alloc (.cells #[.pointer (some e)] 56))
    (by rw [World.cell?_alloc_at _ _ _ _ (by simp)]; rfl)
    (by rw [World.cell?_alloc_lt _ _ t (by simp; omega), World.cell?_alloc_lt _ _ t (by simp; omega), World.cell?_alloc_lt _ _ t (by simp; omega), World.cell?_alloc_lt _ _ t htl]; exact ht0)
    (by rw [World.frozen?_alloc_old _ _ t (by simp; omega), World.frozen?_alloc_old _ _ t (by simp; omega), World.frozen?_alloc_old _ _ t (by simp; omega), World.frozen?_alloc_old _ _ t (Nat.ne_of_lt htl)]; exact hf0)
  go_enter Tryz.func40, Tryz.ntmps40
  go_wp2
  refine wp_loop_rounds 1 ?_
  rw [rounds_succ]
  go_wp2
  go_ret
  exact ⟨rfl, rfl⟩
theorem As.typeOf28 (v : Value) (w : World) : (ReflectliteType.typeOf #[.iface 32 v]).run Tryz.prog w = .ok (.iface 143 (.agg #[.pointer (some ⟨7, 32, none⟩)])) w := by kernel_rfl
theorem As.assignable28 (w : World) : (ReflectliteType.relation "AssignableTo" ReflectliteType.assignableTo #[.agg #[.pointer (some ⟨7, 32, none⟩)], .iface 143 (.agg #[.pointer (some ⟨7, 56, none⟩)])]).run Tryz.prog w = .ok (.bool false) w := by kernel_rfl
@[go_sem] theorem As.noAs28 (v : Value) (xT : TypeId) (w : World) : (Instr.typeAssert (.iface 32 v) xT 148 true).run Tryz.prog w = .ok (.tuple #[.nilIface, .bool false]) w := run_typeAssert_lacksB Tryz.underlying148 (by kernel_rfl) (by kernel_rfl) v xT w
@[go_sem] theorem As.noUnwrap28 (v : Value) (xT : TypeId) (w : World) : (Instr.typeAssert (.iface 32 v) xT 151 true).run Tryz.prog w = .ok (.tuple #[.nilIface, .bool false]) w := run_typeAssert_lacksB Tryz.underlying151 (by kernel_rfl) (by kernel_rfl) v xT w
@[go_sem] theorem As.noUnwraps28 (v : Value) (xT : TypeId) (w : World) : (Instr.typeAssert (.iface 32 v) xT 153 true).run Tryz.prog w = .ok (.tuple #[.nilIface, .bool false]) w := run_typeAssert_lacksB Tryz.underlying153 (by kernel_rfl) (by kernel_rfl) v xT w
set_option maxHeartbeats 4000000 in
theorem as_miss (n : Value) (t : Addr) (old : Value) (w : World) (hg : w.cell? ⟨0, 0, none⟩ = some (.iface 143 (.agg #[.pointer (some ⟨7, 29, none⟩)]))) (ht0 : w.cell? t = some old) :
    Calls Tryz.prog 40 #[.iface 32 n, .iface 58 (.pointer (some t))] w fun ev w' => ev = .returned (.bool false) ∧ w' = (((w.alloc (.cells #[.pointer (some t)] 58)).alloc (.cells #[.pointer (some ⟨7, 58, none⟩), .pointer (some ⟨w.heap.size, 0, none⟩), .int .u64 150] 93)).alloc (.cells #[.pointer (some ⟨7, 58, none⟩), .pointer (some ⟨w.heap.size, 0, none⟩), .int .u64 150] 93)) := by
  have h6 := @run_callFunc_extern Tryz.prog 62 _ (fun args => ReflectliteValue.unpack (args.getD 0 (.tuple #[]))) Tryz.func62 (by kernel_rfl) (by kernel_rfl) (by kernel_rfl) (by kernel_rfl)
  have h7 := @run_callFunc_extern Tryz.prog 63 _ (ReflectliteValue.methodAny (ReflectliteValue.valueError "reflectlite.Value.Type" 0) (fun t _ _ _ => ReflectliteType.toType t)) Tryz.func63 (by kernel_rfl) (by kernel_rfl) (by kernel_rfl) (by kernel_rfl)
  have h8 := @run_callFunc_extern Tryz.prog 64 _ (ReflectliteValue.method (ReflectliteValue.valueError "reflectlite.Value.IsNil" 0) ReflectliteValue.isNil) Tryz.func64 (by kernel_rfl) (by kernel_rfl) (by kernel_rfl) (by kernel_rfl)
  have h27 := @run_callFunc_extern Tryz.prog 226 _ (ReflectliteType.abiMethod fun t => do pure (.int .u8 (← Rtype.kind t))) Tryz.func226 (by kernel_rfl) (by kernel_rfl) (by kernel_rfl) (by kernel_rfl)
  have h37 := @run_callFunc_extern Tryz.prog 239 _ (ReflectliteType.method ReflectliteType.elem) Tryz.func239 (by kernel_rfl) (by kernel_rfl) (by kernel_rfl) (by kernel_rfl)
  have h38 := @run_callFunc_extern Tryz.prog 240 _ (ReflectliteType.relation "Implements" ReflectliteType.implements_) Tryz.func240 (by kernel_rfl) (by kernel_rfl) (by kernel_rfl) (by kernel_rfl)
  have h10 := @run_callFunc_extern Tryz.prog 101 _ ReflectliteType.typeOf Tryz.func101 (by kernel_rfl) (by kernel_rfl) (by kernel_rfl) (by kernel_rfl)
  have h35 := @run_callFunc_extern Tryz.prog 237 _ (ReflectliteType.relation "AssignableTo" ReflectliteType.assignableTo) Tryz.func237 (by kernel_rfl) (by kernel_rfl) (by kernel_rfl) (by kernel_rfl)
  have tO := As.typeOf28
  have mA := As.methodAssignableTo
  have a25 := As.assignable28
  have f6 := As.valueOf27
  have f7 := As.type27
  have mK := As.methodKind
  have mE := As.methodElem
  have mI := As.methodImplements
  have k27 := As.kind27
  have k25 := As.kind25
  have e27 := As.elem27
  have i25 := As.implements25
  have n1 := As.noAs28
  have n2 := As.noUnwrap28
  have n3 := As.noUnwraps28
  have n8 := As.isNil27 ⟨w.heap.size, 0, none⟩ t ((w.alloc (.cells #[.pointer (some t)] 58)).alloc (.cells #[.pointer (some ⟨7, 58, none⟩), .pointer (some ⟨w.heap.size, 0, none⟩), .int .u64 150] 93)) (by simp)
  have hlt : 0 < w.heap.size := by
    rcases Nat.eq_zero_or_pos w.heap.size with h0 | h
    · simp [World.cell?, h0] at hg
    · exact h
  have hg2 : ((w.alloc (.cells #[.pointer (some t)] 58)).alloc (.cells #[.pointer (some ⟨7, 58, none⟩), .pointer (some ⟨w.heap.size, 0, none⟩), .int .u64 150] 93)).cell? ⟨0, 0, none⟩ = some (.iface 143 (.agg #[.pointer (some ⟨7, 29, none⟩)])) := by
    rw [World.cell?_alloc_lt _ _ ⟨0, 0, none⟩ (by simp), World.cell?_alloc_lt _ _ ⟨0, 0, none⟩ hlt]; exact hg
  go_enter Tryz.func40, Tryz.ntmps40
  go_wp2
  refine wp_loop_rounds 1 ?_
  rw [rounds_succ]
  go_wp2
  go_ret
  exact ⟨rfl, rfl⟩
end Go.Proofs.YtpdeaekmgljeaaaGreatDoor
namespace Go.Proofs.YtpdeaekmgljeaaaGreatDoor
open Go Go.Abs Go.RowKit
def immS (q k : Int) : D := .imm (some 2) (.agg [.int .i64 q, .int .i64 k]) 0
theorem k_AsHitI {q k : Int} {c : Nat} {σ : Sg} (hc : σ.objs[c]? = some (.cells [.v .pnil])) : ACalls Tryz.prog 40 [.iface 56 (immS q k), .iface 58 (.ptr c 0)] σ fun r σ' => r = .v (.bool true) ∧ σ' = ⟨σ.objs.set c (.cells [immS q k]), σ.toks⟩ := by
  refine ⟨⟨_, Tryz.func40, by kernel_rfl, by kernel_rfl⟩, fun m w us hI hlen hr => ?_⟩
  match us, hlen with
  | [u1, u2], _ =>
  have g1 := hr 0 _ _ rfl rfl
  have g2 := hr 1 _ _ rfl rfl
  cases g1 with
  | iface _ _ u1 g1 =>
  cases g2 with
  | iface _ _ u2 g2 =>
  have g0 := g1
  unfold immS at g1
  cases g1 with
  | imm _ _ _ bo io fo e1 e2 e3 e4 =>
  cases g2 with
  | ptr _ _ bc hbc =>
  have hb := hI.live hc (by simp) hbc
  obtain ⟨us, ty, hh, hsz, hob, hone⟩ := hI.ob c _ bc hc hb
  simp only [List.length_cons, List.length_nil] at hsz
  have hmem : bc ∈ m.objb := Gh.mem_objb.2 (List.mem_of_getElem? hb)
  obtain ⟨⟨cs, tyg, frg, hgh, rfl⟩, hgn⟩ := hI.glob (0, fun cs => cs = #[.iface 143 (.agg #[.pointer (some ⟨7, 29, none⟩)])]) (by simp [globs])
  have hg : w.cell? ⟨0, 0, none⟩ = some (.iface 143 (.agg #[.pointer (some ⟨7, 29, none⟩)])) := by rw [cell_of_row w 0 0 _ tyg frg hgh]; rfl
  have ht0 : w.cell? ⟨bc, 0, none⟩ = some us[0] := by rw [cell_of_row w bc 0 us ty _ hh]; exact Array.getElem?_eq_getElem (by omega)
  have hf0 : w.frozen? ⟨bc, 0, none⟩ = false := by simp [World.frozen?, hh]
  refine (as_hit ⟨bo, io + 0, none⟩ ⟨bc, 0, none⟩ us[0] w hg ht0 hf0).mono fun e w' ⟨he, hw⟩ => ?_
  have hB : Below w.heap.size w ((((w.alloc (.cells #[.pointer (some ⟨bc, 0, none⟩)] 58)).alloc (.cells #[.pointer (some ⟨7, 58, none⟩), .pointer (some ⟨w.heap.size, 0, none⟩), .int .u64 150] 93)).alloc (.cells #[.pointer (some ⟨7, 58, none⟩), .pointer (some ⟨w.heap.size, 0, none⟩), .int .u64 150] 93)).alloc (.cells #[.pointer (some ⟨bo, io + 0, none⟩)] 56)) :=
    ((((Below.refl _ w).alloc (Nat.le_refl _) _).alloc (by simp) _).alloc (by simp; omega) _).alloc (by simp; omega) _
  generalize ((((w.alloc (.cells #[.pointer (some ⟨bc, 0, none⟩)] 58)).alloc (.cells #[.pointer (some ⟨7, 58, none⟩), .pointer (some ⟨w.heap.size, 0, none⟩), .int .u64 150] 93)).alloc (.cells #[.pointer (some ⟨7, 58, none⟩), .pointer (some ⟨w.heap.size, 0, none⟩), .int .u64 150] 93)).alloc (.cells #[.pointer (some ⟨bo, io + 0, none⟩)] 56)) = w1 at hB hw
  subst hw
  have hlt := (Array.getElem?_eq_some_iff.1 hh).1
  have old : ∀ k, k < w.heap.size → k ≠ bc → (w1.setCell ⟨bc, 0, none⟩ (.pointer (some ⟨bo, io + 0, none⟩))).heap[k]? = w.heap[k]? := fun k hk hne => (Below.heap_setCell w1 _ _ k hne).trans (hB.block k hk)
  have hh1 := (hB.block bc hlt).trans hh
  have hX : Ext m w m (w1.setCell ⟨bc, 0, none⟩ (.pointer (some ⟨bo, io + 0, none⟩))) := .turned hmem hB.os hB.tape hB.output (by simp only [World.setCell, Array.size_modify]; exact hB.size) old
  have hheap : (w1.setCell ⟨bc, 0, none⟩ (.pointer (some ⟨bo, io + 0, none⟩))).heap[bc]? = some (.cells (us.setIfInBounds 0 (.pointer (some ⟨bo, io + 0, none⟩))) ty (0, 0)) := by
    simp only [World.setCell, Array.getElem?_modify, if_true, hh1]
    rfl
  have hI' := hI.turned hb hX old (.cells [immS q k]) ⟨_, ty, hheap, by simp; omega, fun i d u hd hu => ?_, trivial⟩
  · exact ⟨_, _, _, m, he, ⟨rfl, rfl⟩, hI', hX, .v _ _ (.bool _)⟩
  · match i with
    | 0 =>
      cases hd
      have hu' : u = .pointer (some ⟨bo, io + 0, none⟩) := by
        rw [Array.getElem?_setIfInBounds_self_of_lt (by omega)] at hu
        exact (Option.some.inj hu).symm
      subst hu'
      exact ⟨g0.mono hX, rfl⟩
    | i + 1 => simp at hd
theorem k_OfSpotI {q k : Int} {σ : Sg} : ACalls Tryz.prog 15 [spotV q k] σ fun r σ' => r = .tup [.v (.int .i64 k), .v (.int .i64 q)] ∧ σ' = σ := by
  unfold spotV
  refine acalls_fit Tryz.func15 (by kernel_rfl) c15 rfl (by simp [a15]) fun hf => ?_
  clear hf
  simp -implicitDefEqProofs (maxSteps := 2000000) (disch := omega) [-getElem?_pos, a15]
  refine (k_AsHitI (q := q) (k := k) (c := σ.objs.length) (σ := ⟨σ.objs ++ [.cells [.v .pnil]], σ.toks⟩) (by simp)).mono fun r σ' hr => ?_
  obtain ⟨rfl, rfl⟩ := hr
  simp -implicitDefEqProofs (maxSteps := 2000000) (disch := omega) [-getElem?_pos, immS]
  exact .fin _ ⟨rfl, rfl⟩ (.refl _)
theorem k_AsNil {d : D} {σ : Sg} : ACalls Tryz.prog 40 [.v .inil, d] σ fun r σ' => r = .v (.bool false) ∧ σ' = σ := by
  refine ⟨⟨_, Tryz.func40, by kernel_rfl, by kernel_rfl⟩, fun m w us hI hlen hr => ?_⟩
  match us, hlen with
  | [u1, u2], _ =>
  have g1 := (hr 0 _ _ rfl rfl).v_inv
  cases g1 with
  | inil =>
  refine (as_nil u2 w).mono fun e w' ⟨he, hw⟩ => ?_
  subst hw
  exact ⟨_, _, σ, m, he, ⟨rfl, rfl⟩, hI, .refl _ _, .v _ _ (.bool _)⟩
theorem k_AsMiss {c : Nat} {n : Int} {σ : Sg} (hc : σ.objs[c]? = some (.cells [.v .pnil])) : ACalls Tryz.prog 40 [.v (.iface 32 (.int .i64 n)), .iface 58 (.ptr c 0)] σ fun r σ' => r = .v (.bool false) ∧ σ' = σ := by
  refine ⟨⟨_, Tryz.func40, by kernel_rfl, by kernel_rfl⟩, fun m w us hI hlen hr => ?_⟩
  match us, hlen with
  | [u1, u2], _ =>
  have g1 := (hr 0 _ _ rfl rfl).v_inv
  have g2 := hr 1 _ _ rfl rfl
  cases g1 with
  | iface _ _ u1 g1 =>
  cases g2 with
  | iface _ _ u2 g2 =>
  cases g2 with
  | ptr _ _ bc hbc =>
  have hb := hI.live hc (by simp) hbc
  obtain ⟨us, ty, hh, hsz, hob, hone⟩ := hI.ob c _ bc hc hb
  simp only [List.length_cons, List.length_nil] at hsz
  obtain ⟨⟨cs, tyg, frg, hgh, rfl⟩, hgn⟩ := hI.glob (0, fun cs => cs = #[.iface 143 (.agg #[.pointer (some ⟨7, 29, none⟩)])]) (by simp [globs])
  have hg : w.cell? ⟨0, 0, none⟩ = some (.iface 143 (.agg #[.pointer (some ⟨7, 29, none⟩)])) := by rw [cell_of_row w 0 0 _ tyg frg hgh]; rfl
  have ht0 : w.cell? ⟨bc, 0, none⟩ = some us[0] := by rw [cell_of_row w bc 0 us ty _ hh]; exact Array.getElem?_eq_getElem (by omega)
  refine (as_miss u1 ⟨bc, 0, none⟩ us[0] w hg ht0).mono fun e w' ⟨he, hw⟩ => ?_
  subst hw
  obtain ⟨hI', hX⟩ := Inv.below hI ((((Below.refl _ w).alloc (Nat.le_refl _) _).alloc (by simp) _).alloc (by simp; omega) _)
  exact ⟨_, _, σ, m, he, ⟨rfl, rfl⟩, hI', hX, .v _ _ (.bool _)⟩
theorem k_Code0 {σ : Sg} : ACalls Tryz.prog 41 [.v .inil] σ fun r σ' => r = .v (.int .i64 0) ∧ σ' = σ := by
  refine acalls_fit Tryz.func41 (by kernel_rfl) c41 rfl (by simp [a41]) fun hf => ?_
  clear hf
  simp -implicitDefEqProofs (maxSteps := 2000000) (disch := omega) [-getElem?_pos, a41]
  exact .fin _ ⟨rfl, rfl⟩ (.refl _)
theorem k_Code1 {σ : Sg} : ACalls Tryz.prog 41 [.v (.iface 32 (.int .i64 1))] σ fun r σ' => r = .v (.int .i64 1) ∧ σ' = σ := by
  refine acalls_fit Tryz.func41 (by kernel_rfl) c41 rfl (by simp [a41]) fun hf => ?_
  clear hf
  simp -implicitDefEqProofs (maxSteps := 2000000) (disch := omega) [-getElem?_pos, a41]
  refine W_loop (α := Nat) 1 (fun k => 1 - k) (fun k => ⟨[(0, .v (.iface 32 (.int .i64 1))), (3, .v (.int .i64 k))], σ⟩) (fun k => k = 1) (.eq (by simp)) rfl fun k hk => ?_
  subst hk
  simp -implicitDefEqProofs (maxSteps := 2000000) (disch := omega) [-getElem?_pos]
  exact ⟨by kernel_rfl, .fin _ ⟨rfl, rfl⟩ (.refl _)⟩
theorem k_Of0 {σ : Sg} : ACalls Tryz.prog 15 [.v .inil] σ fun r σ' => r = .tup [.v (.int .i64 0), .v (.int .i64 (-1))] ∧ σ' = σ := by
  refine acalls_fit Tryz.func15 (by kernel_rfl) c15 rfl (by simp [a15]) fun hf => ?_
  clear hf
  simp -implicitDefEqProofs (maxSteps := 2000000) (disch := omega) [-getElem?_pos, a15]
  refine k_AsNil.then fun r hr => ?_
  subst hr
  simp -implicitDefEqProofs (maxSteps := 2000000) (disch := omega) [-getElem?_pos]
  refine k_Code0.then fun r hr => ?_
  subst hr
  simp -implicitDefEqProofs (maxSteps := 2000000) (disch := omega) [-getElem?_pos]
  exact .fin _ ⟨rfl, rfl⟩ (.refl _)
theorem k_Of1 {σ : Sg} : ACalls Tryz.prog 15 [.v (.iface 32 (.int .i64 1))] σ fun r σ' => r = .tup [.v (.int .i64 1), .v (.int .i64 (-1))] ∧ σ' = σ := by
  refine acalls_fit Tryz.func15 (by kernel_rfl) c15 rfl (by simp [a15]) fun hf => ?_
  clear hf
  simp -implicitDefEqProofs (maxSteps := 2000000) (disch := omega) [-getElem?_pos, a15]
  refine (k_AsMiss (by simp)).then fun r hr => ?_
  subst hr
  simp -implicitDefEqProofs (maxSteps := 2000000) (disch := omega) [-getElem?_pos]
  refine k_Code1.then fun r hr => ?_
  subst hr
  simp -implicitDefEqProofs (maxSteps := 2000000) (disch := omega) [-getElem?_pos]
  exact .fin _ ⟨rfl, rfl⟩ (.refl _)
end Go.Proofs.YtpdeaekmgljeaaaGreatDoor
namespace Go.Proofs.YtpdeaekmgljeaaaGreatDoor
open Go Go.Abs
def r0 : Rn := ⟨[], []⟩
def errArg : D := .v (.iface 32 (.int .i64 1))
def checkD (e : Ex) : D := if mayB e = true then (match (goN e [] r0).r.free with
  | [] => .v .inil
  | q :: _ => spotV q 4) else errArg
def numberD (e : Ex) : D := if mayB e = true then .tup [.v (encE (goN e [] r0).e), .v (vS (goN e [] r0).r.old), .v .inil] else .tup [.v (encE zEx), .v (vS []), errArg]
theorem k_Go0 {e : Ex} {p : Nat} {σ : Sg} (he : csz e ≤ 1048576) (hp : σ.objs[p]? = some (.cells [.v .snil, .v .snil])) : ACalls Tryz.prog 42 [.ptr p 0, .v (encE e), .v .snil] σ fun x σ' => x = .v (encE (goN e [] r0).e) ∧ ∃ a' b' tk', σ' = ⟨σ.objs.set p (renOb a' b' (goN e [] r0).r), tk'⟩ ∧ RStep σ.toks none none r0 tk' a' b' (goN e [] r0).r := by
  refine (k_Go1 e [] false r0 none none p σ he (by simp; omega) (by simp [r0]; omega) (by simp [r0]; omega) hp ⟨rfl, rfl, fun i h => by cases h⟩).args rfl fun i d d' h1 h2 => ?_
  match i with
  | 0 => cases h1; cases h2; exact .refl _
  | 1 => cases h1; cases h2; exact .refl _
  | 2 => cases h1; cases h2; exact VLe.snil.d
  | i + 3 => simp at h1
theorem RStep.ext {tk tk' : List Nat} {r r' : Rn} {a' b' : Option Nat} (h : RStep tk none none r tk' a' b' r') : ∃ ts, tk' = tk ++ ts := by
  refine ⟨tk'.drop tk.length, ?_⟩
  have hx : tk'.take tk.length = tk := by
    apply List.ext_getElem?
    intro i
    rw [List.getElem?_take]
    split
    · rename_i hi
      rw [h.keep i _ (List.getElem?_eq_getElem hi) (by simp) (by simp), List.getElem?_eq_getElem hi]
    · rename_i hi
      rw [List.getElem?_eq_none (by omega)]
  have := List.take_append_drop tk.length tk'
  rw [hx] at this
  exact this.symm
theorem le_zEx : VLe (.agg [.int .i64 0, .int .i64 0, .int .i64 0, .str [], .str [], .snil, .snil, .snil]) (encE zEx) := by
  unfold zEx
  rw [encE_mk]
  refine VLe.agg ?_ fun c hc => ?_
  · exact ⟨.refl _, .refl _, .refl _, .refl _, .refl _, .snil, .snil, .snil, trivial⟩
  simp only [List.map_nil, List.mem_cons, List.not_mem_nil, or_false] at hc
  rcases hc with rfl | rfl | rfl | rfl | rfl | rfl | rfl | rfl <;> rfl
theorem k_Check {e : Ex} {σ : Sg} (he : csz e ≤ 1048576) : ACalls Tryz.prog 16 [.v (encE e)] σ fun r σ' => r = checkD e ∧ σ' = σ := by
  have km := fun σ => k_May (e := e) (σ := σ) he
  have kg := fun p σ => k_Go0 (e := e) (p := p) (σ := σ) he
  have ks := fun q σ => k_SpotF (i := q) (c := 4) (σ := σ)
  have hD : checkD e = if mayB e = true then (match (goN e [] r0).r.free with
    | [] => .v .inil
    | q :: _ => spotV q 4) else errArg := rfl
  have hsz := (goN_len e [] r0).2
  generalize checkD e = D0 at hD ⊢
  generalize mayB e = M at hD km
  generalize goN e [] r0 = X at hD kg hsz
  obtain ⟨y, ⟨old, free⟩⟩ := X
  cases e with
  | mk k p n s t ls ns l =>
  rw [encE_mk] at km kg ⊢
  refine acalls_fit Tryz.func16 (by kernel_rfl) c16 rfl (by simp [a16]) fun hf => ?_
  clear hf
  simp -implicitDefEqProofs (maxSteps := 2000000) (disch := omega) [-getElem?_pos, a16]
  refine (km _).then fun x hx => ?_
  subst hx
  cases M with
  | false =>
    simp -implicitDefEqProofs (maxSteps := 2000000) (disch := omega) [-getElem?_pos]
    exact .fin _ ⟨by rw [hD]; rfl, rfl⟩ (.refl _)
  | true =>
    simp -implicitDefEqProofs (maxSteps := 2000000) (disch := omega) [-getElem?_pos]
    refine (kg (σ.objs.length + 1) _ (by simp)).mono fun x σ' hx => ?_
    obtain ⟨rfl, a', b', tk', rfl, hst⟩ := hx
    obtain ⟨ts, rfl⟩ := hst.ext
    have hob := hst.ob
    unfold renOb
    dsimp only
    cases b' with
    | none =>
      have h0 : free = [] := List.length_eq_zero_iff.1 hob
      subst h0
      simp -implicitDefEqProofs (maxSteps := 2000000) (disch := omega) [-getElem?_pos, tokD]
      exact .fin _ ⟨by rw [hD]; rfl, rfl⟩ (.refl _)
    | some T =>
      cases free with
      | nil =>
        simp -implicitDefEqProofs (maxSteps := 2000000) (disch := omega) [-getElem?_pos, tokD]
        exact .fin _ ⟨by rw [hD]; rfl, rfl⟩ (.refl _)
      | cons q rest =>
        simp -implicitDefEqProofs (maxSteps := 2000000) (disch := omega) [-getElem?_pos, tokD]
        refine (ks q _).then fun x hx => ?_
        subst hx
        simp -implicitDefEqProofs (maxSteps := 2000000) (disch := omega) [-getElem?_pos, spotV]
        exact .fin _ ⟨by rw [hD]; rfl, rfl⟩ (.refl _)
theorem k_Number {e : Ex} {σ : Sg} (he : csz e ≤ 1048576) : ACalls Tryz.prog 17 [.v (encE e)] σ fun r σ' => r = numberD e ∧ σ' = σ := by
  have km := fun σ => k_May (e := e) (σ := σ) he
  have kg := fun p σ => k_Go0 (e := e) (p := p) (σ := σ) he
  have hD : numberD e = if mayB e = true then .tup [.v (encE (goN e [] r0).e), .v (vS (goN e [] r0).r.old), .v .inil] else .tup [.v (encE zEx), .v (vS []), errArg] := rfl
  have hsz := (goN_len e [] r0).1
  generalize numberD e = D0 at hD ⊢
  generalize mayB e = M at hD km
  generalize goN e [] r0 = X at hD kg hsz
  obtain ⟨⟨k8, p8, n8, s8, t8, ls8, ns8, l8⟩, ⟨old, free⟩⟩ := X
  cases e with
  | mk k p n s t ls ns l =>
  rw [encE_mk] at km
  simp only [encE_mk] at kg hD
  rw [encE_mk]
  refine acalls_fit Tryz.func17 (by kernel_rfl) c17 rfl (by simp [a17]) fun hf => ?_
  clear hf
  simp -implicitDefEqProofs (maxSteps := 2000000) (disch := omega) [-getElem?_pos, a17]
  refine (km _).then fun x hx => ?_
  subst hx
  cases M with
  | false =>
    simp -implicitDefEqProofs (maxSteps := 2000000) (disch := omega) [-getElem?_pos]
    exact .fin _ ⟨by rw [hD]; rfl, rfl⟩ (D.Le.tup3 le_zEx.d VLe.snil.d (.refl _))
  | true =>
    simp -implicitDefEqProofs (maxSteps := 2000000) (disch := omega) [-getElem?_pos]
    refine (kg (σ.objs.length + 2) _ (by simp)).mono fun x σ' hx => ?_
    obtain ⟨rfl, a', b', tk', rfl, hst⟩ := hx
    obtain ⟨ts, rfl⟩ := hst.ext
    have hob := hst.oa
    unfold renOb
    dsimp only
    cases a' with
    | none =>
      have h0 : old = [] := List.length_eq_zero_iff.1 hob
      subst h0
      simp -implicitDefEqProofs (maxSteps := 2000000) (disch := omega) [-getElem?_pos, tokD]
      exact .fin _ ⟨by rw [hD]; rfl, rfl⟩ (D.Le.tup3 (.refl _) VLe.snil.d (.refl _))
    | some T =>
      simp -implicitDefEqProofs (maxSteps := 2000000) (disch := omega) [-getElem?_pos, tokD]
      exact .fin _ ⟨by rw [hD]; rfl, rfl⟩ (D.Le.tup3 (.refl _) .tsl (.refl _))
def numOb (a : Option Nat) (r : Rn) : Ob := .cells [tokD a (r.old.map .str), .v (.int .i64 (r.free.headD 0)), .v (.bool (!r.free.isEmpty))]
def o0 (r : Rn) : Rn := ⟨r.old, []⟩
abbrev NOk (tk : List Nat) (a : Option Nat) (r : Rn) : Prop := ROk tk a none (o0 r)
abbrev NStep (tk : List Nat) (a : Option Nat) (r : Rn) (tk' : List Nat) (a' : Option Nat) (r' : Rn) : Prop := RStep tk a none (o0 r) tk' a' none (o0 r')
theorem numOb_low {a : Option Nat} {r : Rn} {tk : List Nat} (h : NOk tk a r) {n : Nat} : (numOb a r).low n tk.length := by
  have h1 := renOb_low h (n := n)
  unfold renOb at h1
  unfold numOb
  exact ⟨h1.1, trivial, trivial, trivial⟩
theorem k_RBindN {a : Option Nat} {r : Rn} {s : Str} {p : Nat} {σ : Sg} (hp : σ.objs[p]? = some (numOb a r)) (ok : NOk σ.toks a r) (hl : r.old.length ≤ 4000000) :
    ACalls Tryz.prog 44 [.ptr p 0, .v (.str s)] σ fun x σ' => x = .v (encFr (s, asR r)) ∧ ∃ a' tk', σ' = ⟨σ.objs.set p (numOb a' (bindR s r)), tk'⟩ ∧ NStep σ.toks a r tk' a' (bindR s r) := by
  have ki := fun σ => k_Itoa (n := (r.old.length : Int)) (σ := σ)
  revert ok
  refine pstart (Q := fun σ => NOk σ.toks a r → ACalls Tryz.prog 44 [.ptr p 0, .v (.str s)] σ fun x σ' => x = .v (encFr (s, asR r)) ∧ ∃ a' tk', σ' = ⟨σ.objs.set p (numOb a' (bindR s r)), tk'⟩ ∧ NStep σ.toks a r tk' a' (bindR s r)) hp fun os tk hl2 ok => ?_
  clear hp σ
  simp only [List.set_set]
  unfold asR
  have ok1 := ok.oa
  dsimp only at ok
  obtain ⟨C, hC⟩ : ∃ C, C = numOb a r := ⟨_, rfl⟩
  cases a with
  | none =>
    have h0 : r.old = [] := List.length_eq_zero_iff.1 ok1
    have e0 : o0 (bindR s r) = bindR s (o0 r) := rfl
    have hst : NStep tk none r (tk ++ [1]) (some tk.length) (bindR s r) := by
      refine ⟨by simp, fun i n h _ _ => ?_, ?_, rfl, fun i h h2 => (by cases h2), .inr ⟨_, rfl, Nat.le_refl _⟩, .inl rfl⟩
      · rw [List.getElem?_append_left (List.getElem?_eq_some_iff.1 h).1]; exact h
      · unfold tokOk
        dsimp only [o0, bindR]
        rw [h0]
        simp
    refine acalls_fit Tryz.func44 (by kernel_rfl) c44 rfl (by simp [a44]) fun hf => ?_
    clear hf
    unfold numOb tokD
    dsimp only
    simp -implicitDefEqProofs (maxSteps := 2000000) (disch := omega) [-getElem?_pos, a44, hl2]
    refine (k_Itoa (n := 0)).then fun r' hr => ?_
    obtain ⟨rfl, hlen⟩ := hr
    simp -implicitDefEqProofs (maxSteps := 2000000) (disch := omega) [-getElem?_pos]
    refine ⟨by omega, ?_⟩
    rw [h0]
    refine PostV.keepS _ ⟨rfl, some tk.length, tk ++ [1], by simp [bindR, h0], hst⟩ (.refl _) (by simp) (by simp) (low_set2 (by simp))
  | some T =>
    unfold tokOk at ok1
    dsimp only [o0] at ok1
    have hT := (List.getElem?_eq_some_iff.1 ok1).1
    have hst : NStep tk (some T) r (tk.set T (r.old.length + 1)) (some T) (bindR s r) := by
      refine ⟨by simp, fun i n h hne _ => ?_, ?_, rfl, fun i h h2 => (by cases h2), .inl rfl, .inl rfl⟩
      · rw [List.getElem?_set_ne (fun e => hne (by rw [e]))]; exact h
      · unfold tokOk
        dsimp only [o0, bindR]
        rw [List.getElem?_set_self hT, List.length_append]
        rfl
    refine acalls_fit Tryz.func44 (by kernel_rfl) c44 rfl (by simp [a44]) fun hf => ?_
    clear hf
    unfold numOb tokD
    dsimp only
    simp -implicitDefEqProofs (maxSteps := 2000000) (disch := omega) [-getElem?_pos, a44, hl2, ok1]
    refine ⟨by omega, (ki _).then fun r' hr => ?_⟩
    obtain ⟨rfl, hlen⟩ := hr
    simp -implicitDefEqProofs (maxSteps := 2000000) (disch := omega) [-getElem?_pos]
    refine ⟨by omega, ?_⟩
    refine PostV.keepS _ ⟨rfl, some T, tk.set T (r.old.length + 1), by simp [bindR], hst⟩ (.refl _) (by simp) (by simp) (low_set2 (by simp; omega))
theorem k_RMore {f : Bool} {l : List Frm} {x : Frm} {σ : Sg} (hl : l.length ≤ 4000000) : ACalls Tryz.prog 45 [.v (.sl (some 2) f (l.map encFr)), .v (encFr x)] σ fun r σ' => r = .v (vF (l ++ [x])) ∧ σ' = σ := by
  obtain ⟨x1, x2⟩ := x
  unfold encFr
  refine acalls_fit Tryz.func45 (by kernel_rfl) c45 rfl (by simp [a45]) fun hf => ?_
  clear hf
  simp -implicitDefEqProofs (maxSteps := 2000000) (disch := omega) [-getElem?_pos, a45]
  exact ⟨by omega, by omega, .fin _ ⟨by unfold vF; rw [List.map_append]; rfl, rfl⟩ .tsl⟩
end Go.Proofs.YtpdeaekmgljeaaaGreatDoor
namespace Go.Proofs.YtpdeaekmgljeaaaGreatDoor
open Go.Shelf
end Go.Proofs.YtpdeaekmgljeaaaGreatDoor
namespace Go.Proofs.YtpdeaekmgljeaaaGreatDoor
open Go Go.Abs Go.Maps Go.Sort Go.RowKit Go.Shelf Go.WideElems
theorem flat_str : ∀ l : List Str, V.flat (l.map V.str) = l.map V.str
  | [] => rfl
  | a :: l => by
    have := flat_str l
    simp only [V.flat, List.map_cons, List.flatMap_cons] at *
    rw [this]
    rfl
end Go.Proofs.YtpdeaekmgljeaaaGreatDoor
namespace Go.Proofs.YtpdeaekmgljeaaaGreatDoor
open Go Go.Abs
def bnd (k : Int) (s t : Str) (ls ns : List Str) (i : Nat) : List Str :=
  if k = 4 then (if i = 0 then [s] else [])
  else if k = 6 then (if i = 1 then [s] else [])
  else if k = 7 then (if i = 1 then [s] else if i = 0 then [s, t] else [])
  else if k = 14 then (if i = 0 then [] else if i ≤ ns.length ∧ i ≤ ls.length then (ns[i - 1]?).toList else [t])
  else []
mutual
def fvs : Ex → List Str
  | .mk k _ _ s t ls ns l => (if k = 3 then [s] else []) ++ fvL k s t ls ns 0 l
def fvL (k : Int) (s t : Str) (ls ns : List Str) : Nat → List Ex → List Str
  | _, [] => []
  | i, x :: l => (fvs x).filter (fun y => !decide (y ∈ bnd k s t ls ns i)) ++ fvL k s t ls ns (i + 1) l
end
def items : List Str → List Str → List Str
  | s :: ls, x :: xs => (s ++ [32, 61, 32] ++ x) :: items ls xs
  | _, _ => []
def soleK (k : Int) : Bool := k == 1 || (k == 2 || (k == 3 || (k == 8 || (k == 10 || (k == 12 || k == 22)))))
def smallT (q : Int × Str) : Str := if soleK q.1 = true then q.2 else [40] ++ q.2 ++ [41]
def armL : List Str → List Str → List Str → List Str
  | a :: ls, n :: ns, x :: xs => ([32, 124, 32] ++ a ++ [32] ++ n ++ [32, 45, 62, 32] ++ x) :: armL ls ns xs
  | _, _, _ => []
def txQ (q : List (Int × Str)) (i : Nat) : Str := (q.map (·.2)).getD i []
def smQ (q : List (Int × Str)) (i : Nat) : Str := match q[i]? with
  | some x => smallT x
  | none => []
def elseT (t : Str) (x : Str) : Str := if t = [] then [] else [32, 124, 32] ++ t ++ [32, 45, 62, 32] ++ x
def headK (k : Int) (s : Str) : Str := if k = 17 then [114, 101, 102, 32] else if k = 20 then [112, 114, 105, 110, 116, 32] else if k = 21 then [115, 104, 111, 119, 32] else if k = 18 then [33] else s ++ [32]
def showK (k n : Int) (s t : Str) (ls ns : List Str) (q : List (Int × Str)) : Str :=
  if k = 1 then Lib.itoa n
  else if k = 2 then (quoteE s).getD []
  else if k = 3 then s
  else if k = 4 then [102, 110, 32] ++ s ++ [32, 45, 62, 32] ++ txQ q 0
  else if k = 5 then smQ q 0 ++ [32] ++ smQ q 1
  else if k = 6 then [108, 101, 116, 32] ++ s ++ [32, 61, 32] ++ txQ q 0 ++ [32, 105, 110, 32] ++ txQ q 1
  else if k = 7 then [108, 101, 116, 32, 114, 101, 99, 32] ++ s ++ [32] ++ t ++ [32, 61, 32] ++ txQ q 0 ++ [32, 105, 110, 32] ++ txQ q 1
  else if k = 8 then [123] ++ Lib.join (items ls (q.map (·.2))) [44, 32] ++ [125]
  else if k = 9 then smQ q 0 ++ [46] ++ s
  else if k = 10 then [123] ++ s ++ [32, 61, 32] ++ txQ q 0 ++ [32, 124, 32] ++ txQ q 1 ++ [125]
  else if k = 11 then smQ q 0 ++ [92] ++ s
  else if k = 12 then [123] ++ smQ q 1 ++ [32, 119, 105, 116, 104, 32] ++ s ++ [32, 61, 32] ++ txQ q 0 ++ [125]
  else if k = 14 then [109, 97, 116, 99, 104, 32] ++ txQ q 0 ++ [32, 119, 105, 116, 104] ++ (armL ls ns ((q.map (·.2)).drop 1)).flatten ++ elseT t (txQ q (ls.length + 1)) ++ [32, 101, 110, 100]
  else if k = 15 then [105, 102, 32] ++ txQ q 0 ++ [32, 116, 104, 101, 110, 32] ++ txQ q 1 ++ [32, 101, 108, 115, 101, 32] ++ txQ q 2
  else if k = 16 then smQ q 0 ++ [32] ++ s ++ [32] ++ smQ q 1
  else if k = 19 then smQ q 0 ++ [32, 58, 61, 32] ++ smQ q 1
  else if k = 22 then [114, 101, 97, 100]
  else headK k s ++ smQ q 0
def kdE : Ex → Int
  | .mk k _ _ _ _ _ _ _ => k
mutual
def showL : Ex → Str
  | .mk k _ n s t ls ns l => showK k n s t ls ns (showQ l)
def showQ : List Ex → List (Int × Str)
  | [] => []
  | x :: l => (kdE x, showL x) :: showQ l
end
mutual
def intsE : Ex → Prop
  | .mk _ _ n _ _ _ _ l => (-9223372036854775808 ≤ n ∧ n ≤ 9223372036854775807) ∧ intsL l
def intsL : List Ex → Prop
  | [] => True
  | x :: l => intsE x ∧ intsL l
end
structure CT where
  k : Int
  n : Nat
  s : Str
def core (t : Tk) : CT := ⟨t.k, t.n, t.s⟩
@[reducible] def wdT (s : Str) : CT := ⟨2, 0, s⟩
@[reducible] def sgT (s : Str) : CT := ⟨6, 0, s⟩
theorem name_of {s : Str} (h : isL s 1 = true) : ∃ c r, s = c :: r ∧ lowB c = true ∧ (∀ x ∈ s, ldB x = true) ∧ s ∉ wordsL ∧ s.length ≤ 20 := by
  have h := isL_imp (.inl rfl) h
  cases s with
  | nil => cases h
  | cons c r =>
    unfold isR at h
    dsimp only at h
    by_cases hl : 20 < (c :: r).length
    · rw [if_pos hl] at h
      cases h
    rw [if_neg hl] at h
    refine ⟨c, r, rfl, ?_⟩
    cases ho : oneL (c :: r) 0 c with
    | bad q => rw [ho] at h; cases h
    | tok t to =>
      rw [ho] at h
      simp only [Bool.and_eq_true, decide_eq_true_eq] at h
      obtain ⟨hto, htk⟩ := h
      have ho2 := ho
      unfold oneL at ho
      split at ho
      · rename_i hlo
        unfold nameN at ho
        split at ho
        · cases ho
        · cases ho
          have hfull : passS ldB (c :: r) 0 = c :: r := passS_full (by unfold spanE at hto; unfold passS; omega)
          have hall := passS_all (q := ldB) (b := c :: r) (i := 0)
          rw [hfull] at hall htk
          refine ⟨hlo, hall, ?_, by omega⟩
          intro hw
          dsimp only at htk
          rw [if_pos hw] at htk
          cases htk
      · rename_i hlo
        split at ho
        · unfold nameN at ho
          split at ho
          · cases ho
          · cases ho
            cases htk
        · rename_i hup
          obtain ⟨hlet, _⟩ := tok_name ho2 (.inl htk)
          rcases hlet with h | h
          · exact absurd h hlo
          · exact absurd h hup
theorem numV_snoc : ∀ (s : Str) (c : UInt8) (n : Nat), numV (s ++ [c]) n = numV s n * 10 + (c.toNat - 48)
  | [], c, n => rfl
  | x :: s, c, n => by rw [List.cons_append, numV_cons, numV_snoc s c, numV_cons]
theorem digit_ok {u : Nat} (h : u < 10) : (UInt8.ofNat (48 + u)).toNat = 48 + u := by
  rw [UInt8.toNat_ofNat']
  omega
theorem dec_ok (u : Nat) : (∃ c r, Lib.decDigits u = c :: r ∧ ¬ (1 < (Lib.decDigits u).length ∧ c.toNat = 48) ∧ (1 ≤ u → c.toNat ≠ 48)) ∧ (∀ x ∈ Lib.decDigits u, digB x = true) ∧ numV (Lib.decDigits u) 0 = u := by
  induction u using Nat.strongRecOn with
  | _ u ih =>
    by_cases h : u < 10
    · rw [Lib.decDigits, dif_pos h]
      have hd := digit_ok h
      refine ⟨⟨_, _, rfl, by simp, fun h1 => by omega⟩, ?_, ?_⟩
      · intro x hx
        simp only [List.mem_singleton] at hx
        subst hx
        unfold digB
        rw [hd]
        simp only [Bool.and_eq_true, decide_eq_true_eq]
        omega
      · rw [numV_cons, numV_nil, hd]
        omega
    · rw [Lib.decDigits, dif_neg h]
      have hd := digit_ok (u := u % 10) (by omega)
      obtain ⟨⟨c, r, h1, h2, h3⟩, h4, h5⟩ := ih (u / 10) (by omega)
      refine ⟨⟨c, r ++ [UInt8.ofNat (48 + u % 10)], by rw [h1]; rfl, fun hh => h3 (by omega) hh.2, fun _ => h3 (by omega)⟩, ?_, ?_⟩
      · intro x hx
        rcases List.mem_append.1 hx with hx | hx
        · exact h4 x hx
        · simp only [List.mem_singleton] at hx
          subst hx
          unfold digB
          rw [hd]
          simp only [Bool.and_eq_true, decide_eq_true_eq]
          omega
      · rw [numV_snoc, h5, hd]
        omega
def ownBs (k : Int) (s t : Str) (ns : List Str) : List Str :=
  if k = 4 ∨ k = 6 then [s] else if k = 7 then [s, t] else if k = 14 then ns ++ (if t = [] then [] else [t]) else []
mutual
def bndrs : Ex → List Str
  | .mk k _ _ s t _ ns l => ownBs k s t ns ++ bndrsL l
def bndrsL : List Ex → List Str
  | [] => []
  | x :: l => bndrs x ++ bndrsL l
end
def vN (i : Nat) : Str := [118] ++ Lib.itoa (i : Int)
theorem asR_vN (r : Rn) : asR r = vN r.old.length := rfl
theorem vN_ne (i : Nat) : vN i ≠ [] := by simp [vN]
theorem itoa_nat (i : Nat) : Lib.itoa (i : Int) = Lib.decDigits i := by unfold Lib.itoa; rw [if_neg (by omega)]; rfl
def vNs (a n : Nat) : List Str := (List.range' a n).map vN
theorem vNs_add (a m n : Nat) : vNs a m ++ vNs (a + m) n = vNs a (m + n) := by
  unfold vNs
  rw [← List.map_append, List.range'_append_1]
theorem namesR_as : ∀ (ns : List Str) (r : Rn), (namesR ns r).1.map (·.2) = vNs r.old.length ns.length
  | [], r => rfl
  | x :: l, r => by
    have h := namesR_as l (bindR x r)
    simp only [namesR, List.map_cons]
    rw [h]
    simp only [bindR, List.length_append, List.length_singleton, List.length_cons, asR_vN, List.length_nil, Nat.zero_add]
    unfold vNs
    rw [List.range'_succ, List.map_cons]
theorem head_own (k p : Int) (s t : Str) (ns : List Str) (env : List Frm) (r : Rn) : r.old.length ≤ (headN k p s t ns env r).r.old.length ∧
    ownBs k (headN k p s t ns env r).s (headN k p s t ns env r).t (headN k p s t ns env r).ns = vNs r.old.length ((headN k p s t ns env r).r.old.length - r.old.length) := by
  have h1 := namesR_len ns r
  have h2 := namesR_as ns r
  unfold headN
  by_cases h3 : k = 3
  · subst h3
    rw [if_pos rfl]
    have e : (if (findF env s).2 = true then r else ⟨r.old, r.free ++ [p]⟩ : Rn).old = r.old := by split <;> rfl
    dsimp only
    rw [e]
    simp [ownBs, vNs]
  rw [if_neg h3]
  by_cases h4 : k = 4 ∨ k = 6
  · rw [if_pos h4]
    simp only [ownBs, if_pos h4, bindR, List.length_append, List.length_singleton, asR_vN]
    refine ⟨by omega, ?_⟩
    rw [show r.old.length + 1 - r.old.length = 1 by omega]
    simp [vNs]
  rw [if_neg h4]
  by_cases h7 : k = 7
  · rw [if_pos h7]
    simp only [ownBs, if_neg h4, if_pos h7, bindR, List.length_append, List.length_singleton, asR_vN]
    refine ⟨by omega, ?_⟩
    rw [show r.old.length + 1 + 1 - r.old.length = 2 by omega]
    simp [vNs, List.range'_succ]
  rw [if_neg h7]
  by_cases h14 : k = 14
  · rw [if_pos h14]
    by_cases ht : t = []
    · rw [if_pos ht]
      simp only [ownBs, if_neg h4, if_neg h7, if_pos h14, if_pos ht, List.append_nil]
      refine ⟨by omega, ?_⟩
      rw [h2, h1.2.1, show r.old.length + ns.length - r.old.length = ns.length by omega]
    · rw [if_neg ht]
      have hv : asR (namesR ns r).2 ≠ [] := by rw [asR_vN]; exact vN_ne _
      simp only [ownBs, if_neg h4, if_neg h7, if_pos h14, if_neg hv, bindR, List.length_append, List.length_singleton]
      refine ⟨by omega, ?_⟩
      rw [h2, asR_vN, h1.2.1, show r.old.length + ns.length + 1 - r.old.length = ns.length + 1 by omega, ← vNs_add]
      simp [vNs]
  rw [if_neg h14]
  simp [ownBs, h4, h7, h14, vNs]
theorem goN_bndrs (e : Ex) : ∀ (env : List Frm) (r : Rn), r.old.length ≤ (goN e env r).r.old.length ∧ bndrs (goN e env r).e = vNs r.old.length ((goN e env r).r.old.length - r.old.length) := by
  refine Ex.ind (P := fun e => ∀ (env : List Frm) (r : Rn), r.old.length ≤ (goN e env r).r.old.length ∧ bndrs (goN e env r).e = vNs r.old.length ((goN e env r).r.old.length - r.old.length)) (fun k p n s t ls ns l ih => ?_) e
  intro env r
  have hh := head_own k p s t ns env r
  rw [goN]
  dsimp only
  rw [bndrs]
  generalize headN k p s t ns env r = h at *
  have hL : ∀ (l : List Ex) (i : Nat) (r : Rn), (∀ x ∈ l, ∀ (env : List Frm) (r : Rn), r.old.length ≤ (goN x env r).r.old.length ∧ bndrs (goN x env r).e = vNs r.old.length ((goN x env r).r.old.length - r.old.length)) →
      r.old.length ≤ (goL k h env i l r).r.old.length ∧ bndrsL (goL k h env i l r).l = vNs r.old.length ((goL k h env i l r).r.old.length - r.old.length) := by
    intro l
    induction l with
    | nil => intro i r _; simp [goL, bndrsL, vNs]
    | cons x l ihl =>
      intro i r hx
      obtain ⟨a1, a2⟩ := hx x (by simp) (innerN k h env i) r
      obtain ⟨b1, b2⟩ := ihl (i + 1) (goN x (innerN k h env i) r).r fun y hy => hx y (by simp [hy])
      simp only [goL, bndrsL]
      refine ⟨by omega, ?_⟩
      rw [a2, b2]
      have := vNs_add r.old.length ((goN x (innerN k h env i) r).r.old.length - r.old.length) ((goL k h env (i + 1) l (goN x (innerN k h env i) r).r).r.old.length - (goN x (innerN k h env i) r).r.old.length)
      rw [show r.old.length + ((goN x (innerN k h env i) r).r.old.length - r.old.length) = (goN x (innerN k h env i) r).r.old.length by omega] at this
      rw [this]
      congr 1
      omega
  obtain ⟨c1, c2⟩ := hL l 0 h.r ih
  refine ⟨by omega, ?_⟩
  rw [hh.2, c2]
  have := vNs_add r.old.length (h.r.old.length - r.old.length) ((goL k h env 0 l h.r).r.old.length - h.r.old.length)
  rw [show r.old.length + (h.r.old.length - r.old.length) = h.r.old.length by omega] at this
  rw [this]
  congr 1
  omega
def dup (f : Frm) : Frm := (f.2, f.2)
theorem findF_dup (env : List Frm) (s : Str) : (findF (env.map dup) s).1 = s := by
  unfold findF
  cases h : (env.map dup).reverse.find? fun x => decide (x.1 = s) with
  | none => rfl
  | some x =>
    have h1 := List.find?_some h
    have h2 := List.mem_of_find?_eq_some h
    simp only [List.mem_reverse, List.mem_map] at h2
    obtain ⟨f, _, rfl⟩ := h2
    exact of_decide_eq_true h1
theorem namesR_again : ∀ (ns : List Str) (r r2 : Rn), r2.old.length = r.old.length → (namesR ((namesR ns r).1.map (·.2)) r2).1 = (namesR ns r).1.map dup
  | [], r, r2, h => rfl
  | x :: l, r, r2, h => by
    have h1 := namesR_again l (bindR x r) (bindR (asR r) r2) (by simp [bindR, h])
    have e : asR r2 = asR r := by rw [asR_vN, asR_vN, h]
    simp only [namesR, List.map_cons, h1, e]
    rfl
structure HdR (h g : Hd) : Prop where
  s : g.s = h.s
  t : g.t = h.t
  ns : g.ns = h.ns
  fs : g.fs = dup h.fs
  ft : g.ft = dup h.ft
  fn : g.fn = h.fn.map dup
  r : g.r.old.length = h.r.old.length
theorem head_again (k p : Int) (s t : Str) (ns : List Str) (env : List Frm) (r r2 : Rn) (h0 : r2.old.length = r.old.length) :
    HdR (headN k p s t ns env r) (headN k p (headN k p s t ns env r).s (headN k p s t ns env r).t (headN k p s t ns env r).ns (env.map dup) r2) := by
  have e : asR r2 = asR r := by rw [asR_vN, asR_vN, h0]
  have hz : zF = dup zF := rfl
  by_cases h3 : k = 3
  · subst h3
    have g : headN 3 p s t ns env r = ⟨(findF env s).1, t, [], zF, zF, [], if (findF env s).2 = true then r else ⟨r.old, r.free ++ [p]⟩⟩ := by unfold headN; rw [if_pos rfl]
    rw [g]
    dsimp only
    have g2 := headN.eq_1 3 p (findF env s).1 t [] (env.map dup) r2
    rw [if_pos rfl] at g2
    rw [g2]
    refine ⟨findF_dup env _, rfl, rfl, rfl, rfl, rfl, ?_⟩
    dsimp only
    have e1 : (if (findF env s).2 = true then r else ⟨r.old, r.free ++ [p]⟩ : Rn).old = r.old := by split <;> rfl
    have e2 : (if (findF (env.map dup) (findF env s).1).2 = true then r2 else ⟨r2.old, r2.free ++ [p]⟩ : Rn).old = r2.old := by split <;> rfl
    rw [e1, e2, h0]
  by_cases h4 : k = 4 ∨ k = 6
  · have g : headN k p s t ns env r = ⟨asR r, t, [], (s, asR r), zF, [], bindR s r⟩ := by unfold headN; rw [if_neg h3, if_pos h4]
    rw [g]
    dsimp only
    have g2 := headN.eq_1 k p (asR r) t [] (env.map dup) r2
    rw [if_neg h3, if_pos h4] at g2
    rw [g2]
    refine ⟨e, rfl, rfl, by rw [e]; rfl, rfl, rfl, by simp [bindR, h0]⟩
  by_cases h7 : k = 7
  · have g : headN k p s t ns env r = ⟨asR r, asR (bindR s r), [], (s, asR r), (t, asR (bindR s r)), [], bindR t (bindR s r)⟩ := by unfold headN; rw [if_neg h3, if_neg h4, if_pos h7]
    rw [g]
    dsimp only
    have g2 := headN.eq_1 k p (asR r) (asR (bindR s r)) [] (env.map dup) r2
    rw [if_neg h3, if_neg h4, if_pos h7] at g2
    rw [g2]
    have e2 : asR (bindR (asR r) r2) = asR (bindR s r) := by simp only [asR_vN, bindR, List.length_append, List.length_singleton, h0]
    refine ⟨e, e2, rfl, by dsimp only; rw [e]; rfl, by dsimp only; rw [e2]; rfl, rfl, by simp [bindR, h0]⟩
  by_cases h14 : k = 14
  · have hl := namesR_len ns r
    have ha := namesR_again ns r r2 h0
    have hl2 := namesR_len ((namesR ns r).1.map (·.2)) r2
    have hm : (namesR ((namesR ns r).1.map (·.2)) r2).1.map (·.2) = (namesR ns r).1.map (·.2) := by rw [ha, List.map_map]; rfl
    have hr : (namesR ((namesR ns r).1.map (·.2)) r2).2.old.length = (namesR ns r).2.old.length := by rw [hl2.2.1, hl.2.1, List.length_map, hl.1, h0]
    have ea : asR (namesR ((namesR ns r).1.map (·.2)) r2).2 = asR (namesR ns r).2 := by rw [asR_vN, asR_vN, hr]
    by_cases ht : t = []
    · have g : headN k p s t ns env r = ⟨s, t, (namesR ns r).1.map (·.2), zF, zF, (namesR ns r).1, (namesR ns r).2⟩ := by unfold headN; rw [if_neg h3, if_neg h4, if_neg h7, if_pos h14, if_pos ht]
      rw [g]
      dsimp only
      have g2 := headN.eq_1 k p s t ((namesR ns r).1.map (·.2)) (env.map dup) r2
      rw [if_neg h3, if_neg h4, if_neg h7, if_pos h14, if_pos ht] at g2
      rw [g2]
      exact ⟨rfl, rfl, hm, rfl, rfl, ha, hr⟩
    · have g : headN k p s t ns env r = ⟨s, asR (namesR ns r).2, (namesR ns r).1.map (·.2), zF, (t, asR (namesR ns r).2), (namesR ns r).1, bindR t (namesR ns r).2⟩ := by unfold headN; rw [if_neg h3, if_neg h4, if_neg h7, if_pos h14, if_neg ht]
      have hv : asR (namesR ns r).2 ≠ [] := by rw [asR_vN]; exact vN_ne _
      rw [g]
      dsimp only
      have g2 := headN.eq_1 k p s (asR (namesR ns r).2) ((namesR ns r).1.map (·.2)) (env.map dup) r2
      rw [if_neg h3, if_neg h4, if_neg h7, if_pos h14, if_neg hv] at g2
      rw [g2]
      exact ⟨rfl, ea, hm, rfl, by dsimp only; rw [ea]; rfl, ha, by simp [bindR, hr]⟩
  have g : headN k p s t ns env r = ⟨s, t, [], zF, zF, [], r⟩ := by unfold headN; rw [if_neg h3, if_neg h4, if_neg h7, if_neg h14]
  rw [g]
  dsimp only
  have g2 := headN.eq_1 k p s t [] (env.map dup) r2
  rw [if_neg h3, if_neg h4, if_neg h7, if_neg h14] at g2
  rw [g2]
  exact ⟨rfl, rfl, rfl, rfl, rfl, rfl, h0⟩
theorem inner_again {k : Int} {h g : Hd} {env : List Frm} {i : Nat} (hr : HdR h g) : innerN k g (env.map dup) i = (innerN k h env i).map dup := by
  unfold innerN
  rw [hr.fs, hr.ft, hr.fn, List.length_map]
  split
  · simp
  · split
    · simp
    · split
      · rename_i hc
        simp only [List.map_append, List.map_cons, List.map_nil, List.getElem?_map]
        congr 2
        cases h.fn[i - 1]? <;> rfl
      · split <;> simp
theorem again (e : Ex) : ∀ (env : List Frm) (r r2 : Rn), r2.old.length = r.old.length → (goN (goN e env r).e (env.map dup) r2).e = (goN e env r).e ∧ (goN (goN e env r).e (env.map dup) r2).r.old.length = (goN e env r).r.old.length := by
  refine Ex.ind (P := fun e => ∀ (env : List Frm) (r r2 : Rn), r2.old.length = r.old.length → (goN (goN e env r).e (env.map dup) r2).e = (goN e env r).e ∧ (goN (goN e env r).e (env.map dup) r2).r.old.length = (goN e env r).r.old.length) (fun k p n s t ls ns l ih => ?_) e
  intro env r r2 h0
  have hh := head_again k p s t ns env r r2 h0
  have g0 := goN.eq_1 env r k p n s t ls ns l
  rw [g0]
  dsimp only
  generalize headN k p s t ns env r = h at *
  rw [goN]
  dsimp only
  generalize headN k p h.s h.t h.ns (env.map dup) r2 = g at *
  have hL : ∀ (l : List Ex) (i : Nat) (r r2 : Rn), r2.old.length = r.old.length → (∀ x ∈ l, ∀ (env : List Frm) (r r2 : Rn), r2.old.length = r.old.length → (goN (goN x env r).e (env.map dup) r2).e = (goN x env r).e ∧ (goN (goN x env r).e (env.map dup) r2).r.old.length = (goN x env r).r.old.length) →
      (goL k g (env.map dup) i (goL k h env i l r).l r2).l = (goL k h env i l r).l ∧ (goL k g (env.map dup) i (goL k h env i l r).l r2).r.old.length = (goL k h env i l r).r.old.length := by
    intro l
    induction l with
    | nil => intro i r r2 h0 _; simp [goL, h0]
    | cons x l ihl =>
      intro i r r2 h0 hx
      obtain ⟨a1, a2⟩ := hx x (by simp) (innerN k h env i) r r2 h0
      obtain ⟨b1, b2⟩ := ihl (i + 1) (goN x (innerN k h env i) r).r _ a2 fun y hy => hx y (by simp [hy])
      simp only [goL, inner_again hh]
      rw [a1]
      exact ⟨by rw [b1], b2⟩
  obtain ⟨c1, c2⟩ := hL l 0 h.r g.r hh.r ih
  rw [hh.s, hh.t, hh.ns, c1]
  exact ⟨rfl, c2⟩
theorem again_nil (e : Ex) : (goN (goN e [] ⟨[], []⟩).e [] ⟨[], []⟩).e = (goN e [] ⟨[], []⟩).e := (again e [] ⟨[], []⟩ ⟨[], []⟩ rfl).1
def inE (env : List Frm) (v : Str) : Prop := ∃ f ∈ env, f.1 = v
theorem findF_in {env : List Frm} {s : Str} : (findF env s).2 = true ↔ inE env s := by
  unfold findF
  cases h : env.reverse.find? fun x => decide (x.1 = s) with
  | none =>
    rw [List.find?_eq_none] at h
    refine ⟨fun h0 => (by cases h0), fun hx => ?_⟩
    obtain ⟨f, hf, he⟩ := hx
    exact absurd he (by simpa using h f (by simpa using hf))
  | some x =>
    have h1 := List.find?_some h
    have h2 := List.mem_of_find?_eq_some h
    exact ⟨fun _ => ⟨x, by simpa using h2, by simpa using h1⟩, fun _ => rfl⟩
mutual
def sound : Ex → Prop
  | .mk k _ _ _ _ ls ns l => ((k = 14 → ns.length = ls.length) ∧ (k = 4 → l.length ≤ 1) ∧ (k = 7 → l.length ≤ 2)) ∧ soundL l
def soundL : List Ex → Prop
  | [] => True
  | x :: l => sound x ∧ soundL l
end
theorem namesR_fst : ∀ (ns : List Str) (r : Rn), (namesR ns r).1.map (·.1) = ns
  | [], r => rfl
  | x :: l, r => by simp only [namesR, List.map_cons, namesR_fst l]
theorem inner_in {k p : Int} {s t : Str} {ls ns : List Str} {env : List Frm} {r : Rn} {i : Nat} {v : Str} (hn : k = 14 → ns.length = ls.length) (hi : k = 4 → i = 0) (hi7 : k = 7 → i < 2) :
    inE (innerN k (headN k p s t ns env r) env i) v ↔ inE env v ∨ v ∈ bnd k s t ls ns i := by
  have one : ∀ (f : Frm), inE (env ++ [f]) v ↔ inE env v ∨ v = f.1 := by
    intro f
    unfold inE
    constructor
    · rintro ⟨g, hg, rfl⟩
      rcases List.mem_append.1 hg with hg | hg
      · exact .inl ⟨g, hg, rfl⟩
      · rw [List.mem_singleton.1 hg]; exact .inr rfl
    · rintro (⟨g, hg, rfl⟩ | rfl)
      · exact ⟨g, List.mem_append_left _ hg, rfl⟩
      · exact ⟨f, by simp, rfl⟩
  by_cases h4 : k = 4
  · have h0 := hi h4
    subst h4 h0
    simp [innerN, headN, bnd, one]
  by_cases h6 : k = 6
  · subst h6
    by_cases h1 : i = 1
    · subst h1; simp [innerN, headN, bnd, one]
    · simp [innerN, headN, bnd, h1]
  by_cases h7 : k = 7
  · subst h7
    have h2 := hi7 rfl
    by_cases h1 : i = 1
    · subst h1; simp [innerN, headN, bnd, one]
    · have h0 : i = 0 := by omega
      subst h0
      have e : innerN 7 (headN 7 p s t ns env r) env 0 = (env ++ [(s, asR r)]) ++ [(t, asR (bindR s r))] := by simp [innerN, headN]
      rw [e]
      have two : ∀ (f g : Frm), inE ((env ++ [f]) ++ [g]) v ↔ inE env v ∨ v = f.1 ∨ v = g.1 := by
        intro f g
        unfold inE
        constructor
        · rintro ⟨x, hx, rfl⟩
          simp only [List.append_assoc, List.mem_append, List.mem_singleton] at hx
          rcases hx with hx | rfl | rfl
          · exact .inl ⟨x, hx, rfl⟩
          · exact .inr (.inl rfl)
          · exact .inr (.inr rfl)
        · rintro (⟨x, hx, rfl⟩ | rfl | rfl)
          · exact ⟨x, by simp [hx], rfl⟩
          · exact ⟨f, by simp, rfl⟩
          · exact ⟨g, by simp, rfl⟩
      rw [two]
      simp [bnd]
  by_cases h14 : k = 14
  · subst h14
    have hnl := hn rfl
    have hl := namesR_len ns r
    have hf := namesR_fst ns r
    have hfn : (headN 14 p s t ns env r).fn = (namesR ns r).1 := by unfold headN; simp; split <;> rfl
    by_cases h0 : i = 0
    · subst h0; simp [innerN, bnd]
    have hpos : 0 < i := by omega
    by_cases hil : i ≤ ns.length
    · have e : innerN 14 (headN 14 p s t ns env r) env i = env ++ [((namesR ns r).1[i - 1]?).getD zF] := by
        unfold innerN
        rw [hfn]
        simp [hpos, hl.1, hil]
      have hx : (namesR ns r).1[i - 1]?.map (·.1) = ns[i - 1]? := by rw [← List.getElem?_map, hf]
      obtain ⟨x, hx2⟩ : ∃ x, (namesR ns r).1[i - 1]? = some x := ⟨_, List.getElem?_eq_getElem (by rw [hl.1]; omega)⟩
      rw [e, one, hx2]
      rw [hx2] at hx
      simp [bnd, h0, hil, hnl ▸ hil, ← hx]
    · have e : innerN 14 (headN 14 p s t ns env r) env i = env ++ [(headN 14 p s t ns env r).ft] := by
        unfold innerN
        rw [hfn]
        simp [hpos, hl.1, hil]
      have hft : (headN 14 p s t ns env r).ft.1 = t := by
        unfold headN
        simp
        split
        · rename_i ht; rw [ht]; rfl
        · rfl
      rw [e, one, hft]
      simp [bnd, h0, hil]
  simp [innerN, bnd, h4, h6, h7, h14]
theorem head_free (k p : Int) (s t : Str) (ns : List Str) (env : List Frm) (r : Rn) : (headN k p s t ns env r).r.free = [] ↔ r.free = [] ∧ (k = 3 → inE env s) := by
  have hl := namesR_len ns r
  by_cases h3 : k = 3
  · subst h3
    unfold headN
    rw [if_pos rfl]
    dsimp only
    by_cases hf : (findF env s).2 = true
    · rw [if_pos hf]; simp [findF_in.1 hf]
    · rw [if_neg hf]
      have : ¬ inE env s := fun h => hf (findF_in.2 h)
      simp [this]
  unfold headN
  rw [if_neg h3]
  simp only [h3, false_implies, and_true]
  split
  · rfl
  · split
    · rfl
    · split
      · split
        · dsimp only; rw [hl.2.2]
        · simp only [bindR]; rw [hl.2.2]
      · rfl
theorem goN_free (e : Ex) : sound e → ∀ (env : List Frm) (r : Rn), (goN e env r).r.free = [] ↔ r.free = [] ∧ ∀ v ∈ fvs e, inE env v := by
  refine Ex.ind (P := fun e => sound e → ∀ (env : List Frm) (r : Rn), (goN e env r).r.free = [] ↔ r.free = [] ∧ ∀ v ∈ fvs e, inE env v) (fun k p n s t ls ns l ih => ?_) e
  intro hs env r
  rw [sound] at hs
  obtain ⟨⟨s1, s2, s3⟩, hsl⟩ := hs
  have hf := head_free k p s t ns env r
  have hin : ∀ i, i < l.length → ∀ v, inE (innerN k (headN k p s t ns env r) env i) v ↔ inE env v ∨ v ∈ bnd k s t ls ns i := fun i hi v =>
    inner_in s1 (fun h => by have := s2 h; omega) (fun h => by have := s3 h; omega)
  rw [goN]
  dsimp only
  rw [fvs]
  generalize headN k p s t ns env r = h at *
  have hL : ∀ (l : List Ex) (i n : Nat) (r : Rn), n = i + l.length → (∀ j, j < n → ∀ v, inE (innerN k h env j) v ↔ inE env v ∨ v ∈ bnd k s t ls ns j) → soundL l → (∀ x ∈ l, sound x → ∀ (env : List Frm) (r : Rn), (goN x env r).r.free = [] ↔ r.free = [] ∧ ∀ v ∈ fvs x, inE env v) →
      ((goL k h env i l r).r.free = [] ↔ r.free = [] ∧ ∀ v ∈ fvL k s t ls ns i l, inE env v) := by
    intro l
    induction l with
    | nil => intro i n r _ _ _ _; simp [goL, fvL]
    | cons x l ihl =>
      intro i n r hn hj hsl hx
      rw [soundL] at hsl
      simp only [List.length_cons] at hn
      have a1 := hx x (by simp) hsl.1 (innerN k h env i) r
      have b1 := ihl (i + 1) n (goN x (innerN k h env i) r).r (by omega) hj hsl.2 fun y hy => hx y (by simp [hy])
      simp only [goL, fvL]
      rw [b1, a1]
      simp only [hj i (by omega), List.mem_append, List.mem_filter, Bool.not_eq_true', decide_eq_false_iff_not]
      constructor
      · rintro ⟨⟨q1, q2⟩, q3⟩
        refine ⟨q1, fun v hv => ?_⟩
        rcases hv with ⟨hv, hb⟩ | hv
        · exact (q2 v hv).resolve_right hb
        · exact q3 v hv
      · rintro ⟨q1, q2⟩
        refine ⟨⟨q1, fun v hv => ?_⟩, fun v hv => q2 v (.inr hv)⟩
        by_cases hb : v ∈ bnd k s t ls ns i
        · exact .inr hb
        · exact .inl (q2 v (.inl ⟨hv, hb⟩))
  rw [hL l 0 l.length h.r (by omega) hin hsl ih, hf]
  simp only [List.mem_append]
  constructor
  · rintro ⟨⟨q1, q2⟩, q3⟩
    refine ⟨q1, fun v hv => ?_⟩
    rcases hv with hv | hv
    · split at hv
      · rename_i h3
        rw [List.mem_singleton.1 hv]
        exact q2 h3
      · cases hv
    · exact q3 v hv
  · rintro ⟨q1, q2⟩
    exact ⟨⟨q1, fun h3 => q2 s (.inl (by rw [if_pos h3]; simp))⟩, fun v hv => q2 v (.inr hv)⟩
theorem free_nil {e : Ex} (hs : sound e) : (goN e [] ⟨[], []⟩).r.free = [] ↔ fvs e = [] := by
  rw [goN_free e hs]
  constructor
  · rintro ⟨_, h⟩
    exact List.eq_nil_iff_forall_not_mem.2 fun v hv => by obtain ⟨f, hf, _⟩ := h v hv; cases hf
  · intro h
    rw [h]
    exact ⟨rfl, fun v hv => by cases hv⟩
theorem goL_length (k : Int) (h : Hd) (env : List Frm) : ∀ (l : List Ex) (i : Nat) (r : Rn), (goL k h env i l r).l.length = l.length
  | [], i, r => rfl
  | x :: l, i, r => by simp only [goL, List.length_cons, goL_length k h env l]
theorem head_ns (k p : Int) (s t : Str) (ns : List Str) (env : List Frm) (r : Rn) : (headN k p s t ns env r).ns.length = if k = 14 then ns.length else 0 := by
  have hl := namesR_len ns r
  unfold headN
  by_cases h3 : k = 3
  · subst h3; rfl
  rw [if_neg h3]
  by_cases h4 : k = 4 ∨ k = 6
  · rw [if_pos h4, if_neg (by omega)]; rfl
  rw [if_neg h4]
  by_cases h7 : k = 7
  · rw [if_pos h7, if_neg (by omega)]; rfl
  rw [if_neg h7]
  by_cases h14 : k = 14
  · rw [if_pos h14, if_pos h14]
    split <;> simp [hl.1]
  · rw [if_neg h14, if_neg h14]; rfl
theorem goN_sound (e : Ex) : sound e → ∀ (env : List Frm) (r : Rn), sound (goN e env r).e := by
  refine Ex.ind (P := fun e => sound e → ∀ (env : List Frm) (r : Rn), sound (goN e env r).e) (fun k p n s t ls ns l ih => ?_) e
  intro hs env r
  rw [sound] at hs
  obtain ⟨⟨s1, s2, s3⟩, hsl⟩ := hs
  have hh := head_ns k p s t ns env r
  rw [goN]
  dsimp only
  generalize headN k p s t ns env r = h at *
  rw [sound, goL_length]
  refine ⟨⟨fun h14 => by rw [hh, if_pos h14]; exact s1 h14, s2, s3⟩, ?_⟩
  have hL : ∀ (l : List Ex) (i : Nat) (r : Rn), soundL l → (∀ x ∈ l, sound x → ∀ (env : List Frm) (r : Rn), sound (goN x env r).e) → soundL (goL k h env i l r).l := by
    intro l
    induction l with
    | nil => intro i r _ _; simp [goL, soundL]
    | cons x l ihl =>
      intro i r hsl hx
      rw [soundL] at hsl
      simp only [goL, soundL]
      exact ⟨hx x (by simp) hsl.1 _ _, ihl _ _ hsl.2 fun y hy => hx y (by simp [hy])⟩
  exact hL l 0 h.r hsl ih
end Go.Proofs.YtpdeaekmgljeaaaGreatDoor
