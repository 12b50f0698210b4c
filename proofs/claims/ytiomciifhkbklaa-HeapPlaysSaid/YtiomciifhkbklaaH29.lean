/-
  HeapPlays, walked: what is told by near places; which deed it is. (Own work.)
-/
import Derived.Test.YtiomciifhkbklaaH27
set_option linter.unusedVariables false
set_option linter.unusedSimpArgs false
set_option maxHeartbeats 2000000
namespace Go.Proofs.Ytiomciifhkbklaa
open Go Go.Abs

def nearX : X := fstX (tlX 5 bodyX)
def swX : X := fstX (tlX 6 bodyX)
@[reducible] def deC (x : De) : List D := [.v (.int .i64 x.what), .v (.int .i64 x.kind), .v (.int .i64 x.place), .v (.int .i64 x.i), .v (.bool x.near), .v (.bool x.w.p), .v (.int .i64 x.w.v), .v (.sl (some 2) false (x.l.map wv))]
/-- What a deed is done with. -/
structure Dd (σ : Sg) (E : List (Nat × D)) (hp m o11 o13 i : Nat) (half : Int) (s : BS) (x : De) (l : List Wd) (w : Wd) (place : Int) (f : Bool) : Prop where
  b : BB σ hp m half s
  e6 : Abs.look E 6 = .ptr hp 0
  e8 : Abs.look E 8 = .ptr m 0
  e9 : Abs.look E 9 = .v (.sl (some 2) false (s.roots.map wv))
  e10 : Abs.look E 10 = .v (.int .i64 i)
  e11 : Abs.look E 11 = .ptr o11 0
  e12 : Abs.look E 12 = .v (.sl (some 2) f (l.map wv))
  e13 : Abs.look E 13 = .ptr o13 0
  e14 : Abs.look E 14 = .v (.int .i64 place)
  c11 : σ.objs[o11]? = some (.cells (deC x))
  n11 : ¬ HS hp s.oL s.oH s.os o11
  c13 : σ.objs[o13]? = some (.cells [.v (.bool w.p), .v (.int .i64 w.v)])
  n13 : ¬ HS hp s.oL s.oH s.os o13
  r13 : ¬ RS m s.oT s.os s.rs o13
  ne : o11 ≠ o13
  hl : l.length ≤ 60
theorem W_Near {B σ : Sg} {Q : XE → St → Prop} {E : List (Nat × D)} {hp m o11 o13 i : Nat} {half : Int} {s : BS} {x : De} {l : List Wd} {w : Wd} {place : Int} {f : Bool} (D : Dd σ E hp m o11 o13 i half s x l w place f)
    (key : ∀ E' σ' l' w' place' f', Dd σ' E' hp m o11 o13 i half s x l' w' place' f' → (∀ k ∈ [1, 5, 6, 8, 10], Abs.look E' k = Abs.look E k) → Q .normal ⟨E', σ'⟩) : W Try.prog B nearX Q ⟨E, σ⟩ := by
  obtain ⟨b, e6, e8, e9, e10, e11, e12, e13, e14, c11, n11, c13, n13, r13, ne, hl⟩ := D
  have hsm := b.ok.small
  have hlo := len_tot s.os
  have h13l := (List.getElem?_eq_some_iff.1 c13).1
  have c11' := c11
  unfold deC at c11'
  cases hn : x.near with
  | false =>
    rw [hn] at c11'
    simp -implicitDefEqProofs (maxSteps := 2000000) (disch := omega) [-getElem?_pos, nearX, bodyX, a4, tlX, fstX, sndX, blkX, lpX, thX, elX, e11, c11']
    refine key _ σ l w place f ⟨b, by simp [e6], by simp [e8], by simp [e9], by simp [e10], by simp [e11], by simp [e12], by simp [e13], by simp [e14], c11, n11, c13, n13, r13, ne, hl⟩ fun k hk => by simp only [List.mem_cons, List.not_mem_nil, or_false] at hk; rcases hk with rfl | rfl | rfl | rfl | rfl <;> simp
  | true =>
    rw [hn] at c11'
    have hne1 := k_Near (ws := l) (f := f) b.hR (by omega) (by omega)
    have hne2 := k_Near (ws := [w]) (f := true) b.hR (by omega) (by simp)
    have hwv : ∀ (σ' : Sg) (K : V → Prop), WLen .sl s.dT σ' K = K (.int .i64 s.os.length) := fun σ' K => wlen_VR b.hR.top
    have hc := b.hR.cell
    have hm13 : o13 ≠ m := fun e => r13 (.inl e)
    simp -implicitDefEqProofs (maxSteps := 2000000) (disch := omega) [-getElem?_pos, nearX, bodyX, a4, tlX, fstX, sndX, blkX, lpX, thX, elX, e8, e11, e12, e13, c11', c13, mkAgg, allV]
    refine hne1.then fun r hq => ?_
    obtain ⟨l', rfl, hl'⟩ := hq
    simp -implicitDefEqProofs (maxSteps := 2000000) (disch := omega) [-getElem?_pos, e8, e13, c13, mkAgg, allV]
    refine hne2.then fun r hq => ?_
    obtain ⟨ws', rfl, hw'⟩ := hq
    obtain ⟨w', rfl⟩ := List.length_eq_one_iff.1 hw'
    obtain ⟨p', v'⟩ := w'
    have hs13 : ∀ X : Ob, (σ.objs.set o13 X)[m]? = σ.objs[m]? := fun X => List.getElem?_set_ne hm13
    have hfr : Fr σ ⟨σ.objs.set o13 (.cells [.v (.bool p'), .v (.int .i64 v')]), σ.toks⟩ (fun k => k = o13) := Fr.set rfl
    have hb : BB ⟨σ.objs.set o13 (.cells [.v (.bool p'), .v (.int .i64 v')]), σ.toks⟩ hp m half s := ⟨b.hH.fr hfr fun k e e2 => n13 (by rw [← e2]; exact e), b.hR.fr hfr fun k e e2 => r13 (by rw [← e2]; exact e), b.ok, b.dj, b.fr⟩
    have hc11 : (σ.objs.set o13 (.cells [.v (.bool p'), .v (.int .i64 v')]))[o11]? = some (.cells (deC x)) := by
      rw [List.getElem?_set_ne (Ne.symm ne), c11]
    have hc13 : (σ.objs.set o13 (.cells [.v (.bool p'), .v (.int .i64 v')]))[o13]? = some (.cells [.v (.bool p'), .v (.int .i64 v')]) := List.getElem?_set_self h13l
    by_cases h0 : s.os.length = 0
    · simp -implicitDefEqProofs (maxSteps := 2000000) (disch := omega) [-getElem?_pos, e8, e13, c13, hs13, hc, hwv, h0]
      exact key _ _ l' ⟨p', v'⟩ place false ⟨hb, by simp [e6], by simp [e8], by simp [e9], by simp [e10], by simp [e11], by simp, by simp [e13], by simp [e14], hc11, n11, hc13, n13, r13, ne, by omega⟩ fun k hk => by simp only [List.mem_cons, List.not_mem_nil, or_false] at hk; rcases hk with rfl | rfl | rfl | rfl | rfl <;> simp
    · have h0i : (0 : Int) < s.os.length := by omega
      have h0n : 0 < s.os.length := by omega
      have hpk := fun σ => k_Pick (c := place) (n := s.os.length) (σ := σ) h0n (by omega)
      have e14' := e14
      simp -implicitDefEqProofs (maxSteps := 2000000) (disch := omega) [-getElem?_pos, e8, e13, e14, c13, hs13, hc, hwv, h0, h0i, h0n]
      refine (hpk _).then fun r hq => ?_
      obtain ⟨q, hq, rfl⟩ := hq
      obtain ⟨y, hy⟩ : ∃ y, s.os[q]? = some y := ⟨_, List.getElem?_eq_getElem hq⟩
      obtain ⟨c, cs, r, hdT, h2, h3, h4, h5, h6, h7, h8, h9⟩ := b.hR.top.row hy
      have hT13 : o13 ≠ s.oT := fun e => r13 (.inr (.inl ⟨e, by rintro e2; rw [e2] at h0; simp at h0⟩))
      have hs2 : ∀ X : Ob, (σ.objs.set o13 X)[s.oT]? = σ.objs[s.oT]? := fun X => List.getElem?_set_ne hT13
      simp -implicitDefEqProofs (maxSteps := 2000000) (disch := omega) [-getElem?_pos, hdT, h2, h6, hs2]
      exact ⟨hq, key _ _ l' ⟨p', v'⟩ (offs s.os q) false ⟨hb, by simp [e6], by simp [e8], by simp [e9], by simp [e10], by simp [e11], by simp, by simp [e13], by simp, hc11, n11, hc13, n13, r13, ne, by omega⟩ fun k hk => by simp only [List.mem_cons, List.not_mem_nil, or_false] at hk; rcases hk with rfl | rfl | rfl | rfl | rfl <;> simp⟩
theorem switX_eq : switX = .seq (fstX switX) (.cond (.t 167) makeX (.seq (fstX (elX (sndX switX))) (.cond (.t 235) setX (.seq (fstX (elX (sndX (elX (sndX switX))))) (.cond (.t 301) getX colX))))) := rfl
theorem swX_eq : swX = .seq (fstX swX) (.block 2 switX) := rfl
theorem W_Switch {B σ : Sg} {Q : XE → St → Prop} {E : List (Nat × D)} {hp m o11 o13 i : Nat} {half : Int} {s : BS} {x : De} {l : List Wd} {w : Wd} {place : Int} {f : Bool} (D : Dd σ E hp m o11 o13 i half s x l w place f) (hh : half ≤ 5000) (hrl : s.roots.length ≤ 1000) (hi : i ≤ 1000)
    (key : Nxt Q hp m half s E) : W Try.prog B swX Q ⟨E, σ⟩ := by
  have hpk := fun σ => k_Pick (c := x.what) (n := 6) (σ := σ) (by omega) (by omega)
  have c11 := D.c11
  have e11 := D.e11
  unfold deC at c11
  have kB : ∀ E', (∀ k ∈ [1, 5, 6, 8, 10], Abs.look E' k = Abs.look E k) → Nxt (QBlk 2 Q) hp m half s E' := fun E' hE E2 σ' s' b' h1 h2 h3 h4 => key E2 σ' s' b' h1 (fun k hk => (h2 k hk).trans (hE k hk)) h3 h4
  have mk : ∀ (E' : List (Nat × Abs.D)), (∀ k ∈ [1, 5, 6, 8, 10, 9, 11, 12, 13, 14], Abs.look E' k = Abs.look E k) → Dd σ E' hp m o11 o13 i half s x l w place f := fun E' hE =>
    ⟨D.b, (hE 6 (by simp)).trans D.e6, (hE 8 (by simp)).trans D.e8, (hE 9 (by simp)).trans D.e9, (hE 10 (by simp)).trans D.e10, (hE 11 (by simp)).trans D.e11, (hE 12 (by simp)).trans D.e12, (hE 13 (by simp)).trans D.e13, (hE 14 (by simp)).trans D.e14, D.c11, D.n11, D.c13, D.n13, D.r13, D.ne, D.hl⟩
  have gMake : ∀ (E' : List (Nat × Abs.D)), (∀ k ∈ [1, 5, 6, 8, 10, 9, 11, 12, 13, 14], Abs.look E' k = Abs.look E k) → W Try.prog B makeX (QBlk 2 Q) ⟨E', σ⟩ := fun E' hE => by
    have D' := mk E' hE
    exact W_Make D'.b D'.e6 D'.e8 D'.e9 D'.e10 D'.e11 D'.e12 D'.c11 D'.n11 hh hrl D'.hl hi (kB E' fun k hk => hE k (by simp at hk ⊢; omega))
  have gSet : ∀ (E' : List (Nat × Abs.D)), (∀ k ∈ [1, 5, 6, 8, 10, 9, 11, 12, 13, 14], Abs.look E' k = Abs.look E k) → W Try.prog B setX (QBlk 2 Q) ⟨E', σ⟩ := fun E' hE => by
    have D' := mk E' hE
    exact W_Set D'.b D'.e6 D'.e8 D'.e9 D'.e11 D'.e13 D'.e14 D'.c11 D'.n11 D'.c13 D'.n13 (kB E' fun k hk => hE k (by simp at hk ⊢; omega))
  have gGet : ∀ (E' : List (Nat × Abs.D)), (∀ k ∈ [1, 5, 6, 8, 10, 9, 11, 12, 13, 14], Abs.look E' k = Abs.look E k) → W Try.prog B getX (QBlk 2 Q) ⟨E', σ⟩ := fun E' hE => by
    have D' := mk E' hE
    exact W_Get D'.b D'.e6 D'.e8 D'.e9 D'.e11 D'.e14 D'.c11 (kB E' fun k hk => hE k (by simp at hk ⊢; omega))
  have gCol : ∀ (E' : List (Nat × Abs.D)), (∀ k ∈ [1, 5, 6, 8, 10, 9, 11, 12, 13, 14], Abs.look E' k = Abs.look E k) → W Try.prog B colX (QBlk 2 Q) ⟨E', σ⟩ := fun E' hE => by
    have D' := mk E' hE
    exact W_Coll D'.b D'.e6 D'.e8 D'.e9 D'.e11 D'.c11 hrl (kB E' fun k hk => hE k (by simp at hk ⊢; omega))
  rw [swX_eq, switX_eq]
  generalize makeX = A1 at gMake ⊢
  generalize setX = A2 at gSet ⊢
  generalize getX = A3 at gGet ⊢
  generalize colX = A4 at gCol ⊢
  simp -implicitDefEqProofs (maxSteps := 2000000) (disch := omega) [-getElem?_pos, swX, switX, bodyX, a4, tlX, fstX, sndX, blkX, lpX, thX, elX, e11, c11]
  refine (hpk _).then fun r hq => ?_
  obtain ⟨q, hq, rfl⟩ := hq
  have hq6 : q = 0 ∨ q = 1 ∨ q = 2 ∨ q = 3 ∨ q = 4 ∨ q = 5 := by omega
  rcases hq6 with rfl | rfl | rfl | rfl | rfl | rfl
  · simp -implicitDefEqProofs (maxSteps := 2000000) (disch := omega) [-getElem?_pos]
    exact gMake _ (fun k hk => by simp only [List.mem_cons, List.not_mem_nil, or_false] at hk; rcases hk with rfl | rfl | rfl | rfl | rfl | rfl | rfl | rfl | rfl | rfl <;> simp)
  · simp -implicitDefEqProofs (maxSteps := 2000000) (disch := omega) [-getElem?_pos]
    exact gMake _ (fun k hk => by simp only [List.mem_cons, List.not_mem_nil, or_false] at hk; rcases hk with rfl | rfl | rfl | rfl | rfl | rfl | rfl | rfl | rfl | rfl <;> simp)
  · simp -implicitDefEqProofs (maxSteps := 2000000) (disch := omega) [-getElem?_pos]
    exact gMake _ (fun k hk => by simp only [List.mem_cons, List.not_mem_nil, or_false] at hk; rcases hk with rfl | rfl | rfl | rfl | rfl | rfl | rfl | rfl | rfl | rfl <;> simp)
  · simp -implicitDefEqProofs (maxSteps := 2000000) (disch := omega) [-getElem?_pos]
    exact gSet _ (fun k hk => by simp only [List.mem_cons, List.not_mem_nil, or_false] at hk; rcases hk with rfl | rfl | rfl | rfl | rfl | rfl | rfl | rfl | rfl | rfl <;> simp)
  · simp -implicitDefEqProofs (maxSteps := 2000000) (disch := omega) [-getElem?_pos]
    exact gGet _ (fun k hk => by simp only [List.mem_cons, List.not_mem_nil, or_false] at hk; rcases hk with rfl | rfl | rfl | rfl | rfl | rfl | rfl | rfl | rfl | rfl <;> simp)
  · simp -implicitDefEqProofs (maxSteps := 2000000) (disch := omega) [-getElem?_pos]
    exact gCol _ (fun k hk => by simp only [List.mem_cons, List.not_mem_nil, or_false] at hk; rcases hk with rfl | rfl | rfl | rfl | rfl | rfl | rfl | rfl | rfl | rfl <;> simp)
theorem bodyX_eq : bodyX = .seq (fstX bodyX) (.seq (fstX (tlX 1 bodyX)) (.seq (fstX (tlX 2 bodyX)) (.seq (fstX (tlX 3 bodyX)) (.seq (fstX (tlX 4 bodyX)) (.seq nearX (.seq swX (tlX 7 bodyX))))))) := rfl
def lbX : X := lpX (blkX (sndX (fstX (tlX 8 a4.body))))
theorem lbX_eq : lbX = .seq (fstX lbX) (.seq (.block 1 bodyX) (sndX (sndX lbX))) := rfl
theorem W_Body {B σ : Sg} {Q : XE → St → Prop} {E : List (Nat × D)} {hp m i : Nat} {half : Int} {s : BS} {d : List De} {x : De} (b : BB σ hp m half s) (e1 : Abs.look E 1 = .v (.sl (some 8) false (d.map encD))) (e5 : Abs.look E 5 = .v (.bool true)) (e6 : Abs.look E 6 = .ptr hp 0) (e8 : Abs.look E 8 = .ptr m 0) (e9 : Abs.look E 9 = .v (.sl (some 2) false (s.roots.map wv))) (e10 : Abs.look E 10 = .v (.int .i64 i))
    (hx : d[i]? = some x) (hh : half ≤ 5000) (hrl : s.roots.length ≤ 1000) (hi : i ≤ 1000) (key : Nxt Q hp m half s E) (ret : ∀ E' σ', Abs.look E' 4 = .v (.bool true) → Q .ret ⟨E', σ'⟩) : W Try.prog B bodyX Q ⟨E, σ⟩ := by
  have hid := (List.getElem?_eq_some_iff.1 hx).1
  have hgx : ∀ a, d[i]? = some a → a = x := fun a h => by rw [hx] at h; exact (Option.some.inj h).symm
  obtain ⟨R, hR⟩ : ∃ R, R = tlX 7 bodyX := ⟨_, rfl⟩
  have tail : ∀ E' σ' s', BB σ' hp m half s' → s'.roots.length ≤ s.roots.length + 1 → (∀ k ∈ [1, 5, 6, 8, 10], Abs.look E' k = Abs.look E k) → D.Le (Abs.look E' 9) (.v (.sl (some 2) false (s'.roots.map wv))) → Abs.look E' 9 ≠ .junk → W Try.prog B R Q ⟨E', σ'⟩ := fun E' σ' s' b' h1 h2 h3 h4 => by
    have a6 : Abs.look E' 6 = .ptr hp 0 := (h2 6 (by simp)).trans e6
    have a8 : Abs.look E' 8 = .ptr m 0 := (h2 8 (by simp)).trans e8
    have hsm := k_SameH b'.hH b'.hR b'.ok
    rw [hR]
    simp -implicitDefEqProofs (maxSteps := 2000000) (disch := omega) [-getElem?_pos, bodyX, a4, tlX, fstX, sndX, blkX, lpX, thX, elX, a6, a8]
    refine hsm.then fun r hq => ?_
    subst hq
    simp -implicitDefEqProofs (maxSteps := 2000000) (disch := omega) [-getElem?_pos]
    refine key _ σ' s' b' h1 (fun k hk => ?_) (by simpa using h3) (by simpa using h4)
    rw [← h2 k hk]
    simp only [List.mem_cons, List.not_mem_nil, or_false] at hk
    rcases hk with rfl | rfl | rfl | rfl | rfl <;> simp
  have hNear := fun (Q' : XE → St → Prop) (E' : List (Nat × D)) (σ' : Sg) (o11 o13 : Nat) (l : List Wd) (w : Wd) (place : Int) (f : Bool) (D : Dd σ' E' hp m o11 o13 i half s x l w place f) => W_Near (B := B) (Q := Q') D
  have hSw := fun (Q' : XE → St → Prop) (E' : List (Nat × D)) (σ' : Sg) (o11 o13 : Nat) (l : List Wd) (w : Wd) (place : Int) (f : Bool) (D : Dd σ' E' hp m o11 o13 i half s x l w place f) => W_Switch (B := B) (Q := Q') D hh hrl hi
  rw [bodyX_eq, ← hR]
  generalize nearX = N at hNear ⊢
  generalize swX = S at hSw ⊢
  clear hR
  simp -implicitDefEqProofs (maxSteps := 2000000) (disch := omega) [-getElem?_pos, bodyX, a4, tlX, fstX, sndX, blkX, lpX, thX, elX, e1, e10]
  refine ⟨hid, fun a ha => ?_⟩
  obtain rfl := hgx a ha
  refine .mk (fun h60 => ?_) fun h60 => ?_
  · simp -implicitDefEqProofs (maxSteps := 2000000) (disch := omega) [-getElem?_pos, e5]
    exact ret _ _ (by simp)
  have hlt : ∀ k, HS hp s.oL s.oH s.os k → k < σ.objs.length := fun k e => HS.lt b.hH e
  simp -implicitDefEqProofs (maxSteps := 2000000) (disch := omega) [-getElem?_pos, mkAgg, allV]
  refine hNear _ _ _ σ.objs.length (σ.objs.length + 1) a.l a.w a.place false ⟨b.app _ _, by simp [e6], by simp [e8], by simp [e9], by simp [e10], by simp, by simp, by simp, by simp, by simp, fun e => by have := hlt _ e; omega, by simp, fun e => by have := hlt _ e; omega, fun e => by have := b.hR.lt e; omega, by omega, by omega⟩ fun E2 σ2 l2 w2 place2 f2 D2 hk2 => ?_
  simp -implicitDefEqProofs (maxSteps := 2000000) (disch := omega) [-getElem?_pos]
  refine hSw _ _ _ _ _ _ _ _ _ D2 fun E3 σ3 s3 b3 h1 h2 h3 h4 => ?_
  simp -implicitDefEqProofs (maxSteps := 2000000) (disch := omega) [-getElem?_pos]
  refine tail E3 σ3 s3 b3 h1 (fun k hk => ?_) h3 h4
  rw [h2 k hk, hk2 k hk]
  simp only [List.mem_cons, List.not_mem_nil, or_false] at hk
  rcases hk with rfl | rfl | rfl | rfl | rfl <;> simp
structure LpS where
  σ : Sg
  i : Nat
  s : BS
theorem k_HeapPlays {half : Int} {d : List De} {σ : Sg} :
    ACalls Try.prog 4 [.v (.int .i64 half), .v (.sl (some 8) false (d.map encD))] σ fun r σ' => r = .v (.bool true) := by
  have hbody := fun (Q : XE → St → Prop) (E : List (Nat × D)) (σ2 : Sg) (hp m i : Nat) (s : BS) (x : De) (b : BB σ2 hp m half s) e1 e5 e6 e8 e9 e10 hx hh hrl hi key ret => @W_Body σ σ2 Q E hp m i half s d x b e1 e5 e6 e8 e9 e10 hx hh hrl hi key ret
  refine acalls_fit Try.func4 (by kernel_rfl) c4 rfl (by simp [a4]) fun hf => ?_
  clear hf
  have hl : lbX = lpX (blkX (sndX (fstX (tlX 8 a4.body)))) := rfl
  simp -implicitDefEqProofs (maxSteps := 2000000) (disch := omega) [-getElem?_pos, a4]
  refine k_Up2.then fun r hr => ?_
  subst hr
  simp -implicitDefEqProofs (maxSteps := 2000000) (disch := omega) [-getElem?_pos]
  refine .mk (fun g1 => ?_) fun g1 => ?_
  · simp -implicitDefEqProofs (maxSteps := 2000000) (disch := omega) [-getElem?_pos]
    exact .fin _ rfl (.refl _)
  simp -implicitDefEqProofs (maxSteps := 2000000) (disch := omega) [-getElem?_pos]
  by_cases hh : half < 1
  · refine (k_NewBad (.inl hh)).then fun r hq => ?_
    subst hq
    simp -implicitDefEqProofs (maxSteps := 2000000) (disch := omega) [-getElem?_pos, hh]
    exact ⟨by kernel_rfl, .fin _ rfl (.refl _)⟩
  have hh2 : ¬ (half < 1 ∨ 268435456 < half) := by omega
  refine (k_New hh2).mono fun r σ1 hq => ?_
  obtain ⟨rfl, hσ1⟩ := hq
  have h1 : Hp σ1 σ.objs.length (σ.objs.length + 1) (σ.objs.length + 2) half [] 0 (.v .snil) (.v .snil) := by
    rw [hσ1]
    exact ⟨by simp, .nil, .nil, by omega, by omega, by omega⟩
  generalize hhp : σ.objs.length = hp at h1 ⊢
  clear hσ1
  simp -implicitDefEqProofs (maxSteps := 2000000) (disch := omega) [-getElem?_pos, hh]
  refine .mk (fun g2 => ?_) fun g2 => ?_
  · simp -implicitDefEqProofs (maxSteps := 2000000) (disch := omega) [-getElem?_pos]
    exact ⟨_, _, WeakR.refl _ _ _, rfl⟩
  simp -implicitDefEqProofs (maxSteps := 2000000) (disch := omega) [-getElem?_pos]
  have hb0 : BB ⟨σ1.objs ++ [.cells [.v (.int .i64 half), .v .snil, .v (.int .i64 0)]], σ1.toks⟩ hp σ1.objs.length half ⟨[], 0, hp + 1, hp + 2, .v .snil, .v .snil, 0, .v .snil, [], []⟩ := by
    refine ⟨h1.on on_app, ⟨by simp, .nil, fun i o r e => by simp at e, fun e => absurd rfl e, fun i o r e => by simp at e, fun i j a b r q e => by simp at e⟩, ok_nil, fun i e e2 => ?_, by simp⟩
    have e3 := HS.lt h1 e
    rcases e2 with e2 | ⟨_, e2⟩ | ⟨k, o, r, e2, _⟩
    · omega
    · exact e2 rfl
    · simp at e2
  generalize hm : σ1.objs.length = m at hb0 ⊢
  refine W_loop (α := LpS) ⟨_, 0, ⟨[], 0, hp + 1, hp + 2, .v .snil, .v .snil, 0, .v .snil, [], []⟩⟩ (fun y => d.length - y.i) (fun y => ⟨[(1, .v (.sl (some 8) false (d.map encD))), (5, .v (.bool true)), (6, .ptr hp 0), (8, .ptr m 0), (9, .v (.sl (some 2) false (y.s.roots.map wv))), (10, .v (.int .i64 y.i))], y.σ⟩)
    (fun y => y.i ≤ d.length ∧ BB y.σ hp m half y.s ∧ y.s.roots.length ≤ y.i) (.le (by simp)) ⟨Nat.zero_le _, hb0, Nat.zero_le _⟩ fun ⟨σ3, i, s⟩ ⟨hi, hb, hrl⟩ => ?_
  dsimp only at hi hb hrl ⊢
  by_cases hid : i < d.length
  · obtain ⟨x, hx⟩ : ∃ x, d[i]? = some x := ⟨_, List.getElem?_eq_getElem hid⟩
    show W Try.prog σ (.seq (fstX lbX) (.seq (.block 1 bodyX) (sndX (sndX lbX)))) _ _
    generalize bodyX = BX at hbody ⊢
    simp -implicitDefEqProofs (maxSteps := 2000000) (disch := omega) [-getElem?_pos, lbX, a4, tlX, fstX, sndX, blkX, lpX, hid]
    refine hbody _ _ σ3 hp m i s x hb (by simp) (by simp) (by simp) (by simp) (by simp) (by simp) hx (by omega) (by omega) (by omega) (fun E' σ' s' b' h1 h2 h3 h4 => ?_) fun E' σ' h4 => ?_
    · have a1 := h2 1 (by simp)
      have a5 := h2 5 (by simp)
      have a6 := h2 6 (by simp)
      have a8 := h2 8 (by simp)
      have a10 := h2 10 (by simp)
      simp at a1 a5 a6 a8 a10
      simp -implicitDefEqProofs (maxSteps := 2000000) (disch := omega) [-getElem?_pos, a10]
      refine ⟨⟨σ', i + 1, s'⟩, ⟨by dsimp only; omega, b', by dsimp only at h1 ⊢; omega⟩, by dsimp only; omega, .le ?_⟩
      simp [a1, a5, a6, a8]
      exact ⟨h3, fun e => absurd e h4⟩
    · simp -implicitDefEqProofs (maxSteps := 2000000) (disch := omega) [-getElem?_pos, h4]
      exact ⟨_, _, WeakR.refl _ _ _, rfl⟩
  · simp -implicitDefEqProofs (maxSteps := 2000000) (disch := omega) [-getElem?_pos, hid]
    exact ⟨_, _, WeakR.refl _ _ _, rfl⟩
end Go.Proofs.Ytiomciifhkbklaa
