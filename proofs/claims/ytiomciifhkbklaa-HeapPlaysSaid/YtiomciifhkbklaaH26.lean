/-
  HeapPlays, walked: its parts; an object is made. (Own work.)
-/
import Derived.Test.YtiomciifhkbklaaH24
set_option linter.unusedVariables false
set_option linter.unusedSimpArgs false
set_option maxHeartbeats 2000000
namespace Go.Proofs.Ytiomciifhkbklaa
open Go Go.Abs

structure De where
  what : Int
  kind : Int
  place : Int
  i : Int
  near : Bool
  w : Wd
  l : List Wd
@[reducible] def encD (x : De) : V := .agg [.int .i64 x.what, .int .i64 x.kind, .int .i64 x.place, .int .i64 x.i, .bool x.near, .bool x.w.p, .int .i64 x.w.v, .sl (some 2) false (x.l.map wv)]
def tlX : Nat → X → X
  | 0, x => x
  | n + 1, .seq _ b => tlX n b
  | _, x => x
def fstX : X → X
  | .seq a _ => a
  | x => x
def sndX : X → X
  | .seq _ b => b
  | x => x
def blkX : X → X
  | .block _ a => a
  | x => x
def lpX : X → X
  | .loop a => a
  | x => x
def thX : X → X
  | .cond _ a _ => a
  | x => x
def elX : X → X
  | .cond _ _ b => b
  | x => x
/-- What is done with one deed; which of it; and those. -/
def bodyX : X := blkX (fstX (sndX (lpX (blkX (sndX (fstX (tlX 8 a4.body)))))))
def switX : X := blkX (sndX (fstX (tlX 6 bodyX)))
def makeX : X := thX (sndX switX)
def setX : X := thX (sndX (elX (sndX switX)))
def getX : X := thX (sndX (elX (sndX (elX (sndX switX)))))
def colX : X := elX (sndX (elX (sndX (elX (sndX switX)))))
theorem look_upd' {E : List (Nat × D)} {n k : Nat} {d : D} : Abs.look (upd E n d) k = if n = k then d else Abs.look E k := by
  induction E with
  | nil => simp only [upd, Abs.look]
  | cons a E ih =>
    obtain ⟨j, x⟩ := a
    simp only [upd, Abs.look]
    by_cases h1 : j = n
    · rw [if_pos h1]
      simp only [Abs.look]
      by_cases h2 : n = k
      · rw [if_pos h2, if_pos h2]
      · rw [if_neg h2, if_neg h2, if_neg (by omega)]
    · rw [if_neg h1]
      simp only [Abs.look, ih]
      by_cases h2 : j = k
      · rw [if_pos h2, if_pos h2, if_neg (by omega)]
      · rw [if_neg h2, if_neg h2]
@[simp] theorem look_upd {E : List (Nat × D)} {n k : Nat} {d : D} : Abs.look (upd E n d) k = lookM (n == k) d E k := by
  rw [look_upd']
  cases h : (n == k) with
  | true => rw [if_pos (by simpa using h)]; rfl
  | false => rw [if_neg (by simpa using h)]; rfl
structure BS where
  os : List Ho
  runs : Int
  oL : Nat
  oH : Nat
  dl : D
  dh : D
  oT : Nat
  dT : D
  rs : List Rr
  roots : List Wd
/-- Both heaps, alike. -/
structure BB (σ : Sg) (hp m : Nat) (half : Int) (s : BS) : Prop where
  hH : Hp σ hp s.oL s.oH half s.os s.runs s.dl s.dh
  hR : RH σ m s.oT half s.os s.runs s.dT s.rs
  ok : OkO s.os
  dj : ∀ i, HS hp s.oL s.oH s.os i → ¬ RS m s.oT s.os s.rs i
  fr : ∀ w ∈ s.roots, fineW s.os w
theorem Hp.fr {σ σ' : Sg} {hp oL oH : Nat} {half runs : Int} {os : List Ho} {dl dh : D} {S : Nat → Prop} (h : Hp σ hp oL oH half os runs dl dh) (k : Fr σ σ' S) (hS : ∀ i, HS hp oL oH os i → ¬ S i) : Hp σ' hp oL oH half os runs dl dh :=
  ⟨(k.keep hp (HS.lt h (.inl rfl)) (hS _ (.inl rfl))).trans h.cell, h.vw.fr k fun hn => hS _ (.inr (.inl ⟨rfl, wds_ne.1 hn⟩)), h.vb.fr k fun hn => hS _ (.inr (.inr ⟨rfl, hds_ne.1 hn⟩)), h.n1, h.n2, h.n3⟩
/-- The code's heap first, then the document's. -/
theorem both_step {σ σ1 σ2 : Sg} {hp m oL1 oH1 oT2 : Nat} {half runs2 : Int} {s : BS} {os2 : List Ho} {dl1 dh1 : D} {rs2 : List Rr} (b : BB σ hp m half s)
    (h1 : Hp σ1 hp oL1 oH1 half os2 runs2 dl1 dh1) (f1 : Fr σ σ1 (HS hp s.oL s.oH s.os)) (n1 : oL1 = s.oL ∧ s.os ≠ [] ∨ σ.objs.length ≤ oL1) (n2 : oH1 = s.oH ∧ s.os ≠ [] ∨ σ.objs.length ≤ oH1)
    (f2 : Fr σ1 σ2 (fun i => i = m)) (hr : ∀ i, RS m oT2 os2 rs2 i → RS m s.oT s.os s.rs i ∨ σ1.objs.length ≤ i) :
    Hp σ2 hp oL1 oH1 half os2 runs2 dl1 dh1 ∧ ∀ i, HS hp oL1 oH1 os2 i → ¬ RS m oT2 os2 rs2 i := by
  have hm : m < σ.objs.length := b.hR.lt (.inl rfl)
  have hl1 := f1.len
  have key : ∀ i, HS hp oL1 oH1 os2 i → HS hp s.oL s.oH s.os i ∨ σ.objs.length ≤ i := fun i e => by
    rcases e with e | ⟨e, hn⟩ | ⟨e, hn⟩
    · exact .inl (.inl e)
    · rcases n1 with ⟨e2, e3⟩ | e2
      · exact .inl (.inr (.inl ⟨e.trans e2, e3⟩))
      · exact .inr (by omega)
    · rcases n2 with ⟨e2, e3⟩ | e2
      · exact .inl (.inr (.inr ⟨e.trans e2, e3⟩))
      · exact .inr (by omega)
  refine ⟨h1.fr f2 fun i e hm' => ?_, fun i e hs => ?_⟩
  · rcases key i e with e2 | e2
    · exact b.dj i e2 (.inl hm')
    · omega
  · have hi1 := HS.lt h1 e
    rcases hr i hs with e1 | e1
    · rcases key i e with e2 | e2
      · exact b.dj i e2 e1
      · have := b.hR.lt e1
        omega
    · omega
/-- What a deed's part leaves. -/
def Nxt (Q : XE → St → Prop) (hp m : Nat) (half : Int) (s : BS) (E : List (Nat × D)) : Prop := ∀ E' σ' s', BB σ' hp m half s' → s'.roots.length ≤ s.roots.length + 1 → (∀ k ∈ [1, 5, 6, 8, 10], Abs.look E' k = Abs.look E k) → D.Le (Abs.look E' 9) (.v (.sl (some 2) false (s'.roots.map wv))) → Abs.look E' 9 ≠ .junk → Q .normal ⟨E', σ'⟩
theorem W_Make {B σ : Sg} {Q : XE → St → Prop} {E : List (Nat × D)} {hp m o11 i : Nat} {half : Int} {s : BS} {x : De} {l : List Wd} {f g : Bool} (b : BB σ hp m half s) (e6 : Abs.look E 6 = .ptr hp 0) (e8 : Abs.look E 8 = .ptr m 0) (e9 : Abs.look E 9 = .v (.sl (some 2) g (s.roots.map wv))) (e10 : Abs.look E 10 = .v (.int .i64 i)) (e11 : Abs.look E 11 = .ptr o11 0) (e12 : Abs.look E 12 = .v (.sl (some 2) f (l.map wv)))
    (c11 : σ.objs[o11]? = some (.cells [.v (.int .i64 x.what), .v (.int .i64 x.kind), .v (.int .i64 x.place), .v (.int .i64 x.i), .v (.bool x.near), .v (.bool x.w.p), .v (.int .i64 x.w.v), .v (.sl (some 2) false (x.l.map wv))])) (n11 : ¬ HS hp s.oL s.oH s.os o11) (hh : half ≤ 5000) (hrl : s.roots.length ≤ 1000) (hll : l.length ≤ 60) (hi : i ≤ 1000)
    (key : Nxt Q hp m half s E) : W Try.prog B makeX Q ⟨E, σ⟩ := by
  simp -implicitDefEqProofs (maxSteps := 2000000) (disch := omega) [-getElem?_pos, makeX, switX, bodyX, a4, tlX, fstX, sndX, blkX, lpX, thX, elX, e6, e8, e9, e11, e12, c11]
  have hk1 : ∀ (τ : Sg), Fr σ τ (HS hp s.oL s.oH s.os) → τ.objs[o11]? = σ.objs[o11]? := fun τ k => k.keep o11 (List.getElem?_eq_some_iff.1 c11).1 n11
  by_cases hg : headOk x.kind l.length ∧ (∀ w ∈ l, fineW s.os w) ∧ ∀ w ∈ s.roots, fineW s.os w
  · obtain ⟨g1, g2, g3⟩ := hg
    refine (k_Make (f := f) (g := g) b.hH b.ok g2 g3 (by omega) (by omega) (by omega) g1).mono fun r σ1 hq => ?_
    obtain ⟨oL1, oH1, dl1, dh1, runs1, os1, h1, f1, n1, n2, ⟨g', mr⟩, hrun1⟩ := hq
    have hR1 := b.hR.fr f1 fun i e e2 => b.dj i e2 e
    have hc1 := (hk1 σ1 f1).trans c11
    have hal := k_RAll (f := f) (l := l) (σ := σ1) (by omega)
    have hal2 := k_RAll (f := g) (l := s.roots) (σ := σ1) (by omega)
    have hrm := k_RMake (kind := x.kind) (f := false) (g := false) hR1 b.ok g2 g3 (by omega) (by omega) (by omega) g1
    obtain ⟨k1, k2, k3, k4, k5⟩ := room_ok (half := half) b.ok g2 g3
    generalize roomO half s.os l s.roots = mo at mr hrm k1 k2 k3 k4 k5
    rcases mr with ⟨hfu, rfl, rfl⟩ | ⟨hfu, rfl, rfl⟩
    · simp -implicitDefEqProofs (maxSteps := 2000000) (disch := omega) [-getElem?_pos, e6, e8, e9, e11, e12, hc1]
      refine hal.then fun r hq => ?_
      subst hq
      simp -implicitDefEqProofs (maxSteps := 2000000) (disch := omega) [-getElem?_pos]
      refine hal2.then fun r hq => ?_
      subst hq
      simp -implicitDefEqProofs (maxSteps := 2000000) (disch := omega) [-getElem?_pos]
      refine hrm.mono fun r σ2 hq => ?_
      obtain ⟨oT2, dT2, rs2, os2, runs2, hR2, f2, hrs, ⟨fl, gl, mr2⟩, hrun2⟩ := hq
      rcases mr2 with ⟨hfu2, rfl, rfl⟩ | ⟨hfu2, _, _⟩
      · have hcd := k_RCode 7 (by omega) (by omega) σ2
        have ha1 := k_RAll (f := false) (l := mo.l) (σ := σ2) (by omega)
        have ha2 := k_RAll (f := g') (l := mo.r) (σ := σ2) (by omega)
        have hs1 := k_RSameA (f := false) (g := fl) (a := mo.l) (b := mo.l) (σ := σ2) (by omega)
        have hs2 := k_RSameA (f := false) (g := gl) (a := mo.r) (b := mo.r) (σ := σ2) (by omega)
        rw [decide_eq_true rfl] at hs1 hs2
        have hbs := both_step b h1 f1 n1 n2 f2 hrs
        simp -implicitDefEqProofs (maxSteps := 2000000) (disch := omega) [-getElem?_pos, hc1]
        refine hcd.then fun r hq => ?_
        subst hq
        simp -implicitDefEqProofs (maxSteps := 2000000) (disch := omega) [-getElem?_pos]
        refine ha1.then fun r hq => ?_
        subst hq
        simp -implicitDefEqProofs (maxSteps := 2000000) (disch := omega) [-getElem?_pos]
        refine hs1.then fun r hq => ?_
        subst hq
        simp -implicitDefEqProofs (maxSteps := 2000000) (disch := omega) [-getElem?_pos]
        refine ha2.then fun r hq => ?_
        subst hq
        simp -implicitDefEqProofs (maxSteps := 2000000) (disch := omega) [-getElem?_pos]
        refine hs2.then fun r hq => ?_
        subst hq
        simp -implicitDefEqProofs (maxSteps := 2000000) (disch := omega) [-getElem?_pos]

        exact key _ σ2 ⟨mo.os, runs1, oL1, oH1, dl1, dh1, oT2, dT2, rs2, mo.r⟩ ⟨hbs.1, by rw [hrun1, ← hrun2]; exact hR2, k1, hbs.2, k3⟩ (by dsimp only; omega) (fun k hk => by simp only [List.mem_cons, List.not_mem_nil, or_false] at hk; rcases hk with rfl | rfl | rfl | rfl | rfl <;> simp) (by simp) (by simp)
      · exact absurd hfu hfu2
    · simp -implicitDefEqProofs (maxSteps := 2000000) (disch := omega) [-getElem?_pos, e6, e8, e9, e11, e12, hc1]
      refine hal.then fun r hq => ?_
      subst hq
      simp -implicitDefEqProofs (maxSteps := 2000000) (disch := omega) [-getElem?_pos]
      refine hal2.then fun r hq => ?_
      subst hq
      simp -implicitDefEqProofs (maxSteps := 2000000) (disch := omega) [-getElem?_pos]
      refine hrm.mono fun r σ2 hq => ?_
      obtain ⟨oT2, dT2, rs2, os2, runs2, hR2, f2, hrs, ⟨fl, gl, mr2⟩, hrun2⟩ := hq
      rcases mr2 with ⟨hfu2, _, _⟩ | ⟨hfu2, rfl, rfl⟩
      · exact absurd hfu2 hfu
      · have hcd := k_RCode0 σ2
        have ha1 := k_RAll (f := false) (l := mo.l) (σ := σ2) (by omega)
        have ha2 := k_RAll (f := g') (l := mo.r) (σ := σ2) (by omega)
        have hs1 := k_RSameA (f := false) (g := fl) (a := mo.l) (b := mo.l) (σ := σ2) (by omega)
        have hs2 := k_RSameA (f := false) (g := gl) (a := mo.r) (b := mo.r) (σ := σ2) (by omega)
        rw [decide_eq_true rfl] at hs1 hs2
        have hbs := both_step b h1 f1 n1 n2 f2 hrs
        have hok : OkO (mo.os ++ [⟨x.kind, mo.l⟩]) := ok_app k1 ⟨g1.1, g1.2.1, by dsimp only; omega⟩ k2 (by unfold fullO at hfu; simp only [osz]; omega)
        simp -implicitDefEqProofs (maxSteps := 2000000) (disch := omega) [-getElem?_pos, hc1]
        refine hcd.then fun r hq => ?_
        subst hq
        simp -implicitDefEqProofs (maxSteps := 2000000) (disch := omega) [-getElem?_pos]
        refine ha1.then fun r hq => ?_
        subst hq
        simp -implicitDefEqProofs (maxSteps := 2000000) (disch := omega) [-getElem?_pos]
        refine hs1.then fun r hq => ?_
        subst hq
        simp -implicitDefEqProofs (maxSteps := 2000000) (disch := omega) [-getElem?_pos]
        refine ha2.then fun r hq => ?_
        subst hq
        simp -implicitDefEqProofs (maxSteps := 2000000) (disch := omega) [-getElem?_pos]
        refine hs2.then fun r hq => ?_
        subst hq
        simp -implicitDefEqProofs (maxSteps := 2000000) (disch := omega) [-getElem?_pos]

        simp -implicitDefEqProofs (maxSteps := 2000000) (disch := omega) [-getElem?_pos, e10]
        refine .mk (fun h3 => ?_) fun h3 => ?_
        · simp -implicitDefEqProofs (maxSteps := 2000000) (disch := omega) [-getElem?_pos]
          refine ⟨by omega, ?_⟩
          refine (k_At _ _).then fun r hq => ?_
          subst hq
          simp -implicitDefEqProofs (maxSteps := 2000000) (disch := omega) [-getElem?_pos]
          refine ⟨by omega, ?_⟩
          refine key _ _ ⟨mo.os ++ [⟨x.kind, mo.l⟩], runs1, oL1, oH1, dl1, dh1, oT2, dT2, rs2, mo.r ++ [⟨true, tot mo.os⟩]⟩ ⟨hbs.1.on (σ' := ⟨σ2.objs, σ2.toks ++ [mo.r.length + 1]⟩) fun _ _ h => h, by rw [hrun1, ← hrun2]; exact hR2.on (σ' := ⟨σ2.objs, σ2.toks ++ [mo.r.length + 1]⟩) fun _ _ => rfl, hok, hbs.2, ?_⟩ (by simp; omega) (fun k hk => by simp only [List.mem_cons, List.not_mem_nil, or_false] at hk; rcases hk with rfl | rfl | rfl | rfl | rfl <;> simp) (by simp) (by simp)
          intro w hw
          rcases List.mem_append.1 hw with hw | hw
          · exact fine_app (k3 w hw)
          · rw [List.mem_singleton.1 hw]
            exact fun _ => ⟨mo.os.length, idxAt_iff.2 ⟨by simp, by simp [offs]⟩⟩
        · simp -implicitDefEqProofs (maxSteps := 2000000) (disch := omega) [-getElem?_pos]
          exact key _ _ ⟨mo.os ++ [⟨x.kind, mo.l⟩], runs1, oL1, oH1, dl1, dh1, oT2, dT2, rs2, mo.r⟩ ⟨hbs.1, by rw [hrun1, ← hrun2]; exact hR2, hok, hbs.2, fun w hw => fine_app (k3 w hw)⟩ (by dsimp only; omega) (fun k hk => by simp only [List.mem_cons, List.not_mem_nil, or_false] at hk; rcases hk with rfl | rfl | rfl | rfl | rfl <;> simp) (by simp) (by simp)
  · refine (k_MakeNF (f := f) (g := g) b.hH b.ok hg).then fun r hq => ?_
    subst hq
    have hlo := len_tot s.os
    have hsm := b.ok.small
    have hal := k_RAll (f := f) (l := l) (σ := σ) (by omega)
    have hal2 := k_RAll (f := g) (l := s.roots) (σ := σ) (by omega)
    have hrm := k_RMakeBad (kind := x.kind) (f := false) (g := false) b.hR (by omega) (by omega) (by omega) hg
    have hcd := k_RCode 1 (by omega) (by omega) σ
    have ha := (k_RAll (f := false) (l := []) (σ := σ) (by simp)).args (ds := [.v .snil]) rfl fun i d d' hd hd' => by
      match i with
      | 0 => cases hd; cases hd'; exact .snil
      | n + 1 => simp at hd
    have hs := (k_RSameA (f := false) (g := false) (a := []) (b := []) (σ := σ) (by simp)).args (ds := [.v (.sl (some 2) false []), .v .snil]) rfl fun i d d' hd hd' => by
      match i with
      | 0 => cases hd; cases hd'; exact .refl _
      | 1 => cases hd; cases hd'; exact .snil
      | n + 2 => simp at hd
    rw [decide_eq_true rfl] at hs
    unfold badR at hrm
    simp -implicitDefEqProofs (maxSteps := 2000000) (disch := omega) [-getElem?_pos, e6, e8, e9, e11, e12, c11]
    refine hal.then fun r hq => ?_
    subst hq
    simp -implicitDefEqProofs (maxSteps := 2000000) (disch := omega) [-getElem?_pos]
    refine hal2.then fun r hq => ?_
    subst hq
    simp -implicitDefEqProofs (maxSteps := 2000000) (disch := omega) [-getElem?_pos]
    refine hrm.then fun r hq => ?_
    subst hq
    simp -implicitDefEqProofs (maxSteps := 2000000) (disch := omega) [-getElem?_pos]
    refine hcd.then fun r hq => ?_
    subst hq
    simp -implicitDefEqProofs (maxSteps := 2000000) (disch := omega) [-getElem?_pos]
    refine ha.then fun r hq => ?_
    subst hq
    simp -implicitDefEqProofs (maxSteps := 2000000) (disch := omega) [-getElem?_pos]
    refine hs.then fun r hq => ?_
    subst hq
    simp -implicitDefEqProofs (maxSteps := 2000000) (disch := omega) [-getElem?_pos]
    refine ha.then fun r hq => ?_
    subst hq
    simp -implicitDefEqProofs (maxSteps := 2000000) (disch := omega) [-getElem?_pos]
    refine hs.then fun r hq => ?_
    subst hq
    simp -implicitDefEqProofs (maxSteps := 2000000) (disch := omega) [-getElem?_pos, e9]
    exact key _ _ s b (by omega) (fun k hk => by simp only [List.mem_cons, List.not_mem_nil, or_false] at hk; rcases hk with rfl | rfl | rfl | rfl | rfl <;> simp) (by simp [e9]) (by simp [e9])
end Go.Proofs.Ytiomciifhkbklaa
