/-
  Scope, plainly: what binders get are numbers in order; numbered again it is the same; what is free is seen by its place. (Own work.)
-/
import Derived.Test.YtpdeaekmgljeaaaGreatDoorP06
import Derived.Test.YtpdeaekmgljeaaaGreatDoorChecked
import Derived.WalkKit
import Derived.LaidEql
import Derived.Stop.Asserts
import Derived.RowKitTokens
import Derived.Below
import Derived.OneCell
set_option linter.unusedVariables false
set_option linter.unusedSimpArgs false
namespace Go.Proofs.YtpdeaekmgljeaaaGreatDoor
open Go Go.Abs
def ownBs (k : Int) (s t : Str) (ns : List Str) : List Str :=
  if k = 4 ∨ k = 6 then [s] else if k = 7 then [s, t] else if k = 14 then ns ++ (if t = [] then [] else [t]) else []
mutual
def bndrs : Ex → List Str
  | .mk k _ _ s t _ ns l => ownBs k s t ns ++ bndrsL l
def bndrsL : List Ex → List Str
  | [] => []
  | x :: l => bndrs x ++ bndrsL l
end
def vN (i : Nat) : Str := [118] ++ Lib.itoa (i : Int)
theorem asR_vN (r : Rn) : asR r = vN r.old.length := rfl
theorem vN_ne (i : Nat) : vN i ≠ [] := by simp [vN]
theorem itoa_nat (i : Nat) : Lib.itoa (i : Int) = Lib.decDigits i := by unfold Lib.itoa; rw [if_neg (by omega)]; rfl
theorem vN_inj {i j : Nat} (h : vN i = vN j) : i = j := by
  simp only [vN, List.cons_append, List.nil_append, List.cons.injEq, true_and, itoa_nat] at h
  rw [← (dec_ok i).2.2, ← (dec_ok j).2.2, h]
def vNs (a n : Nat) : List Str := (List.range' a n).map vN
theorem vNs_add (a m n : Nat) : vNs a m ++ vNs (a + m) n = vNs a (m + n) := by
  unfold vNs
  rw [← List.map_append, List.range'_append_1]
theorem vNs_len (a n : Nat) : (vNs a n).length = n := by simp [vNs]
theorem vNs_get {a n i : Nat} (h : i < n) : (vNs a n)[i]? = some (vN (a + i)) := by
  unfold vNs
  rw [List.getElem?_map, List.getElem?_range' h]
  simp
theorem vNs_once {a n i j : Nat} {x : Str} (hi : (vNs a n)[i]? = some x) (hj : (vNs a n)[j]? = some x) : i = j := by
  have h1 := (List.getElem?_eq_some_iff.1 hi).1
  have h2 := (List.getElem?_eq_some_iff.1 hj).1
  rw [vNs_len] at h1 h2
  rw [vNs_get h1] at hi
  rw [vNs_get h2] at hj
  have := vN_inj ((Option.some.inj hi).trans (Option.some.inj hj).symm)
  omega
theorem namesR_as : ∀ (ns : List Str) (r : Rn), (namesR ns r).1.map (·.2) = vNs r.old.length ns.length
  | [], r => rfl
  | x :: l, r => by
    have h := namesR_as l (bindR x r)
    simp only [namesR, List.map_cons]
    rw [h]
    simp only [bindR, List.length_append, List.length_singleton, List.length_cons, asR_vN, List.length_nil, Nat.zero_add]
    unfold vNs
    rw [List.range'_succ, List.map_cons]
theorem head_own (k p : Int) (s t : Str) (ns : List Str) (env : List Frm) (r : Rn) : r.old.length ≤ (headN k p s t ns env r).r.old.length ∧
    ownBs k (headN k p s t ns env r).s (headN k p s t ns env r).t (headN k p s t ns env r).ns = vNs r.old.length ((headN k p s t ns env r).r.old.length - r.old.length) := by
  have h1 := namesR_len ns r
  have h2 := namesR_as ns r
  unfold headN
  by_cases h3 : k = 3
  · subst h3
    rw [if_pos rfl]
    have e : (if (findF env s).2 = true then r else ⟨r.old, r.free ++ [p]⟩ : Rn).old = r.old := by split <;> rfl
    dsimp only
    rw [e]
    simp [ownBs, vNs]
  rw [if_neg h3]
  by_cases h4 : k = 4 ∨ k = 6
  · rw [if_pos h4]
    simp only [ownBs, if_pos h4, bindR, List.length_append, List.length_singleton, asR_vN]
    refine ⟨by omega, ?_⟩
    rw [show r.old.length + 1 - r.old.length = 1 by omega]
    simp [vNs]
  rw [if_neg h4]
  by_cases h7 : k = 7
  · rw [if_pos h7]
    simp only [ownBs, if_neg h4, if_pos h7, bindR, List.length_append, List.length_singleton, asR_vN]
    refine ⟨by omega, ?_⟩
    rw [show r.old.length + 1 + 1 - r.old.length = 2 by omega]
    simp [vNs, List.range'_succ]
  rw [if_neg h7]
  by_cases h14 : k = 14
  · rw [if_pos h14]
    by_cases ht : t = []
    · rw [if_pos ht]
      simp only [ownBs, if_neg h4, if_neg h7, if_pos h14, if_pos ht, List.append_nil]
      refine ⟨by omega, ?_⟩
      rw [h2, h1.2.1, show r.old.length + ns.length - r.old.length = ns.length by omega]
    · rw [if_neg ht]
      have hv : asR (namesR ns r).2 ≠ [] := by rw [asR_vN]; exact vN_ne _
      simp only [ownBs, if_neg h4, if_neg h7, if_pos h14, if_neg hv, bindR, List.length_append, List.length_singleton]
      refine ⟨by omega, ?_⟩
      rw [h2, asR_vN, h1.2.1, show r.old.length + ns.length + 1 - r.old.length = ns.length + 1 by omega, ← vNs_add]
      simp [vNs]
  rw [if_neg h14]
  simp [ownBs, h4, h7, h14, vNs]
theorem goN_bndrs (e : Ex) : ∀ (env : List Frm) (r : Rn), r.old.length ≤ (goN e env r).r.old.length ∧ bndrs (goN e env r).e = vNs r.old.length ((goN e env r).r.old.length - r.old.length) := by
  refine Ex.ind (P := fun e => ∀ (env : List Frm) (r : Rn), r.old.length ≤ (goN e env r).r.old.length ∧ bndrs (goN e env r).e = vNs r.old.length ((goN e env r).r.old.length - r.old.length)) (fun k p n s t ls ns l ih => ?_) e
  intro env r
  have hh := head_own k p s t ns env r
  rw [goN]
  dsimp only
  rw [bndrs]
  generalize headN k p s t ns env r = h at *
  have hL : ∀ (l : List Ex) (i : Nat) (r : Rn), (∀ x ∈ l, ∀ (env : List Frm) (r : Rn), r.old.length ≤ (goN x env r).r.old.length ∧ bndrs (goN x env r).e = vNs r.old.length ((goN x env r).r.old.length - r.old.length)) →
      r.old.length ≤ (goL k h env i l r).r.old.length ∧ bndrsL (goL k h env i l r).l = vNs r.old.length ((goL k h env i l r).r.old.length - r.old.length) := by
    intro l
    induction l with
    | nil => intro i r _; simp [goL, bndrsL, vNs]
    | cons x l ihl =>
      intro i r hx
      obtain ⟨a1, a2⟩ := hx x (by simp) (innerN k h env i) r
      obtain ⟨b1, b2⟩ := ihl (i + 1) (goN x (innerN k h env i) r).r fun y hy => hx y (by simp [hy])
      simp only [goL, bndrsL]
      refine ⟨by omega, ?_⟩
      rw [a2, b2]
      have := vNs_add r.old.length ((goN x (innerN k h env i) r).r.old.length - r.old.length) ((goL k h env (i + 1) l (goN x (innerN k h env i) r).r).r.old.length - (goN x (innerN k h env i) r).r.old.length)
      rw [show r.old.length + ((goN x (innerN k h env i) r).r.old.length - r.old.length) = (goN x (innerN k h env i) r).r.old.length by omega] at this
      rw [this]
      congr 1
      omega
  obtain ⟨c1, c2⟩ := hL l 0 h.r ih
  refine ⟨by omega, ?_⟩
  rw [hh.2, c2]
  have := vNs_add r.old.length (h.r.old.length - r.old.length) ((goL k h env 0 l h.r).r.old.length - h.r.old.length)
  rw [show r.old.length + (h.r.old.length - r.old.length) = h.r.old.length by omega] at this
  rw [this]
  congr 1
  omega
def dup (f : Frm) : Frm := (f.2, f.2)
theorem findF_dup (env : List Frm) (s : Str) : (findF (env.map dup) s).1 = s := by
  unfold findF
  cases h : (env.map dup).reverse.find? fun x => decide (x.1 = s) with
  | none => rfl
  | some x =>
    have h1 := List.find?_some h
    have h2 := List.mem_of_find?_eq_some h
    simp only [List.mem_reverse, List.mem_map] at h2
    obtain ⟨f, _, rfl⟩ := h2
    exact of_decide_eq_true h1
theorem namesR_again : ∀ (ns : List Str) (r r2 : Rn), r2.old.length = r.old.length → (namesR ((namesR ns r).1.map (·.2)) r2).1 = (namesR ns r).1.map dup
  | [], r, r2, h => rfl
  | x :: l, r, r2, h => by
    have h1 := namesR_again l (bindR x r) (bindR (asR r) r2) (by simp [bindR, h])
    have e : asR r2 = asR r := by rw [asR_vN, asR_vN, h]
    simp only [namesR, List.map_cons, h1, e]
    rfl
structure HdR (h g : Hd) : Prop where
  s : g.s = h.s
  t : g.t = h.t
  ns : g.ns = h.ns
  fs : g.fs = dup h.fs
  ft : g.ft = dup h.ft
  fn : g.fn = h.fn.map dup
  r : g.r.old.length = h.r.old.length
theorem head_again (k p : Int) (s t : Str) (ns : List Str) (env : List Frm) (r r2 : Rn) (h0 : r2.old.length = r.old.length) :
    HdR (headN k p s t ns env r) (headN k p (headN k p s t ns env r).s (headN k p s t ns env r).t (headN k p s t ns env r).ns (env.map dup) r2) := by
  have e : asR r2 = asR r := by rw [asR_vN, asR_vN, h0]
  have hz : zF = dup zF := rfl
  by_cases h3 : k = 3
  · subst h3
    have g : headN 3 p s t ns env r = ⟨(findF env s).1, t, [], zF, zF, [], if (findF env s).2 = true then r else ⟨r.old, r.free ++ [p]⟩⟩ := by unfold headN; rw [if_pos rfl]
    rw [g]
    dsimp only
    have g2 := headN.eq_1 3 p (findF env s).1 t [] (env.map dup) r2
    rw [if_pos rfl] at g2
    rw [g2]
    refine ⟨findF_dup env _, rfl, rfl, rfl, rfl, rfl, ?_⟩
    dsimp only
    have e1 : (if (findF env s).2 = true then r else ⟨r.old, r.free ++ [p]⟩ : Rn).old = r.old := by split <;> rfl
    have e2 : (if (findF (env.map dup) (findF env s).1).2 = true then r2 else ⟨r2.old, r2.free ++ [p]⟩ : Rn).old = r2.old := by split <;> rfl
    rw [e1, e2, h0]
  by_cases h4 : k = 4 ∨ k = 6
  · have g : headN k p s t ns env r = ⟨asR r, t, [], (s, asR r), zF, [], bindR s r⟩ := by unfold headN; rw [if_neg h3, if_pos h4]
    rw [g]
    dsimp only
    have g2 := headN.eq_1 k p (asR r) t [] (env.map dup) r2
    rw [if_neg h3, if_pos h4] at g2
    rw [g2]
    refine ⟨e, rfl, rfl, by rw [e]; rfl, rfl, rfl, by simp [bindR, h0]⟩
  by_cases h7 : k = 7
  · have g : headN k p s t ns env r = ⟨asR r, asR (bindR s r), [], (s, asR r), (t, asR (bindR s r)), [], bindR t (bindR s r)⟩ := by unfold headN; rw [if_neg h3, if_neg h4, if_pos h7]
    rw [g]
    dsimp only
    have g2 := headN.eq_1 k p (asR r) (asR (bindR s r)) [] (env.map dup) r2
    rw [if_neg h3, if_neg h4, if_pos h7] at g2
    rw [g2]
    have e2 : asR (bindR (asR r) r2) = asR (bindR s r) := by simp only [asR_vN, bindR, List.length_append, List.length_singleton, h0]
    refine ⟨e, e2, rfl, by dsimp only; rw [e]; rfl, by dsimp only; rw [e2]; rfl, rfl, by simp [bindR, h0]⟩
  by_cases h14 : k = 14
  · have hl := namesR_len ns r
    have ha := namesR_again ns r r2 h0
    have hl2 := namesR_len ((namesR ns r).1.map (·.2)) r2
    have hm : (namesR ((namesR ns r).1.map (·.2)) r2).1.map (·.2) = (namesR ns r).1.map (·.2) := by rw [ha, List.map_map]; rfl
    have hr : (namesR ((namesR ns r).1.map (·.2)) r2).2.old.length = (namesR ns r).2.old.length := by rw [hl2.2.1, hl.2.1, List.length_map, hl.1, h0]
    have ea : asR (namesR ((namesR ns r).1.map (·.2)) r2).2 = asR (namesR ns r).2 := by rw [asR_vN, asR_vN, hr]
    by_cases ht : t = []
    · have g : headN k p s t ns env r = ⟨s, t, (namesR ns r).1.map (·.2), zF, zF, (namesR ns r).1, (namesR ns r).2⟩ := by unfold headN; rw [if_neg h3, if_neg h4, if_neg h7, if_pos h14, if_pos ht]
      rw [g]
      dsimp only
      have g2 := headN.eq_1 k p s t ((namesR ns r).1.map (·.2)) (env.map dup) r2
      rw [if_neg h3, if_neg h4, if_neg h7, if_pos h14, if_pos ht] at g2
      rw [g2]
      exact ⟨rfl, rfl, hm, rfl, rfl, ha, hr⟩
    · have g : headN k p s t ns env r = ⟨s, asR (namesR ns r).2, (namesR ns r).1.map (·.2), zF, (t, asR (namesR ns r).2), (namesR ns r).1, bindR t (namesR ns r).2⟩ := by unfold headN; rw [if_neg h3, if_neg h4, if_neg h7, if_pos h14, if_neg ht]
      have hv : asR (namesR ns r).2 ≠ [] := by rw [asR_vN]; exact vN_ne _
      rw [g]
      dsimp only
      have g2 := headN.eq_1 k p s (asR (namesR ns r).2) ((namesR ns r).1.map (·.2)) (env.map dup) r2
      rw [if_neg h3, if_neg h4, if_neg h7, if_pos h14, if_neg hv] at g2
      rw [g2]
      exact ⟨rfl, ea, hm, rfl, by dsimp only; rw [ea]; rfl, ha, by simp [bindR, hr]⟩
  have g : headN k p s t ns env r = ⟨s, t, [], zF, zF, [], r⟩ := by unfold headN; rw [if_neg h3, if_neg h4, if_neg h7, if_neg h14]
  rw [g]
  dsimp only
  have g2 := headN.eq_1 k p s t [] (env.map dup) r2
  rw [if_neg h3, if_neg h4, if_neg h7, if_neg h14] at g2
  rw [g2]
  exact ⟨rfl, rfl, rfl, rfl, rfl, rfl, h0⟩
theorem inner_again {k : Int} {h g : Hd} {env : List Frm} {i : Nat} (hr : HdR h g) : innerN k g (env.map dup) i = (innerN k h env i).map dup := by
  unfold innerN
  rw [hr.fs, hr.ft, hr.fn, List.length_map]
  split
  · simp
  · split
    · simp
    · split
      · rename_i hc
        simp only [List.map_append, List.map_cons, List.map_nil, List.getElem?_map]
        congr 2
        cases h.fn[i - 1]? <;> rfl
      · split <;> simp
theorem again (e : Ex) : ∀ (env : List Frm) (r r2 : Rn), r2.old.length = r.old.length → (goN (goN e env r).e (env.map dup) r2).e = (goN e env r).e ∧ (goN (goN e env r).e (env.map dup) r2).r.old.length = (goN e env r).r.old.length := by
  refine Ex.ind (P := fun e => ∀ (env : List Frm) (r r2 : Rn), r2.old.length = r.old.length → (goN (goN e env r).e (env.map dup) r2).e = (goN e env r).e ∧ (goN (goN e env r).e (env.map dup) r2).r.old.length = (goN e env r).r.old.length) (fun k p n s t ls ns l ih => ?_) e
  intro env r r2 h0
  have hh := head_again k p s t ns env r r2 h0
  have g0 := goN.eq_1 env r k p n s t ls ns l
  rw [g0]
  dsimp only
  generalize headN k p s t ns env r = h at *
  rw [goN]
  dsimp only
  generalize headN k p h.s h.t h.ns (env.map dup) r2 = g at *
  have hL : ∀ (l : List Ex) (i : Nat) (r r2 : Rn), r2.old.length = r.old.length → (∀ x ∈ l, ∀ (env : List Frm) (r r2 : Rn), r2.old.length = r.old.length → (goN (goN x env r).e (env.map dup) r2).e = (goN x env r).e ∧ (goN (goN x env r).e (env.map dup) r2).r.old.length = (goN x env r).r.old.length) →
      (goL k g (env.map dup) i (goL k h env i l r).l r2).l = (goL k h env i l r).l ∧ (goL k g (env.map dup) i (goL k h env i l r).l r2).r.old.length = (goL k h env i l r).r.old.length := by
    intro l
    induction l with
    | nil => intro i r r2 h0 _; simp [goL, h0]
    | cons x l ihl =>
      intro i r r2 h0 hx
      obtain ⟨a1, a2⟩ := hx x (by simp) (innerN k h env i) r r2 h0
      obtain ⟨b1, b2⟩ := ihl (i + 1) (goN x (innerN k h env i) r).r _ a2 fun y hy => hx y (by simp [hy])
      simp only [goL, inner_again hh]
      rw [a1]
      exact ⟨by rw [b1], b2⟩
  obtain ⟨c1, c2⟩ := hL l 0 h.r g.r hh.r ih
  rw [hh.s, hh.t, hh.ns, c1]
  exact ⟨rfl, c2⟩
theorem again_nil (e : Ex) : (goN (goN e [] ⟨[], []⟩).e [] ⟨[], []⟩).e = (goN e [] ⟨[], []⟩).e := (again e [] ⟨[], []⟩ ⟨[], []⟩ rfl).1
def inE (env : List Frm) (v : Str) : Prop := ∃ f ∈ env, f.1 = v
theorem findF_in {env : List Frm} {s : Str} : (findF env s).2 = true ↔ inE env s := by
  unfold findF
  cases h : env.reverse.find? fun x => decide (x.1 = s) with
  | none =>
    rw [List.find?_eq_none] at h
    refine ⟨fun h0 => (by cases h0), fun hx => ?_⟩
    obtain ⟨f, hf, he⟩ := hx
    exact absurd he (by simpa using h f (by simpa using hf))
  | some x =>
    have h1 := List.find?_some h
    have h2 := List.mem_of_find?_eq_some h
    exact ⟨fun _ => ⟨x, by simpa using h2, by simpa using h1⟩, fun _ => rfl⟩
mutual
def sound : Ex → Prop
  | .mk k _ _ _ _ ls ns l => ((k = 14 → ns.length = ls.length) ∧ (k = 4 → l.length ≤ 1) ∧ (k = 7 → l.length ≤ 2)) ∧ soundL l
def soundL : List Ex → Prop
  | [] => True
  | x :: l => sound x ∧ soundL l
end
theorem namesR_fst : ∀ (ns : List Str) (r : Rn), (namesR ns r).1.map (·.1) = ns
  | [], r => rfl
  | x :: l, r => by simp only [namesR, List.map_cons, namesR_fst l]
theorem inner_in {k p : Int} {s t : Str} {ls ns : List Str} {env : List Frm} {r : Rn} {i : Nat} {v : Str} (hn : k = 14 → ns.length = ls.length) (hi : k = 4 → i = 0) (hi7 : k = 7 → i < 2) :
    inE (innerN k (headN k p s t ns env r) env i) v ↔ inE env v ∨ v ∈ bnd k s t ls ns i := by
  have one : ∀ (f : Frm), inE (env ++ [f]) v ↔ inE env v ∨ v = f.1 := by
    intro f
    unfold inE
    constructor
    · rintro ⟨g, hg, rfl⟩
      rcases List.mem_append.1 hg with hg | hg
      · exact .inl ⟨g, hg, rfl⟩
      · rw [List.mem_singleton.1 hg]; exact .inr rfl
    · rintro (⟨g, hg, rfl⟩ | rfl)
      · exact ⟨g, List.mem_append_left _ hg, rfl⟩
      · exact ⟨f, by simp, rfl⟩
  by_cases h4 : k = 4
  · have h0 := hi h4
    subst h4 h0
    simp [innerN, headN, bnd, one]
  by_cases h6 : k = 6
  · subst h6
    by_cases h1 : i = 1
    · subst h1; simp [innerN, headN, bnd, one]
    · simp [innerN, headN, bnd, h1]
  by_cases h7 : k = 7
  · subst h7
    have h2 := hi7 rfl
    by_cases h1 : i = 1
    · subst h1; simp [innerN, headN, bnd, one]
    · have h0 : i = 0 := by omega
      subst h0
      have e : innerN 7 (headN 7 p s t ns env r) env 0 = (env ++ [(s, asR r)]) ++ [(t, asR (bindR s r))] := by simp [innerN, headN]
      rw [e]
      have two : ∀ (f g : Frm), inE ((env ++ [f]) ++ [g]) v ↔ inE env v ∨ v = f.1 ∨ v = g.1 := by
        intro f g
        unfold inE
        constructor
        · rintro ⟨x, hx, rfl⟩
          simp only [List.append_assoc, List.mem_append, List.mem_singleton] at hx
          rcases hx with hx | rfl | rfl
          · exact .inl ⟨x, hx, rfl⟩
          · exact .inr (.inl rfl)
          · exact .inr (.inr rfl)
        · rintro (⟨x, hx, rfl⟩ | rfl | rfl)
          · exact ⟨x, by simp [hx], rfl⟩
          · exact ⟨f, by simp, rfl⟩
          · exact ⟨g, by simp, rfl⟩
      rw [two]
      simp [bnd]
  by_cases h14 : k = 14
  · subst h14
    have hnl := hn rfl
    have hl := namesR_len ns r
    have hf := namesR_fst ns r
    have hfn : (headN 14 p s t ns env r).fn = (namesR ns r).1 := by unfold headN; simp; split <;> rfl
    by_cases h0 : i = 0
    · subst h0; simp [innerN, bnd]
    have hpos : 0 < i := by omega
    by_cases hil : i ≤ ns.length
    · have e : innerN 14 (headN 14 p s t ns env r) env i = env ++ [((namesR ns r).1[i - 1]?).getD zF] := by
        unfold innerN
        rw [hfn]
        simp [hpos, hl.1, hil]
      have hx : (namesR ns r).1[i - 1]?.map (·.1) = ns[i - 1]? := by rw [← List.getElem?_map, hf]
      obtain ⟨x, hx2⟩ : ∃ x, (namesR ns r).1[i - 1]? = some x := ⟨_, List.getElem?_eq_getElem (by rw [hl.1]; omega)⟩
      rw [e, one, hx2]
      rw [hx2] at hx
      simp [bnd, h0, hil, hnl ▸ hil, ← hx]
    · have e : innerN 14 (headN 14 p s t ns env r) env i = env ++ [(headN 14 p s t ns env r).ft] := by
        unfold innerN
        rw [hfn]
        simp [hpos, hl.1, hil]
      have hft : (headN 14 p s t ns env r).ft.1 = t := by
        unfold headN
        simp
        split
        · rename_i ht; rw [ht]; rfl
        · rfl
      rw [e, one, hft]
      simp [bnd, h0, hil]
  simp [innerN, bnd, h4, h6, h7, h14]
theorem head_free (k p : Int) (s t : Str) (ns : List Str) (env : List Frm) (r : Rn) : (headN k p s t ns env r).r.free = [] ↔ r.free = [] ∧ (k = 3 → inE env s) := by
  have hl := namesR_len ns r
  by_cases h3 : k = 3
  · subst h3
    unfold headN
    rw [if_pos rfl]
    dsimp only
    by_cases hf : (findF env s).2 = true
    · rw [if_pos hf]; simp [findF_in.1 hf]
    · rw [if_neg hf]
      have : ¬ inE env s := fun h => hf (findF_in.2 h)
      simp [this]
  unfold headN
  rw [if_neg h3]
  simp only [h3, false_implies, and_true]
  split
  · rfl
  · split
    · rfl
    · split
      · split
        · dsimp only; rw [hl.2.2]
        · simp only [bindR]; rw [hl.2.2]
      · rfl
theorem goN_free (e : Ex) : sound e → ∀ (env : List Frm) (r : Rn), (goN e env r).r.free = [] ↔ r.free = [] ∧ ∀ v ∈ fvs e, inE env v := by
  refine Ex.ind (P := fun e => sound e → ∀ (env : List Frm) (r : Rn), (goN e env r).r.free = [] ↔ r.free = [] ∧ ∀ v ∈ fvs e, inE env v) (fun k p n s t ls ns l ih => ?_) e
  intro hs env r
  rw [sound] at hs
  obtain ⟨⟨s1, s2, s3⟩, hsl⟩ := hs
  have hf := head_free k p s t ns env r
  have hin : ∀ i, i < l.length → ∀ v, inE (innerN k (headN k p s t ns env r) env i) v ↔ inE env v ∨ v ∈ bnd k s t ls ns i := fun i hi v =>
    inner_in s1 (fun h => by have := s2 h; omega) (fun h => by have := s3 h; omega)
  rw [goN]
  dsimp only
  rw [fvs]
  generalize headN k p s t ns env r = h at *
  have hL : ∀ (l : List Ex) (i n : Nat) (r : Rn), n = i + l.length → (∀ j, j < n → ∀ v, inE (innerN k h env j) v ↔ inE env v ∨ v ∈ bnd k s t ls ns j) → soundL l → (∀ x ∈ l, sound x → ∀ (env : List Frm) (r : Rn), (goN x env r).r.free = [] ↔ r.free = [] ∧ ∀ v ∈ fvs x, inE env v) →
      ((goL k h env i l r).r.free = [] ↔ r.free = [] ∧ ∀ v ∈ fvL k s t ls ns i l, inE env v) := by
    intro l
    induction l with
    | nil => intro i n r _ _ _ _; simp [goL, fvL]
    | cons x l ihl =>
      intro i n r hn hj hsl hx
      rw [soundL] at hsl
      simp only [List.length_cons] at hn
      have a1 := hx x (by simp) hsl.1 (innerN k h env i) r
      have b1 := ihl (i + 1) n (goN x (innerN k h env i) r).r (by omega) hj hsl.2 fun y hy => hx y (by simp [hy])
      simp only [goL, fvL]
      rw [b1, a1]
      simp only [hj i (by omega), List.mem_append, List.mem_filter, Bool.not_eq_true', decide_eq_false_iff_not]
      constructor
      · rintro ⟨⟨q1, q2⟩, q3⟩
        refine ⟨q1, fun v hv => ?_⟩
        rcases hv with ⟨hv, hb⟩ | hv
        · exact (q2 v hv).resolve_right hb
        · exact q3 v hv
      · rintro ⟨q1, q2⟩
        refine ⟨⟨q1, fun v hv => ?_⟩, fun v hv => q2 v (.inr hv)⟩
        by_cases hb : v ∈ bnd k s t ls ns i
        · exact .inr hb
        · exact .inl (q2 v (.inl ⟨hv, hb⟩))
  rw [hL l 0 l.length h.r (by omega) hin hsl ih, hf]
  simp only [List.mem_append]
  constructor
  · rintro ⟨⟨q1, q2⟩, q3⟩
    refine ⟨q1, fun v hv => ?_⟩
    rcases hv with hv | hv
    · split at hv
      · rename_i h3
        rw [List.mem_singleton.1 hv]
        exact q2 h3
      · cases hv
    · exact q3 v hv
  · rintro ⟨q1, q2⟩
    exact ⟨⟨q1, fun h3 => q2 s (.inl (by rw [if_pos h3]; simp))⟩, fun v hv => q2 v (.inr hv)⟩
theorem free_nil {e : Ex} (hs : sound e) : (goN e [] ⟨[], []⟩).r.free = [] ↔ fvs e = [] := by
  rw [goN_free e hs]
  constructor
  · rintro ⟨_, h⟩
    exact List.eq_nil_iff_forall_not_mem.2 fun v hv => by obtain ⟨f, hf, _⟩ := h v hv; cases hf
  · intro h
    rw [h]
    exact ⟨rfl, fun v hv => by cases hv⟩
theorem goL_length (k : Int) (h : Hd) (env : List Frm) : ∀ (l : List Ex) (i : Nat) (r : Rn), (goL k h env i l r).l.length = l.length
  | [], i, r => rfl
  | x :: l, i, r => by simp only [goL, List.length_cons, goL_length k h env l]
theorem head_ns (k p : Int) (s t : Str) (ns : List Str) (env : List Frm) (r : Rn) : (headN k p s t ns env r).ns.length = if k = 14 then ns.length else 0 := by
  have hl := namesR_len ns r
  unfold headN
  by_cases h3 : k = 3
  · subst h3; rfl
  rw [if_neg h3]
  by_cases h4 : k = 4 ∨ k = 6
  · rw [if_pos h4, if_neg (by omega)]; rfl
  rw [if_neg h4]
  by_cases h7 : k = 7
  · rw [if_pos h7, if_neg (by omega)]; rfl
  rw [if_neg h7]
  by_cases h14 : k = 14
  · rw [if_pos h14, if_pos h14]
    split <;> simp [hl.1]
  · rw [if_neg h14, if_neg h14]; rfl
theorem goN_sound (e : Ex) : sound e → ∀ (env : List Frm) (r : Rn), sound (goN e env r).e := by
  refine Ex.ind (P := fun e => sound e → ∀ (env : List Frm) (r : Rn), sound (goN e env r).e) (fun k p n s t ls ns l ih => ?_) e
  intro hs env r
  rw [sound] at hs
  obtain ⟨⟨s1, s2, s3⟩, hsl⟩ := hs
  have hh := head_ns k p s t ns env r
  rw [goN]
  dsimp only
  generalize headN k p s t ns env r = h at *
  rw [sound, goL_length]
  refine ⟨⟨fun h14 => by rw [hh, if_pos h14]; exact s1 h14, s2, s3⟩, ?_⟩
  have hL : ∀ (l : List Ex) (i : Nat) (r : Rn), soundL l → (∀ x ∈ l, sound x → ∀ (env : List Frm) (r : Rn), sound (goN x env r).e) → soundL (goL k h env i l r).l := by
    intro l
    induction l with
    | nil => intro i r _ _; simp [goL, soundL]
    | cons x l ihl =>
      intro i r hsl hx
      rw [soundL] at hsl
      simp only [goL, soundL]
      exact ⟨hx x (by simp) hsl.1 _ _, ihl _ _ hsl.2 fun y hy => hx y (by simp [hy])⟩
  exact hL l 0 h.r hsl ih
theorem dec_len : ∀ (k u : Nat), u < 10 ^ (k + 1) → (Lib.decDigits u).length ≤ k + 1
  | 0, u, h => by
    rw [Lib.decDigits, dif_pos (by omega)]
    simp
  | k + 1, u, h => by
    rw [Lib.decDigits]
    split
    · simp
    · have := dec_len k (u / 10) (by rw [Nat.pow_succ] at h; omega)
      rw [List.length_append]
      simp only [List.length_singleton]
      omega
theorem takeWhile_all {q : UInt8 → Bool} {s : Str} (h : ∀ x ∈ s, q x = true) : s.takeWhile q = s := by
  induction s with
  | nil => rfl
  | cons c r ih => rw [List.takeWhile_cons, if_pos (h c (by simp)), ih fun x hx => h x (by simp [hx])]
theorem isL_low {c : UInt8} {r : Str} (hc : lowB c = true) (ha : ∀ x ∈ c :: r, ldB x = true) (hw : (c :: r) ∉ wordsL) (hl : (c :: r).length ≤ 20) : isL (c :: r) 1 = true := by
  refine isR_imp (.inl rfl) ?_
  have hp : passS ldB (c :: r) 0 = c :: r := by unfold passS; rw [List.drop_zero]; exact takeWhile_all ha
  have hsp : spanE ldB (c :: r) 0 = (c :: r).length := by
    have : passS ldB (c :: r) 0 = ((c :: r).drop 0).takeWhile ldB := rfl
    unfold spanE
    rw [← this, hp, Nat.zero_add]
  unfold isR
  dsimp only
  rw [if_neg (by omega)]
  have ho : oneL (c :: r) 0 c = .tok ⟨1, 0, 0, c :: r⟩ (c :: r).length := by
    unfold oneL
    rw [if_pos hc, hp, if_neg hw]
    unfold nameN
    rw [hp, if_neg (by omega), hsp]
  rw [ho]
  simp
theorem vN_name {i : Nat} (hi : i < 10 ^ 19) : isL (vN i) 1 = true := by
  have hd := (dec_ok i).2.1
  have hl := dec_len 18 i hi
  obtain ⟨⟨c, r, hc, _, _⟩, _⟩ := dec_ok i
  have he : vN i = 118 :: Lib.decDigits i := by unfold vN; rw [itoa_nat]; rfl
  rw [he]
  refine isL_low rfl (fun x hx => ?_) (fun hw => ?_) (by simp only [List.length_cons]; omega)
  · rcases List.mem_cons.1 hx with rfl | hx
    · rfl
    · unfold ldB
      rw [hd x hx, Bool.or_true]
  · rw [hc] at hw
    simp [wordsL] at hw
theorem ownB_mk {k p n : Int} {s t : Str} {ls ns : List Str} {l : List Ex} : ownB (.mk k p n s t ls ns l) = if (l.length : Int) ≠ partsN k ls.length (decide (t ≠ [])) ∨ n < 0 ∨ (0 < n ∧ k ≠ 1) ∨ textB k s = false then false
    else if k = 8 then (ls.all fun s => isL s 1) && (riseL ls && decide (ls.length ≤ 30)) && decide (ns.length = 0) && decide (t = [])
    else if k = 14 then (ls.all fun s => isL s 3) && (riseL ls && decide (ls.length ≤ 30)) && decide (ns.length = ls.length) && (ns.all fun s => isL s 1) && (decide (t = []) || isL t 1) && decide (1 < l.length)
    else if k = 7 then isL t 1 && decide (ls.length + ns.length = 0)
    else decide (t = []) && decide (ls.length + ns.length = 0) := rfl
theorem own_sound {k p n : Int} {s t : Str} {ls ns : List Str} {l : List Ex} (h : ownB (.mk k p n s t ls ns l) = true) : (k = 14 → ns.length = ls.length) ∧ (k = 4 → l.length ≤ 1) ∧ (k = 7 → l.length ≤ 2) := by
  rw [ownB_mk] at h
  split at h
  · cases h
  rename_i hc
  simp only [not_or] at hc
  obtain ⟨hp, _⟩ := hc
  have hp : (l.length : Int) = partsN k ls.length (decide (t ≠ [])) := Classical.byContradiction hp
  refine ⟨fun h14 => ?_, fun h4 => ?_, fun h7 => ?_⟩
  · subst h14
    rw [if_neg (by decide), if_pos rfl] at h
    simp only [Bool.and_eq_true, decide_eq_true_eq] at h
    exact h.1.1.1.2
  · subst h4
    have : partsN 4 ls.length (decide (t ≠ [])) = 1 := rfl
    omega
  · subst h7
    have : partsN 7 ls.length (decide (t ≠ [])) = 2 := rfl
    omega
theorem fine_sound (e : Ex) : fineB e = true → sound e := by
  refine Ex.ind (P := fun e => fineB e = true → sound e) (fun k p n s t ls ns l ih => ?_) e
  intro h
  rw [fineB, Bool.and_eq_true] at h
  rw [sound]
  refine ⟨own_sound h.1, ?_⟩
  have hL : ∀ l : List Ex, (∀ x ∈ l, fineB x = true → sound x) → fineLB l = true → soundL l := by
    intro l
    induction l with
    | nil => intro _ _; simp [soundL]
    | cons x l ihl =>
      intro hx h
      rw [fineLB, Bool.and_eq_true] at h
      rw [soundL]
      exact ⟨hx x (by simp) h.1, ihl (fun y hy => hx y (by simp [hy])) h.2⟩
  exact hL l ih h.2
theorem goN_nodes (e : Ex) : ∀ (env : List Frm) (r : Rn), nds (goN e env r).e = nds e ∧ dep (goN e env r).e = dep e := by
  refine Ex.ind (P := fun e => ∀ (env : List Frm) (r : Rn), nds (goN e env r).e = nds e ∧ dep (goN e env r).e = dep e) (fun k p n s t ls ns l ih => ?_) e
  intro env r
  rw [goN]
  dsimp only
  generalize headN k p s t ns env r = h
  have hL : ∀ (l : List Ex) (i : Nat) (r : Rn), (∀ x ∈ l, ∀ (env : List Frm) (r : Rn), nds (goN x env r).e = nds x ∧ dep (goN x env r).e = dep x) → ndsL (goL k h env i l r).l = ndsL l ∧ depL (goL k h env i l r).l = depL l := by
    intro l
    induction l with
    | nil => intro i r _; exact ⟨rfl, rfl⟩
    | cons x l ihl =>
      intro i r hx
      have h1 := hx x (by simp) (innerN k h env i) r
      have h2 := ihl (i + 1) (goN x (innerN k h env i) r).r fun y hy => hx y (by simp [hy])
      simp only [goL, ndsL, depL, h1, h2, and_self]
  have h1 := hL l 0 h.r ih
  simp only [nds, dep, h1, and_self]
def asOk (env : List Frm) : Prop := ∀ f ∈ env, isL f.2 1 = true
theorem asOk_app {a b : List Frm} (ha : asOk a) (hb : asOk b) : asOk (a ++ b) := fun f hf => (List.mem_append.1 hf).elim (ha f) (hb f)
theorem asOk_one {f : Frm} (h : isL f.2 1 = true) : asOk [f] := fun g hg => by rw [List.mem_singleton.1 hg]; exact h
theorem namesR_ok : ∀ (ns : List Str) (r : Rn), r.old.length + ns.length < 10 ^ 19 → asOk (namesR ns r).1
  | [], r, h => fun f hf => by cases hf
  | x :: l, r, h => by
    simp only [List.length_cons] at h
    have h1 := namesR_ok l (bindR x r) (by simp only [bindR, List.length_append, List.length_singleton]; omega)
    intro f hf
    simp only [namesR, List.mem_cons] at hf
    rcases hf with rfl | hf
    · exact vN_name (by omega)
    · exact h1 f hf
theorem findF_ok {env : List Frm} {s : Str} (h : asOk env) (hf : (findF env s).2 = true) : isL (findF env s).1 1 = true := by
  unfold findF at hf ⊢
  cases hx : env.reverse.find? fun x => decide (x.1 = s) with
  | none => rw [hx] at hf; cases hf
  | some x =>
    have h2 := List.mem_of_find?_eq_some hx
    exact h x (by simpa using h2)
theorem inner_ok {k p : Int} {s t : Str} {ns : List Str} {env : List Frm} {r : Rn} {i : Nat} (he : asOk env) (hl : r.old.length + ns.length + 2 < 10 ^ 19) (hi : k = 14 → t = [] → i ≤ ns.length) : asOk (innerN k (headN k p s t ns env r) env i) := by
  have hv : ∀ i, i ≤ r.old.length + ns.length + 1 → isL (vN i) 1 = true := fun i h => vN_name (by omega)
  have hnl := namesR_len ns r
  by_cases h4 : k = 4 ∨ k = 6
  · have e : (headN k p s t ns env r).fs = (s, asR r) := by
      unfold headN
      rw [if_neg (by omega), if_pos h4]
    unfold innerN
    split
    · rw [e]; exact asOk_app he (asOk_one (hv _ (by omega)))
    · rw [if_neg (by omega), if_neg (by omega), if_neg (by omega)]
      exact he
  by_cases h7 : k = 7
  · subst h7
    have e : (headN 7 p s t ns env r).fs = (s, asR r) ∧ (headN 7 p s t ns env r).ft = (t, asR (bindR s r)) := ⟨rfl, rfl⟩
    have a1 := asOk_one (f := (s, asR r)) (hv r.old.length (by omega))
    have a2 := asOk_one (f := (t, asR (bindR s r))) (hv (r.old.length + 1) (by omega) |> fun h => by rw [asR_vN]; simpa [bindR] using h)
    unfold innerN
    split
    · rw [e.1]; exact asOk_app he a1
    · rw [if_pos rfl, e.1, e.2]; exact asOk_app he (asOk_app a1 a2)
  by_cases h14 : k = 14
  · subst h14
    have hfn : (headN 14 p s t ns env r).fn = (namesR ns r).1 := by unfold headN; simp; split <;> rfl
    unfold innerN
    rw [if_neg (by omega), if_neg (by omega), hfn, hnl.1]
    split
    · rename_i hc
      obtain ⟨x, hx⟩ : ∃ x, (namesR ns r).1[i - 1]? = some x := ⟨_, List.getElem?_eq_getElem (by omega)⟩
      rw [hx]
      exact asOk_app he (asOk_one (namesR_ok ns r (by omega) x (List.mem_of_getElem? hx)))
    · split
      · rename_i hc hd
        by_cases ht : t = []
        · have := hi rfl ht
          omega
        · have e : (headN 14 p s t ns env r).ft = (t, asR (namesR ns r).2) := by unfold headN; simp [ht]
          rw [e]
          refine asOk_app he (asOk_one (hv _ ?_))
          rw [hnl.2.1]
          omega
      · exact he
  unfold innerN
  rw [if_neg (by omega), if_neg (by omega), if_neg (by omega), if_neg (by omega)]
  exact he
theorem head_own_ok {k p n : Int} {s t : Str} {ls ns : List Str} {l l' : List Ex} {env : List Frm} {r : Rn} (h : ownB (.mk k p n s t ls ns l) = true) (hlen : l'.length = l.length) (hl : r.old.length + ns.length + 2 < 10 ^ 19) (he : asOk env) (hf : k = 3 → (findF env s).2 = true) :
    ownB (.mk k p n (headN k p s t ns env r).s (headN k p s t ns env r).t ls (headN k p s t ns env r).ns l') = true := by
  have hv : ∀ i, i ≤ r.old.length + ns.length + 1 → isL (vN i) 1 = true := fun i h => vN_name (by omega)
  have hnl := namesR_len ns r
  have hall : (((namesR ns r).1.map (·.2)).all fun s => isL s 1) = true := by
    rw [namesR_as]
    simp only [List.all_eq_true, vNs, List.mem_map, List.mem_range'_1]
    rintro x ⟨i, hi, rfl⟩
    exact hv i (by omega)
  have htx : ∀ (k : Int) (s' : Str), (k = 3 ∨ k = 4 ∨ k = 6 ∨ k = 7) → textB k s' = isL s' 1 := by
    rintro k s' (rfl | rfl | rfl | rfl) <;> rfl
  by_cases h3 : k = 3
  · subst h3
    have e : (headN 3 p s t ns env r).s = (findF env s).1 ∧ (headN 3 p s t ns env r).t = t ∧ (headN 3 p s t ns env r).ns = [] := ⟨rfl, rfl, rfl⟩
    rw [e.1, e.2.1, e.2.2]
    have hn := findF_ok he (hf rfl)
    rw [ownB_mk] at h ⊢
    rw [htx 3 _ (.inl rfl)] at h ⊢
    rw [hlen, hn]
    simp only [if_neg (show ¬ (3 : Int) = 8 by decide), if_neg (show ¬ (3 : Int) = 14 by decide), if_neg (show ¬ (3 : Int) = 7 by decide)] at h ⊢
    split at h
    · cases h
    rename_i hc
    simp only [not_or] at hc
    rw [if_neg (by simp only [not_or]; exact ⟨hc.1, hc.2.1, hc.2.2.1, by simp⟩)]
    simp only [Bool.and_eq_true, decide_eq_true_eq] at h ⊢
    exact ⟨h.1, by have := h.2; simp only [List.length_nil]; omega⟩
  by_cases h4 : k = 4 ∨ k = 6
  · have e : (headN k p s t ns env r).s = asR r ∧ (headN k p s t ns env r).t = t ∧ (headN k p s t ns env r).ns = [] := by
      unfold headN
      rw [if_neg (by omega), if_pos h4]
      exact ⟨rfl, rfl, rfl⟩
    rw [e.1, e.2.1, e.2.2]
    have hn := hv r.old.length (by omega)
    rw [ownB_mk] at h ⊢
    rw [htx k _ (by omega)] at h ⊢
    rw [hlen, asR_vN, hn]
    simp only [if_neg (show ¬ k = 8 by omega), if_neg (show ¬ k = 14 by omega), if_neg (show ¬ k = 7 by omega)] at h ⊢
    split at h
    · cases h
    rename_i hc
    simp only [not_or] at hc
    rw [if_neg (by simp only [not_or]; exact ⟨hc.1, hc.2.1, hc.2.2.1, by simp⟩)]
    simp only [Bool.and_eq_true, decide_eq_true_eq] at h ⊢
    exact ⟨h.1, by have := h.2; simp only [List.length_nil]; omega⟩
  by_cases h7 : k = 7
  · subst h7
    have e : (headN 7 p s t ns env r).s = asR r ∧ (headN 7 p s t ns env r).t = asR (bindR s r) ∧ (headN 7 p s t ns env r).ns = [] := ⟨rfl, rfl, rfl⟩
    rw [e.1, e.2.1, e.2.2]
    have hn := hv r.old.length (by omega)
    have hn2 : isL (asR (bindR s r)) 1 = true := by
      rw [asR_vN]
      refine hv _ ?_
      simp only [bindR, List.length_append, List.length_singleton]
      omega
    have hpt : ∀ (t : Str), partsN 7 ls.length (decide (t ≠ [])) = 2 := fun _ => rfl
    rw [ownB_mk] at h ⊢
    rw [htx 7 _ (by simp), hpt] at h ⊢
    rw [hlen, asR_vN r, hn]
    simp only [if_neg (show ¬ (7 : Int) = 8 by decide), if_neg (show ¬ (7 : Int) = 14 by decide), if_pos] at h ⊢
    split at h
    · cases h
    rename_i hc
    simp only [not_or] at hc
    rw [if_neg (by simp only [not_or]; exact ⟨hc.1, hc.2.1, hc.2.2.1, by simp⟩)]
    simp only [Bool.and_eq_true, decide_eq_true_eq] at h ⊢
    exact ⟨hn2, by have := h.2; simp only [List.length_nil]; omega⟩
  by_cases h14 : k = 14
  · subst h14
    have hns : (headN 14 p s t ns env r).ns = (namesR ns r).1.map (·.2) := by unfold headN; simp; split <;> rfl
    have hs : (headN 14 p s t ns env r).s = s := by unfold headN; simp; split <;> rfl
    rw [hns, hs]
    have hto : ∀ t' : Str, (decide (t' ≠ []) = decide (t ≠ [])) → (decide (t' = []) || isL t' 1) = true → ownB (.mk 14 p n s t' ls ((namesR ns r).1.map (·.2)) l') = true := by
      intro t' h1 h2
      rw [ownB_mk] at h ⊢
      simp only [if_neg (show ¬ (14 : Int) = 8 by decide), if_pos] at h ⊢
      rw [hlen, h1, hall, h2, List.length_map, hnl.1]
      split at h
      · cases h
      rename_i hc
      rw [if_neg hc]
      simp only [Bool.and_eq_true, decide_eq_true_eq] at h ⊢
      obtain ⟨⟨⟨⟨⟨q1, q2⟩, q3⟩, q4⟩, q5⟩, q6⟩ := h
      exact ⟨⟨⟨⟨⟨q1, q2⟩, q3⟩, trivial⟩, trivial⟩, q6⟩
    by_cases ht : t = []
    · have e : (headN 14 p s t ns env r).t = t := by unfold headN; simp [ht]
      rw [e]
      exact hto t rfl (by rw [ht]; rfl)
    · have e : (headN 14 p s t ns env r).t = asR (namesR ns r).2 := by unfold headN; simp [ht]
      rw [e]
      refine hto _ ?_ ?_
      · rw [asR_vN]
        simp [vN_ne, ht]
      · rw [asR_vN, hv _ (by rw [hnl.2.1]; omega), Bool.or_true]
  have e : headN k p s t ns env r = ⟨s, t, [], zF, zF, [], r⟩ := by unfold headN; rw [if_neg h3, if_neg h4, if_neg h7, if_neg h14]
  rw [e]
  dsimp only
  rw [ownB_mk] at h ⊢
  rw [hlen]
  split at h
  · cases h
  rename_i hc
  rw [if_neg hc]
  simp only [if_neg h14, if_neg h7] at h ⊢
  by_cases h8 : k = 8
  · rw [if_pos h8] at h ⊢
    simp only [Bool.and_eq_true, decide_eq_true_eq] at h ⊢
    exact ⟨⟨h.1.1, rfl⟩, h.2⟩
  · rw [if_neg h8] at h ⊢
    simp only [Bool.and_eq_true, decide_eq_true_eq] at h ⊢
    exact ⟨h.1, by have := h.2; simp only [List.length_nil]; omega⟩
theorem goN_fine (e : Ex) : fineB e = true → ∀ (env : List Frm) (r : Rn), r.old.length + csz e < 10 ^ 18 → asOk env → (∀ v ∈ fvs e, inE env v) → fineB (goN e env r).e = true := by
  refine Ex.ind (P := fun e => fineB e = true → ∀ (env : List Frm) (r : Rn), r.old.length + csz e < 10 ^ 18 → asOk env → (∀ v ∈ fvs e, inE env v) → fineB (goN e env r).e = true) (fun k p n s t ls ns l ih => ?_) e
  intro hf env r hsz he hv
  rw [fineB, Bool.and_eq_true] at hf
  obtain ⟨ho, hfl⟩ := hf
  have hso := own_sound ho
  rw [csz] at hsz
  have hn := nsz_ge ns
  have hh := headN_len k p s t ns env r
  have hpt : (l.length : Int) = partsN k ls.length (decide (t ≠ [])) := by
    rw [ownB_mk] at ho
    split at ho
    · cases ho
    rename_i hc
    simp only [not_or] at hc
    exact Classical.byContradiction hc.1
  rw [fvs] at hv
  have h1 := head_own_ok (l' := (goL k (headN k p s t ns env r) env 0 l (headN k p s t ns env r).r).l) (env := env) (r := r) ho (goL_length _ _ _ _ _ _) (by omega) he (fun h3 => findF_in.2 (hv s (by rw [if_pos h3]; simp)))
  have hio : ∀ i, i < l.length → asOk (innerN k (headN k p s t ns env r) env i) := fun i hi => inner_ok he (by omega) fun h14 ht => by
    subst h14 ht
    have : partsN 14 ls.length (decide (([] : Str) ≠ [])) = ls.length + 1 := by simp [partsN]
    have := hso.1 rfl
    omega
  have hin : ∀ i, i < l.length → ∀ v, inE (innerN k (headN k p s t ns env r) env i) v ↔ inE env v ∨ v ∈ bnd k s t ls ns i := fun i hi v =>
    inner_in hso.1 (fun h => by have := hso.2.1 h; omega) (fun h => by have := hso.2.2 h; omega)
  rw [goN]
  dsimp only
  rw [fineB, Bool.and_eq_true]
  refine ⟨h1, ?_⟩
  generalize headN k p s t ns env r = h at *
  have hL : ∀ (l : List Ex) (i n : Nat) (r : Rn), n = i + l.length → (∀ j, j < n → asOk (innerN k h env j) ∧ ∀ v, inE (innerN k h env j) v ↔ inE env v ∨ v ∈ bnd k s t ls ns j) → fineLB l = true → r.old.length + cszL l < 10 ^ 18 → (∀ v ∈ fvL k s t ls ns i l, inE env v) →
      (∀ x ∈ l, fineB x = true → ∀ (env : List Frm) (r : Rn), r.old.length + csz x < 10 ^ 18 → asOk env → (∀ v ∈ fvs x, inE env v) → fineB (goN x env r).e = true) → fineLB (goL k h env i l r).l = true := by
    intro l
    induction l with
    | nil => intro i n r _ _ _ _ _ _; rfl
    | cons x l ihl =>
      intro i n r hn hj hfl hr hv hx
      rw [fineLB, Bool.and_eq_true] at hfl
      simp only [List.length_cons] at hn
      simp only [cszL] at hr
      rw [fvL] at hv
      have hl := (goN_len x (innerN k h env i) r).1
      simp only [goL, fineLB, Bool.and_eq_true]
      refine ⟨hx x (by simp) hfl.1 _ _ (by omega) (hj i (by omega)).1 fun v hv2 => ?_, ihl (i + 1) n _ (by omega) hj hfl.2 (by omega) (fun v hv2 => hv v (List.mem_append_right _ hv2)) fun y hy => hx y (by simp [hy])⟩
      rw [(hj i (by omega)).2]
      by_cases hb : v ∈ bnd k s t ls ns i
      · exact .inr hb
      · exact .inl (hv v (List.mem_append_left _ (List.mem_filter.2 ⟨hv2, by simp [hb]⟩)))
  exact hL l 0 l.length h.r (by omega) (fun j hj => ⟨hio j hj, hin j hj⟩) hfl (by omega) (fun v hv2 => hv v (List.mem_append_right _ hv2)) ih
theorem head_mono (k p : Int) (s t : Str) (ns : List Str) (env : List Frm) (r : Rn) : ∃ fs, (headN k p s t ns env r).r.free = r.free ++ fs := by
  have hl := namesR_len ns r
  unfold headN
  split
  · dsimp only
    split
    · exact ⟨[], by simp⟩
    · exact ⟨_, rfl⟩
  · split
    · exact ⟨[], by simp [bindR]⟩
    · split
      · exact ⟨[], by simp [bindR]⟩
      · split
        · split
          · exact ⟨[], by simp [hl]⟩
          · exact ⟨[], by simp [bindR, hl]⟩
        · exact ⟨[], by simp⟩
theorem goN_mono (e : Ex) : ∀ (env : List Frm) (r : Rn), ∃ fs, (goN e env r).r.free = r.free ++ fs := by
  refine Ex.ind (P := fun e => ∀ (env : List Frm) (r : Rn), ∃ fs, (goN e env r).r.free = r.free ++ fs) (fun k p n s t ls ns l ih => ?_) e
  intro env r
  obtain ⟨f1, h1⟩ := head_mono k p s t ns env r
  rw [goN]
  dsimp only
  generalize headN k p s t ns env r = h at *
  have hL : ∀ (l : List Ex) (i : Nat) (r : Rn), (∀ x ∈ l, ∀ (env : List Frm) (r : Rn), ∃ fs, (goN x env r).r.free = r.free ++ fs) → ∃ fs, (goL k h env i l r).r.free = r.free ++ fs := by
    intro l
    induction l with
    | nil => intro i r _; exact ⟨[], by simp [goL]⟩
    | cons x l ihl =>
      intro i r hx
      obtain ⟨a, ha⟩ := hx x (by simp) (innerN k h env i) r
      obtain ⟨b, hb⟩ := ihl (i + 1) (goN x (innerN k h env i) r).r fun y hy => hx y (by simp [hy])
      exact ⟨a ++ b, by simp only [goL]; rw [hb, ha, List.append_assoc]⟩
  obtain ⟨f2, h2⟩ := hL l 0 h.r ih
  exact ⟨f1 ++ f2, by rw [h2, h1, List.append_assoc]⟩
theorem goL_mono (k : Int) (h : Hd) (env : List Frm) : ∀ (l : List Ex) (i : Nat) (r : Rn), ∃ fs, (goL k h env i l r).r.free = r.free ++ fs
  | [], i, r => ⟨[], by simp [goL]⟩
  | x :: l, i, r => by
    obtain ⟨a, ha⟩ := goN_mono x (innerN k h env i) r
    obtain ⟨b, hb⟩ := goL_mono k h env l (i + 1) (goN x (innerN k h env i) r).r
    exact ⟨a ++ b, by simp only [goL]; rw [hb, ha, List.append_assoc]⟩
theorem findF_mem {env : List Frm} {s : Str} (h : (findF env s).2 = true) : ∃ f ∈ env, f.2 = (findF env s).1 := by
  unfold findF at h ⊢
  cases hx : env.reverse.find? fun x => decide (x.1 = s) with
  | none => rw [hx] at h; cases h
  | some x => exact ⟨x, by simpa using List.mem_of_find?_eq_some hx, rfl⟩
theorem head_closed {k p : Int} {s t : Str} {ns : List Str} {env : List Frm} {r r2 : Rn} (h : (headN k p s t ns env r).r.free = []) :
    (headN k p (headN k p s t ns env r).s (headN k p s t ns env r).t (headN k p s t ns env r).ns (env.map dup) r2).r.free = r2.free := by
  by_cases h3 : k = 3
  · subst h3
    have hi := ((head_free 3 p s t ns env r).1 h).2 rfl
    obtain ⟨f, hf, he⟩ := findF_mem (findF_in.2 hi)
    have h2 : (findF (env.map dup) (findF env s).1).2 = true := findF_in.2 ⟨dup f, List.mem_map_of_mem hf, he⟩
    show (if (findF (env.map dup) (findF env s).1).2 = true then r2 else ⟨r2.old, r2.free ++ [p]⟩ : Rn).free = r2.free
    rw [if_pos h2]
  · have hl := fun ns => namesR_len ns r2
    generalize headN k p s t ns env r = g
    have e := headN.eq_1 k p g.s g.t g.ns (env.map dup) r2
    rw [if_neg h3] at e
    rw [e]
    split
    · rfl
    · split
      · rfl
      · split
        · split
          · exact (hl _).2.2
          · exact (hl _).2.2
        · rfl
theorem again_free (e : Ex) : ∀ (env : List Frm) (r r2 : Rn), r2.old.length = r.old.length → (goN e env r).r.free = [] → (goN (goN e env r).e (env.map dup) r2).r.free = r2.free := by
  refine Ex.ind (P := fun e => ∀ (env : List Frm) (r r2 : Rn), r2.old.length = r.old.length → (goN e env r).r.free = [] → (goN (goN e env r).e (env.map dup) r2).r.free = r2.free) (fun k p n s t ls ns l ih => ?_) e
  intro env r r2 h0 hf
  have hh := head_again k p s t ns env r r2 h0
  have hcl := fun h => head_closed (k := k) (p := p) (s := s) (t := t) (ns := ns) (env := env) (r := r) (r2 := r2) h
  have g0 := goN.eq_1 env r k p n s t ls ns l
  rw [g0] at hf ⊢
  dsimp only at hf ⊢
  generalize headN k p s t ns env r = h at *
  rw [goN]
  dsimp only
  generalize headN k p h.s h.t h.ns (env.map dup) r2 = g at *
  have hL : ∀ (l : List Ex) (i : Nat) (r r2 : Rn), r2.old.length = r.old.length → (goL k h env i l r).r.free = [] → (∀ x ∈ l, ∀ (env : List Frm) (r r2 : Rn), r2.old.length = r.old.length → (goN x env r).r.free = [] → (goN (goN x env r).e (env.map dup) r2).r.free = r2.free) →
      (goL k g (env.map dup) i (goL k h env i l r).l r2).r.free = r2.free := by
    intro l
    induction l with
    | nil => intro i r r2 h0 _ _; simp [goL]
    | cons x l ihl =>
      intro i r r2 h0 hf hx
      simp only [goL] at hf
      have ha := again x (innerN k h env i) r r2 h0
      have hf1 : (goN x (innerN k h env i) r).r.free = [] := by
        obtain ⟨b, hb⟩ := goL_mono k h env l (i + 1) (goN x (innerN k h env i) r).r
        rw [hb] at hf
        exact (List.append_eq_nil_iff.1 hf).1
      have h1 := hx x (by simp) (innerN k h env i) r r2 h0 hf1
      have h2 := ihl (i + 1) (goN x (innerN k h env i) r).r _ ha.2 hf fun y hy => hx y (by simp [hy])
      simp only [goL, inner_again hh]
      rw [h2, h1]
  have hf1 : h.r.free = [] := by
    obtain ⟨b, hb⟩ := goL_mono k h env l 0 h.r
    rw [hb] at hf
    exact (List.append_eq_nil_iff.1 hf).1
  rw [hL l 0 h.r g.r hh.r hf ih]
  exact hcl hf1
theorem goN_may {e : Ex} (hm : mayB e = true) (hs : csz e ≤ 1048576) (hv : fvs e = []) : mayB (goN e [] ⟨[], []⟩).e = true := by
  have hn := goN_nodes e [] ⟨[], []⟩
  unfold mayB at hm ⊢
  simp only [Bool.and_eq_true, decide_eq_true_eq] at hm ⊢
  rw [hn.1, hn.2]
  refine ⟨hm.1, hm.2.1, goN_fine e hm.2.2 [] _ ?_ (fun f hf => by cases hf) fun v hv2 => by rw [hv] at hv2; cases hv2⟩
  simp only [List.length_nil]
  omega
theorem WeakR.freezeI {B : Sg} {t o : Nat} {os : List Ob} {ts : List Nat} {xs : List V} (ho : B.objs.length ≤ o) (hcs : (B.objs ++ os)[o]? = some (.cells (xs.map .v))) (hne : xs ≠ []) :
    WeakR B (.iface t (.ptr o 0)) ⟨B.objs ++ os, B.toks ++ ts⟩ (.iface t (.imm (some xs.length) (.agg xs) 0)) B := by
  intro m0 m w0 w u hB hX hI hR
  have hI' := hI.take (n := B.objs.length) (k := B.toks.length) (by
    simp only [List.take_left]
    intro ob hm
    exact hB.ob_low hm)
  simp only [List.take_left] at hI'
  refine ⟨_, hI', ?_, hX.take (by rw [hB.lobj]; exact Nat.le_refl _) (by rw [hB.tok_len]; exact Nat.le_refl _)⟩
  cases hR with
  | iface _ _ u h =>
  cases h with
  | ptr _ _ b hb =>
  have hb := hI.live hcs (fun e => hne (List.map_eq_nil_iff.1 (by injection e))) hb
  obtain ⟨us, ty, hh, hsz, hob, hone⟩ := hI.ob o _ b hcs hb
  have hnm : ∀ off', ¬ (m.take B.objs.length B.toks.length).mut b off' := by
    rintro off' (h | ⟨tk, h, h2, _⟩)
    · have h3 := Gh.mem_objb.1 h
      simp only [Gh.take] at h3
      obtain ⟨j, hj⟩ := List.mem_iff_getElem?.1 h3
      rw [List.getElem?_take] at hj
      split at hj
      · rename_i hlt
        have := objb_inj (List.nodup_append.1 hI.nodup).1 hj hb
        omega
      · cases hj
    · have h3 : tk ∈ m.toks := List.mem_of_mem_take h
      exact Gh.own_not_obj hI.nodup h3 h2 (Gh.mem_objb.2 (List.mem_of_getElem? hb))
  have hbs : b < w.heap.size := (Array.getElem?_eq_some_iff.1 hh).1
  have hat : ∀ (i : Nat) c, xs[i]? = some c → ∃ u, us[i]? = some u ∧ RepV w (Fz m w) c u ∧ u.oneCell' = true := by
    intro i c hc
    have h3 : (xs.map D.v)[i]? = some (.v c) := by rw [List.getElem?_map, hc]; rfl
    have hlt : i < us.size := Nat.lt_of_lt_of_le (List.getElem?_eq_some_iff.1 h3).1 hsz
    obtain ⟨q1, q2⟩ := hob i _ us[i] h3 (Array.getElem?_eq_getElem hlt)
    exact ⟨_, Array.getElem?_eq_getElem hlt, q1.v_inv, q2⟩
  refine .iface _ _ _ (.imm (some xs.length) (.agg xs) 0 b 0 (fun i => us.getD i undef) rfl (fun c hc => ?_) (fun i hi => ?_) fun i c hc => ?_)
  · obtain ⟨i, hi⟩ := List.mem_iff_getElem?.1 hc
    obtain ⟨u, _, h3, h4⟩ := hat i c hi
    cases h3 <;> first | rfl | (simp [Value.oneCell'] at h4)
  · replace hi : i < xs.length := hi
    obtain ⟨u, h3, _⟩ := hat i _ (List.getElem?_eq_getElem hi)
    refine ⟨?_, hbs, hnm _⟩
    rw [cell_of_row w b (0 + i) us ty (0, 0) hh, Nat.zero_add, h3]
    simp [Array.getD_eq_getD_getElem?, h3]
  · obtain ⟨u, h3, h4, _⟩ := hat i c hc
    have e : us.getD i undef = u := by simp [Array.getD_eq_getD_getElem?, h3]
    show RepV _ _ c (us.getD i undef)
    rw [e]
    exact h4.mono fun b' off' hf => ⟨rfl, hf.1, fun hx => hf.2 (Gh.take_mut hx)⟩
theorem PostV.freezeI {B : Sg} {t o : Nat} {R : D → Sg → Prop} (xs : List V) {σ : Sg} (h : R (.iface t (.imm (some xs.length) (.agg xs) 0)) B) (hcs : σ.objs[o]? = some (.cells (xs.map .v))) (hne : xs ≠ []) (ho : B.objs.length ≤ o := by simp)
    (hos : σ.objs = B.objs ++ σ.objs.drop B.objs.length := by simp) (hts : σ.toks = B.toks ++ σ.toks.drop B.toks.length := by simp) : PostV B (.iface t (.ptr o 0)) σ R := by
  obtain ⟨os, ts⟩ := σ
  dsimp only at hos hts hcs
  refine ⟨_, B, ?_, h⟩
  rw [hos, hts]
  exact WeakR.freezeI ho (by rw [← hos]; exact hcs) hne
def spotV (i : Int) (c : Int) : D := .iface 56 (.imm (some 2) (.agg [.int .i64 i, .int .i64 c]) 0)
theorem k_SpotF {i c : Int} {σ : Sg} : ACalls Tryz.prog 43 [.v (.int .i64 i), .v (.int .i64 c)] σ fun r σ' => r = spotV i c ∧ σ' = σ := by
  refine acalls_fit Tryz.func43 (by kernel_rfl) c43 rfl (by simp [a43]) fun hf => ?_
  clear hf
  simp -implicitDefEqProofs (maxSteps := 2000000) (disch := omega) [-getElem?_pos, a43]
  exact PostV.freezeI [.int .i64 i, .int .i64 c] ⟨rfl, rfl⟩ (by simp) (by simp)
@[reducible] def wRef : Str := [114, 101, 102]
@[reducible] def wPrint : Str := [112, 114, 105, 110, 116]
@[reducible] def wShow : Str := [115, 104, 111, 119]
@[reducible] def wRead : Str := [114, 101, 97, 100]
@[reducible] def sSet : Str := [58, 61]
structure PSt where
  i : Nat
  bad : Option Int
structure RE where
  e : Ex
  st : PSt
structure RS where
  s : Str
  st : PSt
structure Itm where
  p : Int
  key : Str
  own : Str
  e : Ex
abbrev PF := PSt → RE
structure PC where
  L : List Tk
  E : Nat
  srt : List Itm → List Itm
def zTk : Tk := ⟨0, 0, 0, []⟩
def zEx : Ex := .mk 0 0 0 [] [] [] [] []
def advP (st : PSt) : PSt := ⟨st.i + 1, st.bad⟩
def failP (q : Int) (st : PSt) : PSt := ⟨st.i, some (st.bad.getD q)⟩
def placeP (C : PC) (st : PSt) : Int := match C.L[st.i]? with
  | some t => t.i
  | none => C.E
def ahd (C : PC) (st : PSt) (n : Nat) : Tk := if st.bad.isSome = true then zTk else (C.L[st.i + n]?).getD zTk
def seesT (t : Tk) (s : Str) : Bool := (decide (t.k = 2) || decide (t.k = 6)) && decide (t.s = s)
def sees (C : PC) (st : PSt) (n : Nat) (s : Str) : Bool := seesT (ahd C st n) s
def mustP (C : PC) (s : Str) (st : PSt) : PSt := if sees C st 0 s = true then advP st else failP (placeP C st) st
def textP (C : PC) (k : Int) (st : PSt) : RS := if (ahd C st 0).k = k then ⟨(ahd C st 0).s, advP st⟩ else ⟨[], failP (placeP C st) st⟩
def opP (C : PC) (ops : List Str) (st : PSt) : Option Str := ops.find? fun s => sees C st 0 s
def headP (t : Tk) : Option Int := if t.k = 3 then some 13
  else if t.k = 2 ∨ t.k = 6 then (if t.s = wRef then some 17 else if t.s = wPrint then some 20 else if t.s = wShow then some 21 else if t.s = [33] then some 18 else none)
  else none
inductive FR where
  | ext (p : Int) (s : Str) (a b : Ex) (st : PSt)
  | all (l : List Itm) (st : PSt)
def a28 : AFun := ⟨51,[.tmp 0],(.seq (.reg [0] [⟨some 0,none,.mv (.c (.bool false))⟩]) (.seq (.reg [1,2] [⟨some 8,none,.mksl none [.c (.int .u8 102),.c (.int .u8 32),.c (.int .u8 120),.c (.int .u8 32),.c (.int .u8 121)]⟩,⟨some 9,none,.mv (.t 8)⟩,⟨some 10,none,.call (.c (.fn 29)) [.t 9]⟩,⟨some 7,none,.mv (.t 10)⟩,⟨some 11,none,.extract (.t 7) 0⟩,⟨some 12,none,.extract (.t 7) 1⟩,⟨some 1,none,.alloc [.int .i64 0,.int .i64 0,.int .i64 0,.str [],.str [],.snil,.snil,.snil]⟩,⟨none,none,.store 8 (.t 1) (.t 11)⟩,⟨some 2,none,.mv (.t 12)⟩]) (.seq (.reg [4] [⟨some 14,none,.call (.c (.fn 29)) [.c .snil]⟩,⟨some 13,none,.mv (.t 14)⟩,⟨some 15,none,.extract (.t 13) 0⟩,⟨some 16,none,.extract (.t 13) 1⟩,⟨some 3,none,.alloc [.int .i64 0,.int .i64 0,.int .i64 0,.str [],.str [],.snil,.snil,.snil]⟩,⟨none,none,.store 8 (.t 3) (.t 15)⟩,⟨some 4,none,.mv (.t 16)⟩]) (.seq (.reg [5,6] [⟨some 18,none,.mv (.t 4)⟩,⟨some 19,none,.call (.c (.fn 15)) [.t 18]⟩,⟨some 17,none,.mv (.t 19)⟩,⟨some 20,none,.extract (.t 17) 0⟩,⟨some 21,none,.extract (.t 17) 1⟩,⟨some 5,none,.mv (.t 20)⟩,⟨some 6,none,.mv (.t 21)⟩]) (.seq (.reg [0] [⟨some 22,none,.mv (.t 2)⟩,⟨some 23,none,.bin .eql .ifc true (.t 22) (.c .inil)⟩,⟨some 24,none,.mv (.t 23)⟩,⟨some 25,some (24,true),.faddr 0 (.t 1)⟩,⟨some 26,some (24,true),.load none (.t 25)⟩,⟨some 27,some (24,true),.bin .eql .other true (.t 26) (.c (.int .i64 5))⟩,⟨some 28,none,.pick (.t 24) (.t 27) (.c (.bool false))⟩,⟨some 29,none,.mv (.t 28)⟩,⟨some 30,some (29,true),.faddr 7 (.t 1)⟩,⟨some 31,some (29,true),.load none (.t 30)⟩,⟨some 32,some (29,true),.len .sl (.t 31)⟩,⟨some 33,some (29,true),.bin .eql .other true (.t 32) (.c (.int .i64 2))⟩,⟨some 34,none,.pick (.t 29) (.t 33) (.c (.bool false))⟩,⟨some 35,none,.mv (.t 34)⟩,⟨some 36,some (35,true),.faddr 7 (.t 1)⟩,⟨some 37,some (35,true),.load none (.t 36)⟩,⟨some 38,some (35,true),.iaddr (some 8) (.t 37) (.c (.int .i64 0))⟩,⟨some 39,some (35,true),.faddr 0 (.t 38)⟩,⟨some 40,some (35,true),.load none (.t 39)⟩,⟨some 41,some (35,true),.bin .eql .other true (.t 40) (.c (.int .i64 5))⟩,⟨some 42,none,.pick (.t 35) (.t 41) (.c (.bool false))⟩,⟨some 43,none,.mv (.t 42)⟩,⟨some 44,some (43,true),.mv (.t 5)⟩,⟨some 45,some (43,true),.bin .eql .other true (.t 44) (.c (.int .i64 3))⟩,⟨some 46,none,.pick (.t 43) (.t 45) (.c (.bool false))⟩,⟨some 47,none,.mv (.t 46)⟩,⟨some 48,some (47,true),.mv (.t 6)⟩,⟨some 49,some (47,true),.bin .eql .other true (.t 48) (.c (.int .i64 0))⟩,⟨some 50,none,.pick (.t 47) (.t 49) (.c (.bool false))⟩,⟨some 0,none,.mv (.t 50)⟩]) .ret)))))⟩
def a29 : AFun := ⟨53,[.cell 2 (some 8),.tmp 3],(.seq (.reg [2,3] [⟨some 2,none,.alloc [.int .i64 0,.int .i64 0,.int .i64 0,.str [],.str [],.snil,.snil,.snil]⟩,⟨some 3,none,.mv (.c .inil)⟩]) (.seq (.reg [4,5] [⟨some 9,none,.mv (.t 0)⟩,⟨some 10,none,.call (.c (.fn 51)) [.t 9]⟩,⟨some 8,none,.mv (.t 10)⟩,⟨some 11,none,.extract (.t 8) 0⟩,⟨some 12,none,.extract (.t 8) 1⟩,⟨some 4,none,.mv (.t 11)⟩,⟨some 5,none,.mv (.t 12)⟩]) (.seq (.seq (.reg [14] [⟨some 13,none,.mv (.t 5)⟩,⟨some 14,none,.bin .neq .ifc true (.t 13) (.c .inil)⟩]) (.cond (.t 14) (.seq (.reg [3] [⟨some 15,none,.build [.int .i64 0,.int .i64 0,.int .i64 0,.str [],.str [],.snil,.snil,.snil] []⟩,⟨some 16,none,.mv (.t 5)⟩,⟨none,none,.store 8 (.t 2) (.t 15)⟩,⟨some 3,none,.mv (.t 16)⟩]) .ret) .skip)) (.seq (.reg [6] [⟨some 17,none,.mv (.t 4)⟩,⟨some 18,none,.mv (.t 0)⟩,⟨some 19,none,.len .sl (.t 18)⟩,⟨some 20,none,.build [.snil,.int .i64 0,.int .i64 0,.inil] [(0,1,.t 17),(2,1,.t 19)]⟩,⟨some 21,none,.box (.t 20)⟩,⟨some 6,none,.mv (.t 21)⟩]) (.seq (.reg [7] [⟨some 22,none,.mv (.t 6)⟩,⟨some 23,none,.call (.c (.fn 52)) [.t 22]⟩,⟨some 7,none,.alloc [.int .i64 0,.int .i64 0,.int .i64 0,.str [],.str [],.snil,.snil,.snil]⟩,⟨none,none,.store 8 (.t 7) (.t 23)⟩]) (.seq (.seq (.reg [30] [⟨some 24,none,.mv (.t 6)⟩,⟨some 25,none,.nilck (.t 24)⟩,⟨some 26,none,.faddr 1 (.t 25)⟩,⟨some 27,none,.load none (.t 26)⟩,⟨some 28,none,.mv (.t 4)⟩,⟨some 29,none,.len .sl (.t 28)⟩,⟨some 30,none,.bin .lss .other false (.t 27) (.t 29)⟩]) (.cond (.t 30) (.reg [] [⟨some 31,none,.mv (.t 6)⟩,⟨some 32,none,.mv (.t 6)⟩,⟨some 33,none,.call (.c (.fn 54)) [.t 32]⟩,⟨some 34,none,.call (.c (.fn 53)) [.t 31,.t 33]⟩]) .skip)) (.seq (.block 0 (.seq (.reg [35] [⟨some 36,none,.mv (.t 6)⟩,⟨some 37,none,.nilck (.t 36)⟩,⟨some 38,none,.faddr 3 (.t 37)⟩,⟨some 39,none,.load none (.t 38)⟩,⟨some 40,none,.bin .neq .ifc true (.t 39) (.c .inil)⟩,⟨some 35,none,.mv (.t 40)⟩]) (.cond (.t 35) (.seq (.any [3] [(⟨some 41,none,.build [.int .i64 0,.int .i64 0,.int .i64 0,.str [],.str [],.snil,.snil,.snil] []⟩,true),(⟨some 42,none,.mv (.t 6)⟩,false),(⟨some 43,none,.nilck (.t 42)⟩,false),(⟨some 44,none,.faddr 3 (.t 43)⟩,false),(⟨some 45,none,.load none (.t 44)⟩,false),(⟨none,none,.store 8 (.t 2) (.t 41)⟩,false),(⟨some 3,none,.mv (.t 45)⟩,true)]) .ret) (.seq (.reg [46] [⟨some 47,none,.load (some 8) (.t 7)⟩,⟨some 48,none,.call (.c (.fn 23)) [.t 47]⟩,⟨some 49,none,.un .not (.t 48)⟩,⟨some 46,none,.mv (.t 49)⟩]) (.cond (.t 46) (.seq (.reg [3] [⟨some 50,none,.build [.int .i64 0,.int .i64 0,.int .i64 0,.str [],.str [],.snil,.snil,.snil] []⟩,⟨some 51,none,.call (.c (.fn 43)) [.c (.int .i64 0),.c (.int .i64 6)]⟩,⟨none,none,.store 8 (.t 2) (.t 50)⟩,⟨some 3,none,.mv (.t 51)⟩]) .ret) .skip))))) (.seq (.reg [3] [⟨some 52,none,.load (some 8) (.t 7)⟩,⟨none,none,.store 8 (.t 2) (.t 52)⟩,⟨some 3,none,.mv (.c .inil)⟩]) .ret))))))))⟩
def a53 : AFun := ⟨14,[],(.seq (.reg [8] [⟨some 4,none,.mv (.t 0)⟩,⟨some 5,none,.nilck (.t 4)⟩,⟨some 6,none,.faddr 3 (.t 5)⟩,⟨some 7,none,.load none (.t 6)⟩,⟨some 8,none,.bin .eql .ifc true (.t 7) (.c .inil)⟩]) (.cond (.t 8) (.reg [] [⟨some 9,none,.mv (.t 0)⟩,⟨some 10,none,.mv (.t 1)⟩,⟨some 11,none,.call (.c (.fn 43)) [.t 10,.c (.int .i64 3)]⟩,⟨some 12,none,.nilck (.t 9)⟩,⟨some 13,none,.faddr 3 (.t 12)⟩,⟨none,none,.store 1 (.t 13) (.t 11)⟩]) .skip))⟩
theorem c53 : compF Tryz.prog [0, 1, 8] Tryz.f53 = some a53 := by kernel_rfl
def a85 : AFun := ⟨12,[],(.seq (.reg [7] [⟨some 4,none,.mv (.t 0)⟩,⟨some 5,none,.mv (.t 1)⟩,⟨some 6,none,.call (.c (.fn 83)) [.t 4,.t 5]⟩,⟨some 7,none,.un .not (.t 6)⟩]) (.cond (.t 7) (.reg [] [⟨some 8,none,.mv (.t 0)⟩,⟨some 9,none,.mv (.t 0)⟩,⟨some 10,none,.call (.c (.fn 54)) [.t 9]⟩,⟨some 11,none,.call (.c (.fn 53)) [.t 8,.t 10]⟩]) .skip))⟩
theorem c85 : compF Tryz.prog [0, 1, 7] Tryz.f85 = some a85 := by kernel_rfl
def a127 : AFun := ⟨9,[.tmp 4],(.seq (.reg [4] [⟨some 4,none,.mv (.c (.bool false))⟩]) (.seq (.reg [4] [⟨some 5,none,.mv (.t 0)⟩,⟨some 6,none,.mv (.t 1)⟩,⟨some 7,none,.call (.c (.fn 160)) [.t 5,.t 6]⟩,⟨some 8,none,.bin .geq .other true (.t 7) (.c (.int .i64 0))⟩,⟨some 4,none,.mv (.t 8)⟩]) .ret))⟩
theorem c127 : compF Tryz.prog [0, 1, 4] Tryz.f127 = some a127 := by kernel_rfl
theorem low_set2 {os : List Ob} {p n k : Nat} {X Y : Ob} (h : Y.low n k) : ∀ ob ∈ os.set p Y, ob ∈ os.set p X ∨ ob.low n k := by
  intro ob hm
  obtain ⟨i, hi⟩ := List.mem_iff_getElem?.1 hm
  rw [List.getElem?_set] at hi
  by_cases hp : p = i
  · rw [if_pos hp] at hi
    split at hi
    · cases hi; exact .inr h
    · cases hi
  · rw [if_neg hp] at hi
    refine .inl (List.mem_of_getElem? (i := i) ?_)
    rw [List.getElem?_set_ne hp]
    exact hi
theorem pstart {Q : Sg → Prop} {σ : Sg} {p : Nat} {X : Ob} (hp : σ.objs[p]? = some X) (h : ∀ (os : List Ob) (tk : List Nat), p < os.length → Q ⟨os.set p X, tk⟩) : Q σ := by
  obtain ⟨os, tk⟩ := σ
  have hl : p < os.length := (List.getElem?_eq_some_iff.1 hp).1
  have : os = os.set p X := by
    refine List.ext_getElem? fun i => ?_
    rw [List.getElem?_set]
    split
    · rename_i h; subst h; exact hp
    · rfl
  rw [this]
  exact h os tk hl
structure OkP (C : PC) (st : PSt) : Prop where
  i : st.i ≤ C.L.length
  l : C.L.length ≤ 1000000
def takeP (C : PC) (s : Str) (st : PSt) : PSt := if sees C st 0 s = true then advP st else st
theorem ahd_in {C : PC} {st : PSt} (h : (ahd C st 0).k ≠ 0) : st.bad = none ∧ st.i < C.L.length := by
  unfold ahd at h
  obtain ⟨i, bad⟩ := st
  cases bad with
  | some z => exact absurd rfl h
  | none =>
    refine ⟨rfl, Nat.lt_of_not_le fun hle => ?_⟩
    rw [if_neg (by simp)] at h
    dsimp only at h hle
    rw [List.getElem?_eq_none (by omega)] at h
    exact h rfl
theorem sees_in {C : PC} {st : PSt} {s : Str} (h : sees C st 0 s = true) : st.bad = none ∧ st.i < C.L.length := by
  refine ahd_in fun hk => ?_
  unfold sees seesT at h
  rw [hk] at h
  simp at h
theorem OkP.adv {C : PC} {st : PSt} (ok : OkP C st) (h : st.i < C.L.length) : OkP C (advP st) := ⟨h, ok.l⟩
theorem OkP.fail {C : PC} {st : PSt} {q : Int} (ok : OkP C st) : OkP C (failP q st) := ⟨ok.i, ok.l⟩
theorem OkP.take {C : PC} {st : PSt} {s : Str} (ok : OkP C st) : OkP C (takeP C s st) := by
  unfold takeP
  split
  · rename_i h; exact ok.adv (sees_in h).2
  · exact ok
theorem OkP.must {C : PC} {st : PSt} {s : Str} (ok : OkP C st) : OkP C (mustP C s st) := by
  unfold mustP
  split
  · rename_i h; exact ok.adv (sees_in h).2
  · exact ok.fail
theorem OkP.text {C : PC} {st : PSt} {k : Int} (ok : OkP C st) (hk : k ≠ 0) : OkP C (textP C k st).st := by
  unfold textP
  split
  · rename_i h; exact ok.adv (ahd_in (by rw [h]; exact hk)).2
  · exact ok.fail
def tokD (a : Option Nat) (xs : List V) : D := match a with
  | none => .v .snil
  | some T => .tsl T none xs
def tokOk (tk : List Nat) (a : Option Nat) (n : Nat) : Prop := match a with
  | none => n = 0
  | some T => tk[T]? = some n
def renOb (a b : Option Nat) (r : Rn) : Ob := .cells [tokD a (r.old.map .str), tokD b (r.free.map (.int .i64))]
structure RStep (tk : List Nat) (a b : Option Nat) (r : Rn) (tk' : List Nat) (a' b' : Option Nat) (r' : Rn) : Prop where
  len : tk.length ≤ tk'.length
  keep : ∀ i n, tk[i]? = some n → a ≠ some i → b ≠ some i → tk'[i]? = some n
  oa : tokOk tk' a' r'.old.length
  ob : tokOk tk' b' r'.free.length
  ne : ∀ i, a' = some i → b' ≠ some i
  fa : a' = a ∨ ∃ i, a' = some i ∧ tk.length ≤ i
  fb : b' = b ∨ ∃ i, b' = some i ∧ tk.length ≤ i
structure ROk (tk : List Nat) (a b : Option Nat) (r : Rn) : Prop where
  oa : tokOk tk a r.old.length
  ob : tokOk tk b r.free.length
  ne : ∀ i, a = some i → b ≠ some i
theorem RStep.ok {tk tk' : List Nat} {a b a' b' : Option Nat} {r r' : Rn} (h : RStep tk a b r tk' a' b' r') : ROk tk' a' b' r' := ⟨h.oa, h.ob, h.ne⟩
theorem RStep.refl {tk : List Nat} {a b : Option Nat} {r : Rn} (h : ROk tk a b r) : RStep tk a b r tk a b r := ⟨Nat.le_refl _, fun _ _ h _ _ => h, h.oa, h.ob, h.ne, .inl rfl, .inl rfl⟩
theorem RStep.fresh {tk tk' : List Nat} {a b a' b' : Option Nat} {r r' : Rn} (h : RStep tk a b r tk' a' b' r') {i n : Nat} (hi : tk[i]? = some n) (ha : a ≠ some i) (hb : b ≠ some i) : tk'[i]? = some n ∧ a' ≠ some i ∧ b' ≠ some i := by
  have hl := (List.getElem?_eq_some_iff.1 hi).1
  refine ⟨h.keep i n hi ha hb, fun e => ?_, fun e => ?_⟩
  · rcases h.fa with h1 | ⟨j, h1, h2⟩
    · exact ha (h1 ▸ e)
    · rw [h1] at e; cases e; omega
  · rcases h.fb with h1 | ⟨j, h1, h2⟩
    · exact hb (h1 ▸ e)
    · rw [h1] at e; cases e; omega
theorem RStep.trans {tk tk' tk2 : List Nat} {a b a' b' a2 b2 : Option Nat} {r r' r2 : Rn} (h : RStep tk a b r tk' a' b' r') (k : RStep tk' a' b' r' tk2 a2 b2 r2) : RStep tk a b r tk2 a2 b2 r2 := by
  refine ⟨Nat.le_trans h.len k.len, fun i n hi ha hb => ?_, k.oa, k.ob, k.ne, ?_, ?_⟩
  · obtain ⟨h1, h2, h3⟩ := h.fresh hi ha hb
    exact k.keep i n h1 h2 h3
  · rcases k.fa with h1 | ⟨i, h1, h2⟩
    · rw [h1]; exact h.fa
    · exact .inr ⟨i, h1, Nat.le_trans h.len h2⟩
  · rcases k.fb with h1 | ⟨i, h1, h2⟩
    · rw [h1]; exact h.fb
    · exact .inr ⟨i, h1, Nat.le_trans h.len h2⟩
theorem renOb_low {a b : Option Nat} {r : Rn} {tk : List Nat} (h : ROk tk a b r) {n : Nat} : (renOb a b r).low n tk.length := by
  have h1 : ∀ (a : Option Nat) (xs : List V) (m : Nat), tokOk tk a m → (tokD a xs).low n tk.length := by
    intro a xs m h
    cases a with
    | none => trivial
    | some T => exact (List.getElem?_eq_some_iff.1 h).1
  unfold renOb
  exact ⟨h1 _ _ _ h.oa, h1 _ _ _ h.ob, trivial⟩
theorem k_BindN {a b : Option Nat} {r : Rn} {s : Str} {p : Nat} {σ : Sg} (hp : σ.objs[p]? = some (renOb a b r)) (ok : ROk σ.toks a b r) (hl : r.old.length ≤ 4000000) :
    ACalls Tryz.prog 68 [.ptr p 0, .v (.str s)] σ fun x σ' => x = .v (.str (asR r)) ∧ ∃ a' tk', σ' = ⟨σ.objs.set p (renOb a' b (bindR s r)), tk'⟩ ∧ RStep σ.toks a b r tk' a' b (bindR s r) := by
  have ki := fun σ => k_Itoa (n := (r.old.length : Int)) (σ := σ)
  have hpl := (List.getElem?_eq_some_iff.1 hp).1
  unfold renOb at hp ⊢
  unfold asR
  generalize hb : tokD b (r.free.map (.int .i64)) = B at hp ⊢
  obtain ⟨ok1, ok2, ok3⟩ := ok
  cases a with
  | none =>
    have h0 : r.old = [] := List.length_eq_zero_iff.1 ok1
    unfold tokD at hp
    dsimp only at hp
    refine acalls_fit Tryz.func68 (by kernel_rfl) c68 rfl (by simp [a68]) fun hf => ?_
    clear hf
    simp -implicitDefEqProofs (maxSteps := 2000000) (disch := omega) [-getElem?_pos, a68, hp, hpl]
    have ki := fun σ => k_Itoa (n := 0) (σ := σ)
    refine (ki _).then fun r' hr => ?_
    obtain ⟨rfl, hlen⟩ := hr
    simp -implicitDefEqProofs (maxSteps := 2000000) (disch := omega) [-getElem?_pos]
    refine ⟨by omega, ⟨_, _, WeakR.refl _ _ _, by rw [h0]; rfl, some σ.toks.length, σ.toks ++ [1], ?_, ?_⟩⟩
    · unfold bindR
      dsimp only
      rw [h0, hb]
      rfl
    · refine ⟨by simp, fun i n h _ _ => ?_, ?_, ?_, fun i h h2 => ?_, .inr ⟨_, rfl, Nat.le_refl _⟩, .inl rfl⟩
      · rw [List.getElem?_append_left (List.getElem?_eq_some_iff.1 h).1]; exact h
      · unfold bindR tokOk
        dsimp only
        rw [h0]
        simp
      · unfold bindR
        dsimp only
        cases b with
        | none => exact ok2
        | some Tb => exact (List.getElem?_append_left (List.getElem?_eq_some_iff.1 ok2).1).trans ok2
      · cases h
        cases b with
        | none => cases h2
        | some Tb =>
          cases h2
          have := (List.getElem?_eq_some_iff.1 ok2).1
          omega
  | some T =>
    unfold tokD at hp
    dsimp only at hp
    unfold tokOk at ok1
    dsimp only at ok1
    refine acalls_fit Tryz.func68 (by kernel_rfl) c68 rfl (by simp [a68]) fun hf => ?_
    clear hf
    simp -implicitDefEqProofs (maxSteps := 2000000) (disch := omega) [-getElem?_pos, a68, hp, hpl, ok1]
    refine ⟨by omega, (ki _).then fun r' hr => ?_⟩
    obtain ⟨rfl, hlen⟩ := hr
    simp -implicitDefEqProofs (maxSteps := 2000000) (disch := omega) [-getElem?_pos]
    refine ⟨by omega, ⟨_, _, WeakR.refl _ _ _, rfl, some T, σ.toks.set T (r.old.length + 1), ?_, ?_⟩⟩
    · unfold bindR
      dsimp only
      rw [hb, List.map_append]
      rfl
    · have hT := (List.getElem?_eq_some_iff.1 ok1).1
      refine ⟨by simp, fun i n h hne _ => ?_, ?_, ?_, ok3, .inl rfl, .inl rfl⟩
      · rw [List.getElem?_set_ne (fun e => hne (by rw [e]))]; exact h
      · unfold bindR tokOk
        dsimp only
        rw [List.getElem?_set_self hT, List.length_append]
        rfl
      · unfold bindR
        dsimp only
        cases b with
        | none => exact ok2
        | some Tb =>
          unfold tokOk at ok2 ⊢
          dsimp only at ok2 ⊢
          rw [List.getElem?_set_ne (fun e => ok3 T rfl (by rw [e]))]
          exact ok2
theorem PostV.keepS {B : Sg} {r : D} {R : D → Sg → Prop} (r' : D) {os xs : List Ob} {tk : List Nat} (h : R r' ⟨os, tk⟩) (hr : D.Le r r') (hlen : B.objs.length ≤ os.length) (htk : B.toks.length ≤ tk.length)
    (hob : ∀ ob ∈ os, ob ∈ B.objs ∨ ob.low os.length tk.length) (hb : r'.low os.length tk.length := by simp) : PostV B r ⟨os ++ xs, tk⟩ R := by
  have := WeakR.drop (B := B) (xs := xs) (ts' := []) hlen htk hob hr hb
  rw [List.append_nil] at this
  exact ⟨r', _, this, h⟩
theorem k_Own1 {a b : Option Nat} {r : Rn} {s : Str} {p o : Nat} {σ : Sg} (hp : σ.objs[p]? = some (renOb a b r)) (ho : σ.objs[o]? = some (.cells [.ptr p 0])) (ok : ROk σ.toks a b r) (hl : r.old.length ≤ 4000000) :
    ACalls Tryz.prog 67 [.v (.str s), .ptr o 0] σ fun x σ' => x = .v (encFr (s, asR r)) ∧ ∃ a' tk', σ' = ⟨σ.objs.set p (renOb a' b (bindR s r)), tk'⟩ ∧ RStep σ.toks a b r tk' a' b (bindR s r) := by
  have hpl := (List.getElem?_eq_some_iff.1 hp).1
  have hol := (List.getElem?_eq_some_iff.1 ho).1
  have hset : σ.objs.set p (renOb a b r) = σ.objs := set_same hp
  have kb := fun ρ => k_BindN (a := a) (b := b) (r := r) (s := s) (p := p) (σ := ⟨σ.objs ++ ρ, σ.toks⟩) (by rw [List.getElem?_append_left hpl]; exact hp) ok hl
  have go : ∀ ρ, (σ.objs ++ ρ)[o]? = some (.cells [.ptr p 0]) := fun ρ => by rw [List.getElem?_append_left hol]; exact ho
  refine acalls_fit Tryz.func67 (by kernel_rfl) c67 rfl (by simp [a67]) fun hf => ?_
  clear hf
  simp -implicitDefEqProofs (maxSteps := 2000000) (disch := omega) [-getElem?_pos, a67, go]
  refine (kb _).mono fun x σ' hr => ?_
  obtain ⟨rfl, a', tk', rfl, hst⟩ := hr
  rw [List.set_append_left _ _ hpl]
  simp -implicitDefEqProofs (maxSteps := 2000000) (disch := omega) [-getElem?_pos]
  refine PostV.keepS _ ⟨rfl, a', tk', rfl, hst⟩ (.refl _) (by simp) hst.len (fun ob hob => ?_)
  rw [← hset]
  exact low_set2 (X := renOb a b r) (renOb_low hst.ok) ob hob
def rem (C : PC) (st : PSt) : Nat := if st.bad.isSome = true then 0 else C.L.length - st.i
structure Fwd (C : PC) (st st' : PSt) : Prop where
  ok : OkP C st → OkP C st'
  le : rem C st' ≤ rem C st
  bd : st'.bad = none → st.bad = none
theorem Fwd.refl (C : PC) (st : PSt) : Fwd C st st := ⟨id, Nat.le_refl _, id⟩
theorem Fwd.trans {C : PC} {a b c : PSt} (h : Fwd C a b) (k : Fwd C b c) : Fwd C a c := ⟨fun o => k.ok (h.ok o), Nat.le_trans k.le h.le, fun b => h.bd (k.bd b)⟩
theorem rem_fail {C : PC} {st : PSt} {q : Int} : rem C (failP q st) = 0 := rfl
theorem rem_adv {C : PC} {st : PSt} : rem C (advP st) = rem C st - 1 := by
  unfold rem advP
  dsimp only
  split
  · rfl
  · omega
theorem Fwd.fail {C : PC} {st : PSt} {q : Int} : Fwd C st (failP q st) := ⟨OkP.fail, by rw [rem_fail]; exact Nat.zero_le _, fun h => (by cases h)⟩
theorem Fwd.adv {C : PC} {st : PSt} (h : st.bad = none ∧ st.i < C.L.length) : Fwd C st (advP st) := ⟨fun o => o.adv h.2, by rw [rem_adv]; omega, fun h2 => h.1⟩
theorem Fwd.must {C : PC} {st : PSt} {s : Str} : Fwd C st (mustP C s st) := by
  unfold mustP
  split
  · rename_i h; exact .adv (sees_in h)
  · exact .fail
theorem Fwd.text {C : PC} {st : PSt} {k : Int} (hk : k ≠ 0) : Fwd C st (textP C k st).st := by
  unfold textP
  split
  · rename_i h; exact .adv (ahd_in (by rw [h]; exact hk))
  · exact .fail
theorem op_in {C : PC} {st : PSt} {ops : List Str} {s : Str} (h : opP C ops st = some s) : sees C st 0 s = true := by
  unfold opP at h
  exact List.find?_some h
theorem Fwd.op {C : PC} {st : PSt} {ops : List Str} {s : Str} (h : opP C ops st = some s) : Fwd C st (advP st) := .adv (sees_in (op_in h))
theorem Fwd.dup {C : PC} {st : PSt} {b : Bool} {q : Int} : Fwd C st (if b = true then failP q st else st) := by
  split
  · exact .fail
  · exact .refl C st
def FR.st : FR → PSt
  | .ext _ _ _ _ st => st
  | .all _ st => st
def celE : Ex → List V
  | .mk k p n s t ls ns l => [.int .i64 k, .int .i64 p, .int .i64 n, .str s, .str t, .sl none false (ls.map .str), .sl none false (ns.map .str), .sl (some 8) false (l.map encE)]
theorem celE_enc (e : Ex) : encE e = .agg (celE e) := by cases e; exact encE_mk
theorem celE_one (e : Ex) : ∀ c ∈ celE e, c.one = true := by cases e; simp [celE, V.one]
theorem VLes.append : ∀ {a b c d : List V}, VLes a b → VLes c d → VLes (a ++ c) (b ++ d)
  | [], [], _, _, _, h => h
  | x :: a, y :: b, _, _, h, k => ⟨h.1, VLes.append h.2 k⟩
  | [], _ :: _, _, _, h, _ => h.elim
  | _ :: _, [], _, _, h, _ => h.elim
def ELes : List V → List Ex → Prop
  | [], [] => True
  | .agg cs :: xs, e :: l => VLes cs (celE e) ∧ ELes xs l
  | _, _ => False
theorem ELes.flat : ∀ {xs : List V} {l : List Ex}, ELes xs l → VLes (V.flat xs) (V.flat (l.map encE)) ∧ xs.length = l.length
  | [], [], _ => ⟨trivial, rfl⟩
  | .agg cs :: xs, e :: l, h => by
    obtain ⟨h1, h2⟩ := ELes.flat h.2
    refine ⟨?_, by simp [h2]⟩
    simp only [V.flat, List.map_cons, List.flatMap_cons, celE_enc, V.cells] at h1 ⊢
    exact VLes.append h.1 h1
theorem flat_one : ∀ l : List Ex, ∀ c ∈ V.flat (l.map encE), c.one = true
  | [], c, h => by cases h
  | e :: l, c, h => by
    simp only [V.flat, List.map_cons, List.flatMap_cons, celE_enc, V.cells, List.mem_append] at h
    rcases h with h | h
    · exact celE_one e c h
    · exact flat_one l c (by simpa only [V.flat, celE_enc] using h)
theorem exs_le {f : Bool} {xs : List V} {l : List Ex} (h : ELes xs l) : VLe (.sl (some 8) f xs) (.sl (some 8) false (l.map encE)) := by
  obtain ⟨h1, h2⟩ := h.flat
  exact .sl (by simpa using h2) (fun y hy => by obtain ⟨e, _, rfl⟩ := List.mem_map.1 hy; exact encE_shape e) (flat_one l) h1
theorem ex_le {cs : List V} {e : Ex} (h : VLes cs (celE e)) : VLe (.agg cs) (encE e) := by
  rw [celE_enc]
  exact .agg h (celE_one e)
theorem VLes.len : ∀ {xs ys : List V}, VLes xs ys → xs.length = ys.length
  | [], [], _ => rfl
  | x :: xs, y :: ys, h => by simp [VLes.len h.2]
  | [], _ :: _, h => h.elim
  | _ :: _, [], h => h.elim
theorem VLes.at : ∀ {xs ys : List V} {i : Nat} {x y : V}, VLes xs ys → xs[i]? = some x → ys[i]? = some y → VLe x y
  | _ :: _, _ :: _, 0, _, _, h, h1, h2 => by cases h1; cases h2; exact h.1
  | _ :: xs, _ :: ys, i + 1, x, y, h, h1, h2 => VLes.at (i := i) h.2 (by simpa using h1) (by simpa using h2)
def zOb : Ob := .cells [.v (.int .i64 0), .v (.int .i64 0), .v (.int .i64 0), .v (.str []), .v (.str []), .v .snil, .v .snil, .v .snil]
set_option maxHeartbeats 4000000
def Go1Ct (e : Ex) : Prop := ∀ (env : List Frm) (f : Bool) (r : Rn) (a b : Option Nat) (p : Nat) (σ : Sg), csz e ≤ 1048576 → env.length + csz e ≤ 3000000 → r.old.length + csz e ≤ 3000000 → r.free.length + csz e ≤ 3000000 → σ.objs[p]? = some (renOb a b r) → ROk σ.toks a b r →
    ACalls Tryz.prog 42 [.ptr p 0, .v (encE e), .v (.sl (some 2) f (env.map encFr))] σ fun x σ' => x = .v (encE (goN e env r).e) ∧ ∃ a' b' tk', σ' = ⟨σ.objs.set p (renOb a' b' (goN e env r).r), tk'⟩ ∧ RStep σ.toks a b r tk' a' b' (goN e env r).r
def tlX : Nat → X → X
  | 0, x => x
  | n + 1, .seq _ b => tlX n b
  | _, x => x
def loopX : X → X
  | .seq (.seq _ (.block _ l)) _ => l
  | x => x
def contX : X → X
  | .seq _ r => r
  | x => x
def frOb (x : Frm) : Ob := .cells [.v (.str x.1), .v (.str x.2)]
def outOb (k q n : Int) (s t : Str) (ls : List Str) (dn L : D) : Ob := .cells [.v (.int .i64 k), .v (.int .i64 q), .v (.int .i64 n), .v (.str s), .v (.str t), .v (.sl none false (ls.map .str)), dn, L]
def LD (sh : Sh) (xs : List V) (d : D) : Prop := (d = .v .snil ∧ xs = []) ∨ ∃ T, d = .tsl T sh xs
structure GoS where
  i : Nat
  a : Option Nat
  b : Option Nat
  tk : List Nat
  L : D
  G : List Ob
def LTok (n : Nat) (st : GoS) (xs : List V) : Prop := (st.L = .v .snil ∧ xs = []) ∨ ∃ T, st.L = .tsl T (some 8) xs ∧ st.tk[T]? = some xs.length ∧ st.a ≠ some T ∧ st.b ≠ some T ∧ n ≤ T
structure GoI (k : Int) (h : Hd) (env : List Frm) (l : List Ex) (tk : List Nat) (a b : Option Nat) (r : Rn) (st : GoS) : Prop where
  i : st.i ≤ l.length
  rs : RStep tk a b r st.tk st.a st.b (goL k h env 0 (l.take st.i) h.r).r
  L : LTok tk.length st ((goL k h env 0 (l.take st.i) h.r).l.map encE)
theorem RStep.more {tk tk' : List Nat} {a b a' b' : Option Nat} {r r' : Rn} (h : RStep tk a b r tk' a' b' r') (n : Nat) : RStep tk a b r (tk' ++ [n]) a' b' r' := by
  have hk : ∀ (c : Option Nat) (m : Nat), tokOk tk' c m → tokOk (tk' ++ [n]) c m := by
    intro c m hc
    cases c with
    | none => exact hc
    | some T => exact (List.getElem?_append_left (List.getElem?_eq_some_iff.1 hc).1).trans hc
  refine ⟨by rw [List.length_append]; exact Nat.le_trans h.len (Nat.le_add_right _ _), fun i m hi ha hb => ?_, hk _ _ h.oa, hk _ _ h.ob, h.ne, h.fa, h.fb⟩
  have := h.keep i m hi ha hb
  rw [List.getElem?_append_left (List.getElem?_eq_some_iff.1 this).1]
  exact this
theorem RStep.put {tk tk' : List Nat} {a b a' b' : Option Nat} {r r' : Rn} (h : RStep tk a b r tk' a' b' r') {T : Nat} (n : Nat) (hT : tk.length ≤ T) (ha : a' ≠ some T) (hb : b' ≠ some T) : RStep tk a b r (tk'.set T n) a' b' r' := by
  have hk : ∀ (c : Option Nat) (m : Nat), c ≠ some T → tokOk tk' c m → tokOk (tk'.set T n) c m := by
    intro c m hne hc
    cases c with
    | none => exact hc
    | some S =>
      unfold tokOk at hc ⊢
      dsimp only at hc ⊢
      rw [List.getElem?_set_ne (fun e => hne (by rw [e]))]
      exact hc
  refine ⟨by rw [List.length_set]; exact h.len, fun i m hi hia hib => ?_, hk _ _ ha h.oa, hk _ _ hb h.ob, h.ne, h.fa, h.fb⟩
  have hl := (List.getElem?_eq_some_iff.1 hi).1
  rw [List.getElem?_set_ne (by omega)]
  exact h.keep i m hi hia hib
theorem RStep.lt {tk tk' : List Nat} {a b a' b' : Option Nat} {r r' : Rn} (h : RStep tk a b r tk' a' b' r') : a' ≠ some tk'.length ∧ b' ≠ some tk'.length := by
  have hk : ∀ (c : Option Nat) (m : Nat), tokOk tk' c m → c ≠ some tk'.length := by
    intro c m hc e
    subst e
    have := (List.getElem?_eq_some_iff.1 hc).1
    omega
  exact ⟨hk _ _ h.oa, hk _ _ h.ob⟩
theorem D.Le.aggW {ds : List D} {vs : List V} (hl : ds.length = vs.length) (h : ∀ (i : Nat) d v, ds[i]? = some d → vs[i]? = some v → D.Le d (.v v)) : D.Le (.agg ds) (.v (.agg vs)) := fun m w u hu => by
  cases hu with
  | agg _ us hl2 h1 hr =>
    have ha : ∀ xs : List V, allV (xs.map .v) = some xs := by
      intro xs
      induction xs with
      | nil => rfl
      | cons y ys ih => simp [allV, ih]
    have hm : mkAgg (vs.map .v) = .v (.agg vs) := by unfold mkAgg; rw [ha]
    rw [← hm]
    refine mkAgg_rep (by simp; omega) h1 fun i d u hd hu => ?_
    rw [List.getElem?_map] at hd
    cases hv : vs[i]? with
    | none => rw [hv] at hd; cases hd
    | some v =>
      rw [hv] at hd
      cases hd
      obtain ⟨d, hd⟩ : ∃ d, ds[i]? = some d := ⟨_, List.getElem?_eq_getElem (by rw [hl]; exact (List.getElem?_eq_some_iff.1 hv).1)⟩
      exact h i d v hd hv m w u (hr i d u hd hu)
theorem go_le {k q n : Int} {s t : Str} {ls ns : List Str} {l : List Ex} {dn L : D} (hn : D.Le dn (.v (.sl none false (ns.map .str)))) (hL : D.Le L (.v (.sl (some 8) false (l.map encE)))) :
    D.Le (.agg [.v (.int .i64 k), .v (.int .i64 q), .v (.int .i64 n), .v (.str s), .v (.str t), .v (.sl none false (ls.map .str)), dn, L]) (.v (encE (.mk k q n s t ls ns l))) := by
  rw [encE_mk]
  refine D.Le.aggW rfl fun i d v hd hv => ?_
  match i with
  | 0 => cases hd; cases hv; exact .refl _
  | 1 => cases hd; cases hv; exact .refl _
  | 2 => cases hd; cases hv; exact .refl _
  | 3 => cases hd; cases hv; exact .refl _
  | 4 => cases hd; cases hv; exact .refl _
  | 5 => cases hd; cases hv; exact .refl _
  | 6 => cases hd; cases hv; exact hn
  | 7 => cases hd; cases hv; exact hL
  | n + 8 => simp at hd
theorem go_le0 {k q n : Int} {s t : Str} {ls : List Str} : D.Le (.v (.agg [.int .i64 k, .int .i64 q, .int .i64 n, .str s, .str t, .sl none false (ls.map .str), .snil, .snil])) (.v (encE (.mk k q n s t ls [] []))) := by
  rw [encE_mk]
  refine VLe.d (VLe.agg ?_ fun c hc => ?_)
  · exact ⟨.refl _, .refl _, .refl _, .refl _, .refl _, .refl _, .snil, .snil, trivial⟩
  simp only [List.mem_cons, List.not_mem_nil, or_false] at hc
  rcases hc with rfl | rfl | rfl | rfl | rfl | rfl | rfl | rfl <;> rfl
theorem take_succ_get {α : Type} {l : List α} {i : Nat} {x : α} (h : l[i]? = some x) : l.take (i + 1) = l.take i ++ [x] := by rw [List.take_add_one, h]; rfl
theorem gz_mem {l : List Ex} {x : Ex} (h : x ∈ l) : csz x ≤ cszL l := by
  induction l with
  | nil => cases h
  | cons y l ih =>
    simp only [cszL]
    rcases List.mem_cons.1 h with rfl | h
    · omega
    · have := ih h; omega
theorem gz_get {l : List Ex} {i : Nat} {x : Ex} (h : l[i]? = some x) : cszL (l.take i) + csz x ≤ cszL l := by
  induction l generalizing i with
  | nil => simp at h
  | cons y l ih =>
    cases i with
    | zero => cases h; simp [cszL]
    | succ i => have := ih (i := i) (by simpa using h); simp only [List.take_succ_cons, cszL]; omega
theorem gz_take : ∀ (l : List Ex) (i : Nat), cszL (l.take i) ≤ cszL l
  | [], i => by simp
  | y :: l, 0 => by simp [cszL]
  | y :: l, i + 1 => by have := gz_take l i; simp only [List.take_succ_cons, cszL]; omega
theorem goL_len (k : Int) (h : Hd) (env : List Frm) : ∀ (l : List Ex) (i : Nat) (r : Rn), (goL k h env i l r).r.old.length ≤ r.old.length + cszL l ∧ (goL k h env i l r).r.free.length ≤ r.free.length + cszL l ∧ (goL k h env i l r).l.length = l.length
  | [], i, r => by simp [goL]
  | x :: l, i, r => by
    have h1 := goN_len x (innerN k h env i) r
    have h2 := goL_len k h env l (i + 1) (goN x (innerN k h env i) r).r
    simp only [goL, cszL, List.length_cons]
    omega
theorem go1_loop {k q n : Int} {s t : Str} {ls ns : List Str} {l : List Ex} {env : List Frm} {f : Bool} {h : Hd} {r : Rn} {a b : Option Nat} {p : Nat} {os : List Ob} {tk : List Nat} {df dn : D} {st : St} {s0 : GoS} (ih : ∀ x ∈ l, Go1Ct x) (hl : p < os.length)
    (hc : cszL l ≤ 1048576) (hen : env.length + 2 + cszL l ≤ 3000000) (hold : h.r.old.length + cszL l ≤ 3000000) (hfree : h.r.free.length + cszL l ≤ 3000000)
    (hdf : LD (some 2) (h.fn.map encFr) df) (hdn : LD none (h.ns.map .str) dn) (hI : GoI k h env l tk a b r s0) (h0 : s0.i = 0)
    (hw : Weak ⟨os.set p (renOb a b r), tk⟩ st ⟨[(2, .v (.sl (some 2) f (env.map encFr))), (3, .ptr os.length 0), (4, .ptr (os.length + 1) 0), (6, .ptr (os.length + 2) 0), (7, .ptr (os.length + 3) 0), (9, .ptr (os.length + 4) 0), (10, .ptr (os.length + 5) 0), (11, df), (115, .v (.sl (some 8) false (l.map encE))), (116, .v (.int .i64 l.length)), (117, .v (.int .i64 s0.i))],
      ⟨os.set p (renOb s0.a s0.b (goL k h env 0 (l.take s0.i) h.r).r) ++ (.cells [.ptr p 0] :: obE (.mk k q n s t ls ns l) :: zOb :: outOb k q n h.s h.t ls dn s0.L :: frOb h.fs :: frOb h.ft :: s0.G), s0.tk⟩⟩) :
    W Tryz.prog ⟨os.set p (renOb a b r), tk⟩ (loopX (tlX 7 a42.body)) (QBlk 3 (QSeq Tryz.prog ⟨os.set p (renOb a b r), tk⟩ (contX (tlX 7 a42.body)) (Post ⟨os.set p (renOb a b r), tk⟩ a42.res fun x σ' => x = .v (encE (.mk k q n h.s h.t ls h.ns (goL k h env 0 l h.r).l)) ∧ ∃ a' b' tk', σ' = ⟨os.set p (renOb a' b' (goL k h env 0 l h.r).r), tk'⟩ ∧ RStep tk a b r tk' a' b' (goL k h env 0 l h.r).r))) st := by
  refine W_loop (α := GoS) s0 (fun x => l.length - x.i) (fun x => ⟨[(2, .v (.sl (some 2) f (env.map encFr))), (3, .ptr os.length 0), (4, .ptr (os.length + 1) 0), (6, .ptr (os.length + 2) 0), (7, .ptr (os.length + 3) 0), (9, .ptr (os.length + 4) 0), (10, .ptr (os.length + 5) 0), (11, df), (115, .v (.sl (some 8) false (l.map encE))), (116, .v (.int .i64 l.length)), (117, .v (.int .i64 x.i))],
      ⟨os.set p (renOb x.a x.b (goL k h env 0 (l.take x.i) h.r).r) ++ (.cells [.ptr p 0] :: obE (.mk k q n s t ls ns l) :: zOb :: outOb k q n h.s h.t ls dn x.L :: frOb h.fs :: frOb h.ft :: x.G), x.tk⟩⟩) (fun x => GoI k h env l tk a b r x) hw hI fun ⟨i, a', b', tk', L, G⟩ ⟨hi, hrs, hL⟩ => ?_
  clear hw hI
  dsimp only at hi hrs hL ⊢
  have hcL := cszL_len l
  simp -implicitDefEqProofs (maxSteps := 2000000) (disch := omega) [-getElem?_pos]
  refine .mk (fun hlt => ?_) fun hlt => ?_
  · obtain ⟨x, hx⟩ : ∃ x, l[i]? = some x := ⟨_, List.getElem?_eq_getElem (by omega)⟩
    have ihx := ih x (List.mem_of_getElem? hx)
    have hcx := gz_mem (List.mem_of_getElem? hx)
    have hlen1 := goL_len k h env (l.take i) 0 h.r
    have hin2 := innerN_len k h env i
    have htk := gz_take l i
    have hget := gz_get hx
    have hrec : ∀ (d : D) (hd : d = .v (vF (innerN k h env i)) ∨ ∃ g, d = .v (.sl (some 2) g ((innerN k h env i).map encFr))) (ρ : List Ob), ACalls Tryz.prog 42 [.ptr p 0, .v (encE x), d] ⟨os.set p (renOb a' b' (goL k h env 0 (l.take i) h.r).r) ++ ρ, tk'⟩ fun y σ' => y = .v (encE (goN x (innerN k h env i) (goL k h env 0 (l.take i) h.r).r).e) ∧ ∃ a2 b2 tk2, σ' = ⟨os.set p (renOb a2 b2 (goN x (innerN k h env i) (goL k h env 0 (l.take i) h.r).r).r) ++ ρ, tk2⟩ ∧ RStep tk' a' b' (goL k h env 0 (l.take i) h.r).r tk2 a2 b2 (goN x (innerN k h env i) (goL k h env 0 (l.take i) h.r).r).r := by
      intro d hd ρ
      have hgo := fun g => ihx (innerN k h env i) g (goL k h env 0 (l.take i) h.r).r a' b' p ⟨os.set p (renOb a' b' (goL k h env 0 (l.take i) h.r).r) ++ ρ, tk'⟩ (by omega) (by omega) (by omega) (by omega) (by simp [hl]) hrs.ok
      simp only [set_app_set hl] at hgo
      rcases hd with rfl | ⟨g, rfl⟩
      · exact hgo false
      · exact hgo g
    have hnext : (goL k h env 0 (l.take (i + 1)) h.r) = ⟨(goL k h env 0 (l.take i) h.r).l ++ [(goN x (innerN k h env i) (goL k h env 0 (l.take i) h.r).r).e], (goN x (innerN k h env i) (goL k h env 0 (l.take i) h.r).r).r⟩ := by
      rw [take_succ_get hx, goL_snoc, List.length_take, Nat.min_eq_left hi]
    have hXl : (goL k h env 0 (l.take i) h.r).l.length ≤ l.length := by rw [hlen1.2.2, List.length_take]; omega
    clear ih ihx hcx hlen1 htk hget
    generalize hNX : goN x (innerN k h env i) (goL k h env 0 (l.take i) h.r).r = NX at *
    generalize goL k h env 0 (l.take i) h.r = LX at *
    have hfsl : env.length + 1 ≤ 4000000 ∧ env.length + 2 ≤ 4000000 := by omega
    cases x with
    | mk k9 p9 n9 s9 t9 ls9 ns9 l9 =>
    rw [encE_mk] at hrec
    by_cases h4 : k = 4
    focus
      have b4 : (k == 4) = true := by rw [h4]; rfl
      have b6 : (k == 6) = false := by rw [h4]; rfl
      have b7 : (k == 7) = false := by rw [h4]; rfl
      have b14 : (k == 14) = false := by rw [h4]; rfl
      have hin : innerN k h env i = env ++ [h.fs] := by unfold innerN; simp [h4]
      have hd9 := hrec (.v (vF (env ++ [h.fs]))) (.inl (by rw [hin]))
      simp -implicitDefEqProofs (maxSteps := 2000000) (disch := omega) [-getElem?_pos, hx, obE_mk, encE_mk, frOb, b4, b6, b7, b14]
      refine ⟨by omega, ?_⟩
      refine (k_With (l := env) (x := [h.fs]) (f := f) (g := true) (by simp; omega)).then fun y hy => ?_
      subst hy
      simp -implicitDefEqProofs (maxSteps := 2000000) (disch := omega) [-getElem?_pos]
    rotate_left 1
    by_cases h6 : k = 6
    focus
      have b4 : (k == 4) = false := by rw [h6]; rfl
      have b6 : (k == 6) = true := by rw [h6]; rfl
      have b7 : (k == 7) = false := by rw [h6]; rfl
      have b14 : (k == 14) = false := by rw [h6]; rfl
      by_cases hi1 : i = 1
      focus
        have hb1 : ((i : Int) == 1) = true := by rw [hi1]; rfl
        have hin : innerN k h env i = env ++ [h.fs] := by unfold innerN; simp [h6, hi1]
        have hd9 := hrec (.v (vF (env ++ [h.fs]))) (.inl (by rw [hin]))
        simp -implicitDefEqProofs (maxSteps := 2000000) (disch := omega) [-getElem?_pos, hx, obE_mk, encE_mk, frOb, b4, b6, b7, b14, hb1]
        refine ⟨by omega, ?_⟩
        refine (k_With (l := env) (x := [h.fs]) (f := f) (g := true) (by simp; omega)).then fun y hy => ?_
        subst hy
        simp -implicitDefEqProofs (maxSteps := 2000000) (disch := omega) [-getElem?_pos]
      rotate_left 1
      have hb1 : ((i : Int) == 1) = false := beq_false_of_ne (by omega)
      have hin : innerN k h env i = env := by unfold innerN; simp [h6, hi1]
      have hd9 := hrec (.v (.sl (some 2) f (env.map encFr))) (.inr ⟨f, by rw [hin]⟩)
      simp -implicitDefEqProofs (maxSteps := 2000000) (disch := omega) [-getElem?_pos, hx, obE_mk, encE_mk, frOb, b4, b6, b7, b14, hb1]
      refine ⟨by omega, ?_⟩
    rotate_left 2
    by_cases h7 : k = 7
    focus
      have b4 : (k == 4) = false := by rw [h7]; rfl
      have b6 : (k == 6) = false := by rw [h7]; rfl
      have b7 : (k == 7) = true := by rw [h7]; rfl
      have b14 : (k == 14) = false := by rw [h7]; rfl
      by_cases hi1 : i = 1
      focus
        have hb1 : ((i : Int) == 1) = true := by rw [hi1]; rfl
        have hin : innerN k h env i = env ++ [h.fs] := by unfold innerN; simp [h7, hi1]
        have hd9 := hrec (.v (vF (env ++ [h.fs]))) (.inl (by rw [hin]))
        simp -implicitDefEqProofs (maxSteps := 2000000) (disch := omega) [-getElem?_pos, hx, obE_mk, encE_mk, frOb, b4, b6, b7, b14, hb1]
        refine ⟨by omega, ?_⟩
        refine (k_With (l := env) (x := [h.fs]) (f := f) (g := true) (by simp; omega)).then fun y hy => ?_
        subst hy
        simp -implicitDefEqProofs (maxSteps := 2000000) (disch := omega) [-getElem?_pos]
      rotate_left 1
      have hb1 : ((i : Int) == 1) = false := beq_false_of_ne (by omega)
      have hin : innerN k h env i = env ++ [h.fs, h.ft] := by unfold innerN; simp [h7, hi1]
      have hd9 := hrec (.v (vF (env ++ [h.fs, h.ft]))) (.inl (by rw [hin]))
      simp -implicitDefEqProofs (maxSteps := 2000000) (disch := omega) [-getElem?_pos, hx, obE_mk, encE_mk, frOb, b4, b6, b7, b14, hb1]
      refine ⟨by omega, ?_⟩
      refine (k_With (l := env) (x := [h.fs, h.ft]) (f := f) (g := true) (by simp; omega)).then fun y hy => ?_
      subst hy
      simp -implicitDefEqProofs (maxSteps := 2000000) (disch := omega) [-getElem?_pos]
    rotate_left 2
    by_cases h14 : k = 14
    focus
      have b4 : (k == 4) = false := by rw [h14]; rfl
      have b6 : (k == 6) = false := by rw [h14]; rfl
      have b7 : (k == 7) = false := by rw [h14]; rfl
      have b14 : (k == 14) = true := by rw [h14]; rfl
      by_cases hi0 : i = 0
      focus
        have hn0 : ¬ 0 < i := by omega
        have hin : innerN k h env i = env := by unfold innerN; simp [h14, hi0]
        have hd9 := hrec (.v (.sl (some 2) f (env.map encFr))) (.inr ⟨f, by rw [hin]⟩)
        simp -implicitDefEqProofs (maxSteps := 2000000) (disch := omega) [-getElem?_pos, hx, obE_mk, encE_mk, frOb, b4, b6, b7, b14, hn0]
        refine ⟨by omega, ?_⟩
      rotate_left 1
      by_cases hil : i ≤ h.fn.length
      focus
        obtain ⟨yf, hyf⟩ : ∃ yf, h.fn[i - 1]? = some yf := ⟨_, List.getElem?_eq_getElem (by omega)⟩
        have hipos : 0 < i := by omega
        have hin : innerN k h env i = env ++ [yf] := by unfold innerN; simp [h14, hipos, hil, hyf]
        have hd9 := hrec (.v (vF (env ++ [yf]))) (.inl (by rw [hin]))
        rcases hdf with ⟨rfl, hn0⟩ | ⟨T0, rfl⟩
        · exact absurd (List.map_eq_nil_iff.1 hn0) (fun e => by rw [e] at hil; simp at hil; omega)
        have e1 : ((i : Int) - 1).toNat = i - 1 := by omega
        obtain ⟨y1, y2⟩ := yf
        simp -implicitDefEqProofs (maxSteps := 2000000) (disch := omega) [-getElem?_pos, hx, obE_mk, encE_mk, frOb, b4, b6, b7, b14, hipos, hil, e1, hyf, encFr]
        refine ⟨by omega, by omega, by omega, ?_⟩
        refine (k_With (l := env) (x := [(y1, y2)]) (f := f) (g := true) (by simp; omega)).then fun y hy => ?_
        subst hy
        simp -implicitDefEqProofs (maxSteps := 2000000) (disch := omega) [-getElem?_pos]
      rotate_left 1
      have hipos : 0 < i := by omega
      have hin : innerN k h env i = env ++ [h.ft] := by unfold innerN; simp [h14, hipos, hil]
      have hd9 := hrec (.v (vF (env ++ [h.ft]))) (.inl (by rw [hin]))
      have hil' : h.fn.length < i := by omega
      rcases hdf with ⟨rfl, hn0⟩ | ⟨T0, rfl⟩
      focus
        simp -implicitDefEqProofs (maxSteps := 2000000) (disch := omega) [-getElem?_pos, hx, obE_mk, encE_mk, frOb, b4, b6, b7, b14, hipos]
        refine ⟨by omega, .mk (fun h0 => absurd h0 (by omega)) fun h0 => ?_⟩
        simp -implicitDefEqProofs (maxSteps := 2000000) (disch := omega) [-getElem?_pos, b4, b6, b7, b14, hipos, frOb, obE_mk]
        refine (k_With (l := env) (x := [h.ft]) (f := f) (g := true) (by simp; omega)).then fun y hy => ?_
        subst hy
        simp -implicitDefEqProofs (maxSteps := 2000000) (disch := omega) [-getElem?_pos]
      rotate_left
      simp -implicitDefEqProofs (maxSteps := 2000000) (disch := omega) [-getElem?_pos, hx, obE_mk, encE_mk, frOb, b4, b6, b7, b14, hipos, hil]
      refine ⟨by omega, ?_⟩
      refine (k_With (l := env) (x := [h.ft]) (f := f) (g := true) (by simp; omega)).then fun y hy => ?_
      subst hy
      simp -implicitDefEqProofs (maxSteps := 2000000) (disch := omega) [-getElem?_pos]
    rotate_left 4
    have b4 : (k == 4) = false := beq_false_of_ne h4
    have b6 : (k == 6) = false := beq_false_of_ne h6
    have b7 : (k == 7) = false := beq_false_of_ne h7
    have b14 : (k == 14) = false := beq_false_of_ne h14
    have hin : innerN k h env i = env := by unfold innerN; simp [h4, h6, h7, h14]
    have hd9 := hrec (.v (.sl (some 2) f (env.map encFr))) (.inr ⟨f, by rw [hin]⟩)
    simp -implicitDefEqProofs (maxSteps := 2000000) (disch := omega) [-getElem?_pos, hx, obE_mk, encE_mk, frOb, b4, b6, b7, b14]
    refine ⟨by omega, ?_⟩
    all_goals
      skip
      obtain ⟨⟨k8, p8, n8, s8, t8, ls8, ns8, l8⟩, rX⟩ := NX
      obtain ⟨lX, rl⟩ := LX
      dsimp only at *
      simp only [encE_mk (k := k8)] at hd9
      rcases hL with ⟨rfl, hL0⟩ | ⟨TL, rfl, hT, hTa, hTb, hTn⟩
      focus
        simp -implicitDefEqProofs (maxSteps := 2000000) (disch := omega) [-getElem?_pos, outOb]
        refine (hd9 _).mono fun y σ' hr => ?_
        obtain ⟨rfl, a2, b2, tk2, rfl, hst⟩ := hr
        simp -implicitDefEqProofs (maxSteps := 2000000) (disch := omega) [-getElem?_pos]
        have hlX : lX = [] := List.map_eq_nil_iff.1 hL0
        exact ⟨⟨i + 1, a2, b2, tk2 ++ [1], .tsl tk2.length (some 8) [encE (.mk k8 p8 n8 s8 t8 ls8 ns8 l8)], _⟩, ⟨by dsimp only; omega, by rw [hnext]; exact (hrs.trans hst).more 1, by rw [hnext, hlX]; exact .inr ⟨_, rfl, by simp, hst.lt.1, hst.lt.2, Nat.le_trans hrs.len hst.len⟩⟩, by dsimp only; omega, .eq2 (by simp [hnext, outOb, encE_mk, frOb, obE_mk]; rfl) (by simp)⟩
      simp -implicitDefEqProofs (maxSteps := 2000000) (disch := omega) [-getElem?_pos, outOb]
      refine (hd9 _).mono fun y σ' hr => ?_
      obtain ⟨rfl, a2, b2, tk2, rfl, hst⟩ := hr
      obtain ⟨q1, q2, q3⟩ := hst.fresh hT hTa hTb
      simp -implicitDefEqProofs (maxSteps := 2000000) (disch := omega) [-getElem?_pos, q1]
      refine ⟨by omega, ⟨⟨i + 1, a2, b2, tk2.set TL (lX.length + 1), .tsl TL (some 8) (lX.map encE ++ [encE (.mk k8 p8 n8 s8 t8 ls8 ns8 l8)]), _⟩, ⟨by dsimp only; omega, by rw [hnext]; exact (hrs.trans hst).put _ hTn q2 q3, by rw [hnext]; exact .inr ⟨TL, by simp, by have := (List.getElem?_eq_some_iff.1 q1).1; simp [this], q2, q3, hTn⟩⟩, by dsimp only; omega, .eq2 (by simp [hnext, outOb, encE_mk, frOb, obE_mk]; rfl) (by simp)⟩⟩
  · obtain rfl : i = l.length := by omega
    rw [List.take_length] at hrs hL
    rcases hL with ⟨rfl, hL0⟩ | ⟨TL, rfl, hT, hTa, hTb, hTn⟩
    focus
      have hL1 : (goL k h env 0 l h.r).l = [] := List.map_eq_nil_iff.1 hL0
      rw [hL1]
      rcases hdn with ⟨rfl, hn0⟩ | ⟨TN, rfl⟩
      focus
        have hn1 : h.ns = [] := List.map_eq_nil_iff.1 hn0
        rw [hn1]
        simp -implicitDefEqProofs (maxSteps := 2000000) (disch := omega) [-getElem?_pos, outOb, contX, tlX, a42, zOb]
        refine PostV.keepS _ ⟨rfl, a', b', tk', rfl, hrs⟩ go_le0 (by simp) hrs.len (low_set2 (renOb_low hrs.ok)) (by simp)
      simp -implicitDefEqProofs (maxSteps := 2000000) (disch := omega) [-getElem?_pos, outOb, contX, tlX, a42, zOb]
      refine PostV.keepS _ ⟨rfl, a', b', tk', rfl, hrs⟩ (go_le .tsl VLe.snil.d) (by simp) hrs.len (low_set2 (renOb_low hrs.ok)) (by simp)
    rcases hdn with ⟨rfl, hn0⟩ | ⟨TN, rfl⟩
    focus
      have hn1 : h.ns = [] := List.map_eq_nil_iff.1 hn0
      rw [hn1]
      simp -implicitDefEqProofs (maxSteps := 2000000) (disch := omega) [-getElem?_pos, outOb, contX, tlX, a42, zOb]
      refine PostV.keepS _ ⟨rfl, a', b', tk', rfl, hrs⟩ (go_le VLe.snil.d .tsl) (by simp) hrs.len (low_set2 (renOb_low hrs.ok)) (by simp)
    simp -implicitDefEqProofs (maxSteps := 2000000) (disch := omega) [-getElem?_pos, outOb, contX, tlX, a42, zOb]
    refine PostV.keepS _ ⟨rfl, a', b', tk', rfl, hrs⟩ (go_le .tsl .tsl) (by simp) hrs.len (low_set2 (renOb_low hrs.ok)) (by simp)
set_option maxHeartbeats 1000000
theorem go1_go {k q n : Int} {s t : Str} {ls ns : List Str} {l : List Ex} {env : List Frm} {f : Bool} {h : Hd} {r : Rn} {a b a' b' : Option Nat} {p : Nat} {os : List Ob} {tk tk' : List Nat} {df dn : D} {st : St} {G : List Ob} (ih : ∀ x ∈ l, Go1Ct x) (hl : p < os.length)
    (hc : cszL l ≤ 1048576) (hen : env.length + 2 + cszL l ≤ 3000000) (hold : h.r.old.length + cszL l ≤ 3000000) (hfree : h.r.free.length + cszL l ≤ 3000000)
    (hdf : LD (some 2) (h.fn.map encFr) df) (hdn : LD none (h.ns.map .str) dn) (hst : RStep tk a b r tk' a' b' h.r)
    (hw : Weak ⟨os.set p (renOb a b r), tk⟩ st ⟨[(2, .v (.sl (some 2) f (env.map encFr))), (3, .ptr os.length 0), (4, .ptr (os.length + 1) 0), (6, .ptr (os.length + 2) 0), (7, .ptr (os.length + 3) 0), (9, .ptr (os.length + 4) 0), (10, .ptr (os.length + 5) 0), (11, df), (115, .v (.sl (some 8) false (l.map encE))), (116, .v (.int .i64 l.length)), (117, .v (.int .i64 0))],
      ⟨os.set p (renOb a' b' h.r) ++ (.cells [.ptr p 0] :: obE (.mk k q n s t ls ns l) :: zOb :: outOb k q n h.s h.t ls dn (.v .snil) :: frOb h.fs :: frOb h.ft :: G), tk'⟩⟩) :
    W Tryz.prog ⟨os.set p (renOb a b r), tk⟩ (loopX (tlX 7 a42.body)) (QBlk 3 (QSeq Tryz.prog ⟨os.set p (renOb a b r), tk⟩ (contX (tlX 7 a42.body)) (Post ⟨os.set p (renOb a b r), tk⟩ a42.res fun x σ' => x = .v (encE (.mk k q n h.s h.t ls h.ns (goL k h env 0 l h.r).l)) ∧ ∃ a' b' tk', σ' = ⟨os.set p (renOb a' b' (goL k h env 0 l h.r).r), tk'⟩ ∧ RStep tk a b r tk' a' b' (goL k h env 0 l h.r).r))) st := by
  have h0 : goL k h env 0 (l.take 0) h.r = ⟨[], h.r⟩ := by simp [goL]
  refine go1_loop (s := s) (t := t) (ns := ns) (f := f) (s0 := ⟨0, a', b', tk', .v .snil, G⟩) ih hl hc hen hold hfree hdf hdn ⟨Nat.zero_le _, by dsimp only; rw [h0]; exact hst, by dsimp only; rw [h0]; exact .inl ⟨rfl, rfl⟩⟩ rfl ?_
  dsimp only
  rw [h0]
  exact hw
structure NmS where
  i : Nat
  a : Option Nat
  tk : List Nat
  df : D
  dn : D
  G : List Ob
structure NmI (ns : List Str) (tk : List Nat) (a b : Option Nat) (r : Rn) (st : NmS) : Prop where
  i : st.i ≤ ns.length
  rs : RStep tk a b r st.tk st.a b (namesR (ns.take st.i) r).2
  d : (st.i = 0 ∧ st.df = .v .snil ∧ st.dn = .v .snil) ∨ ∃ TF TN, st.df = .tsl TF (some 2) ((namesR (ns.take st.i) r).1.map encFr) ∧ st.dn = .tsl TN none (((namesR (ns.take st.i) r).1.map (·.2)).map .str) ∧ TF ≠ TN ∧
    st.tk[TF]? = some st.i ∧ st.tk[TN]? = some st.i ∧ st.a ≠ some TF ∧ st.a ≠ some TN ∧ b ≠ some TF ∧ b ≠ some TN ∧ tk.length ≤ TF ∧ tk.length ≤ TN
theorem RStep.freeN {tk : List Nat} {a : Option Nat} {r : Rn} {q : Int} (ok : ROk tk a none r) : RStep tk a none r (tk ++ [1]) a (some tk.length) ⟨r.old, r.free ++ [q]⟩ := by
  obtain ⟨ok1, ok2, ok3⟩ := ok
  refine ⟨by simp, fun i n h _ _ => ?_, ?_, ?_, fun i h h2 => ?_, .inl rfl, .inr ⟨_, rfl, Nat.le_refl _⟩⟩
  · rw [List.getElem?_append_left (List.getElem?_eq_some_iff.1 h).1]; exact h
  · cases a with
    | none => exact ok1
    | some T => exact (List.getElem?_append_left (List.getElem?_eq_some_iff.1 ok1).1).trans ok1
  · have h0 : r.free = [] := List.length_eq_zero_iff.1 ok2
    unfold tokOk
    dsimp only
    rw [h0]
    simp
  · cases h2
    subst h
    have := (List.getElem?_eq_some_iff.1 ok1).1
    omega
theorem RStep.freeS {tk : List Nat} {a : Option Nat} {T : Nat} {r : Rn} {q : Int} (ok : ROk tk a (some T) r) : RStep tk a (some T) r (tk.set T (r.free.length + 1)) a (some T) ⟨r.old, r.free ++ [q]⟩ := by
  obtain ⟨ok1, ok2, ok3⟩ := ok
  have hT := (List.getElem?_eq_some_iff.1 ok2).1
  refine ⟨by simp, fun i n h _ hne => ?_, ?_, ?_, ok3, .inl rfl, .inl rfl⟩
  · rw [List.getElem?_set_ne (fun e => hne (by rw [e]))]; exact h
  · cases a with
    | none => exact ok1
    | some Ta =>
      unfold tokOk at ok1 ⊢
      dsimp only at ok1 ⊢
      rw [List.getElem?_set_ne (fun e => ok3 Ta rfl (by rw [e]))]
      exact ok1
  · unfold tokOk
    dsimp only
    rw [List.getElem?_set_self hT, List.length_append]
    rfl
theorem k_Go1 (e : Ex) : Go1Ct e := by
  refine Ex.ind (P := Go1Ct) (fun k q n s t ls ns l ih => ?_) e
  intro env f r a b p σ he hen hold hfree hp ok
  revert ok
  refine pstart (Q := fun σ => ROk σ.toks a b r → ACalls Tryz.prog 42 [.ptr p 0, .v (encE (.mk k q n s t ls ns l)), .v (.sl (some 2) f (env.map encFr))] σ fun x σ' => x = .v (encE (goN (.mk k q n s t ls ns l) env r).e) ∧ ∃ a' b' tk', σ' = ⟨σ.objs.set p (renOb a' b' (goN (.mk k q n s t ls ns l) env r).r), tk'⟩ ∧ RStep σ.toks a b r tk' a' b' (goN (.mk k q n s t ls ns l) env r).r) hp fun os tk hl ok => ?_
  clear hp σ
  dsimp only at ok
  rw [csz] at he hen hold hfree
  have hns := nsz_ge ns
  have hls := nsz_ge ls
  have kcl := fun σ => k_CloneS (l := ls) (σ := σ) (by omega)
  have ko := fun (a b : Option Nat) (r : Rn) (s : Str) (tk : List Nat) (ρ : List Ob) (ok : ROk tk a b r) hl' => k_Own1 (a := a) (b := b) (r := r) (s := s) (p := p) (o := os.length) (σ := ⟨os.set p (renOb a b r) ++ .cells [.ptr p 0] :: ρ, tk⟩) (by simp [hl]) (by simp) ok hl'
  have kfi := fun σ => k_Find (zs := env) (s := s) (f := f) (σ := σ) (by omega)
  simp only [List.set_set]
  rw [goN]
  have hh := headN_len k q s t ns env r
  have hgo := fun (h : Hd) (a' b' : Option Nat) (tk' : List Nat) (df dn : D) (st : St) (G : List Ob) (hr1 : h.r.old.length ≤ r.old.length + 2 + ns.length) (hr2 : h.r.free.length ≤ r.free.length + 1) => go1_go (k := k) (q := q) (n := n) (s := s) (t := t) (ls := ls) (ns := ns) (l := l) (env := env) (f := f) (h := h) (r := r) (a := a) (b := b) (p := p) (os := os) (tk := tk) (a' := a') (b' := b') (tk' := tk') (df := df) (dn := dn) (st := st) (G := G) ih hl (by omega) (by omega) (by omega) (by omega)
  unfold vS at kcl
  rw [encE_mk]
  dsimp only
  by_cases h3 : k = 3
  · subst h3
    generalize hH : headN 3 q s t ns env r = h at *
    refine acalls_fit Tryz.func42 (by kernel_rfl) c42 rfl (by simp [a42]) fun hf => ?_
    clear hf
    simp -implicitDefEqProofs (maxSteps := 2000000) (disch := omega) [-getElem?_pos, a42]
    refine (kcl _).then fun x hx => ?_
    subst hx
    simp -implicitDefEqProofs (maxSteps := 2000000) (disch := omega) [-getElem?_pos]
    refine (kfi _).then fun x hx => ?_
    subst hx
    simp -implicitDefEqProofs (maxSteps := 2000000) (disch := omega) [-getElem?_pos]
    refine .mk (fun hfd => ?_) fun hfd => ?_
    · have hH2 : h = ⟨(findF env s).1, t, [], zF, zF, [], r⟩ := by rw [← hH]; unfold headN; rw [if_pos rfl, if_pos hfd]
      subst hH2
      simp -implicitDefEqProofs (maxSteps := 2000000) (disch := omega) [-getElem?_pos]
      refine hgo ⟨(findF env s).1, t, [], zF, zF, [], r⟩ a b tk (.v .snil) (.v .snil) _ [] hh.1 hh.2 (.inl ⟨rfl, rfl⟩) (.inl ⟨rfl, rfl⟩) (RStep.refl ok) (.eq2 (by simp [outOb, zOb, frOb, zF, obE_mk]; done) (by simp))
    have hH2 : h = ⟨(findF env s).1, t, [], zF, zF, [], ⟨r.old, r.free ++ [q]⟩⟩ := by rw [← hH]; unfold headN; rw [if_pos rfl, if_neg hfd]
    subst hH2
    cases b with
    | none =>
      have h0 : r.free = [] := List.length_eq_zero_iff.1 ok.ob
      unfold renOb tokD
      dsimp only
      simp -implicitDefEqProofs (maxSteps := 2000000) (disch := omega) [-getElem?_pos, hl]
      refine hgo ⟨(findF env s).1, t, [], zF, zF, [], ⟨r.old, r.free ++ [q]⟩⟩ a (some tk.length) (tk ++ [1]) (.v .snil) (.v .snil) _ [] hh.1 hh.2 (.inl ⟨rfl, rfl⟩) (.inl ⟨rfl, rfl⟩) (RStep.freeN ok) (.eq2 (by simp [outOb, zOb, frOb, zF, obE_mk, h0, renOb, tokD]; done) (by simp))
    | some T =>
      have ok2 : tk[T]? = some r.free.length := ok.ob
      unfold renOb tokD
      dsimp only
      simp -implicitDefEqProofs (maxSteps := 2000000) (disch := omega) [-getElem?_pos, hl, ok2]
      refine ⟨by omega, hgo ⟨(findF env s).1, t, [], zF, zF, [], ⟨r.old, r.free ++ [q]⟩⟩ a (some T) (tk.set T (r.free.length + 1)) (.v .snil) (.v .snil) _ [] hh.1 hh.2 (.inl ⟨rfl, rfl⟩) (.inl ⟨rfl, rfl⟩) (RStep.freeS ok) (.eq2 (by simp [outOb, zOb, frOb, zF, obE_mk, renOb, tokD]; done) (by simp))⟩
  have hb3 : (k == 3) = false := beq_false_of_ne h3
  by_cases h4 : k = 4
  · have hH2 : headN k q s t ns env r = ⟨asR r, t, [], (s, asR r), zF, [], bindR s r⟩ := by unfold headN; rw [if_neg h3, if_pos (.inl h4)]
    rw [hH2] at hh ⊢
    have hb4 : (k == 4) = true := by rw [h4]; rfl
    refine acalls_fit Tryz.func42 (by kernel_rfl) c42 rfl (by simp [a42]) fun hf => ?_
    clear hf
    simp -implicitDefEqProofs (maxSteps := 2000000) (disch := omega) [-getElem?_pos, a42, hb3, hb4]
    refine (kcl _).then fun x hx => ?_
    subst hx
    simp -implicitDefEqProofs (maxSteps := 2000000) (disch := omega) [-getElem?_pos, hb3, hb4]
    refine (ko _ _ _ s _ _ ok (by omega)).mono fun x σ' hx => ?_
    obtain ⟨rfl, a', tk', rfl, hst⟩ := hx
    simp -implicitDefEqProofs (maxSteps := 2000000) (disch := omega) [-getElem?_pos, encFr]
    exact hgo ⟨asR r, t, [], (s, asR r), zF, [], bindR s r⟩ a' b tk' (.v .snil) (.v .snil) _ [] hh.1 hh.2 (.inl ⟨rfl, rfl⟩) (.inl ⟨rfl, rfl⟩) hst (.eq2 (by simp [outOb, zOb, frOb, zF, obE_mk]; done) (by simp))
  have hb4 : (k == 4) = false := beq_false_of_ne h4
  by_cases h6 : k = 6
  · have hH2 : headN k q s t ns env r = ⟨asR r, t, [], (s, asR r), zF, [], bindR s r⟩ := by unfold headN; rw [if_neg h3, if_pos (.inr h6)]
    rw [hH2] at hh ⊢
    have hb6 : (k == 6) = true := by rw [h6]; rfl
    refine acalls_fit Tryz.func42 (by kernel_rfl) c42 rfl (by simp [a42]) fun hf => ?_
    clear hf
    simp -implicitDefEqProofs (maxSteps := 2000000) (disch := omega) [-getElem?_pos, a42, hb3, hb4, hb6]
    refine (kcl _).then fun x hx => ?_
    subst hx
    simp -implicitDefEqProofs (maxSteps := 2000000) (disch := omega) [-getElem?_pos, hb3, hb4, hb6]
    refine (ko _ _ _ s _ _ ok (by omega)).mono fun x σ' hx => ?_
    obtain ⟨rfl, a', tk', rfl, hst⟩ := hx
    simp -implicitDefEqProofs (maxSteps := 2000000) (disch := omega) [-getElem?_pos, encFr]
    exact hgo ⟨asR r, t, [], (s, asR r), zF, [], bindR s r⟩ a' b tk' (.v .snil) (.v .snil) _ [] hh.1 hh.2 (.inl ⟨rfl, rfl⟩) (.inl ⟨rfl, rfl⟩) hst (.eq2 (by simp [outOb, zOb, frOb, zF, obE_mk]; done) (by simp))
  have hb6 : (k == 6) = false := beq_false_of_ne h6
  by_cases h7 : k = 7
  · have hH2 : headN k q s t ns env r = ⟨asR r, asR (bindR s r), [], (s, asR r), (t, asR (bindR s r)), [], bindR t (bindR s r)⟩ := by unfold headN; rw [if_neg h3, if_neg (by omega), if_pos h7]
    rw [hH2] at hh ⊢
    have hb7 : (k == 7) = true := by rw [h7]; rfl
    refine acalls_fit Tryz.func42 (by kernel_rfl) c42 rfl (by simp [a42]) fun hf => ?_
    clear hf
    simp -implicitDefEqProofs (maxSteps := 2000000) (disch := omega) [-getElem?_pos, a42, hb3, hb4, hb6, hb7]
    refine (kcl _).then fun x hx => ?_
    subst hx
    simp -implicitDefEqProofs (maxSteps := 2000000) (disch := omega) [-getElem?_pos, hb3, hb4, hb6, hb7]
    refine (ko _ _ _ s _ _ ok (by omega)).mono fun x σ' hx => ?_
    obtain ⟨rfl, a1, tk1, rfl, hst1⟩ := hx
    simp -implicitDefEqProofs (maxSteps := 2000000) (disch := omega) [-getElem?_pos, encFr]
    refine (ko _ _ _ t _ _ hst1.ok (by simp [bindR]; omega)).mono fun x σ' hx => ?_
    obtain ⟨rfl, a2, tk2, rfl, hst2⟩ := hx
    simp -implicitDefEqProofs (maxSteps := 2000000) (disch := omega) [-getElem?_pos, encFr]
    exact hgo ⟨asR r, asR (bindR s r), [], (s, asR r), (t, asR (bindR s r)), [], bindR t (bindR s r)⟩ a2 b tk2 (.v .snil) (.v .snil) _ [] hh.1 hh.2 (.inl ⟨rfl, rfl⟩) (.inl ⟨rfl, rfl⟩) (hst1.trans hst2) (.eq2 (by simp [outOb, zOb, frOb, zF, obE_mk]; done) (by simp))
  have hb7 : (k == 7) = false := beq_false_of_ne h7
  by_cases h14 : k = 14
  · have hb14 : (k == 14) = true := by rw [h14]; rfl
    refine acalls_fit Tryz.func42 (by kernel_rfl) c42 rfl (by simp [a42]) fun hf => ?_
    clear hf
    simp -implicitDefEqProofs (maxSteps := 2000000) (disch := omega) [-getElem?_pos, a42, hb3, hb4, hb6, hb7, hb14]
    refine (kcl _).then fun x hx => ?_
    subst hx
    simp -implicitDefEqProofs (maxSteps := 2000000) (disch := omega) [-getElem?_pos, hb3, hb4, hb6, hb7, hb14]
    refine W_loop (α := NmS) ⟨0, a, tk, .v .snil, .v .snil, []⟩ (fun x => ns.length - x.i) (fun x => ⟨[(2, .v (.sl (some 2) f (env.map encFr))), (3, .ptr os.length 0), (4, .ptr (os.length + 1) 0), (6, .ptr (os.length + 2) 0), (7, .ptr (os.length + 3) 0), (8, .fn 67 [.ptr os.length 0]), (9, .ptr (os.length + 4) 0), (10, .ptr (os.length + 5) 0), (11, x.df), (83, .v (.sl none false (ns.map .str))), (84, .v (.int .i64 ns.length)), (85, .v (.int .i64 x.i))],
        ⟨os.set p (renOb x.a b (namesR (ns.take x.i) r).2) ++ (.cells [.ptr p 0] :: obE (.mk k q n s t ls ns l) :: zOb :: outOb k q n s t ls x.dn (.v .snil) :: frOb zF :: frOb zF :: x.G), x.tk⟩⟩) (fun x => NmI ns tk a b r x)
      (.eq2 (by simp [outOb, zOb, frOb, zF, obE_mk, namesR]; done) (by simp)) ⟨Nat.zero_le _, by simp only [List.take_zero, namesR]; exact RStep.refl ok, .inl ⟨rfl, rfl, rfl⟩⟩ fun ⟨i, a', tk', df, dn, G⟩ ⟨hi, hrs, hd⟩ => ?_
    dsimp only at hi hrs hd ⊢
    have hnl := namesR_len (ns.take i) r
    rw [List.length_take, Nat.min_eq_left hi] at hnl
    simp -implicitDefEqProofs (maxSteps := 2000000) (disch := omega) [-getElem?_pos]
    refine .mk (fun hlt => ?_) fun hlt => ?_
    · obtain ⟨x, hx⟩ : ∃ x, ns[i]? = some x := ⟨_, List.getElem?_eq_getElem (by omega)⟩
      have hnext : namesR (ns.take (i + 1)) r = ((namesR (ns.take i) r).1 ++ [(x, asR (namesR (ns.take i) r).2)], bindR x (namesR (ns.take i) r).2) := by rw [take_succ_get hx, namesR_snoc]
      simp -implicitDefEqProofs (maxSteps := 2000000) (disch := omega) [-getElem?_pos, hx, obE_mk]
      refine ⟨by omega, ?_⟩
      refine (ko _ _ _ x _ _ hrs.ok (by omega)).mono fun y σ' hy => ?_
      obtain ⟨rfl, a2, tk2, rfl, hst⟩ := hy
      generalize hNX : namesR (ns.take i) r = NX at *
      rcases hd with ⟨h0, rfl, rfl⟩ | ⟨TF, TN, rfl, rfl, hne, hTF, hTN, hf1, hf2, hf3, hf4, hf5, hf6⟩
      · simp -implicitDefEqProofs (maxSteps := 2000000) (disch := omega) [-getElem?_pos, encFr, outOb]
        have hn0 : NX.1 = [] := List.length_eq_zero_iff.1 (by omega)
        have hl2 := (hst.more 1).lt
        rw [List.length_append, List.length_singleton] at hl2
        refine ⟨⟨i + 1, a2, tk2 ++ [1, 1], .tsl tk2.length (some 2) [.agg [.str x, .str (asR NX.2)]], .tsl (tk2.length + 1) none [.str (asR NX.2)], _⟩, ⟨by dsimp only; omega, ?_, .inr ⟨tk2.length, tk2.length + 1, ?_⟩⟩, by dsimp only; omega, .eq2 (by simp [hnext, outOb, zOb, frOb, zF, obE_mk]; rfl) (by simp)⟩
        · have := ((hrs.trans hst).more 1).more 1
          rw [List.append_assoc] at this
          dsimp only
          rw [hnext]
          exact this
        · dsimp only
          rw [hnext, hn0]
          refine ⟨rfl, rfl, by omega, by rw [h0]; simp, by rw [h0]; simp, hst.lt.1, hl2.1, hst.lt.2, hl2.2, Nat.le_trans hrs.len hst.len, Nat.le_succ_of_le (Nat.le_trans hrs.len hst.len)⟩
      · obtain ⟨q1, q2, q3⟩ := hst.fresh hTF hf1 hf3
        obtain ⟨q4, q5, q6⟩ := hst.fresh hTN hf2 hf4
        have l1 := (List.getElem?_eq_some_iff.1 q1).1
        have l2 := (List.getElem?_eq_some_iff.1 q4).1
        simp -implicitDefEqProofs (maxSteps := 2000000) (disch := omega) [-getElem?_pos, encFr, outOb, q1, q4, hne]
        refine ⟨by omega, by omega, by omega, by omega, ⟨i + 1, a2, (tk2.set TF (NX.1.length + 1)).set TN (NX.1.length + 1), .tsl TF (some 2) (NX.1.map encFr ++ [.agg [.str x, .str (asR NX.2)]]), .tsl TN none (NX.1.map (V.str ∘ fun x => x.2) ++ [.str (asR NX.2)]), _⟩, ⟨by dsimp only; omega, ?_, .inr ⟨TF, TN, ?_⟩⟩, by dsimp only; omega, .eq2 (by simp [hnext, outOb, zOb, frOb, zF, obE_mk]; rfl) (by simp)⟩
        · dsimp only
          rw [hnext]
          exact ((hrs.trans hst).put _ hf5 q2 q3).put _ hf6 q5 q6
        · dsimp only
          rw [hnext]
          have hi2 : i = NX.1.length := by omega
          refine ⟨by simp [encFr], by simp, hne, ?_, ?_, q2, q5, q3, q6, hf5, hf6⟩
          · rw [List.getElem?_set_ne (fun e => hne e.symm), List.getElem?_set_self l1, hi2]
          · rw [List.getElem?_set_self (by simpa using l2), hi2]
    · obtain rfl : i = ns.length := by omega
      rw [List.take_length] at hrs hd hnl
      have hLD : LD (some 2) ((namesR ns r).1.map encFr) df ∧ LD none (((namesR ns r).1.map (·.2)).map .str) dn := by
        rcases hd with ⟨h0, rfl, rfl⟩ | ⟨TF, TN, rfl, rfl, _⟩
        · have hn0 : (namesR ns r).1 = [] := List.length_eq_zero_iff.1 (by omega)
          rw [hn0]
          exact ⟨.inl ⟨rfl, rfl⟩, .inl ⟨rfl, rfl⟩⟩
        · exact ⟨.inr ⟨_, rfl⟩, .inr ⟨_, rfl⟩⟩
      clear hd
      by_cases ht : t = []
      · have hH2 : headN k q s t ns env r = ⟨s, t, (namesR ns r).1.map (·.2), zF, zF, (namesR ns r).1, (namesR ns r).2⟩ := by unfold headN; rw [if_neg h3, if_neg (by omega), if_neg h7, if_pos h14, if_pos ht]
        rw [hH2] at hh ⊢
        subst ht
        simp -implicitDefEqProofs (maxSteps := 2000000) (disch := omega) [-getElem?_pos, obE_mk]
        have hg2 := fun st => hgo ⟨s, [], (namesR ns r).1.map (·.2), zF, zF, (namesR ns r).1, (namesR ns r).2⟩ a' b tk' df dn st G hh.1 hh.2 hLD.1 hLD.2 hrs
        clear hgo
        dsimp only at hg2
        refine hg2 _ ?_
        exact .eq2 (by simp [outOb, zOb, frOb, zF, obE_mk]; done) (by simp)
      · have hH2 : headN k q s t ns env r = ⟨s, asR (namesR ns r).2, (namesR ns r).1.map (·.2), zF, (t, asR (namesR ns r).2), (namesR ns r).1, bindR t (namesR ns r).2⟩ := by unfold headN; rw [if_neg h3, if_neg (by omega), if_neg h7, if_pos h14, if_neg ht]
        rw [hH2] at hh ⊢
        simp -implicitDefEqProofs (maxSteps := 2000000) (disch := omega) [-getElem?_pos, obE_mk, ht]
        refine (ko _ _ _ t _ _ hrs.ok (by omega)).mono fun y σ' hy => ?_
        obtain ⟨rfl, a2, tk2, rfl, hst⟩ := hy
        simp -implicitDefEqProofs (maxSteps := 2000000) (disch := omega) [-getElem?_pos, encFr, outOb, zOb, frOb]
        have hg2 := fun st => hgo ⟨s, asR (namesR ns r).2, (namesR ns r).1.map (·.2), zF, (t, asR (namesR ns r).2), (namesR ns r).1, bindR t (namesR ns r).2⟩ a2 b tk2 df dn st G hh.1 hh.2 hLD.1 hLD.2 (hrs.trans hst)
        clear hgo
        dsimp only at hg2
        refine hg2 _ ?_
        exact .eq2 (by simp [outOb, zOb, frOb, zF, obE_mk]; done) (by simp)
  have hb14 : (k == 14) = false := beq_false_of_ne h14
  have hH2 : headN k q s t ns env r = ⟨s, t, [], zF, zF, [], r⟩ := by unfold headN; rw [if_neg h3, if_neg (by omega), if_neg h7, if_neg h14]
  rw [hH2] at hh ⊢
  refine acalls_fit Tryz.func42 (by kernel_rfl) c42 rfl (by simp [a42]) fun hf => ?_
  clear hf
  simp -implicitDefEqProofs (maxSteps := 2000000) (disch := omega) [-getElem?_pos, a42, hb3, hb4, hb6, hb7, hb14]
  refine (kcl _).then fun x hx => ?_
  subst hx
  simp -implicitDefEqProofs (maxSteps := 2000000) (disch := omega) [-getElem?_pos, hb3, hb4, hb6, hb7, hb14]
  exact hgo ⟨s, t, [], zF, zF, [], r⟩ a b tk (.v .snil) (.v .snil) _ [] hh.1 hh.2 (.inl ⟨rfl, rfl⟩) (.inl ⟨rfl, rfl⟩) (RStep.refl ok) (.eq2 (by simp [outOb, zOb, frOb, zF, obE_mk]; done) (by simp))
def a7 : AFun := ⟨89,[.tmp 4],(.seq (.reg [2,4] [⟨some 2,none,.box (.t 0)⟩,⟨some 4,none,.mv (.c (.bool false))⟩]) (.seq (.reg [5] [⟨some 17,none,.call (.c (.fn 28)) []⟩,⟨some 5,none,.mv (.t 17)⟩]) (.seq (.reg [6] [⟨some 18,none,.load (some 8) (.t 2)⟩,⟨some 19,none,.call (.c (.fn 9)) [.t 18]⟩,⟨some 6,none,.mv (.t 19)⟩]) (.seq (.seq (.reg [26] [⟨some 20,none,.mv (.t 6)⟩,⟨some 21,none,.un .not (.t 20)⟩,⟨some 22,none,.mv (.t 21)⟩,⟨some 23,some (22,false),.mv (.t 1)⟩,⟨some 24,some (22,false),.len .sl (.t 23)⟩,⟨some 25,some (22,false),.bin .gtr .other true (.t 24) (.c (.int .i64 4000))⟩,⟨some 26,none,.pick (.t 22) (.c (.bool true)) (.t 25)⟩]) (.cond (.t 26) (.seq (.reg [4] [⟨some 27,none,.mv (.t 5)⟩,⟨some 4,none,.mv (.t 27)⟩]) .ret) .skip)) (.seq (.reg [7,8] [⟨some 29,none,.load (some 8) (.t 2)⟩,⟨some 30,none,.call (.c (.fn 10)) [.t 29]⟩,⟨some 28,none,.mv (.t 30)⟩,⟨some 31,none,.extract (.t 28) 0⟩,⟨some 32,none,.extract (.t 28) 1⟩,⟨some 7,none,.mv (.t 31)⟩,⟨some 8,none,.mv (.t 32)⟩]) (.seq (.seq (.reg [39] [⟨some 33,none,.mv (.t 8)⟩,⟨some 34,none,.bin .eql .ifc true (.t 33) (.c .inil)⟩,⟨some 35,none,.mv (.t 34)⟩,⟨some 36,some (35,true),.mv (.t 7)⟩,⟨some 37,some (35,true),.len .str (.t 36)⟩,⟨some 38,some (35,true),.bin .leq .other true (.t 37) (.c (.int .i64 4000))⟩,⟨some 39,none,.pick (.t 35) (.t 38) (.c (.bool false))⟩]) (.cond (.t 39) (.seq (.reg [9,10] [⟨some 41,none,.mv (.t 7)⟩,⟨some 42,none,.conv .toBytes (.t 41)⟩,⟨some 43,none,.call (.c (.fn 29)) [.t 42]⟩,⟨some 40,none,.mv (.t 43)⟩,⟨some 44,none,.extract (.t 40) 0⟩,⟨some 45,none,.extract (.t 40) 1⟩,⟨some 9,none,.alloc [.int .i64 0,.int .i64 0,.int .i64 0,.str [],.str [],.snil,.snil,.snil]⟩,⟨none,none,.store 8 (.t 9) (.t 44)⟩,⟨some 10,none,.mv (.t 45)⟩]) (.seq (.reg [53] [⟨some 46,none,.mv (.t 10)⟩,⟨some 47,none,.bin .neq .ifc true (.t 46) (.c .inil)⟩,⟨some 48,none,.mv (.t 47)⟩,⟨some 49,some (48,false),.load (some 8) (.t 2)⟩,⟨some 50,some (48,false),.load (some 8) (.t 9)⟩,⟨some 51,some (48,false),.call (.c (.fn 19)) [.t 49,.t 50]⟩,⟨some 52,some (48,false),.un .not (.t 51)⟩,⟨some 53,none,.pick (.t 48) (.c (.bool true)) (.t 52)⟩]) (.cond (.t 53) (.seq (.reg [4] [⟨some 4,none,.mv (.c (.bool false))⟩]) .ret) .skip))) .skip)) (.seq (.reg [11,12] [⟨some 55,none,.mv (.t 1)⟩,⟨some 56,none,.call (.c (.fn 29)) [.t 55]⟩,⟨some 54,none,.mv (.t 56)⟩,⟨some 57,none,.extract (.t 54) 0⟩,⟨some 58,none,.extract (.t 54) 1⟩,⟨some 11,none,.alloc [.int .i64 0,.int .i64 0,.int .i64 0,.str [],.str [],.snil,.snil,.snil]⟩,⟨none,none,.store 8 (.t 11) (.t 57)⟩,⟨some 12,none,.mv (.t 58)⟩]) (.seq (.seq (.reg [60] [⟨some 59,none,.mv (.t 12)⟩,⟨some 60,none,.bin .neq .ifc true (.t 59) (.c .inil)⟩]) (.cond (.t 60) (.seq (.reg [4] [⟨some 61,none,.mv (.t 5)⟩,⟨some 4,none,.mv (.t 61)⟩]) .ret) .skip)) (.seq (.reg [13,14] [⟨some 63,none,.load (some 8) (.t 11)⟩,⟨some 64,none,.call (.c (.fn 10)) [.t 63]⟩,⟨some 62,none,.mv (.t 64)⟩,⟨some 65,none,.extract (.t 62) 0⟩,⟨some 66,none,.extract (.t 62) 1⟩,⟨some 13,none,.mv (.t 65)⟩,⟨some 14,none,.mv (.t 66)⟩]) (.seq (.seq (.reg [68] [⟨some 67,none,.mv (.t 14)⟩,⟨some 68,none,.bin .neq .ifc true (.t 67) (.c .inil)⟩]) (.cond (.t 68) (.seq (.reg [4] [⟨some 4,none,.mv (.c (.bool false))⟩]) .ret) .skip)) (.seq (.seq (.reg [71] [⟨some 69,none,.mv (.t 13)⟩,⟨some 70,none,.len .str (.t 69)⟩,⟨some 71,none,.bin .gtr .other true (.t 70) (.c (.int .i64 4000))⟩]) (.cond (.t 71) (.seq (.reg [4] [⟨some 72,none,.mv (.t 5)⟩,⟨some 4,none,.mv (.t 72)⟩]) .ret) .skip)) (.seq (.reg [15,16] [⟨some 74,none,.mv (.t 13)⟩,⟨some 75,none,.conv .toBytes (.t 74)⟩,⟨some 76,none,.call (.c (.fn 29)) [.t 75]⟩,⟨some 73,none,.mv (.t 76)⟩,⟨some 77,none,.extract (.t 73) 0⟩,⟨some 78,none,.extract (.t 73) 1⟩,⟨some 15,none,.alloc [.int .i64 0,.int .i64 0,.int .i64 0,.str [],.str [],.snil,.snil,.snil]⟩,⟨none,none,.store 8 (.t 15) (.t 77)⟩,⟨some 16,none,.mv (.t 78)⟩]) (.seq (.reg [4] [⟨some 79,none,.mv (.t 5)⟩,⟨some 80,none,.mv (.t 79)⟩,⟨some 81,some (80,true),.mv (.t 16)⟩,⟨some 82,some (80,true),.bin .eql .ifc true (.t 81) (.c .inil)⟩,⟨some 83,none,.pick (.t 80) (.t 82) (.c (.bool false))⟩,⟨some 84,none,.mv (.t 83)⟩,⟨some 85,some (84,true),.load (some 8) (.t 11)⟩,⟨some 86,some (84,true),.load (some 8) (.t 15)⟩,⟨some 87,some (84,true),.call (.c (.fn 19)) [.t 85,.t 86]⟩,⟨some 88,none,.pick (.t 84) (.t 87) (.c (.bool false))⟩,⟨some 4,none,.mv (.t 88)⟩]) .ret)))))))))))))⟩
theorem c7 : compF Tryz.prog [0, 1, 2, 4, 5, 6, 7, 8, 9, 10, 11, 12, 13, 14, 15, 16, 26, 39, 53, 60, 68, 71] Tryz.f7 = some a7 := by kernel_rfl
def a15 : AFun := ⟨18,[.tmp 2,.tmp 3],(.seq (.reg [2,3] [⟨some 2,none,.mv (.c (.int .i64 0))⟩,⟨some 3,none,.mv (.c (.int .i64 0))⟩]) (.seq (.reg [4] [⟨some 4,none,.alloc [.pnil]⟩]) (.seq (.seq (.reg [7] [⟨some 5,none,.mv (.t 0)⟩,⟨some 6,none,.mkif 58 (.t 4)⟩,⟨some 7,none,.call (.c (.fn 40)) [.t 5,.t 6]⟩]) (.cond (.t 7) (.seq (.any [2,3] [(⟨some 8,none,.load none (.t 4)⟩,true),(⟨some 9,none,.nilck (.t 8)⟩,true),(⟨some 10,none,.faddr 1 (.t 9)⟩,true),(⟨some 11,none,.load none (.t 10)⟩,true),(⟨some 12,none,.load none (.t 4)⟩,false),(⟨some 13,none,.nilck (.t 12)⟩,false),(⟨some 14,none,.faddr 0 (.t 13)⟩,false),(⟨some 15,none,.load none (.t 14)⟩,false),(⟨some 2,none,.mv (.t 11)⟩,false),(⟨some 3,none,.mv (.t 15)⟩,true)]) .ret) .skip)) (.seq (.reg [2,3] [⟨some 16,none,.mv (.t 0)⟩,⟨some 17,none,.call (.c (.fn 41)) [.t 16]⟩,⟨some 2,none,.mv (.t 17)⟩,⟨some 3,none,.mv (.c (.int .i64 (-1)))⟩]) .ret))))⟩
theorem c15 : compF Tryz.prog [0, 2, 3, 4, 7] Tryz.f15 = some a15 := by kernel_rfl
end Go.Proofs.YtpdeaekmgljeaaaGreatDoor
namespace Go.Proofs.YtpdeaekmgljeaaaGreatDoor
open Go.RowKit Go.Extern.Stop Go.Stop Go.Extern
theorem As.valueOf27 (t : Addr) (w : World) : (ReflectliteValue.unpack (.iface 58 (.pointer (some t)))).run Tryz.prog w
    = .ok (.agg #[.pointer (some ⟨7, 58, none⟩), .pointer (some ⟨w.heap.size, 0, none⟩), .int .u64 150]) (w.alloc (.cells #[.pointer (some t)] 58)) := by kernel_rfl
theorem As.type27 (a : Addr) (w : World) : (ReflectliteValue.methodAny (ReflectliteValue.valueError "reflectlite.Value.Type" 0) (fun t _ _ _ => ReflectliteType.toType t) #[.agg #[.pointer (some ⟨7, 58, none⟩), .pointer (some a), .int .u64 150]]).run Tryz.prog w
    = .ok (.iface 143 (.agg #[.pointer (some ⟨7, 58, none⟩)])) w := by kernel_rfl
theorem As.methodKind (h : Value) (w : World) : (Go.method 376 143 (.agg #[h]) "Kind").run Tryz.prog w = .ok (226, h) w := by kernel_rfl
theorem As.kind27 (w : World) : ((ReflectliteType.abiMethod fun t => (fun a : Nat => Value.int IntKind.u8 (a : Int)) <$> Rtype.kind t) #[.pointer (some ⟨7, 58, none⟩)]).run Tryz.prog w = .ok (.int .u8 22) w := by kernel_rfl
theorem As.kind25 (w : World) : ((ReflectliteType.abiMethod fun t => (fun a : Nat => Value.int IntKind.u8 (a : Int)) <$> Rtype.kind t) #[.pointer (some ⟨7, 56, none⟩)]).run Tryz.prog w = .ok (.int .u8 22) w := by kernel_rfl
theorem rlm (z : Sem Value) (f : TypeId → Addr → Nat → Nat → Sem Value) (v : Value) :
    ReflectliteValue.method z f #[v] = (do match ← ReflectliteValue.parts v with | none => z | some (t, a, fl) => f t a fl (fl % 32)) := rfl
theorem As.parts27 (a : Addr) (w : World) : (ReflectliteValue.parts (.agg #[.pointer (some ⟨7, 58, none⟩), .pointer (some a), .int .u64 150])).run Tryz.prog w = .ok (some (58, a, 150)) w := by kernel_rfl
theorem As.isNil27 (a p : Addr) (W : World) (ha : W.cell? a = some (.pointer (some p))) :
    (ReflectliteValue.method (ReflectliteValue.valueError "reflectlite.Value.IsNil" 0) ReflectliteValue.isNil #[.agg #[.pointer (some ⟨7, 58, none⟩), .pointer (some a), .int .u64 150]]).run Tryz.prog W = .ok (.bool false) W := by
  rw [rlm]
  simp only [Sem.run_bind, As.parts27, Result.andThen]
  simp [ReflectliteValue.isNil, loadVar, isAgg, underlying, Tryz.underlying58, ha, Result.andThen]
theorem As.methodElem (h : Value) (w : World) : (Go.method 376 143 (.agg #[h]) "Elem").run Tryz.prog w = .ok (239, .agg #[h]) w := by kernel_rfl
theorem As.methodImplements (h : Value) (w : World) : (Go.method 376 143 (.agg #[h]) "Implements").run Tryz.prog w = .ok (240, .agg #[h]) w := by kernel_rfl
theorem As.methodAssignableTo (h : Value) (w : World) : (Go.method 376 143 (.agg #[h]) "AssignableTo").run Tryz.prog w = .ok (237, .agg #[h]) w := by kernel_rfl
theorem As.elem27 (w : World) : (ReflectliteType.method ReflectliteType.elem #[.agg #[.pointer (some ⟨7, 58, none⟩)]]).run Tryz.prog w = .ok (.iface 143 (.agg #[.pointer (some ⟨7, 56, none⟩)])) w := by kernel_rfl
theorem As.implements25 (w : World) : (ReflectliteType.relation "Implements" ReflectliteType.implements_ #[.agg #[.pointer (some ⟨7, 56, none⟩)], .iface 143 (.agg #[.pointer (some ⟨7, 29, none⟩)])]).run Tryz.prog w = .ok (.bool true) w := by kernel_rfl
theorem As.typeOf25 (v : Value) (w : World) : (ReflectliteType.typeOf #[.iface 56 v]).run Tryz.prog w = .ok (.iface 143 (.agg #[.pointer (some ⟨7, 56, none⟩)])) w := by kernel_rfl
theorem As.assignable25 (w : World) : (ReflectliteType.relation "AssignableTo" ReflectliteType.assignableTo #[.agg #[.pointer (some ⟨7, 56, none⟩)], .iface 143 (.agg #[.pointer (some ⟨7, 56, none⟩)])]).run Tryz.prog w = .ok (.bool true) w := by kernel_rfl
theorem As.valueOf25 (e : Addr) (w : World) : (ReflectliteValue.unpack (.iface 56 (.pointer (some e)))).run Tryz.prog w
    = .ok (.agg #[.pointer (some ⟨7, 56, none⟩), .pointer (some ⟨w.heap.size, 0, none⟩), .int .u64 150]) (w.alloc (.cells #[.pointer (some e)] 56)) := by kernel_rfl
theorem As.elemOf27 (w : World) : (Rtype.elem? 58).run Tryz.prog w = .ok (some 56) w := by kernel_rfl
theorem As.mk25 (p : Addr) (w : World) : (ReflectliteValue.mk 56 p ReflectliteValue.flagAddr).run Tryz.prog w = .ok (.agg #[.pointer (some ⟨7, 56, none⟩), .pointer (some p), .int .u64 406]) w := by kernel_rfl
theorem As.elemV27 (a p : Addr) (W : World) (ha : W.cell? a = some (.pointer (some p))) :
    (ReflectliteValue.method (ReflectliteValue.valueError "reflectlite.Value.Elem" 0) ReflectliteValue.elem #[.agg #[.pointer (some ⟨7, 58, none⟩), .pointer (some a), .int .u64 150]]).run Tryz.prog W
      = .ok (.agg #[.pointer (some ⟨7, 56, none⟩), .pointer (some p), .int .u64 406]) W := by
  rw [rlm]
  simp only [Sem.run_bind, As.parts27, Result.andThen]
  simp [ReflectliteValue.elem, loadVar, isAgg, underlying, Tryz.underlying58, ha, Result.andThen, As.elemOf27, As.mk25]
theorem rls (v x : Value) : ReflectliteValue.set #[v, x] = (do
    let (some (dst, a, fl), some (src, b, _)) := (← ReflectliteValue.parts v, ← ReflectliteValue.parts x)
      | unsupported (.noEntry "extern/(internal/reflectlite.Value).Set.zeroValue")
    if fl / ReflectliteValue.flagAddr % 2 == 0 then unsupported (.noEntry "extern/(internal/reflectlite.Value).Set.unaddressable")
    let val ← loadVar src b
    if ← Rtype.directlyAssignable dst src then storeVar dst a val
    else if ← Rtype.implements dst src then
      if (← Rtype.kind src) == 20 then
        match val with
        | .nilIface => unsupported (.noEntry "extern/reflectlite: a nil value of one interface type handed on as a value of another")
        | _ => storeVar dst a val
      else storeVar dst a (.iface src val)
    else panicString ("reflectlite.Set: value of type " ++ (← Rtype.spelt src) ++ " is not assignable to type " ++ (← Rtype.spelt dst))
    pure (.tuple #[])) := rfl
theorem As.parts25a (a : Addr) (w : World) : (ReflectliteValue.parts (.agg #[.pointer (some ⟨7, 56, none⟩), .pointer (some a), .int .u64 406])).run Tryz.prog w = .ok (some (56, a, 406)) w := by kernel_rfl
theorem As.parts25 (a : Addr) (w : World) : (ReflectliteValue.parts (.agg #[.pointer (some ⟨7, 56, none⟩), .pointer (some a), .int .u64 150])).run Tryz.prog w = .ok (some (56, a, 150)) w := by kernel_rfl
theorem As.direct25 (w : World) : (Rtype.directlyAssignable 56 56).run Tryz.prog w = .ok true w := by kernel_rfl
theorem As.set25 (ta b e : Addr) (old : Value) (W : World) (hb : W.cell? b = some (.pointer (some e))) (ht : W.cell? ta = some old) (hf : W.frozen? ta = false) :
    (ReflectliteValue.set #[.agg #[.pointer (some ⟨7, 56, none⟩), .pointer (some ta), .int .u64 406], .agg #[.pointer (some ⟨7, 56, none⟩), .pointer (some b), .int .u64 150]]).run Tryz.prog W
      = .ok (.tuple #[]) (W.setCell ta (.pointer (some e))) := by
  rw [rls]
  simp only [Sem.run_bind, As.parts25a, As.parts25, Result.andThen]
  simp [ReflectliteValue.flagAddr, loadVar, isAgg, underlying, Tryz.underlying56, hb, Result.andThen, As.direct25, storeVar, Value.cells, storeCells, Addr.add]
  rw [run_store Tryz.prog W ta _ _ (by rfl)]
  simp [ht, hf]
set_option maxHeartbeats 4000000 in
theorem as_hit (e t : Addr) (old : Value) (w : World) (hg : w.cell? ⟨0, 0, none⟩ = some (.iface 143 (.agg #[.pointer (some ⟨7, 29, none⟩)]))) (ht0 : w.cell? t = some old) (hf0 : w.frozen? t = false) :
    Calls Tryz.prog 40 #[.iface 56 (.pointer (some e)), .iface 58 (.pointer (some t))] w fun ev w' => ev = .returned (.bool true) ∧ w' = ((((w.alloc (.cells #[.pointer (some t)] 58)).alloc (.cells #[.pointer (some ⟨7, 58, none⟩), .pointer (some ⟨w.heap.size, 0, none⟩), .int .u64 150] 93)).alloc (.cells #[.pointer (some ⟨7, 58, none⟩), .pointer (some ⟨w.heap.size, 0, none⟩), .int .u64 150] 93)).alloc (.cells #[.pointer (some e)] 56)).setCell t (.pointer (some e)) := by
  have h6 := @run_callFunc_extern Tryz.prog 62 _ (fun args => ReflectliteValue.unpack (args.getD 0 (.tuple #[]))) Tryz.func62 (by kernel_rfl) (by kernel_rfl) (by kernel_rfl) (by kernel_rfl)
  have h7 := @run_callFunc_extern Tryz.prog 63 _ (ReflectliteValue.methodAny (ReflectliteValue.valueError "reflectlite.Value.Type" 0) (fun t _ _ _ => ReflectliteType.toType t)) Tryz.func63 (by kernel_rfl) (by kernel_rfl) (by kernel_rfl) (by kernel_rfl)
  have h8 := @run_callFunc_extern Tryz.prog 64 _ (ReflectliteValue.method (ReflectliteValue.valueError "reflectlite.Value.IsNil" 0) ReflectliteValue.isNil) Tryz.func64 (by kernel_rfl) (by kernel_rfl) (by kernel_rfl) (by kernel_rfl)
  have h27 := @run_callFunc_extern Tryz.prog 226 _ (ReflectliteType.abiMethod fun t => do pure (.int .u8 (← Rtype.kind t))) Tryz.func226 (by kernel_rfl) (by kernel_rfl) (by kernel_rfl) (by kernel_rfl)
  have h37 := @run_callFunc_extern Tryz.prog 239 _ (ReflectliteType.method ReflectliteType.elem) Tryz.func239 (by kernel_rfl) (by kernel_rfl) (by kernel_rfl) (by kernel_rfl)
  have h38 := @run_callFunc_extern Tryz.prog 240 _ (ReflectliteType.relation "Implements" ReflectliteType.implements_) Tryz.func240 (by kernel_rfl) (by kernel_rfl) (by kernel_rfl) (by kernel_rfl)
  have h10 := @run_callFunc_extern Tryz.prog 101 _ ReflectliteType.typeOf Tryz.func101 (by kernel_rfl) (by kernel_rfl) (by kernel_rfl) (by kernel_rfl)
  have h35 := @run_callFunc_extern Tryz.prog 237 _ (ReflectliteType.relation "AssignableTo" ReflectliteType.assignableTo) Tryz.func237 (by kernel_rfl) (by kernel_rfl) (by kernel_rfl) (by kernel_rfl)
  have h11 := @run_callFunc_extern Tryz.prog 102 _ (ReflectliteValue.method (ReflectliteValue.valueError "reflectlite.Value.Elem" 0) ReflectliteValue.elem) Tryz.func102 (by kernel_rfl) (by kernel_rfl) (by kernel_rfl) (by kernel_rfl)
  have h12 := @run_callFunc_extern Tryz.prog 103 _ ReflectliteValue.set Tryz.func103 (by kernel_rfl) (by kernel_rfl) (by kernel_rfl) (by kernel_rfl)
  have tO := As.typeOf25
  have mA := As.methodAssignableTo
  have a25 := As.assignable25
  have v25 := As.valueOf25
  have f6 := As.valueOf27
  have f7 := As.type27
  have mK := As.methodKind
  have mE := As.methodElem
  have mI := As.methodImplements
  have k27 := As.kind27
  have k25 := As.kind25
  have e27 := As.elem27
  have i25 := As.implements25
  have n8 := As.isNil27 ⟨w.heap.size, 0, none⟩ t ((w.alloc (.cells #[.pointer (some t)] 58)).alloc (.cells #[.pointer (some ⟨7, 58, none⟩), .pointer (some ⟨w.heap.size, 0, none⟩), .int .u64 150] 93)) (by simp)
  have hlt : 0 < w.heap.size := by
    rcases Nat.eq_zero_or_pos w.heap.size with h0 | h
    · simp [World.cell?, h0] at hg
    · exact h
  have hg2 : ((w.alloc (.cells #[.pointer (some t)] 58)).alloc (.cells #[.pointer (some ⟨7, 58, none⟩), .pointer (some ⟨w.heap.size, 0, none⟩), .int .u64 150] 93)).cell? ⟨0, 0, none⟩ = some (.iface 143 (.agg #[.pointer (some ⟨7, 29, none⟩)])) := by
    rw [World.cell?_alloc_lt _ _ ⟨0, 0, none⟩ (by simp), World.cell?_alloc_lt _ _ ⟨0, 0, none⟩ hlt]; exact hg
  have htl : t.block < w.heap.size := by
    rcases Nat.lt_or_ge t.block w.heap.size with h | h
    · exact h
    · simp [World.cell?, Array.getElem?_eq_none h] at ht0
  have el := As.elemV27 ⟨w.heap.size, 0, none⟩ t (((w.alloc (.cells #[.pointer (some t)] 58)).alloc (.cells #[.pointer (some ⟨7, 58, none⟩), .pointer (some ⟨w.heap.size, 0, none⟩), .int .u64 150] 93)).alloc (.cells #[.pointer (some ⟨7, 58, none⟩), .pointer (some ⟨w.heap.size, 0, none⟩), .int .u64 150] 93)) (by rw [World.cell?_alloc_lt _ _ ⟨w.heap.size, 0, none⟩ (by simp; omega)]; simp)
  have st := As.set25 t ⟨w.heap.size + 1 + 1 + 1, 0, none⟩ e old ((((w.alloc (.cells #[.pointer (some t)] 58)).alloc (.cells #[.pointer (some ⟨7, 58, none⟩), .pointer (some ⟨w.heap.size, 0, none⟩), .int .u64 150] 93)).alloc (.cells #[.pointer (some ⟨7, 58, none⟩), .pointer (some ⟨w.heap.size, 0, none⟩), .int .u64 150] 93)).alloc (.cells #[.pointer (some e)] 56))
    (by rw [World.cell?_alloc_at _ _ _ _ (by simp)]; rfl)
    (by rw [World.cell?_alloc_lt _ _ t (by simp; omega), World.cell?_alloc_lt _ _ t (by simp; omega), World.cell?_alloc_lt _ _ t (by simp; omega), World.cell?_alloc_lt _ _ t htl]; exact ht0)
    (by rw [World.frozen?_alloc_old _ _ t (by simp; omega), World.frozen?_alloc_old _ _ t (by simp; omega), World.frozen?_alloc_old _ _ t (by simp; omega), World.frozen?_alloc_old _ _ t (Nat.ne_of_lt htl)]; exact hf0)
  go_enter Tryz.func40, Tryz.ntmps40
  go_wp2
  refine wp_loop_rounds 1 ?_
  rw [rounds_succ]
  go_wp2
  go_ret
  exact ⟨rfl, rfl⟩
end Go.Proofs.YtpdeaekmgljeaaaGreatDoor
namespace Go.Proofs.YtpdeaekmgljeaaaGreatDoor
open Go Go.Abs Go.RowKit
def immS (q k : Int) : D := .imm (some 2) (.agg [.int .i64 q, .int .i64 k]) 0
theorem k_AsHitI {q k : Int} {c : Nat} {σ : Sg} (hc : σ.objs[c]? = some (.cells [.v .pnil])) : ACalls Tryz.prog 40 [.iface 56 (immS q k), .iface 58 (.ptr c 0)] σ fun r σ' => r = .v (.bool true) ∧ σ' = ⟨σ.objs.set c (.cells [immS q k]), σ.toks⟩ := by
  refine ⟨⟨_, Tryz.func40, by kernel_rfl, by kernel_rfl⟩, fun m w us hI hlen hr => ?_⟩
  match us, hlen with
  | [u1, u2], _ =>
  have g1 := hr 0 _ _ rfl rfl
  have g2 := hr 1 _ _ rfl rfl
  cases g1 with
  | iface _ _ u1 g1 =>
  cases g2 with
  | iface _ _ u2 g2 =>
  have g0 := g1
  unfold immS at g1
  cases g1 with
  | imm _ _ _ bo io fo e1 e2 e3 e4 =>
  cases g2 with
  | ptr _ _ bc hbc =>
  have hb := hI.live hc (by simp) hbc
  obtain ⟨us, ty, hh, hsz, hob, hone⟩ := hI.ob c _ bc hc hb
  simp only [List.length_cons, List.length_nil] at hsz
  have hmem : bc ∈ m.objb := Gh.mem_objb.2 (List.mem_of_getElem? hb)
  obtain ⟨⟨cs, tyg, frg, hgh, rfl⟩, hgn⟩ := hI.glob (0, fun cs => cs = #[.iface 143 (.agg #[.pointer (some ⟨7, 29, none⟩)])]) (by simp [globs])
  have hg : w.cell? ⟨0, 0, none⟩ = some (.iface 143 (.agg #[.pointer (some ⟨7, 29, none⟩)])) := by rw [cell_of_row w 0 0 _ tyg frg hgh]; rfl
  have ht0 : w.cell? ⟨bc, 0, none⟩ = some us[0] := by rw [cell_of_row w bc 0 us ty _ hh]; exact Array.getElem?_eq_getElem (by omega)
  have hf0 : w.frozen? ⟨bc, 0, none⟩ = false := by simp [World.frozen?, hh]
  refine (as_hit ⟨bo, io + 0, none⟩ ⟨bc, 0, none⟩ us[0] w hg ht0 hf0).mono fun e w' ⟨he, hw⟩ => ?_
  have hB : Below w.heap.size w ((((w.alloc (.cells #[.pointer (some ⟨bc, 0, none⟩)] 58)).alloc (.cells #[.pointer (some ⟨7, 58, none⟩), .pointer (some ⟨w.heap.size, 0, none⟩), .int .u64 150] 93)).alloc (.cells #[.pointer (some ⟨7, 58, none⟩), .pointer (some ⟨w.heap.size, 0, none⟩), .int .u64 150] 93)).alloc (.cells #[.pointer (some ⟨bo, io + 0, none⟩)] 56)) :=
    ((((Below.refl _ w).alloc (Nat.le_refl _) _).alloc (by simp) _).alloc (by simp; omega) _).alloc (by simp; omega) _
  generalize ((((w.alloc (.cells #[.pointer (some ⟨bc, 0, none⟩)] 58)).alloc (.cells #[.pointer (some ⟨7, 58, none⟩), .pointer (some ⟨w.heap.size, 0, none⟩), .int .u64 150] 93)).alloc (.cells #[.pointer (some ⟨7, 58, none⟩), .pointer (some ⟨w.heap.size, 0, none⟩), .int .u64 150] 93)).alloc (.cells #[.pointer (some ⟨bo, io + 0, none⟩)] 56)) = w1 at hB hw
  subst hw
  have hlt := (Array.getElem?_eq_some_iff.1 hh).1
  have old : ∀ k, k < w.heap.size → k ≠ bc → (w1.setCell ⟨bc, 0, none⟩ (.pointer (some ⟨bo, io + 0, none⟩))).heap[k]? = w.heap[k]? := fun k hk hne => (Below.heap_setCell w1 _ _ k hne).trans (hB.block k hk)
  have hh1 := (hB.block bc hlt).trans hh
  have hX : Ext m w m (w1.setCell ⟨bc, 0, none⟩ (.pointer (some ⟨bo, io + 0, none⟩))) := .turned hmem hB.os hB.tape hB.output (by simp only [World.setCell, Array.size_modify]; exact hB.size) old
  have hheap : (w1.setCell ⟨bc, 0, none⟩ (.pointer (some ⟨bo, io + 0, none⟩))).heap[bc]? = some (.cells (us.setIfInBounds 0 (.pointer (some ⟨bo, io + 0, none⟩))) ty (0, 0)) := by
    simp only [World.setCell, Array.getElem?_modify, if_true, hh1]
    rfl
  have hI' := hI.turned hb hX old (.cells [immS q k]) ⟨_, ty, hheap, by simp; omega, fun i d u hd hu => ?_, trivial⟩
  · exact ⟨_, _, _, m, he, ⟨rfl, rfl⟩, hI', hX, .v _ _ (.bool _)⟩
  · match i with
    | 0 =>
      cases hd
      have hu' : u = .pointer (some ⟨bo, io + 0, none⟩) := by
        rw [Array.getElem?_setIfInBounds_self_of_lt (by omega)] at hu
        exact (Option.some.inj hu).symm
      subst hu'
      exact ⟨g0.mono hX, rfl⟩
    | i + 1 => simp at hd
theorem k_OfSpotI {q k : Int} {σ : Sg} : ACalls Tryz.prog 15 [spotV q k] σ fun r σ' => r = .tup [.v (.int .i64 k), .v (.int .i64 q)] ∧ σ' = σ := by
  unfold spotV
  refine acalls_fit Tryz.func15 (by kernel_rfl) c15 rfl (by simp [a15]) fun hf => ?_
  clear hf
  simp -implicitDefEqProofs (maxSteps := 2000000) (disch := omega) [-getElem?_pos, a15]
  refine (k_AsHitI (q := q) (k := k) (c := σ.objs.length) (σ := ⟨σ.objs ++ [.cells [.v .pnil]], σ.toks⟩) (by simp)).mono fun r σ' hr => ?_
  obtain ⟨rfl, rfl⟩ := hr
  simp -implicitDefEqProofs (maxSteps := 2000000) (disch := omega) [-getElem?_pos, immS]
  exact .fin _ ⟨rfl, rfl⟩ (.refl _)
end Go.Proofs.YtpdeaekmgljeaaaGreatDoor
namespace Go.Proofs.YtpdeaekmgljeaaaGreatDoor
open Go Go.Abs
def r0 : Rn := ⟨[], []⟩
def errArg : D := .v (.iface 32 (.int .i64 1))
def checkD (e : Ex) : D := if mayB e = true then (match (goN e [] r0).r.free with
  | [] => .v .inil
  | q :: _ => spotV q 4) else errArg
def numberD (e : Ex) : D := if mayB e = true then .tup [.v (encE (goN e [] r0).e), .v (vS (goN e [] r0).r.old), .v .inil] else .tup [.v (encE zEx), .v (vS []), errArg]
theorem k_Go0 {e : Ex} {p : Nat} {σ : Sg} (he : csz e ≤ 1048576) (hp : σ.objs[p]? = some (.cells [.v .snil, .v .snil])) : ACalls Tryz.prog 42 [.ptr p 0, .v (encE e), .v .snil] σ fun x σ' => x = .v (encE (goN e [] r0).e) ∧ ∃ a' b' tk', σ' = ⟨σ.objs.set p (renOb a' b' (goN e [] r0).r), tk'⟩ ∧ RStep σ.toks none none r0 tk' a' b' (goN e [] r0).r := by
  refine (k_Go1 e [] false r0 none none p σ he (by simp; omega) (by simp [r0]; omega) (by simp [r0]; omega) hp ⟨rfl, rfl, fun i h => by cases h⟩).args rfl fun i d d' h1 h2 => ?_
  match i with
  | 0 => cases h1; cases h2; exact .refl _
  | 1 => cases h1; cases h2; exact .refl _
  | 2 => cases h1; cases h2; exact VLe.snil.d
  | i + 3 => simp at h1
theorem RStep.ext {tk tk' : List Nat} {r r' : Rn} {a' b' : Option Nat} (h : RStep tk none none r tk' a' b' r') : ∃ ts, tk' = tk ++ ts := by
  refine ⟨tk'.drop tk.length, ?_⟩
  have hx : tk'.take tk.length = tk := by
    apply List.ext_getElem?
    intro i
    rw [List.getElem?_take]
    split
    · rename_i hi
      rw [h.keep i _ (List.getElem?_eq_getElem hi) (by simp) (by simp), List.getElem?_eq_getElem hi]
    · rename_i hi
      rw [List.getElem?_eq_none (by omega)]
  have := List.take_append_drop tk.length tk'
  rw [hx] at this
  exact this.symm
theorem le_zEx : VLe (.agg [.int .i64 0, .int .i64 0, .int .i64 0, .str [], .str [], .snil, .snil, .snil]) (encE zEx) := by
  unfold zEx
  rw [encE_mk]
  refine VLe.agg ?_ fun c hc => ?_
  · exact ⟨.refl _, .refl _, .refl _, .refl _, .refl _, .snil, .snil, .snil, trivial⟩
  simp only [List.map_nil, List.mem_cons, List.not_mem_nil, or_false] at hc
  rcases hc with rfl | rfl | rfl | rfl | rfl | rfl | rfl | rfl <;> rfl
theorem k_Check {e : Ex} {σ : Sg} (he : csz e ≤ 1048576) : ACalls Tryz.prog 16 [.v (encE e)] σ fun r σ' => r = checkD e ∧ σ' = σ := by
  have km := fun σ => k_May (e := e) (σ := σ) he
  have kg := fun p σ => k_Go0 (e := e) (p := p) (σ := σ) he
  have ks := fun q σ => k_SpotF (i := q) (c := 4) (σ := σ)
  have hD : checkD e = if mayB e = true then (match (goN e [] r0).r.free with
    | [] => .v .inil
    | q :: _ => spotV q 4) else errArg := rfl
  have hsz := (goN_len e [] r0).2
  generalize checkD e = D0 at hD ⊢
  generalize mayB e = M at hD km
  generalize goN e [] r0 = X at hD kg hsz
  obtain ⟨y, ⟨old, free⟩⟩ := X
  cases e with
  | mk k p n s t ls ns l =>
  rw [encE_mk] at km kg ⊢
  refine acalls_fit Tryz.func16 (by kernel_rfl) c16 rfl (by simp [a16]) fun hf => ?_
  clear hf
  simp -implicitDefEqProofs (maxSteps := 2000000) (disch := omega) [-getElem?_pos, a16]
  refine (km _).then fun x hx => ?_
  subst hx
  cases M with
  | false =>
    simp -implicitDefEqProofs (maxSteps := 2000000) (disch := omega) [-getElem?_pos]
    exact .fin _ ⟨by rw [hD]; rfl, rfl⟩ (.refl _)
  | true =>
    simp -implicitDefEqProofs (maxSteps := 2000000) (disch := omega) [-getElem?_pos]
    refine (kg (σ.objs.length + 1) _ (by simp)).mono fun x σ' hx => ?_
    obtain ⟨rfl, a', b', tk', rfl, hst⟩ := hx
    obtain ⟨ts, rfl⟩ := hst.ext
    have hob := hst.ob
    unfold renOb
    dsimp only
    cases b' with
    | none =>
      have h0 : free = [] := List.length_eq_zero_iff.1 hob
      subst h0
      simp -implicitDefEqProofs (maxSteps := 2000000) (disch := omega) [-getElem?_pos, tokD]
      exact .fin _ ⟨by rw [hD]; rfl, rfl⟩ (.refl _)
    | some T =>
      cases free with
      | nil =>
        simp -implicitDefEqProofs (maxSteps := 2000000) (disch := omega) [-getElem?_pos, tokD]
        exact .fin _ ⟨by rw [hD]; rfl, rfl⟩ (.refl _)
      | cons q rest =>
        simp -implicitDefEqProofs (maxSteps := 2000000) (disch := omega) [-getElem?_pos, tokD]
        refine (ks q _).then fun x hx => ?_
        subst hx
        simp -implicitDefEqProofs (maxSteps := 2000000) (disch := omega) [-getElem?_pos, spotV]
        exact .fin _ ⟨by rw [hD]; rfl, rfl⟩ (.refl _)
theorem k_Number {e : Ex} {σ : Sg} (he : csz e ≤ 1048576) : ACalls Tryz.prog 17 [.v (encE e)] σ fun r σ' => r = numberD e ∧ σ' = σ := by
  have km := fun σ => k_May (e := e) (σ := σ) he
  have kg := fun p σ => k_Go0 (e := e) (p := p) (σ := σ) he
  have hD : numberD e = if mayB e = true then .tup [.v (encE (goN e [] r0).e), .v (vS (goN e [] r0).r.old), .v .inil] else .tup [.v (encE zEx), .v (vS []), errArg] := rfl
  have hsz := (goN_len e [] r0).1
  generalize numberD e = D0 at hD ⊢
  generalize mayB e = M at hD km
  generalize goN e [] r0 = X at hD kg hsz
  obtain ⟨⟨k8, p8, n8, s8, t8, ls8, ns8, l8⟩, ⟨old, free⟩⟩ := X
  cases e with
  | mk k p n s t ls ns l =>
  rw [encE_mk] at km
  simp only [encE_mk] at kg hD
  rw [encE_mk]
  refine acalls_fit Tryz.func17 (by kernel_rfl) c17 rfl (by simp [a17]) fun hf => ?_
  clear hf
  simp -implicitDefEqProofs (maxSteps := 2000000) (disch := omega) [-getElem?_pos, a17]
  refine (km _).then fun x hx => ?_
  subst hx
  cases M with
  | false =>
    simp -implicitDefEqProofs (maxSteps := 2000000) (disch := omega) [-getElem?_pos]
    exact .fin _ ⟨by rw [hD]; rfl, rfl⟩ (D.Le.tup3 le_zEx.d VLe.snil.d (.refl _))
  | true =>
    simp -implicitDefEqProofs (maxSteps := 2000000) (disch := omega) [-getElem?_pos]
    refine (kg (σ.objs.length + 2) _ (by simp)).mono fun x σ' hx => ?_
    obtain ⟨rfl, a', b', tk', rfl, hst⟩ := hx
    obtain ⟨ts, rfl⟩ := hst.ext
    have hob := hst.oa
    unfold renOb
    dsimp only
    cases a' with
    | none =>
      have h0 : old = [] := List.length_eq_zero_iff.1 hob
      subst h0
      simp -implicitDefEqProofs (maxSteps := 2000000) (disch := omega) [-getElem?_pos, tokD]
      exact .fin _ ⟨by rw [hD]; rfl, rfl⟩ (D.Le.tup3 (.refl _) VLe.snil.d (.refl _))
    | some T =>
      simp -implicitDefEqProofs (maxSteps := 2000000) (disch := omega) [-getElem?_pos, tokD]
      exact .fin _ ⟨by rw [hD]; rfl, rfl⟩ (D.Le.tup3 (.refl _) .tsl (.refl _))
mutual
def stripE : Ex → Ex
  | .mk k _ n s t ls ns l => .mk k 0 n s t ls ns (stripL l)
def stripL : List Ex → List Ex
  | [] => []
  | x :: l => stripE x :: stripL l
end
theorem stripL_eq : ∀ l, stripL l = l.map stripE
  | [] => by simp [stripL]
  | x :: l => by simp [stripL, stripL_eq l]
def kR : List CT → Int
  | [] => 0
  | t :: _ => t.k
def sR : List CT → Str
  | [] => []
  | t :: _ => t.s
def seesR (R : List CT) (s : Str) : Bool := (decide (kR R = 2) || decide (kR R = 6)) && decide (sR R = s)
def atomR (R : List CT) : Bool := decide (kR R = 1) || (decide (kR R = 4) || (decide (kR R = 5) || (seesR R wRead || (seesR R [40] || seesR R [123]))))
def Dr (C : PC) (i : Nat) (R : List CT) : Prop := (C.L.map core).drop i = R
theorem Dr.get {C : PC} {i : Nat} {R : List CT} (h : Dr C i R) (n : Nat) : ((C.L[i + n]?).getD zTk).k = kR (R.drop n) ∧ ((C.L[i + n]?).getD zTk).s = sR (R.drop n) ∧ ((C.L[i + n]?).getD zTk).n = (R.drop n).head?.elim 0 (·.n) := by
  have h2 : (C.L.map core).drop (i + n) = R.drop n := by rw [← h, List.drop_drop]
  have h3 : (R.drop n).head? = (C.L[i + n]?).map core := by rw [← h2, List.head?_drop, List.getElem?_map]
  cases hd : C.L[i + n]? with
  | none =>
    rw [hd] at h3
    have : R.drop n = [] := by cases hr : R.drop n with
      | nil => rfl
      | cons x r => rw [hr] at h3; cases h3
    rw [this]
    exact ⟨rfl, rfl, rfl⟩
  | some t =>
    rw [hd] at h3
    cases hr : R.drop n with
    | nil => rw [hr] at h3; cases h3
    | cons x r =>
      rw [hr] at h3
      cases h3
      exact ⟨rfl, rfl, rfl⟩
theorem Dr.hd0 {C : PC} {i : Nat} {R : List CT} (h : Dr C i R) (n : Nat) : (ahd C ⟨i, none⟩ n).k = kR (R.drop n) ∧ (ahd C ⟨i, none⟩ n).s = sR (R.drop n) := by
  have := h.get n
  exact ⟨this.1, this.2.1⟩
theorem Dr.k {C : PC} {i : Nat} {R : List CT} (h : Dr C i R) : (ahd C ⟨i, none⟩ 0).k = kR R := (h.hd0 0).1
theorem Dr.s {C : PC} {i : Nat} {R : List CT} (h : Dr C i R) : (ahd C ⟨i, none⟩ 0).s = sR R := (h.hd0 0).2
theorem Dr.se {C : PC} {i : Nat} {R : List CT} (h : Dr C i R) (s : Str) : sees C ⟨i, none⟩ 0 s = seesR R s := by
  unfold sees seesT seesR
  rw [h.k, h.s]
theorem Dr.next {C : PC} {i : Nat} {t : CT} {R : List CT} (h : Dr C i (t :: R)) : Dr C (i + 1) R := by
  unfold Dr at h ⊢
  rw [← List.drop_drop, h]
  rfl
theorem Dr.skip {C : PC} {i : Nat} {X R : List CT} (h : Dr C i (X ++ R)) : Dr C (i + X.length) R := by
  unfold Dr at h ⊢
  rw [← List.drop_drop, h]
  simp
theorem Dr.must {C : PC} {i : Nat} {t : CT} {R : List CT} (h : Dr C i (t :: R)) (s : Str) (ht : t = wdT s ∨ t = sgT s) : mustP C s ⟨i, none⟩ = ⟨i + 1, none⟩ := by
  unfold mustP
  rw [h.se, if_pos]
  · rfl
  · unfold seesR kR sR
    rcases ht with rfl | rfl <;> simp
theorem Dr.text {C : PC} {i : Nat} {t : CT} {R : List CT} (h : Dr C i (t :: R)) {k : Int} (ht : t.k = k) : textP C k ⟨i, none⟩ = ⟨t.s, ⟨i + 1, none⟩⟩ := by
  unfold textP
  rw [h.k, h.s, if_pos (by exact ht)]
  rfl
theorem Dr.op {C : PC} {i : Nat} {R : List CT} (h : Dr C i R) (ops : List Str) : opP C ops ⟨i, none⟩ = ops.find? fun s => seesR R s := by
  unfold opP
  congr 1
  funext s
  exact h.se s
theorem Dr.len {C : PC} {i : Nat} {X R : List CT} (h : Dr C i (X ++ R)) (hX : X ≠ []) : i + X.length ≤ C.L.length := by
  unfold Dr at h
  have := congrArg List.length h
  rw [List.length_drop, List.length_map, List.length_append] at this
  have : X.length ≠ 0 := fun h => hX (List.length_eq_zero_iff.1 h)
  omega
def Good (C : PC) (f : PF) (X : List CT) (e : Ex) (F : List CT → Prop) : Prop := ∀ i R, Dr C i (X ++ R) → F R → ∃ e', f ⟨i, none⟩ = ⟨e', ⟨i + X.length, none⟩⟩ ∧ stripE e' = stripE e
def F1 : List CT → Prop := fun R => seesR R [92] = false ∧ seesR R [46] = false
def F2 : List CT → Prop := fun R => F1 R ∧ atomR R = false
def Fops (ops : List Str) : List CT → Prop := fun R => ∀ s ∈ ops, seesR R s = false
def F3 : List CT → Prop := fun R => F2 R ∧ Fops [[42], [47], [35]] R
def F4 : List CT → Prop := fun R => F3 R ∧ Fops [[43], [45], [94]] R
def F5 : List CT → Prop := fun R => F4 R ∧ Fops [[60], [61, 61]] R
def F6 : List CT → Prop := fun R => F5 R ∧ seesR R sSet = false
theorem Good.mono {C : PC} {f : PF} {X : List CT} {e : Ex} {F G : List CT → Prop} (h : Good C f X e F) (hg : ∀ R, G R → F R) : Good C f X e G := fun i R hd hR => h i R hd (hg R hR)
def headR (X : List CT) : Option Int := if kR X = 3 then some 13
  else if kR X = 2 ∨ kR X = 6 then (if sR X = wRef then some 17 else if sR X = wPrint then some 20 else if sR X = wShow then some 21 else if sR X = [33] then some 18 else none)
  else none
theorem Dr.head {C : PC} {i : Nat} {R : List CT} (h : Dr C i R) : headP (ahd C ⟨i, none⟩ 0) = headR R := by
  unfold headP headR
  rw [h.k, h.s]
theorem k_Texts5 {a b : List Str} {σ : Sg} : ACalls Tryz.prog 46 [.v (vS a), .v (vS b)] σ fun r σ' => r = .v (.bool (decide (a = b))) ∧ σ' = σ := by
  refine acalls_fit Tryz.func46 (by kernel_rfl) c46 rfl (by simp [a46]) fun hf => ?_
  simp at hf
  simp -implicitDefEqProofs (maxSteps := 2000000) (disch := omega) [-getElem?_pos, a46]
  refine .mk (fun hl => ?_) fun hl => ?_
  rotate_left
  · simp -implicitDefEqProofs (maxSteps := 2000000) (disch := omega) [-getElem?_pos]
    exact .fin _ ⟨by simp; intro h; exact hl (by rw [h]), rfl⟩ (.refl _)
  simp -implicitDefEqProofs (maxSteps := 2000000) (disch := omega) [-getElem?_pos]
  refine W_loop (α := Nat) 0 (fun i => a.length - i) (fun i => ⟨[(0, .v (vS a)), (1, .v (vS b)), (5, .v (.int .i64 i))], σ⟩) (fun i => i ≤ a.length ∧ (a = b ↔ a.drop i = b.drop i))
    (.eq (by simp)) ⟨by omega, by simp⟩ fun i ⟨hi, he⟩ => ?_
  simp -implicitDefEqProofs (maxSteps := 2000000) (disch := omega) [-getElem?_pos]
  refine .mk (fun h => ?_) fun h => ?_
  · simp -implicitDefEqProofs (maxSteps := 2000000) (disch := omega) [-getElem?_pos]
    refine ⟨by omega, fun x hx => ?_⟩
    refine ⟨by omega, fun y hy => ?_⟩
    rw [drop_cons hx, drop_cons hy] at he
    refine .mk (fun hq => ?_) fun hq => ?_
    · subst hq
      simp -implicitDefEqProofs (maxSteps := 2000000) (disch := omega) [-getElem?_pos]
      refine ⟨i + 1, ⟨by omega, ?_⟩, by dsimp only; omega, .eq (by simp)⟩
      simpa using he
    · simp -implicitDefEqProofs (maxSteps := 2000000) (disch := omega) [-getElem?_pos]
      refine .fin _ ⟨?_, rfl⟩ (.refl _)
      rw [decide_eq_false (fun h' => hq (List.cons.inj (he.1 h')).1)]
  · simp -implicitDefEqProofs (maxSteps := 2000000) (disch := omega) [-getElem?_pos]
    refine .fin _ ⟨?_, rfl⟩ (.refl _)
    rw [List.drop_eq_nil_of_le (by omega), List.drop_eq_nil_of_le (by omega)] at he
    rw [decide_eq_true (he.2 rfl)]
noncomputable instance : DecidableEq Ex := fun _ _ => Classical.propDecidable _
noncomputable def sameB (a b : Ex) : Bool := decide (stripE a = stripE b)
theorem stripE_mk {k p n : Int} {s t : Str} {ls ns : List Str} {l : List Ex} : stripE (.mk k p n s t ls ns l) = .mk k 0 n s t ls ns (l.map stripE) := by
  rw [stripE, stripL_eq]
theorem k_Same5 (a : Ex) : ∀ (b : Ex) {σ : Sg}, csz a ≤ 1048576 → ACalls Tryz.prog 19 [.v (encE a), .v (encE b)] σ fun r σ' => r = .v (.bool (sameB a b)) ∧ σ' = σ := by
  refine Ex.ind (P := fun a => ∀ (b : Ex) {σ : Sg}, csz a ≤ 1048576 → ACalls Tryz.prog 19 [.v (encE a), .v (encE b)] σ fun r σ' => r = .v (.bool (sameB a b)) ∧ σ' = σ) (fun k p n s t ls ns l ih => ?_) a
  intro b σ he
  simp only [csz] at he
  have hll := cszL_len l
  cases b with
  | mk k2 p2 n2 s2 t2 ls2 ns2 l2 =>
  have hB : sameB (.mk k p n s t ls ns l) (.mk k2 p2 n2 s2 t2 ls2 ns2 l2) = decide (k = k2 ∧ n = n2 ∧ s = s2 ∧ t = t2 ∧ ls = ls2 ∧ ns = ns2 ∧ l.map stripE = l2.map stripE) := by
    unfold sameB
    rw [stripE_mk, stripE_mk]
    simp
  generalize sameB (.mk k p n s t ls ns l) (.mk k2 p2 n2 s2 t2 ls2 ns2 l2) = B at hB ⊢
  rw [encE_mk, encE_mk]
  refine acalls_fit Tryz.func19 (by kernel_rfl) c19 rfl (by simp [a19]) fun hf => ?_
  clear hf
  simp -implicitDefEqProofs (maxSteps := 2000000) (disch := omega) [-getElem?_pos, a19]
  refine k_Texts5.then fun r hr => ?_
  subst hr
  simp -implicitDefEqProofs (maxSteps := 2000000) (disch := omega) [-getElem?_pos]
  refine k_Texts5.then fun r hr => ?_
  subst hr
  by_cases h1 : k = k2
  rotate_left
  · simp -implicitDefEqProofs (maxSteps := 2000000) (disch := omega) [-getElem?_pos, h1]
    exact .fin (.v (.bool false)) ⟨by rw [hB]; simp [h1], rfl⟩ (.refl _)
  by_cases h2 : n = n2
  rotate_left
  · simp -implicitDefEqProofs (maxSteps := 2000000) (disch := omega) [-getElem?_pos, h1, h2]
    exact .fin (.v (.bool false)) ⟨by rw [hB]; simp [h2], rfl⟩ (.refl _)
  by_cases h3 : s = s2
  rotate_left
  · simp -implicitDefEqProofs (maxSteps := 2000000) (disch := omega) [-getElem?_pos, h1, h2, h3]
    exact .fin (.v (.bool false)) ⟨by rw [hB]; simp [h3], rfl⟩ (.refl _)
  by_cases h4 : t = t2
  rotate_left
  · simp -implicitDefEqProofs (maxSteps := 2000000) (disch := omega) [-getElem?_pos, h1, h2, h3, h4]
    exact .fin (.v (.bool false)) ⟨by rw [hB]; simp [h4], rfl⟩ (.refl _)
  by_cases h5 : ls = ls2
  rotate_left
  · simp -implicitDefEqProofs (maxSteps := 2000000) (disch := omega) [-getElem?_pos, h1, h2, h3, h4, h5]
    exact .fin (.v (.bool false)) ⟨by rw [hB]; simp [h5], rfl⟩ (.refl _)
  by_cases h6 : ns = ns2
  rotate_left
  · simp -implicitDefEqProofs (maxSteps := 2000000) (disch := omega) [-getElem?_pos, h1, h2, h3, h4, h5, h6]
    exact .fin (.v (.bool false)) ⟨by rw [hB]; simp [h6], rfl⟩ (.refl _)
  subst h1 h2 h3 h4 h5 h6
  by_cases h7 : l.length = l2.length
  rotate_left
  · have h7i : ¬ (l.length : Int) = l2.length := by omega
    simp -implicitDefEqProofs (maxSteps := 2000000) (disch := omega) [-getElem?_pos, h7, h7i]
    refine .fin (.v (.bool false)) ⟨?_, rfl⟩ (.refl _)
    rw [hB, decide_eq_false]
    rintro ⟨_, _, _, _, _, _, h⟩
    exact h7 (by simpa using congrArg List.length h)
  simp -implicitDefEqProofs (maxSteps := 2000000) (disch := omega) [-getElem?_pos, h7]
  refine W_loop (α := Nat) 0 (fun i => l.length - i) (fun i => ⟨[(2, .ptr σ.objs.length 0), (3, .ptr (σ.objs.length + 1) 0), (4, .v (.bool false)), (7, .v (.int .i64 i))], ⟨σ.objs ++ [obE (.mk k p n s t ls ns l), obE (.mk k p2 n s t ls ns l2)], σ.toks⟩⟩)
    (fun i => i ≤ l.length ∧ (l.map stripE = l2.map stripE ↔ (l.drop i).map stripE = (l2.drop i).map stripE)) (.eq2 (by simp [obE_mk]) (by simp)) ⟨by omega, by simp⟩ fun i ⟨hi, he2⟩ => ?_
  simp -implicitDefEqProofs (maxSteps := 2000000) (disch := omega) [-getElem?_pos, obE_mk]
  refine .mk (fun h => ?_) fun h => ?_
  · simp -implicitDefEqProofs (maxSteps := 2000000) (disch := omega) [-getElem?_pos]
    refine ⟨by omega, ?_⟩
    intro x hx
    refine ⟨by omega, ?_⟩
    intro y hy
    rw [drop_cons hx, drop_cons hy, List.map_cons, List.map_cons] at he2
    have hx1 := cszL_mem (List.mem_of_getElem? hx)
    refine (ih x (List.mem_of_getElem? hx) y (by omega)).then fun r hr => ?_
    subst hr
    by_cases hq : stripE x = stripE y
    · rw [hq] at he2
      have hs : sameB x y = true := decide_eq_true hq
      simp -implicitDefEqProofs (maxSteps := 2000000) (disch := omega) [-getElem?_pos, hs]
      refine ⟨i + 1, ⟨by omega, ?_⟩, by dsimp only; omega, .eq2 (by simp [obE_mk]) (by simp)⟩
      simpa using he2
    · have hs : sameB x y = false := decide_eq_false hq
      simp -implicitDefEqProofs (maxSteps := 2000000) (disch := omega) [-getElem?_pos, hs]
      refine .fin (.v (.bool false)) ⟨?_, rfl⟩ (.refl _)
      have hne : ¬ l.map stripE = l2.map stripE := fun h => hq (List.cons.inj (he2.1 h)).1
      rw [hB]
      simp [hne]
  · simp -implicitDefEqProofs (maxSteps := 2000000) (disch := omega) [-getElem?_pos]
    refine .fin (.v (.bool true)) ⟨?_, rfl⟩ (.refl _)
    rw [List.drop_eq_nil_of_le (by omega), List.drop_eq_nil_of_le (by omega)] at he2
    rw [hB]
    simp [he2.2 rfl]
theorem k_CountB (e : Ex) : ∀ {m : Int} {σ : Sg}, csz e ≤ 1048576 → -2000000 ≤ m → m ≤ 2000000 → ACalls Tryz.prog 30 [.v (encE e), .v (.int .i64 m)] σ fun r σ' => (∃ m' : Int, m - csz e ≤ m' ∧ m' ≤ m ∧ (m' < 0 ∨ csz e ≤ 8 * (m - m')) ∧ r = .v (.int .i64 m')) ∧ σ' = σ := by
  refine Ex.ind (P := fun e => ∀ {m : Int} {σ : Sg}, csz e ≤ 1048576 → -2000000 ≤ m → m ≤ 2000000 → ACalls Tryz.prog 30 [.v (encE e), .v (.int .i64 m)] σ fun r σ' => (∃ m' : Int, m - csz e ≤ m' ∧ m' ≤ m ∧ (m' < 0 ∨ csz e ≤ 8 * (m - m')) ∧ r = .v (.int .i64 m')) ∧ σ' = σ) (fun k p n s t ls ns l ih => ?_) e
  intro m σ he h1 h2
  simp only [csz] at he ⊢
  have hnl := nsz_len ns
  have hnl2 := nsz_len ls
  have hll := cszL_len l
  rw [encE_mk]
  refine acalls_fit Tryz.func30 (by kernel_rfl) c30 rfl (by simp [a30]) fun hf => ?_
  clear hf
  simp -implicitDefEqProofs (maxSteps := 2000000) (disch := omega) [-getElem?_pos, a30]
  obtain ⟨os, hos⟩ : ∃ os, os = σ.objs ++ [Ob.cells [.v (.int .i64 k), .v (.int .i64 p), .v (.int .i64 n), .v (.str s), .v (.str t), .v (.sl none false (ls.map .str)), .v (.sl none false (ns.map .str)), .v (.sl (some 8) false (l.map encE))]] := ⟨_, rfl⟩
  have ho : os[σ.objs.length]? = some (Ob.cells [.v (.int .i64 k), .v (.int .i64 p), .v (.int .i64 n), .v (.str s), .v (.str t), .v (.sl none false (ls.map .str)), .v (.sl none false (ns.map .str)), .v (.sl (some 8) false (l.map encE))]) := by rw [hos]; simp
  refine W_loop (α := KSt) ⟨0, m - 1 - s.length - t.length⟩ (fun x => ls.length - x.i) (fun x => ⟨[(2, .ptr σ.objs.length 0), (1, .v (.int .i64 x.m)), (5, .v (.int .i64 x.i))], ⟨os, σ.toks⟩⟩)
    (fun x => x.i ≤ ls.length ∧ x.m = m - 1 - s.length - t.length - nsz (ls.take x.i)) (.eq2 (by simp [hos]) (by simp)) ⟨by simp, by simp [nsz]⟩ fun ⟨i, m1⟩ ⟨hi, hm⟩ => ?_
  dsimp only at hi hm ⊢
  have hnt := nsz_take ls i
  simp -implicitDefEqProofs (maxSteps := 2000000) (disch := omega) [-getElem?_pos, ho]
  refine .mk (fun h => ?_) fun h => ?_
  · simp -implicitDefEqProofs (maxSteps := 2000000) (disch := omega) [-getElem?_pos, ho]
    refine ⟨by omega, ?_⟩
    intro x hx
    have hx1 := nsz_get hx
    have hx2 := nsz_take ls (i + 1)
    simp -implicitDefEqProofs (maxSteps := 2000000) (disch := omega) [-getElem?_pos, ho]
    refine ⟨⟨i + 1, m1 - 1 - x.length⟩, ⟨by dsimp only; omega, by dsimp only; omega⟩, by dsimp only; omega, .eq (by simp)⟩
  rw [List.take_of_length_le (by omega)] at hm
  clear hnt
  have hnt2 := nsz_take ns
  simp -implicitDefEqProofs (maxSteps := 2000000) (disch := omega) [-getElem?_pos, ho]
  refine W_loop (α := KSt) ⟨0, m1⟩ (fun x => ns.length - x.i) (fun x => ⟨[(2, .ptr σ.objs.length 0), (1, .v (.int .i64 x.m)), (6, .v (.int .i64 x.i))], ⟨os, σ.toks⟩⟩)
    (fun x => x.i ≤ ns.length ∧ x.m = m1 - nsz (ns.take x.i)) (.eq (by simp)) ⟨by simp, by simp [nsz]⟩ fun ⟨i, m2⟩ ⟨hi, hm4⟩ => ?_
  dsimp only at hi hm4 ⊢
  have hnt := nsz_take ns i
  simp -implicitDefEqProofs (maxSteps := 2000000) (disch := omega) [-getElem?_pos, ho]
  refine .mk (fun h => ?_) fun h => ?_
  · simp -implicitDefEqProofs (maxSteps := 2000000) (disch := omega) [-getElem?_pos, ho]
    refine ⟨by omega, ?_⟩
    intro x hx
    have hx1 := nsz_get hx
    have hx2 := nsz_take ns (i + 1)
    simp -implicitDefEqProofs (maxSteps := 2000000) (disch := omega) [-getElem?_pos, ho]
    refine ⟨⟨i + 1, m2 - 1 - x.length⟩, ⟨by dsimp only; omega, by dsimp only; omega⟩, by dsimp only; omega, .eq (by simp)⟩
  rw [List.take_of_length_le (by omega)] at hm4
  clear hnt
  simp -implicitDefEqProofs (maxSteps := 2000000) (disch := omega) [-getElem?_pos, ho]
  refine W_loop (α := KSt) ⟨0, m2⟩ (fun x => l.length - x.i) (fun x => ⟨[(2, .ptr σ.objs.length 0), (1, .v (.int .i64 x.m)), (7, .v (.int .i64 x.i))], ⟨os, σ.toks⟩⟩)
    (fun x => x.i ≤ l.length ∧ x.m ≤ m2 ∧ m2 - cszL (l.take x.i) ≤ x.m ∧ (x.m < 0 ∨ cszL (l.take x.i) ≤ 8 * (m2 - x.m))) (.eq (by simp)) ⟨by simp, by simp, by simp [cszL], by simp [cszL]⟩ fun ⟨i, m3⟩ ⟨hi, hm2, hm3, hm4⟩ => ?_
  dsimp only at hi hm2 hm3 hm4 ⊢
  have hlt := cszL_take l i
  simp -implicitDefEqProofs (maxSteps := 2000000) (disch := omega) [-getElem?_pos, ho]
  refine .mk (fun h => ?_) fun h => ?_
  · simp -implicitDefEqProofs (maxSteps := 2000000) (disch := omega) [-getElem?_pos, ho]
    refine .mk (fun h3 => ?_) fun h3 => ?_
    · simp -implicitDefEqProofs (maxSteps := 2000000) (disch := omega) [-getElem?_pos, ho]
      refine ⟨by omega, ?_⟩
      intro x hx
      have hx1 := cszL_get hx
      have hx2 := cszL_take l (i + 1)
      refine (ih x (List.mem_of_getElem? hx) (by omega) (by omega) (by omega)).then fun r hr => ?_
      obtain ⟨m', h5, h6, h7, rfl⟩ := hr
      simp -implicitDefEqProofs (maxSteps := 2000000) (disch := omega) [-getElem?_pos, ho]
      refine ⟨⟨i + 1, m'⟩, ⟨by dsimp only; omega, by dsimp only; omega, by dsimp only; omega, by dsimp only; omega⟩, by dsimp only; omega, .eq (by simp)⟩
    · simp -implicitDefEqProofs (maxSteps := 2000000) (disch := omega) [-getElem?_pos, ho]
      subst hos
      exact .fin _ ⟨⟨m3, by omega, by omega, .inl (by omega), rfl⟩, rfl⟩ (.refl _)
  · simp -implicitDefEqProofs (maxSteps := 2000000) (disch := omega) [-getElem?_pos, ho]
    subst hos
    exact .fin _ ⟨⟨m3, by omega, by omega, by rw [List.take_of_length_le (by omega)] at hm4; omega, rfl⟩, rfl⟩ (.refl _)
theorem k_FewB {e : Ex} {σ : Sg} (he : csz e ≤ 1048576) : ACalls Tryz.prog 9 [.v (encE e)] σ fun r σ' => (∃ b, r = .v (.bool b) ∧ (b = true → csz e ≤ 160000)) ∧ σ' = σ := by
  have hc := fun σ => k_CountB e (m := 20000) (σ := σ) he (by omega) (by omega)
  cases e with
  | mk k p n s t ls ns l =>
  rw [encE_mk] at hc ⊢
  refine acalls_fit Tryz.func9 (by kernel_rfl) c9 rfl (by simp [a9]) fun hf => ?_
  clear hf
  simp -implicitDefEqProofs (maxSteps := 2000000) (disch := omega) [-getElem?_pos, a9]
  refine (hc _).then fun r hr => ?_
  obtain ⟨m', h5, h6, h7, rfl⟩ := hr
  simp -implicitDefEqProofs (maxSteps := 2000000) (disch := omega) [-getElem?_pos]
  refine .fin (.v (.bool (decide (0 ≤ m')))) ⟨?_, rfl⟩ (.refl _)
  by_cases h0 : 0 ≤ m'
  · exact .inr ⟨by rw [decide_eq_true h0], by omega⟩
  · exact .inl (by rw [decide_eq_false h0])
theorem own_names {k p n : Int} {s t : Str} {ls ns : List Str} {l : List Ex} (h : ownB (.mk k p n s t ls ns l) = true) : ns.length ≤ l.length := by
  have hp := own_sound h
  rw [ownB_mk] at h
  split at h
  · cases h
  rename_i hc
  simp only [not_or] at hc
  have hpt : (l.length : Int) = partsN k ls.length (decide (t ≠ [])) := Classical.byContradiction hc.1
  by_cases h8 : k = 8
  · rw [if_pos h8] at h
    simp only [Bool.and_eq_true, decide_eq_true_eq] at h
    omega
  rw [if_neg h8] at h
  by_cases h14 : k = 14
  · have := hp.1 h14
    unfold partsN at hpt
    rw [if_neg h8, if_pos h14] at hpt
    split at hpt <;> omega
  rw [if_neg h14] at h
  by_cases h7 : k = 7
  · rw [if_pos h7] at h
    simp only [Bool.and_eq_true, decide_eq_true_eq] at h
    omega
  rw [if_neg h7] at h
  simp only [Bool.and_eq_true, decide_eq_true_eq] at h
  omega
theorem name_len {s : Str} (h : isL s 1 = true) : s.length ≤ 20 := by obtain ⟨_, _, _, _, _, _, h⟩ := name_of h; exact h
theorem nsz_names : ∀ {l : List Str}, (∀ x ∈ l, x.length ≤ 20) → nsz l ≤ 21 * l.length
  | [], _ => by simp [nsz]
  | x :: l, h => by
    have h1 := h x (by simp)
    have h2 := nsz_names (l := l) fun y hy => h y (by simp [hy])
    simp only [nsz, List.length_cons]
    omega
theorem head_len {k p : Int} {s t : Str} {ns : List Str} {env : List Frm} {r : Rn} (he : asOk env) (hl : r.old.length + ns.length + 2 < 10 ^ 19) :
    (headN k p s t ns env r).s.length ≤ s.length + 20 ∧ (headN k p s t ns env r).t.length ≤ t.length + 20 ∧ nsz (headN k p s t ns env r).ns ≤ 21 * ns.length := by
  have hv : ∀ i, i ≤ r.old.length + ns.length + 1 → (vN i).length ≤ 20 := fun i h => name_len (vN_name (by omega))
  have hnl := namesR_len ns r
  have hall : nsz ((namesR ns r).1.map (·.2)) ≤ 21 * ns.length := by
    have := nsz_names (l := (namesR ns r).1.map (·.2)) fun x hx => by
      rw [namesR_as] at hx
      simp only [vNs, List.mem_map, List.mem_range'_1] at hx
      obtain ⟨i, hi, rfl⟩ := hx
      exact hv i (by omega)
    rwa [List.length_map, hnl.1] at this
  by_cases h3 : k = 3
  · subst h3
    have e : (headN 3 p s t ns env r).s = (findF env s).1 ∧ (headN 3 p s t ns env r).t = t ∧ (headN 3 p s t ns env r).ns = [] := ⟨rfl, rfl, rfl⟩
    rw [e.1, e.2.1, e.2.2]
    refine ⟨?_, by omega, by simp [nsz]⟩
    cases hf : (findF env s).2 with
    | true => have := name_len (findF_ok he hf); omega
    | false =>
      have : (findF env s).1 = s := by
        unfold findF at hf ⊢
        cases hx : env.reverse.find? fun x => decide (x.1 = s) with
        | none => rfl
        | some x => rw [hx] at hf; cases hf
      rw [this]; omega
  by_cases h4 : k = 4 ∨ k = 6
  · have e : headN k p s t ns env r = ⟨asR r, t, [], (s, asR r), zF, [], bindR s r⟩ := by unfold headN; rw [if_neg h3, if_pos h4]
    rw [e]
    have := hv r.old.length (by omega)
    refine ⟨?_, by dsimp only; omega, by simp [nsz]⟩
    dsimp only
    rw [asR_vN]
    omega
  by_cases h7 : k = 7
  · have e : headN k p s t ns env r = ⟨asR r, asR (bindR s r), [], (s, asR r), (t, asR (bindR s r)), [], bindR t (bindR s r)⟩ := by unfold headN; rw [if_neg h3, if_neg h4, if_pos h7]
    rw [e]
    have h1 := hv r.old.length (by omega)
    have h2 := hv (r.old.length + 1) (by omega)
    have e2 : (bindR s r).old.length = r.old.length + 1 := by simp [bindR]
    refine ⟨?_, ?_, by simp [nsz]⟩
    · dsimp only
      rw [asR_vN]
      omega
    · dsimp only
      rw [asR_vN, e2]
      omega
  by_cases h14 : k = 14
  · by_cases ht : t = []
    · have e : headN k p s t ns env r = ⟨s, t, (namesR ns r).1.map (·.2), zF, zF, (namesR ns r).1, (namesR ns r).2⟩ := by unfold headN; rw [if_neg h3, if_neg h4, if_neg h7, if_pos h14, if_pos ht]
      rw [e]
      exact ⟨by dsimp only; omega, by dsimp only; omega, hall⟩
    · have e : headN k p s t ns env r = ⟨s, asR (namesR ns r).2, (namesR ns r).1.map (·.2), zF, (t, asR (namesR ns r).2), (namesR ns r).1, bindR t (namesR ns r).2⟩ := by unfold headN; rw [if_neg h3, if_neg h4, if_neg h7, if_pos h14, if_neg ht]
      rw [e]
      refine ⟨by dsimp only; omega, ?_, hall⟩
      have := hv (namesR ns r).2.old.length (by omega)
      dsimp only
      rw [asR_vN]
      omega
  have e : headN k p s t ns env r = ⟨s, t, [], zF, zF, [], r⟩ := by unfold headN; rw [if_neg h3, if_neg h4, if_neg h7, if_neg h14]
  rw [e]
  exact ⟨by dsimp only; omega, by dsimp only; omega, by simp [nsz]⟩
theorem goN_size (e : Ex) : fineB e = true → ∀ (env : List Frm) (r : Rn), r.old.length + csz e < 10 ^ 18 → asOk env → csz (goN e env r).e + 21 ≤ csz e + 63 * nds e := by
  refine Ex.ind (P := fun e => fineB e = true → ∀ (env : List Frm) (r : Rn), r.old.length + csz e < 10 ^ 18 → asOk env → csz (goN e env r).e + 21 ≤ csz e + 63 * nds e) (fun k p n s t ls ns l ih => ?_) e
  intro hf env r hsz he
  rw [fineB, Bool.and_eq_true] at hf
  obtain ⟨ho, hfl⟩ := hf
  have hso := own_sound ho
  have hnn := own_names ho
  rw [csz] at hsz
  have hn := nsz_ge ns
  have hh := headN_len k p s t ns env r
  have hhl := head_len (k := k) (p := p) (s := s) (t := t) (ns := ns) (r := r) he (by omega)
  have hpt : (l.length : Int) = partsN k ls.length (decide (t ≠ [])) := by
    rw [ownB_mk] at ho
    split at ho
    · cases ho
    rename_i hc
    simp only [not_or] at hc
    exact Classical.byContradiction hc.1
  have hio : ∀ i, i < l.length → asOk (innerN k (headN k p s t ns env r) env i) := fun i hi => inner_ok he (by omega) fun h14 ht => by
    subst h14 ht
    have : partsN 14 ls.length (decide (([] : Str) ≠ [])) = ls.length + 1 := by simp [partsN]
    have := hso.1 rfl
    omega
  rw [goN]
  dsimp only
  rw [csz, csz, nds]
  generalize headN k p s t ns env r = h at *
  have hL : ∀ (l : List Ex) (i n : Nat) (r : Rn), n = i + l.length → (∀ j, j < n → asOk (innerN k h env j)) → fineLB l = true → r.old.length + cszL l < 10 ^ 18 →
      (∀ x ∈ l, fineB x = true → ∀ (env : List Frm) (r : Rn), r.old.length + csz x < 10 ^ 18 → asOk env → csz (goN x env r).e + 21 ≤ csz x + 63 * nds x) → cszL (goL k h env i l r).l + 21 * l.length ≤ cszL l + 63 * ndsL l := by
    intro l
    induction l with
    | nil => intro i n r _ _ _ _ _; simp [goL, cszL]
    | cons x l ihl =>
      intro i n r hn hj hfl hr hx
      rw [fineLB, Bool.and_eq_true] at hfl
      simp only [List.length_cons] at hn
      simp only [cszL] at hr
      have hl := (goN_len x (innerN k h env i) r).1
      have h1 := hx x (by simp) hfl.1 (innerN k h env i) r (by omega) (hj i (by omega))
      have h2 := ihl (i + 1) n (goN x (innerN k h env i) r).r (by omega) hj hfl.2 (by omega) fun y hy => hx y (by simp [hy])
      simp only [goL, cszL, ndsL, List.length_cons]
      omega
  have := hL l 0 l.length h.r (by omega) hio hfl (by omega) ih
  omega
theorem own_len (k : Int) (s t : Str) (ns : List Str) : (ownBs k s t ns).length ≤ 2 + ns.length := by
  unfold ownBs
  split
  · simp; omega
  · split
    · simp
    · split
      · simp only [List.length_append]; split <;> simp <;> omega
      · simp
theorem bndrs_len (e : Ex) : (bndrs e).length ≤ csz e := by
  refine Ex.ind (P := fun e => (bndrs e).length ≤ csz e) (fun k p n s t ls ns l ih => ?_) e
  have h1 := own_len k s t ns
  have h2 := nsz_ge ns
  have hL : ∀ l : List Ex, (∀ x ∈ l, (bndrs x).length ≤ csz x) → (bndrsL l).length ≤ cszL l := by
    intro l
    induction l with
    | nil => intro _; simp [bndrsL]
    | cons x l ihl =>
      intro hx
      have a := hx x (by simp)
      have b := ihl fun y hy => hx y (by simp [hy])
      simp only [bndrsL, cszL, List.length_append]
      omega
  have := hL l ih
  rw [bndrs, csz, List.length_append]
  omega
theorem bndrsL_app : ∀ (a b : List Ex), bndrsL (a ++ b) = bndrsL a ++ bndrsL b
  | [], b => by simp [bndrsL]
  | x :: a, b => by simp [bndrsL, bndrsL_app a b]
theorem bndrsL_len : ∀ l : List Ex, (bndrsL l).length ≤ cszL l
  | [] => by simp [bndrsL]
  | x :: l => by
    have := bndrs_len x
    have := bndrsL_len l
    simp only [bndrsL, cszL, List.length_append]
    omega
theorem bind_loop {k p n : Int} {s t : Str} {ls ns : List Str} {l : List Ex} {σ : Sg} {O : List Str} {st : St} (ih : ∀ x ∈ l, ∀ {σ : Sg}, csz x ≤ 1048576 → ACalls Tryz.prog 27 [.v (encE x)] σ fun r σ' => r = .v (vS (bndrs x)) ∧ σ' = σ) (hc : cszL l ≤ 1048576) (hO : O.length ≤ 1048578)
    (hw : Weak σ st ⟨[(1, .ptr σ.objs.length 0), (3, .tsl σ.toks.length none (O.map .str)), (4, .v (.int .i64 (0 : Nat)))], ⟨σ.objs ++ [obE (.mk k p n s t ls ns l)], σ.toks ++ [O.length]⟩⟩) :
    W Tryz.prog σ (loopX (tlX 3 a27.body)) (QBlk 1 (QSeq Tryz.prog σ (contX (tlX 3 a27.body)) (Post σ a27.res fun r σ' => r = .v (vS (O ++ bndrsL l)) ∧ σ' = σ))) st := by
  have hcl := cszL_len l
  refine W_loop (α := Nat) 0 (fun i => l.length - i) (fun i => ⟨[(1, .ptr σ.objs.length 0), (3, .tsl σ.toks.length none ((O ++ bndrsL (l.take i)).map .str)), (4, .v (.int .i64 i))], ⟨σ.objs ++ [obE (.mk k p n s t ls ns l)], σ.toks ++ [(O ++ bndrsL (l.take i)).length]⟩⟩) (fun i => i ≤ l.length) (by simpa [bndrsL] using hw) (Nat.zero_le _) fun i hi => ?_
  have h1 := bndrsL_len (l.take i)
  have h2 := cszL_take l i
  simp -implicitDefEqProofs (maxSteps := 2000000) (disch := omega) [-getElem?_pos, obE_mk]
  refine .mk (fun hlt => ?_) fun hlt => ?_
  · obtain ⟨x, hx⟩ : ∃ x, l[i]? = some x := ⟨_, List.getElem?_eq_getElem (by omega)⟩
    have hx1 := cszL_mem (List.mem_of_getElem? hx)
    have hnext : bndrsL (l.take (i + 1)) = bndrsL (l.take i) ++ bndrs x := by rw [take_succ_get hx, bndrsL_app]; simp [bndrsL]
    have hbl := bndrs_len x
    simp -implicitDefEqProofs (maxSteps := 2000000) (disch := omega) [-getElem?_pos, obE_mk, hx]
    refine ⟨by omega, ?_⟩
    refine (ih x (List.mem_of_getElem? hx) (by omega)).then fun r hr => ?_
    subst hr
    simp -implicitDefEqProofs (maxSteps := 2000000) (disch := omega) [-getElem?_pos]
    exact ⟨by omega, i + 1, by omega, by dsimp only; omega, .eq2 (by simp [hnext, obE_mk]; omega) (by simp [hnext])⟩
  · obtain rfl : i = l.length := by omega
    simp -implicitDefEqProofs (maxSteps := 2000000) (disch := omega) [-getElem?_pos, contX, tlX, a27]
    exact .fin _ ⟨by unfold vS; rw [List.map_append], rfl⟩ .tsl
theorem k_Binders (e : Ex) : ∀ {σ : Sg}, csz e ≤ 1048576 → ACalls Tryz.prog 27 [.v (encE e)] σ fun r σ' => r = .v (vS (bndrs e)) ∧ σ' = σ := by
  refine Ex.ind (P := fun e => ∀ {σ : Sg}, csz e ≤ 1048576 → ACalls Tryz.prog 27 [.v (encE e)] σ fun r σ' => r = .v (vS (bndrs e)) ∧ σ' = σ) (fun k p n s t ls ns l ih => ?_) e
  intro σ he
  rw [csz] at he
  have hns := nsz_ge ns
  have hcl := cszL_len l
  have hol := own_len k s t ns
  have hg := fun st => bind_loop (k := k) (p := p) (n := n) (s := s) (t := t) (ls := ls) (ns := ns) (σ := σ) (st := st) (O := ownBs k s t ns) ih (by omega) (by omega)
  rw [encE_mk, bndrs]
  have b4 : k = 4 → ownBs k s t ns = [s] := fun h => by simp [ownBs, h]
  have b6 : k = 6 → ownBs k s t ns = [s] := fun h => by simp [ownBs, h]
  have b7 : k = 7 → ownBs k s t ns = [s, t] := fun h => by simp [ownBs, h]
  have b14 : k = 14 → ownBs k s t ns = ns ++ (if t = [] then [] else [t]) := fun h => by simp [ownBs, h]
  have b0 : k ≠ 4 → k ≠ 6 → k ≠ 7 → k ≠ 14 → ownBs k s t ns = [] := fun h1 h2 h3 h4 => by simp [ownBs, h1, h2, h3, h4]
  generalize ownBs k s t ns = O at *
  refine acalls_fit Tryz.func27 (by kernel_rfl) c27 rfl (by simp [a27]) fun hf => ?_
  clear hf
  by_cases h4 : k = 4
  · have c4 : (k == 4) = true := by rw [h4]; rfl
    obtain rfl := b4 h4
    simp -implicitDefEqProofs (maxSteps := 2000000) (disch := omega) [-getElem?_pos, a27, c4]
    exact hg _ (.eq2 (by simp [obE_mk]) (by simp))
  have c4 : (k == 4) = false := beq_false_of_ne h4
  by_cases h6 : k = 6
  · have c6 : (k == 6) = true := by rw [h6]; rfl
    obtain rfl := b6 h6
    simp -implicitDefEqProofs (maxSteps := 2000000) (disch := omega) [-getElem?_pos, a27, c4, c6]
    exact hg _ (.eq2 (by simp [obE_mk]) (by simp))
  have c6 : (k == 6) = false := beq_false_of_ne h6
  by_cases h7 : k = 7
  · have c7 : (k == 7) = true := by rw [h7]; rfl
    obtain rfl := b7 h7
    simp -implicitDefEqProofs (maxSteps := 2000000) (disch := omega) [-getElem?_pos, a27, c4, c6, c7]
    exact hg _ (.eq2 (by simp [obE_mk]) (by simp))
  have c7 : (k == 7) = false := beq_false_of_ne h7
  by_cases h14 : k = 14
  · have c14 : (k == 14) = true := by rw [h14]; rfl
    have b14 := b14 h14
    by_cases ht : t = []
    · rw [if_pos ht, List.append_nil] at b14
      subst b14
      subst ht
      simp -implicitDefEqProofs (maxSteps := 2000000) (disch := omega) [-getElem?_pos, a27, c4, c6, c7, c14]
      refine ⟨by omega, hg _ (.eq2 (by simp [obE_mk]) (by simp))⟩
    · rw [if_neg ht] at b14
      simp -implicitDefEqProofs (maxSteps := 2000000) (disch := omega) [-getElem?_pos, a27, c4, c6, c7, c14, ht]
      refine ⟨by omega, by omega, hg _ (.eq2 (by simp [obE_mk, b14]) (by simp [b14]))⟩
  have c14 : (k == 14) = false := beq_false_of_ne h14
  have e0 := b0 h4 h6 h7 h14
  simp -implicitDefEqProofs (maxSteps := 2000000) (disch := omega) [-getElem?_pos, a27, c4, c6, c7, c14]
  refine hg _ ?_
  subst e0
  exact Weak.tok (i := 3) (sh := none) (by simp) (by simp)
end Go.Proofs.YtpdeaekmgljeaaaGreatDoor
