/-
  The library's stable sort, of items, walked, IV. (Own work; printed by program.)
-/
import Derived.Test.YtpdeaekmgljeaaaGreatDoorN12
import Derived.Shelf.Small.Strs
import Derived.Test.YtpdeaekmgljeaaaGreatDoorChecked
set_option linter.unusedVariables false
set_option linter.unusedSimpArgs false
namespace Go.Proofs.YtpdeaekmgljeaaaGreatDoor
open Go Go.Abs
structure BsS where
 g : Nat
 i : Nat
 j : Nat
theorem bs1_stop {l : List Itm} {x : Nat} : ∀ {g i j : Nat}, ¬ i < j → bs1 l x g i j = i
 | 0, _, _, _ => rfl
 | g + 1, i, j, h => by rw [bs1, if_neg h]
theorem bs2_stop {l : List Itm} {x : Nat} : ∀ {g i j : Nat}, ¬ i < j → bs2 l x g i j = i
 | 0, _, _, _ => rfl
 | g + 1, i, j, h => by rw [bs2, if_neg h]
theorem bs3_stop {l : List Itm} {x : Nat} : ∀ {g i j : Nat}, ¬ i < j → bs3 l x g i j = i
 | 0, _, _, _ => rfl
 | g + 1, i, j, h => by rw [bs3, if_neg h]
set_option maxHeartbeats 4000000 in
theorem k_Sym {o len : Nat} {c : Option Nat} {rest : List D} {fd : D} (hcmp : CmpOk fd) (hpl : Plain rest) : ∀ (f a m b : Nat) (l : List Itm) (σ : Sg), b - a ≤ f → a < m → m < b → b ≤ l.length → len = l.length → l.length ≤ 1048576 → σ.objs[o]? = some (cellsI l rest) →
  ACalls Tryz.prog 200 [.msl o 0 len (some 11) c, .v (.int .i64 a), .v (.int .i64 m), .v (.int .i64 b), fd] σ fun r σ' => r = .tup [] ∧ σ' = ⟨σ.objs.set o (cellsI (symI f a m b l) rest), σ.toks⟩ := by
 intro f
 induction f with
 | zero => intro a m b l σ h1 h2 h3; omega
 | succ f ih =>
 intro a m b l σ hf ham hmb hb hlen hL ho
 refine pset ho fun os tk hl => ?_
 clear ho σ
 subst hlen
 have hcmp := fun x y tk l' => hcmp x y ⟨os.set o (cellsI l' rest), tk⟩
 have hmaI : (m : Int) - a = ((m - a : Nat) : Int) := by omega
 have hbmI : (b : Int) - m = ((b - m : Nat) : Int) := by omega
 rw [symI]
 by_cases h1 : m - a = 1
 ·rw [if_pos h1]
  refine acalls_fit Tryz.func200 (by kernel_rfl) c200W rfl (by simp [a200W]) fun hf => ?_
  clear hf
  have h1i : (m : Int) - a = 1 := by omega
  simp -implicitDefEqProofs (disch := omega) [-getElem?_pos, a200W, h1i]
  refine W_loop (α := BsS) ⟨b - m, m, b⟩ (fun x => x.j - x.i) (fun x => ⟨[(0, .msl o 0 l.length (some 11) c), (1, .v (.int .i64 a)), (2, .v (.int .i64 m)), (3, .v (.int .i64 b)), (4, fd), (10, .v (.int .i64 x.i)), (11, .v (.int .i64 x.j))], ⟨os.set o (cellsI l rest), tk⟩⟩)
   (fun x => bs1 l a (b - m) m b = bs1 l a x.g x.i x.j ∧ x.j - x.i ≤ x.g ∧ m ≤ x.i ∧ x.i ≤ x.j ∧ x.j ≤ b) (.eq (by simp)) ⟨rfl, Nat.le_refl _, Nat.le_refl _, by dsimp only; omega, Nat.le_refl _⟩ fun ⟨g, i, j⟩ ⟨he, hg, hmi, hij, hjb⟩ => ?_
  dsimp only at he hg hmi hij hjb ⊢
  simp -implicitDefEqProofs (disch := omega) [-getElem?_pos]
  refine .mk (fun h => ?_) fun h => ?_
  ·have hh := halfI h (by omega)
   have hm2 : (i + j) / 2 < j := by omega
   have hi2 : i ≤ (i + j) / 2 := by omega
   obtain ⟨g, rfl⟩ : ∃ g', g = g' + 1 := ⟨g - 1, by omega⟩
   rw [bs1, if_pos h] at he
   generalize hmid : (i + j) / 2 = q at hh hm2 hi2 he
   obtain ⟨x, hx⟩ : ∃ x, l[q]? = some x := ⟨_, List.getElem?_eq_getElem (by omega)⟩
   obtain ⟨y, hy⟩ : ∃ y, l[a]? = some y := ⟨_, List.getElem?_eq_getElem (by omega)⟩
   rw [ltL_eq hx hy] at he
   simp -implicitDefEqProofs (disch := omega) [-getElem?_pos, hh, wcells, rows_take hx, rows_take hy, allV_v]
   repeat (first | (refine ⟨(by omega : _ ≤ _), ?_⟩) | (refine ⟨(by omega : _ < _), ?_⟩))
   refine (hcmp x y _ _).then fun r hr => ?_
   subst hr
   simp -implicitDefEqProofs (disch := omega) [-getElem?_pos]
   refine .mk (fun hq => ?_) fun hq => ?_
   ·rw [if_pos (by simpa using hq)] at he
    simp -implicitDefEqProofs (disch := omega) [-getElem?_pos]
    exact ⟨⟨g, q + 1, j⟩, ⟨he, by dsimp only; omega, by dsimp only; omega, by dsimp only; omega, hjb⟩, by dsimp only; omega, .eq (by simp)⟩
   ·rw [if_neg (by simpa using hq)] at he
    simp -implicitDefEqProofs (disch := omega) [-getElem?_pos]
    exact ⟨⟨g, i, q⟩, ⟨he, by dsimp only; omega, by dsimp only; omega, by dsimp only; omega, by dsimp only; omega⟩, by dsimp only; omega, .eq (by simp)⟩
  ·rw [bs1_stop h] at he
   rw [he]
   simp -implicitDefEqProofs (disch := omega) [-getElem?_pos]
   refine W_loop (α := InS) ⟨i - 1 - a, a, l⟩ (fun x => x.f) (fun x => ⟨[(0, .msl o 0 l.length (some 11) c), (1, .v (.int .i64 a)), (2, .v (.int .i64 m)), (3, .v (.int .i64 b)), (4, fd), (10, .v (.int .i64 i)), (13, .v (.int .i64 x.i))], ⟨os.set o (cellsI x.l rest), tk⟩⟩)
    (fun x => upI (i - 1 - a) a l = upI x.f x.i x.l ∧ x.i + x.f + 1 = i ∧ x.l.length = l.length) (.eq (by simp)) ⟨rfl, by dsimp only; omega, rfl⟩ fun ⟨g, k, l'⟩ ⟨he2, hk, hll⟩ => ?_
   dsimp only at he2 hk hll ⊢
   simp -implicitDefEqProofs (disch := omega) [-getElem?_pos]
   refine .mk (fun h9 => ?_) fun h9 => ?_
   ·obtain ⟨g, rfl⟩ : ∃ g', g = g' + 1 := ⟨g - 1, by omega⟩
    obtain ⟨x, hx⟩ : ∃ x, l'[k]? = some x := ⟨_, List.getElem?_eq_getElem (by omega)⟩
    obtain ⟨y, hy⟩ : ∃ y, l'[k + 1]? = some y := ⟨_, List.getElem?_eq_getElem (by omega)⟩
    have e1 : ((k : Int) + 1).toNat = k + 1 := by omega
    rw [upI, swapI_eq hx hy] at he2
    simp -implicitDefEqProofs (disch := omega) [-getElem?_pos, wcells, e1, rows_take hx, rows_take hy, allV_v, rows_put, rows_put2]
    repeat (first | (refine ⟨(by omega : _ ≤ _), ?_⟩) | (refine ⟨(by omega : _ < _), ?_⟩))
    exact ⟨⟨g, k + 1, (l'.set k y).set (k + 1) x⟩, ⟨he2, by dsimp only; omega, by simp [hll]⟩, by dsimp only; omega, .eq2 rfl (by simp)⟩
   ·obtain rfl : g = 0 := by omega
    rw [upI] at he2
    simp -implicitDefEqProofs (disch := omega) [-getElem?_pos]
    rw [he2]
    exact .finS _ ⟨_, tk⟩ ⟨rfl, rfl⟩ (.refl _) (low_set2 (cellsI_low hpl))
 rw [if_neg h1]
 have h1i : ¬ (m : Int) - a = 1 := by omega
 by_cases h2 : b - m = 1
 ·rw [if_pos h2]
  refine acalls_fit Tryz.func200 (by kernel_rfl) c200W rfl (by simp [a200W]) fun hf => ?_
  clear hf
  have h2i : (b : Int) - m = 1 := by omega
  simp -implicitDefEqProofs (disch := omega) [-getElem?_pos, a200W, h1i, h2i]
  refine W_loop (α := BsS) ⟨m - a, a, m⟩ (fun x => x.j - x.i) (fun x => ⟨[(0, .msl o 0 l.length (some 11) c), (1, .v (.int .i64 a)), (2, .v (.int .i64 m)), (3, .v (.int .i64 b)), (4, fd), (14, .v (.int .i64 x.i)), (15, .v (.int .i64 x.j))], ⟨os.set o (cellsI l rest), tk⟩⟩)
   (fun x => bs2 l m (m - a) a m = bs2 l m x.g x.i x.j ∧ x.j - x.i ≤ x.g ∧ a ≤ x.i ∧ x.i ≤ x.j ∧ x.j ≤ m) (.eq (by simp)) ⟨rfl, Nat.le_refl _, Nat.le_refl _, by dsimp only; omega, Nat.le_refl _⟩ fun ⟨g, i, j⟩ ⟨he, hg, hmi, hij, hjb⟩ => ?_
  dsimp only at he hg hmi hij hjb ⊢
  simp -implicitDefEqProofs (disch := omega) [-getElem?_pos]
  refine .mk (fun h => ?_) fun h => ?_
  ·have hh := halfI h (by omega)
   have hm2 : (i + j) / 2 < j := by omega
   have hi2 : i ≤ (i + j) / 2 := by omega
   obtain ⟨g, rfl⟩ : ∃ g', g = g' + 1 := ⟨g - 1, by omega⟩
   rw [bs2, if_pos h] at he
   generalize hmid : (i + j) / 2 = q at hh hm2 hi2 he
   obtain ⟨x, hx⟩ : ∃ x, l[m]? = some x := ⟨_, List.getElem?_eq_getElem (by omega)⟩
   obtain ⟨y, hy⟩ : ∃ y, l[q]? = some y := ⟨_, List.getElem?_eq_getElem (by omega)⟩
   rw [ltL_eq hx hy] at he
   simp -implicitDefEqProofs (disch := omega) [-getElem?_pos, hh, wcells, rows_take hx, rows_take hy, allV_v]
   repeat (first | (refine ⟨(by omega : _ ≤ _), ?_⟩) | (refine ⟨(by omega : _ < _), ?_⟩))
   refine (hcmp x y _ _).then fun r hr => ?_
   subst hr
   by_cases hq : Lib.compareBytes x.key y.key < 0
   ·rw [if_pos (by simpa using hq)] at he
    simp -implicitDefEqProofs (disch := omega) [-getElem?_pos, hq]
    exact ⟨⟨g, i, q⟩, ⟨he, by dsimp only; omega, by dsimp only; omega, by dsimp only; omega, by dsimp only; omega⟩, by dsimp only; omega, .eq (by simp)⟩
   ·rw [if_neg (by simpa using hq)] at he
    simp -implicitDefEqProofs (disch := omega) [-getElem?_pos, hq]
    exact ⟨⟨g, q + 1, j⟩, ⟨he, by dsimp only; omega, by dsimp only; omega, by dsimp only; omega, hjb⟩, by dsimp only; omega, .eq (by simp)⟩
  ·rw [bs2_stop h] at he
   rw [he]
   simp -implicitDefEqProofs (disch := omega) [-getElem?_pos]
   refine W_loop (α := InS) ⟨m - i, m, l⟩ (fun x => x.f) (fun x => ⟨[(0, .msl o 0 l.length (some 11) c), (1, .v (.int .i64 a)), (2, .v (.int .i64 m)), (3, .v (.int .i64 b)), (4, fd), (14, .v (.int .i64 i)), (17, .v (.int .i64 x.i))], ⟨os.set o (cellsI x.l rest), tk⟩⟩)
    (fun x => downI (m - i) m l = downI x.f x.i x.l ∧ i + x.f = x.i ∧ x.l.length = l.length ∧ x.i ≤ m) (.eq (by simp)) ⟨rfl, by dsimp only; omega, rfl, Nat.le_refl _⟩ fun ⟨g, k, l'⟩ ⟨he2, hk, hll, hkm⟩ => ?_
   dsimp only at he2 hk hll hkm ⊢
   simp -implicitDefEqProofs (disch := omega) [-getElem?_pos]
   refine .mk (fun h9 => ?_) fun h9 => ?_
   ·obtain ⟨g, rfl⟩ : ∃ g', g = g' + 1 := ⟨g - 1, by omega⟩
    obtain ⟨k, rfl⟩ : ∃ k', k = k' + 1 := ⟨k - 1, by omega⟩
    obtain ⟨x, hx⟩ : ∃ x, l'[k + 1]? = some x := ⟨_, List.getElem?_eq_getElem (by omega)⟩
    obtain ⟨y, hy⟩ : ∃ y, l'[k]? = some y := ⟨_, List.getElem?_eq_getElem (by omega)⟩
    have e1 : ((k : Int) + 1).toNat = k + 1 := by omega
    rw [downI, Nat.add_sub_cancel, swapI_eq hx hy] at he2
    simp -implicitDefEqProofs (disch := omega) [-getElem?_pos, wcells, e1, rows_take hx, rows_take hy, allV_v, rows_put, rows_put2]
    repeat (first | (refine ⟨(by omega : _ ≤ _), ?_⟩) | (refine ⟨(by omega : _ < _), ?_⟩))
    exact ⟨⟨g, k, (l'.set (k + 1) y).set k x⟩, ⟨he2, by dsimp only; omega, by simp [hll], by dsimp only; omega⟩, by dsimp only; omega, .eq2 rfl (by simp)⟩
   ·obtain rfl : g = 0 := by omega
    rw [downI] at he2
    simp -implicitDefEqProofs (disch := omega) [-getElem?_pos]
    rw [he2]
    exact .finS _ ⟨_, tk⟩ ⟨rfl, rfl⟩ (.refl _) (low_set2 (cellsI_low hpl))
 rw [if_neg h2]
 have h2i : ¬ (b : Int) - m = 1 := by omega
 have hh0 := halfI (i := a) (j := b) (by omega) (by omega)
 have hmid1 : 2 * ((a + b) / 2) ≤ a + b := by omega
 have hmid2 : a + b ≤ 2 * ((a + b) / 2) + 1 := by omega
 unfold symS
 generalize hmid : (a + b) / 2 = mid at hh0 hmid1 hmid2 ⊢
 have kr := fun (l' : List Itm) (s e : Nat) (hs : s < m) (he : m < e) (heb : e ≤ l'.length) (hll : l'.length = l.length) => k_Rot (o := o) (a := s) (m := m) (b := e) (len := l.length) (c := c) (l := l') (rest := rest) (fd := fd) (σ := ⟨os.set o (cellsI l' rest), tk⟩) (by simp [hl]) hpl hll.symm hs he heb (by omega)
 have kx := fun (l' : List Itm) (a m b : Nat) (hf : b - a ≤ f) (h1 : a < m) (h2 : m < b) (h3 : b ≤ l'.length) (hll : l'.length = l.length) => ih a m b l' ⟨os.set o (cellsI l' rest), tk⟩ hf h1 h2 h3 hll.symm (by omega) (by simp [hl])
 simp only [List.set_set] at kr kx
 clear ih
 -- where the search begins and ends
 obtain ⟨s0, hs0⟩ : ∃ s0, s0 = if mid < m then mid + m - b else a := ⟨_, rfl⟩
 obtain ⟨r0, hr0⟩ : ∃ r0, r0 = if mid < m then mid else m := ⟨_, rfl⟩
 rw [← hs0, ← hr0]
 have hsr : s0 ≤ r0 ∧ r0 ≤ m ∧ r0 ≤ mid ∧ a ≤ s0 ∧ mid + m ≤ s0 + b ∧ r0 - s0 ≤ b - a := by
  split at hs0
  ·rename_i h; rw [if_pos h] at hr0; omega
  ·rename_i h; rw [if_neg h] at hr0; omega
 obtain ⟨hs1, hs2, hs3, hs4, hs5, hs6⟩ := hsr
 refine acalls_fit Tryz.func200 (by kernel_rfl) c200W rfl (by simp [a200W]) fun hf => ?_
 clear hf
 obtain ⟨Z, hZ⟩ : ∃ Z, Z = bs3 l (mid + m - 1) (b - a) s0 r0 := ⟨_, rfl⟩
 rw [← hZ]
 obtain ⟨F, hF⟩ : ∃ F, F = (if mid < mid + m - Z ∧ mid + m - Z < b then symI f mid (mid + m - Z) b (if a < Z ∧ Z < mid then symI f a Z mid (if Z < m ∧ m < mid + m - Z then rotI Z m (mid + m - Z) l else l) else if Z < m ∧ m < mid + m - Z then rotI Z m (mid + m - Z) l else l) else if a < Z ∧ Z < mid then symI f a Z mid (if Z < m ∧ m < mid + m - Z then rotI Z m (mid + m - Z) l else l) else if Z < m ∧ m < mid + m - Z then rotI Z m (mid + m - Z) l else l) := ⟨_, rfl⟩
 dsimp only
 rw [← hF]
 simp -implicitDefEqProofs (disch := omega) [-getElem?_pos, a200W, h1i, h2i, hh0]
 refine .mk (fun hm => ?_) fun hm => ?_
 focus
  rw [if_pos hm] at hs0 hr0
  have hnb : (mid : Int) + m - b = ((mid + m - b : Nat) : Int) := by omega
  simp -implicitDefEqProofs (disch := omega) [-getElem?_pos, hnb]
 rotate_left
 focus
  rw [if_neg hm] at hs0 hr0
  simp -implicitDefEqProofs (disch := omega) [-getElem?_pos]
 all_goals
  skip
  have hpI : (mid : Int) + m - 1 = ((mid + m - 1 : Nat) : Int) := by omega
  simp -implicitDefEqProofs (disch := omega) [-getElem?_pos, hpI]
  refine W_loop (α := BsS) ⟨b - a, s0, r0⟩ (fun x => x.j - x.i) (fun x => ⟨[(0, .msl o 0 l.length (some 11) c), (1, .v (.int .i64 a)), (2, .v (.int .i64 m)), (3, .v (.int .i64 b)), (4, fd), (18, .v (.int .i64 mid)), (19, .v (.int .i64 ((mid : Int) + m))), (22, .v (.int .i64 (mid + m - 1 : Nat))), (20, .v (.int .i64 x.i)), (21, .v (.int .i64 x.j))], ⟨os.set o (cellsI l rest), tk⟩⟩)
   (fun x => Z = bs3 l (mid + m - 1) x.g x.i x.j ∧ x.j - x.i ≤ x.g ∧ s0 ≤ x.i ∧ x.i ≤ x.j ∧ x.j ≤ r0) (.eq (by simp [hs0, hr0])) ⟨hZ, hs6, Nat.le_refl _, hs1, Nat.le_refl _⟩ fun ⟨g, i, j⟩ ⟨he, hg, hsi, hij, hjr⟩ => ?_
  dsimp only at he hg hsi hij hjr ⊢
  simp -implicitDefEqProofs (disch := omega) [-getElem?_pos]
  refine .mk (fun h => ?_) fun h => ?_
  ·have hh := halfI h (by omega)
   have hm2 : (i + j) / 2 < j := by omega
   have hi2 : i ≤ (i + j) / 2 := by omega
   obtain ⟨g, rfl⟩ : ∃ g', g = g' + 1 := ⟨g - 1, by omega⟩
   rw [bs3, if_pos h] at he
   generalize hmid9 : (i + j) / 2 = q at hh hm2 hi2 he
   obtain ⟨x, hx⟩ : ∃ x, l[mid + m - 1 - q]? = some x := ⟨_, List.getElem?_eq_getElem (by omega)⟩
   obtain ⟨y, hy⟩ : ∃ y, l[q]? = some y := ⟨_, List.getElem?_eq_getElem (by omega)⟩
   have hpq : ((mid + m - 1 : Nat) : Int) - q = ((mid + m - 1 - q : Nat) : Int) := by omega
   rw [ltL_eq hx hy] at he
   simp -implicitDefEqProofs (disch := omega) [-getElem?_pos, hh, hpq, wcells, rows_take hx, rows_take hy, allV_v]
   repeat (first | (refine ⟨(by omega : _ ≤ _), ?_⟩) | (refine ⟨(by omega : _ < _), ?_⟩))
   refine (hcmp x y _ _).then fun r hr => ?_
   subst hr
   by_cases hq : Lib.compareBytes x.key y.key < 0
   ·rw [if_pos (by simpa using hq)] at he
    simp -implicitDefEqProofs (disch := omega) [-getElem?_pos, hq]
    exact ⟨⟨g, i, q⟩, ⟨he, by dsimp only; omega, by dsimp only; omega, by dsimp only; omega, by dsimp only; omega⟩, by dsimp only; omega, .eq (by simp)⟩
   ·rw [if_neg (by simpa using hq)] at he
    simp -implicitDefEqProofs (disch := omega) [-getElem?_pos, hq]
    exact ⟨⟨g, q + 1, j⟩, ⟨he, by dsimp only; omega, by dsimp only; omega, by dsimp only; omega, hjr⟩, by dsimp only; omega, .eq (by simp)⟩
  ·rw [bs3_stop h] at he
   replace he := he.symm
   subst he
   obtain ⟨e, hee⟩ : ∃ e, e = mid + m - i := ⟨_, rfl⟩
   rw [← hee] at hF
   have heI : (mid : Int) + m - i = (e : Int) := by omega
   try dsimp only at hF
   simp -implicitDefEqProofs (disch := omega) [-getElem?_pos, heI]
   by_cases g1 : i < m
   ·by_cases g2 : i < mid
    ·by_cases g3 : a < i
     ·by_cases g4 : e < b
      ·have c1 : i < m := by omega
       have c2 : m < e := by omega
       have c3 : a < i := by omega
       have c4 : i < mid := by omega
       have c5 : mid < e := by omega
       have c6 : e < b := by omega
       simp only [c1, c2, c3, c4, c5, c6, and_self, and_true, true_and, and_false, false_and, if_true, if_false, not_true, not_false_eq_true] at hF
       simp -implicitDefEqProofs (disch := omega) [-getElem?_pos, c1, c2, c3, c4, c5, c6]
       refine (kr l i (e) (by omega) (by omega) (by omega) rfl).mono fun r σ' hr => ?_
       obtain ⟨rfl, rfl⟩ := hr
       simp -implicitDefEqProofs (disch := omega) [-getElem?_pos, c1, c2, c3, c4, c5, c6]
       have q1 := rotI_sub i m (e) l
       refine (kx (rotI i m (e) l) a i mid (by omega) (by omega) (by omega) (by rw [q1.len]; omega) q1.len).mono fun r σ' hr => ?_
       obtain ⟨rfl, rfl⟩ := hr
       simp -implicitDefEqProofs (disch := omega) [-getElem?_pos, c1, c2, c3, c4, c5, c6]
       have q2 : Sub l (symI f a i mid (rotI i m (e) l)) := (rotI_sub i m (e) l).trans (symI_sub f a i mid _)
       refine (kx (symI f a i mid (rotI i m (e) l)) mid (e) b (by omega) (by omega) (by omega) (by rw [q2.len]; omega) q2.len).mono fun r σ' hr => ?_
       obtain ⟨rfl, rfl⟩ := hr
       simp -implicitDefEqProofs (disch := omega) [-getElem?_pos, c1, c2, c3, c4, c5, c6]
       subst hF
       exact .finS _ ⟨_, tk⟩ ⟨rfl, rfl⟩ (.refl _) (low_set2 (cellsI_low hpl))
      ·have c1 : i < m := by omega
       have c2 : m < e := by omega
       have c3 : a < i := by omega
       have c4 : i < mid := by omega
       have c5 : mid < e := by omega
       have c6 : ¬ e < b := by omega
       simp only [c1, c2, c3, c4, c5, c6, and_self, and_true, true_and, and_false, false_and, if_true, if_false, not_true, not_false_eq_true] at hF
       simp -implicitDefEqProofs (disch := omega) [-getElem?_pos, c1, c2, c3, c4, c5, c6]
       refine (kr l i (e) (by omega) (by omega) (by omega) rfl).mono fun r σ' hr => ?_
       obtain ⟨rfl, rfl⟩ := hr
       simp -implicitDefEqProofs (disch := omega) [-getElem?_pos, c1, c2, c3, c4, c5, c6]
       have q1 := rotI_sub i m (e) l
       refine (kx (rotI i m (e) l) a i mid (by omega) (by omega) (by omega) (by rw [q1.len]; omega) q1.len).mono fun r σ' hr => ?_
       obtain ⟨rfl, rfl⟩ := hr
       simp -implicitDefEqProofs (disch := omega) [-getElem?_pos, c1, c2, c3, c4, c5, c6]
       subst hF
       exact .finS _ ⟨_, tk⟩ ⟨rfl, rfl⟩ (.refl _) (low_set2 (cellsI_low hpl))
     ·by_cases g4 : e < b
      ·have c1 : i < m := by omega
       have c2 : m < e := by omega
       have c3 : ¬ a < i := by omega
       have c4 : i < mid := by omega
       have c5 : mid < e := by omega
       have c6 : e < b := by omega
       simp only [c1, c2, c3, c4, c5, c6, and_self, and_true, true_and, and_false, false_and, if_true, if_false, not_true, not_false_eq_true] at hF
       simp -implicitDefEqProofs (disch := omega) [-getElem?_pos, c1, c2, c3, c4, c5, c6]
       refine (kr l i (e) (by omega) (by omega) (by omega) rfl).mono fun r σ' hr => ?_
       obtain ⟨rfl, rfl⟩ := hr
       simp -implicitDefEqProofs (disch := omega) [-getElem?_pos, c1, c2, c3, c4, c5, c6]
       have q2 : Sub l (rotI i m (e) l) := rotI_sub i m (e) l
       refine (kx (rotI i m (e) l) mid (e) b (by omega) (by omega) (by omega) (by rw [q2.len]; omega) q2.len).mono fun r σ' hr => ?_
       obtain ⟨rfl, rfl⟩ := hr
       simp -implicitDefEqProofs (disch := omega) [-getElem?_pos, c1, c2, c3, c4, c5, c6]
       subst hF
       exact .finS _ ⟨_, tk⟩ ⟨rfl, rfl⟩ (.refl _) (low_set2 (cellsI_low hpl))
      ·have c1 : i < m := by omega
       have c2 : m < e := by omega
       have c3 : ¬ a < i := by omega
       have c4 : i < mid := by omega
       have c5 : mid < e := by omega
       have c6 : ¬ e < b := by omega
       simp only [c1, c2, c3, c4, c5, c6, and_self, and_true, true_and, and_false, false_and, if_true, if_false, not_true, not_false_eq_true] at hF
       simp -implicitDefEqProofs (disch := omega) [-getElem?_pos, c1, c2, c3, c4, c5, c6]
       refine (kr l i (e) (by omega) (by omega) (by omega) rfl).mono fun r σ' hr => ?_
       obtain ⟨rfl, rfl⟩ := hr
       simp -implicitDefEqProofs (disch := omega) [-getElem?_pos, c1, c2, c3, c4, c5, c6]
       subst hF
       exact .finS _ ⟨_, tk⟩ ⟨rfl, rfl⟩ (.refl _) (low_set2 (cellsI_low hpl))
    ·by_cases g3 : a < i
     ·by_cases g4 : e < b
      ·have c1 : i < m := by omega
       have c2 : ¬ m < e := by omega
       have c3 : a < i := by omega
       have c4 : ¬ i < mid := by omega
       have c5 : mid < e := by omega
       have c6 : e < b := by omega
       simp only [c1, c2, c3, c4, c5, c6, and_self, and_true, true_and, and_false, false_and, if_true, if_false, not_true, not_false_eq_true] at hF
       simp -implicitDefEqProofs (disch := omega) [-getElem?_pos, c1, c2, c3, c4, c5, c6]
       have q2 : Sub l l := Sub.refl l
       refine (kx l mid (e) b (by omega) (by omega) (by omega) (by rw [q2.len]; omega) q2.len).mono fun r σ' hr => ?_
       obtain ⟨rfl, rfl⟩ := hr
       simp -implicitDefEqProofs (disch := omega) [-getElem?_pos, c1, c2, c3, c4, c5, c6]
       subst hF
       exact .finS _ ⟨_, tk⟩ ⟨rfl, rfl⟩ (.refl _) (low_set2 (cellsI_low hpl))
      ·have c1 : i < m := by omega
       have c2 : ¬ m < e := by omega
       have c3 : a < i := by omega
       have c4 : ¬ i < mid := by omega
       have c5 : mid < e := by omega
       have c6 : ¬ e < b := by omega
       simp only [c1, c2, c3, c4, c5, c6, and_self, and_true, true_and, and_false, false_and, if_true, if_false, not_true, not_false_eq_true] at hF
       simp -implicitDefEqProofs (disch := omega) [-getElem?_pos, c1, c2, c3, c4, c5, c6]
       subst hF
       exact .finS _ ⟨_, tk⟩ ⟨rfl, rfl⟩ (.refl _) (low_set2 (cellsI_low hpl))
     ·by_cases g4 : e < b
      ·have c1 : i < m := by omega
       have c2 : ¬ m < e := by omega
       have c3 : ¬ a < i := by omega
       have c4 : ¬ i < mid := by omega
       have c5 : mid < e := by omega
       have c6 : e < b := by omega
       simp only [c1, c2, c3, c4, c5, c6, and_self, and_true, true_and, and_false, false_and, if_true, if_false, not_true, not_false_eq_true] at hF
       simp -implicitDefEqProofs (disch := omega) [-getElem?_pos, c1, c2, c3, c4, c5, c6]
       have q2 : Sub l l := Sub.refl l
       refine (kx l mid (e) b (by omega) (by omega) (by omega) (by rw [q2.len]; omega) q2.len).mono fun r σ' hr => ?_
       obtain ⟨rfl, rfl⟩ := hr
       simp -implicitDefEqProofs (disch := omega) [-getElem?_pos, c1, c2, c3, c4, c5, c6]
       subst hF
       exact .finS _ ⟨_, tk⟩ ⟨rfl, rfl⟩ (.refl _) (low_set2 (cellsI_low hpl))
      ·have c1 : i < m := by omega
       have c2 : ¬ m < e := by omega
       have c3 : ¬ a < i := by omega
       have c4 : ¬ i < mid := by omega
       have c5 : mid < e := by omega
       have c6 : ¬ e < b := by omega
       simp only [c1, c2, c3, c4, c5, c6, and_self, and_true, true_and, and_false, false_and, if_true, if_false, not_true, not_false_eq_true] at hF
       simp -implicitDefEqProofs (disch := omega) [-getElem?_pos, c1, c2, c3, c4, c5, c6]
       subst hF
       exact .finS _ ⟨_, tk⟩ ⟨rfl, rfl⟩ (.refl _) (low_set2 (cellsI_low hpl))
   ·by_cases g2 : i < mid
    ·by_cases g3 : a < i
     ·by_cases g4 : e < b
      ·have c1 : ¬ i < m := by omega
       have c2 : m < e := by omega
       have c3 : a < i := by omega
       have c4 : i < mid := by omega
       have c5 : ¬ mid < e := by omega
       have c6 : e < b := by omega
       simp only [c1, c2, c3, c4, c5, c6, and_self, and_true, true_and, and_false, false_and, if_true, if_false, not_true, not_false_eq_true] at hF
       simp -implicitDefEqProofs (disch := omega) [-getElem?_pos, c1, c2, c3, c4, c5, c6]
       have q1 := Sub.refl l
       refine (kx l a i mid (by omega) (by omega) (by omega) (by rw [q1.len]; omega) q1.len).mono fun r σ' hr => ?_
       obtain ⟨rfl, rfl⟩ := hr
       simp -implicitDefEqProofs (disch := omega) [-getElem?_pos, c1, c2, c3, c4, c5, c6]
       subst hF
       exact .finS _ ⟨_, tk⟩ ⟨rfl, rfl⟩ (.refl _) (low_set2 (cellsI_low hpl))
      ·have c1 : ¬ i < m := by omega
       have c2 : m < e := by omega
       have c3 : a < i := by omega
       have c4 : i < mid := by omega
       have c5 : ¬ mid < e := by omega
       have c6 : ¬ e < b := by omega
       simp only [c1, c2, c3, c4, c5, c6, and_self, and_true, true_and, and_false, false_and, if_true, if_false, not_true, not_false_eq_true] at hF
       simp -implicitDefEqProofs (disch := omega) [-getElem?_pos, c1, c2, c3, c4, c5, c6]
       have q1 := Sub.refl l
       refine (kx l a i mid (by omega) (by omega) (by omega) (by rw [q1.len]; omega) q1.len).mono fun r σ' hr => ?_
       obtain ⟨rfl, rfl⟩ := hr
       simp -implicitDefEqProofs (disch := omega) [-getElem?_pos, c1, c2, c3, c4, c5, c6]
       subst hF
       exact .finS _ ⟨_, tk⟩ ⟨rfl, rfl⟩ (.refl _) (low_set2 (cellsI_low hpl))
     ·by_cases g4 : e < b
      ·have c1 : ¬ i < m := by omega
       have c2 : m < e := by omega
       have c3 : ¬ a < i := by omega
       have c4 : i < mid := by omega
       have c5 : ¬ mid < e := by omega
       have c6 : e < b := by omega
       simp only [c1, c2, c3, c4, c5, c6, and_self, and_true, true_and, and_false, false_and, if_true, if_false, not_true, not_false_eq_true] at hF
       simp -implicitDefEqProofs (disch := omega) [-getElem?_pos, c1, c2, c3, c4, c5, c6]
       subst hF
       exact .finS _ ⟨_, tk⟩ ⟨rfl, rfl⟩ (.refl _) (low_set2 (cellsI_low hpl))
      ·have c1 : ¬ i < m := by omega
       have c2 : m < e := by omega
       have c3 : ¬ a < i := by omega
       have c4 : i < mid := by omega
       have c5 : ¬ mid < e := by omega
       have c6 : ¬ e < b := by omega
       simp only [c1, c2, c3, c4, c5, c6, and_self, and_true, true_and, and_false, false_and, if_true, if_false, not_true, not_false_eq_true] at hF
       simp -implicitDefEqProofs (disch := omega) [-getElem?_pos, c1, c2, c3, c4, c5, c6]
       subst hF
       exact .finS _ ⟨_, tk⟩ ⟨rfl, rfl⟩ (.refl _) (low_set2 (cellsI_low hpl))
    ·by_cases g3 : a < i
     ·by_cases g4 : e < b
      ·have c1 : ¬ i < m := by omega
       have c2 : ¬ m < e := by omega
       have c3 : a < i := by omega
       have c4 : ¬ i < mid := by omega
       have c5 : ¬ mid < e := by omega
       have c6 : e < b := by omega
       simp only [c1, c2, c3, c4, c5, c6, and_self, and_true, true_and, and_false, false_and, if_true, if_false, not_true, not_false_eq_true] at hF
       simp -implicitDefEqProofs (disch := omega) [-getElem?_pos, c1, c2, c3, c4, c5, c6]
       subst hF
       exact .finS _ ⟨_, tk⟩ ⟨rfl, rfl⟩ (.refl _) (low_set2 (cellsI_low hpl))
      ·have c1 : ¬ i < m := by omega
       have c2 : ¬ m < e := by omega
       have c3 : a < i := by omega
       have c4 : ¬ i < mid := by omega
       have c5 : ¬ mid < e := by omega
       have c6 : ¬ e < b := by omega
       simp only [c1, c2, c3, c4, c5, c6, and_self, and_true, true_and, and_false, false_and, if_true, if_false, not_true, not_false_eq_true] at hF
       simp -implicitDefEqProofs (disch := omega) [-getElem?_pos, c1, c2, c3, c4, c5, c6]
       subst hF
       exact .finS _ ⟨_, tk⟩ ⟨rfl, rfl⟩ (.refl _) (low_set2 (cellsI_low hpl))
     ·by_cases g4 : e < b
      ·have c1 : ¬ i < m := by omega
       have c2 : ¬ m < e := by omega
       have c3 : ¬ a < i := by omega
       have c4 : ¬ i < mid := by omega
       have c5 : ¬ mid < e := by omega
       have c6 : e < b := by omega
       simp only [c1, c2, c3, c4, c5, c6, and_self, and_true, true_and, and_false, false_and, if_true, if_false, not_true, not_false_eq_true] at hF
       simp -implicitDefEqProofs (disch := omega) [-getElem?_pos, c1, c2, c3, c4, c5, c6]
       subst hF
       exact .finS _ ⟨_, tk⟩ ⟨rfl, rfl⟩ (.refl _) (low_set2 (cellsI_low hpl))
      ·have c1 : ¬ i < m := by omega
       have c2 : ¬ m < e := by omega
       have c3 : ¬ a < i := by omega
       have c4 : ¬ i < mid := by omega
       have c5 : ¬ mid < e := by omega
       have c6 : ¬ e < b := by omega
       simp only [c1, c2, c3, c4, c5, c6, and_self, and_true, true_and, and_false, false_and, if_true, if_false, not_true, not_false_eq_true] at hF
       simp -implicitDefEqProofs (disch := omega) [-getElem?_pos, c1, c2, c3, c4, c5, c6]
       subst hF
       exact .finS _ ⟨_, tk⟩ ⟨rfl, rfl⟩ (.refl _) (low_set2 (cellsI_low hpl))
structure BlS where
 f : Nat
 a : Nat
 s : Nat
 l : List Itm
theorem blk_stop {n : Nat} {l : List Itm} : ∀ {f a : Nat}, ¬ a + 20 ≤ n → blkI n f a l = insS a n l
 | 0, a, _ => rfl
 | f + 1, a, h => by rw [blkI, if_neg h]
theorem rnd_stop {n : Nat} {l : List Itm} : ∀ {f s : Nat}, ¬ s < n → rndI n f s l = l
 | 0, s, _ => rfl
 | f + 1, s, h => by rw [rndI, if_neg h]
set_option maxHeartbeats 1000000 in
theorem k_Stab {o len : Nat} {c : Option Nat} {l : List Itm} {rest : List D} {fd : D} {σ : Sg} (hcmp : CmpOk fd) (ho : σ.objs[o]? = some (cellsI l rest)) (hpl : Plain rest) (hlen : len = l.length) (hL : l.length ≤ 1048576) :
  ACalls Tryz.prog 190 [.msl o 0 len (some 11) c, .v (.int .i64 len), fd] σ fun r σ' => r = .tup [] ∧ σ' = ⟨σ.objs.set o (cellsI (sortI l) rest), σ.toks⟩ := by
 refine pset ho fun os tk hl => ?_
 clear ho σ
 subst hlen
 have ki := fun (l' : List Itm) (a b : Nat) (hll : l'.length = l.length) (hb : b ≤ l'.length) (ha : a ≤ 1048576) => k_Ins (o := o) (a := a) (b := b) (len := l.length) (c := c) (l := l') (rest := rest) (fd := fd) (σ := ⟨os.set o (cellsI l' rest), tk⟩) hcmp (by simp [hl]) hpl hll.symm hb (by omega) ha
 have kx := fun (l' : List Itm) (f a m b : Nat) (hf : b - a ≤ f) (h1 : a < m) (h2 : m < b) (h3 : b ≤ l'.length) (hll : l'.length = l.length) => k_Sym (o := o) (len := l.length) (c := c) (rest := rest) hcmp hpl f a m b l' ⟨os.set o (cellsI l' rest), tk⟩ hf h1 h2 h3 hll.symm (by omega) (by simp [hl])
 simp only [List.set_set] at ki kx
 obtain ⟨F, hF⟩ : ∃ F, F = sortI l := ⟨_, rfl⟩
 rw [← hF]
 unfold sortI at hF
 generalize hn : l.length = n at *
 obtain ⟨B, hB⟩ : ∃ B, B = blkI n (n + 1) 0 l := ⟨_, rfl⟩
 rw [← hB] at hF
 have hBl : B.length = n := by rw [hB, (blkI_sub _ _ _ _).len, hn]
 refine acalls_fit Tryz.func190 (by kernel_rfl) c190 rfl (by simp [a190]) fun hf => ?_
 clear hf
 simp -implicitDefEqProofs (disch := omega) [-getElem?_pos, a190]
 refine W_loop (α := BlS) ⟨n + 1, 0, 20, l⟩ (fun x => x.f) (fun x => ⟨[(0, .msl o 0 n (some 11) c), (1, .v (.int .i64 n)), (2, fd), (6, .v (.int .i64 20)), (7, .v (.int .i64 x.a)), (8, .v (.int .i64 ((x.a : Int) + 20)))], ⟨os.set o (cellsI x.l rest), tk⟩⟩)
  (fun x => B = blkI n x.f x.a x.l ∧ n < x.a + 20 * x.f ∧ x.l.length = n ∧ x.a ≤ n) (.eq (by simp)) ⟨hB, by dsimp only; omega, hn, Nat.zero_le _⟩ fun ⟨f, a, s, l'⟩ ⟨he, hf, hll, ha⟩ => ?_
 dsimp only at he hf hll ha ⊢
 simp -implicitDefEqProofs (disch := omega) [-getElem?_pos]
 refine .mk (fun h => ?_) fun h => ?_
 ·obtain ⟨f, rfl⟩ : ∃ f', f = f' + 1 := ⟨f - 1, by omega⟩
  rw [blkI, if_pos (by omega)] at he
  have k1 := ki l' a (a + 20) hll (by omega) (by omega)
  have h20 : ((a + 20 : Nat) : Int) = (a : Int) + 20 := by omega
  rw [h20] at k1
  simp -implicitDefEqProofs (disch := omega) [-getElem?_pos]
  refine k1.mono fun r σ' hr => ?_
  obtain ⟨rfl, rfl⟩ := hr
  simp -implicitDefEqProofs (disch := omega) [-getElem?_pos]
  exact ⟨⟨f, a + 20, 0, insS a (a + 20) l'⟩, ⟨he, by dsimp only; omega, by dsimp only; rw [(insS_sub a (a + 20) l').len]; exact hll, by dsimp only; omega⟩, by dsimp only; omega, .eq2 rfl (by simp)⟩
 rw [blk_stop (by omega)] at he
 have k1 := ki l' a n hll (by omega) (by omega)
 rw [← he] at k1
 clear he
 simp -implicitDefEqProofs (disch := omega) [-getElem?_pos]
 refine k1.mono fun r σ' hr => ?_
 obtain ⟨rfl, rfl⟩ := hr
 simp -implicitDefEqProofs (disch := omega) [-getElem?_pos]
 refine W_loop (α := BlS) ⟨n + 1, 0, 20, B⟩ (fun x => x.f) (fun x => ⟨[(0, .msl o 0 n (some 11) c), (1, .v (.int .i64 n)), (2, fd), (6, .v (.int .i64 x.s))], ⟨os.set o (cellsI x.l rest), tk⟩⟩)
  (fun x => F = rndI n x.f x.s x.l ∧ n < x.s + x.f ∧ x.l.length = n ∧ 20 ≤ x.s) (.eq (by simp)) ⟨hF, by dsimp only; omega, hBl, Nat.le_refl _⟩ fun ⟨f, a0, s, l2⟩ ⟨he, hf, hll2, hs⟩ => ?_
 dsimp only at he hf hll2 hs ⊢
 simp -implicitDefEqProofs (disch := omega) [-getElem?_pos]
 refine .mk (fun h2 => ?_) fun h2 => ?_
 rotate_left
 ·rw [rnd_stop (by omega)] at he
  subst he
  simp -implicitDefEqProofs (disch := omega) [-getElem?_pos]
  exact .finS _ ⟨_, tk⟩ ⟨rfl, rfl⟩ (.refl _) (low_set2 (cellsI_low hpl))
 obtain ⟨f, rfl⟩ : ∃ f', f = f' + 1 := ⟨f - 1, by omega⟩
 rw [rndI, if_pos (by omega)] at he
 obtain ⟨G, hG⟩ : ∃ G, G = mrgI n s (n + 1) 0 l2 := ⟨_, rfl⟩
 rw [← hG] at he
 have hGl : G.length = n := by rw [hG, (mrgI_sub _ _ _ _ _).len, hll2]
 simp -implicitDefEqProofs (disch := omega) [-getElem?_pos]
 refine W_loop (α := BlS) ⟨n + 1, 0, 0, l2⟩ (fun x => x.f) (fun x => ⟨[(0, .msl o 0 n (some 11) c), (1, .v (.int .i64 n)), (2, fd), (6, .v (.int .i64 s)), (7, .v (.int .i64 x.a)), (8, .v (.int .i64 ((x.a : Int) + 2 * s)))], ⟨os.set o (cellsI x.l rest), tk⟩⟩)
  (fun x => G = mrgI n s x.f x.a x.l ∧ n < x.a + x.f ∧ x.l.length = n ∧ x.a ≤ n) (.eq (by simp)) ⟨hG, by dsimp only; omega, hll2, Nat.zero_le _⟩ fun ⟨g, a, z, l3⟩ ⟨he3, hg, hll3, ha3⟩ => ?_
 dsimp only at he3 hg hll3 ha3 ⊢
 obtain ⟨g, rfl⟩ : ∃ g', g = g' + 1 := ⟨g - 1, by omega⟩
 rw [mrgI] at he3
 simp -implicitDefEqProofs (disch := omega) [-getElem?_pos]
 refine .mk (fun h3 => ?_) fun h3 => ?_
 ·rw [if_pos (by omega)] at he3
  have k2 := kx l3 (2 * s) a (a + s) (a + 2 * s) (by omega) (by omega) (by omega) (by omega) hll3
  have e1 : ((a + s : Nat) : Int) = (a : Int) + s := by omega
  have e2 : ((a + 2 * s : Nat) : Int) = (a : Int) + 2 * s := by omega
  rw [e1, e2] at k2
  simp -implicitDefEqProofs (disch := omega) [-getElem?_pos]
  refine k2.mono fun r σ' hr => ?_
  obtain ⟨rfl, rfl⟩ := hr
  simp -implicitDefEqProofs (disch := omega) [-getElem?_pos]
  exact ⟨⟨g, a + 2 * s, 0, symI (2 * s) a (a + s) (a + 2 * s) l3⟩, ⟨he3, by dsimp only; omega, by dsimp only; rw [(symI_sub (2 * s) a (a + s) (a + 2 * s) l3).len]; exact hll3, by dsimp only; omega⟩, by dsimp only; omega, .eq2 rfl (by simp)⟩
 rw [if_neg (by omega)] at he3
 have again : G.length = n ∧ n < s * 2 + f := ⟨hGl, by omega⟩
 simp -implicitDefEqProofs (disch := omega) [-getElem?_pos]
 refine .mk (fun h4 => ?_) fun h4 => ?_
 ·rw [if_pos (by omega)] at he3
  have k2 := kx l3 (n - a) a (a + s) n (by omega) (by omega) (by omega) (by omega) hll3
  have e1 : ((a + s : Nat) : Int) = (a : Int) + s := by omega
  rw [e1, ← he3] at k2
  simp -implicitDefEqProofs (disch := omega) [-getElem?_pos]
  refine k2.mono fun r σ' hr => ?_
  obtain ⟨rfl, rfl⟩ := hr
  simp -implicitDefEqProofs (disch := omega) [-getElem?_pos]
  exact ⟨⟨f, 0, s * 2, G⟩, ⟨he, again.2, hGl, by dsimp only; omega⟩, by dsimp only; omega, .eq2 rfl (by simp)⟩
 ·rw [if_neg (by omega)] at he3
  subst he3
  simp -implicitDefEqProofs (disch := omega) [-getElem?_pos]
  exact ⟨⟨f, 0, s * 2, _⟩, ⟨he, again.2, hGl, by dsimp only; omega⟩, by dsimp only; omega, .eq2 rfl (by simp)⟩
end Go.Proofs.YtpdeaekmgljeaaaGreatDoor
namespace Go.Proofs.YtpdeaekmgljeaaaGreatDoor
open Go.Shelf
def cmpLays_ren : Go.Shelf.Ren := ⟨fun | 106 => 163 | 213 => 191 | 265 => 201 | n => n, fun | 9 => 9 | 3 => 3 | n => n, fun | n => n⟩
theorem cmpLays : Go.Proofs.Lays.n106 Tryz.prog cmpLays_ren := {
 mixed := by kernel_rfl
 f106 := Tryz.func163.trans (congrArg some (by kernel_rfl))
 f213 := Tryz.func191.trans (congrArg some (by kernel_rfl))
 f265 := Tryz.func201.trans (congrArg some (by kernel_rfl))
 t3 := Tryz.underlying3
 a3 := Tryz.isAgg3
 z3 := Tryz.sizeOf3
 v3 := Tryz.zeroValue3
 t9 := Tryz.underlying9
 a9 := Tryz.isAgg9
 z9 := Tryz.sizeOf9
 v9 := Tryz.zeroValue9 }
end Go.Proofs.YtpdeaekmgljeaaaGreatDoor
namespace Go.Proofs.YtpdeaekmgljeaaaGreatDoor
open Go Go.Abs
theorem k_Compare {a b : Str} {σ : Sg} : ACalls Tryz.prog 163 [.v (.str a), .v (.str b)] σ fun r σ' => r = .v (.int .i64 (Lib.compareBytes a b)) ∧ σ' = σ := by
 refine ⟨⟨_, Tryz.func163, by kernel_rfl, by kernel_rfl⟩, fun m w us hI hl hr => ?_⟩
 match us, hl with
 | [u1, u2], _ =>
  have h1 := (hr 0 _ _ rfl rfl).v_inv
  have h2 := (hr 1 _ _ rfl rfl).v_inv
  cases h1 with
  | str _ _ =>
  cases h2 with
  | str _ _ =>
  refine (Go.Proofs.Any.strings_Compare cmpLays ⟨a.toArray⟩ ⟨b.toArray⟩ w).mono fun e w' ⟨he, hw⟩ => ?_
  subst hw
  refine ⟨_, _, σ, m, he, ⟨rfl, rfl⟩, hI, .refl _ _, .v _ _ (.int _ _ ?_)⟩
  have : ∀ a b : Str, -1 ≤ Lib.compareBytes a b ∧ Lib.compareBytes a b ≤ 1 := by
   intro a
   induction a with
   | nil => intro b; cases b <;> simp [Lib.compareBytes]
   | cons x a ih =>
    intro b
    cases b with
    | nil => simp [Lib.compareBytes]
    | cons y b =>
     simp only [Lib.compareBytes]
     have := ih b
     split
     ·omega
     ·split <;> omega
  have := this a b
  exact ⟨by show -9223372036854775808 ≤ Lib.compareBytes a b; omega, by show Lib.compareBytes a b ≤ 9223372036854775807; omega⟩
theorem cmp_ok : CmpOk (.v (.fn 162)) := by
 intro x y σ
 rw [WCall_fn]
 have kc := fun σ => k_Compare (a := x.key) (b := y.key) (σ := σ)
 unfold celI
 obtain ⟨p, key, own, e⟩ := x
 obtain ⟨p2, key2, own2, e2⟩ := y
 cases e with
 | mk k q n s t ls ns l =>
 cases e2 with
 | mk k9 q9 n9 s9 t9 ls9 ns9 l9 =>
 unfold celE
 dsimp only at *
 refine acalls_fit Tryz.func162 (by kernel_rfl) c162 rfl (by simp [a162]) fun hf => ?_
 clear hf
 simp -implicitDefEqProofs (disch := omega) [-getElem?_pos, a162]
 refine (kc _).then fun r hr => ?_
 subst hr
 simp -implicitDefEqProofs (disch := omega) [-getElem?_pos]
 exact .fin _ ⟨rfl, rfl⟩ (.refl _)
theorem k_SortSt {o len : Nat} {c : Option Nat} {l : List Itm} {rest : List D} {σ : Sg} (ho : σ.objs[o]? = some (cellsI l rest)) (hpl : Plain rest) (hlen : len = l.length) (hL : l.length ≤ 1048576) :
  ACalls Tryz.prog 161 [.msl o 0 len (some 11) c, .v (.fn 162)] σ fun r σ' => r = .tup [] ∧ σ' = ⟨σ.objs.set o (cellsI (sortI l) rest), σ.toks⟩ := by
 refine pset ho fun os tk hl => ?_
 clear ho σ
 have k1 := k_Stab (o := o) (len := len) (c := c) (l := l) (rest := rest) (fd := .v (.fn 162)) (σ := ⟨os.set o (cellsI l rest), tk⟩) cmp_ok (by simp [hl]) hpl hlen hL
 simp only [List.set_set] at k1
 generalize sortI l = S at *
 refine acalls_fit Tryz.func161 (by kernel_rfl) c161 rfl (by simp [a161]) fun hf => ?_
 clear hf
 simp -implicitDefEqProofs (disch := omega) [-getElem?_pos, a161]
 refine k1.mono fun r σ' hr => ?_
 obtain ⟨rfl, rfl⟩ := hr
 simp -implicitDefEqProofs (disch := omega) [-getElem?_pos]
 exact .finS _ ⟨_, tk⟩ ⟨rfl, rfl⟩ (.refl _) (low_set2 (cellsI_low hpl))
theorem k_InsNil {fd : D} {σ : Sg} : ACalls Tryz.prog 199 [.v .snil, .v (.int .i64 0), .v (.int .i64 0), fd] σ fun r σ' => r = .tup [] ∧ σ' = σ := by
 refine acalls_fit Tryz.func199 (by kernel_rfl) c199W rfl (by simp [a199W]) fun hf => ?_
 clear hf
 simp -implicitDefEqProofs (disch := omega) [-getElem?_pos, a199W]
 refine W_loop (α := Nat) 0 (fun i => i) (fun i => ⟨[(2, .v (.int .i64 0)), (8, .v (.int .i64 1))], σ⟩) (fun i => True) (.eq (by simp)) trivial fun i _ => ?_
 simp -implicitDefEqProofs (disch := omega) [-getElem?_pos]
 exact .fin _ ⟨rfl, rfl⟩ (.refl _)
theorem k_StabNil {fd : D} {σ : Sg} : ACalls Tryz.prog 190 [.v .snil, .v (.int .i64 0), fd] σ fun r σ' => r = .tup [] ∧ σ' = σ := by
 refine acalls_fit Tryz.func190 (by kernel_rfl) c190 rfl (by simp [a190]) fun hf => ?_
 clear hf
 simp -implicitDefEqProofs (disch := omega) [-getElem?_pos, a190]
 refine W_loop (α := Nat) 0 (fun i => i) (fun i => ⟨[(0, .v .snil), (1, .v (.int .i64 0)), (2, fd), (6, .v (.int .i64 20)), (7, .v (.int .i64 0)), (8, .v (.int .i64 20))], σ⟩) (fun i => True) (.eq (by simp)) trivial fun i _ => ?_
 simp -implicitDefEqProofs (disch := omega) [-getElem?_pos]
 refine k_InsNil.then fun r hr => ?_
 subst hr
 simp -implicitDefEqProofs (disch := omega) [-getElem?_pos]
 refine W_loop (α := Nat) 0 (fun i => i) (fun i => ⟨[(1, .v (.int .i64 0)), (6, .v (.int .i64 20))], σ⟩) (fun i => True) (.eq (by simp)) trivial fun i _ => ?_
 simp -implicitDefEqProofs (disch := omega) [-getElem?_pos]
 exact .fin _ ⟨rfl, rfl⟩ (.refl _)
theorem k_SortNil {fd : D} {σ : Sg} : ACalls Tryz.prog 161 [.v .snil, fd] σ fun r σ' => r = .tup [] ∧ σ' = σ := by
 refine acalls_fit Tryz.func161 (by kernel_rfl) c161 rfl (by simp [a161]) fun hf => ?_
 clear hf
 simp -implicitDefEqProofs (disch := omega) [-getElem?_pos, a161]
 refine k_StabNil.then fun r hr => ?_
 subst hr
 simp -implicitDefEqProofs (disch := omega) [-getElem?_pos]
 exact .fin _ ⟨rfl, rfl⟩ (.refl _)
theorem Weak.dropQ {os ys xs zs : List Ob} {p : Nat} {X Y : Ob} {tk ts : List Nat} {env env' : List (Nat × D)} (hz : zs = ys ++ xs) (hY : ∀ n k, Y.low n k) (hys : ∀ ob ∈ ys, ob.low (os.length + ys.length) (tk ++ ts).length) (h : EnvEq env env') (l : EnvLow (os.length + ys.length) (tk ++ ts).length env') :
  Weak ⟨os.set p X, tk⟩ ⟨env, ⟨os.set p Y ++ zs, tk ++ ts⟩⟩ ⟨env', ⟨os.set p Y ++ ys, tk ++ ts⟩⟩ := by
 subst hz
 have hl : (os.set p Y ++ ys).length = os.length + ys.length := by simp
 have := Weak.drop (B := ⟨os.set p X, tk⟩) (os := os.set p Y ++ ys) (xs := xs) (ts := tk ++ ts) (ts' := []) (env := env) (env' := env') (by simp) (by simp) (fun ob hm => ?_) (by rw [hl]; exact h.ok l)
 ·simpa using this
 ·rcases List.mem_append.1 hm with hm | hm
  ·exact low_set2 (hY _ _) ob hm
  ·rw [hl]; exact .inr (hys ob hm)
theorem k_Order {o len : Nat} {c : Option Nat} {l : List Itm} {rest : List D} {σ : Sg} (ho : σ.objs[o]? = some (cellsI l rest)) (hpl : Plain rest) (hlen : len = l.length) (hL : l.length ≤ 1048576) :
  ACalls Tryz.prog 129 [.msl o 0 len (some 11) c] σ fun r σ' => r = .tup [.v (.sl none false ((sortI l).map fun y => .str y.key)), .v (.sl none false ((sortI l).map fun y => .str y.own)), .v (.sl (some 8) false ((sortI l).map fun y => encE y.e))] ∧ σ' = ⟨σ.objs.set o (cellsI (sortI l) rest), σ.toks⟩ := by
 refine pset ho fun os tk hl => ?_
 clear ho σ
 have k1 := k_SortSt (o := o) (len := len) (c := c) (l := l) (rest := rest) (σ := ⟨os.set o (cellsI l rest), tk⟩) (by simp [hl]) hpl hlen hL
 simp only [List.set_set] at k1
 have hS : (sortI l).length = len := by rw [(sortI_sub l).len, hlen]
 have hlL : len ≤ 1048576 := by omega
 generalize sortI l = S at *
 clear hlen
 subst hS
 refine acalls_fit Tryz.func129 (by kernel_rfl) c129 rfl (by simp [a129]) fun hf => ?_
 clear hf
 simp -implicitDefEqProofs (disch := omega) [-getElem?_pos, a129]
 refine k1.mono fun r σ' hr => ?_
 obtain ⟨rfl, rfl⟩ := hr
 simp -implicitDefEqProofs (disch := omega) [-getElem?_pos]
 refine W_loop (α := Nat) 0 (fun i => S.length - i) (fun i => ⟨[(5, .tsl tk.length none ((S.map fun y => .str y.key).take i)), (6, .tsl (tk.length + 1) none ((S.map fun y => .str y.own).take i)), (7, .tsl (tk.length + 2) (some 8) ((S.map fun y => encE y.e).take i)), (12, .msl o 0 S.length (some 11) c), (13, .v (.int .i64 S.length)), (14, .v (.int .i64 i))], ⟨os.set o (cellsI S rest), tk ++ [i, i, i]⟩⟩)
  (fun i => i ≤ S.length) ?_ (Nat.zero_le _) fun i hi => ?_
 ·refine .trans (b := ⟨[(5, .tsl tk.length none []), (6, .v .snil), (7, .v .snil), (12, .msl o 0 S.length (some 11) c), (13, .v (.int .i64 S.length)), (14, .v (.int .i64 0))], _⟩) (.tok (i := 5) (sh := none) (by simp) (by simp)) ?_
  refine .trans (b := ⟨[(5, .tsl tk.length none []), (6, .tsl (tk.length + 1) none []), (7, .v .snil), (12, .msl o 0 S.length (some 11) c), (13, .v (.int .i64 S.length)), (14, .v (.int .i64 0))], _⟩) (.tok (i := 6) (sh := none) (by simp [Sg.tadd]) (by simp)) ?_
  refine .trans (b := ⟨[(5, .tsl tk.length none []), (6, .tsl (tk.length + 1) none []), (7, .tsl (tk.length + 2) (some 8) []), (12, .msl o 0 S.length (some 11) c), (13, .v (.int .i64 S.length)), (14, .v (.int .i64 0))], _⟩) (.tok (i := 7) (sh := some 8) (by simp [Sg.tadd]) (by simp)) ?_
  exact .eq2 (by simp [Sg.tadd]) (by simp)
 ·simp -implicitDefEqProofs (disch := omega) [-getElem?_pos]
  refine .mk (fun h => ?_) fun h => ?_
  ·obtain ⟨x, hx⟩ : ∃ x, S[i]? = some x := ⟨_, List.getElem?_eq_getElem (by omega)⟩
   have hr := rows_take (rest := rest) hx
   have tk1 : ∀ (f : Itm → V), (S.map f).take (i + 1) = (S.map f).take i ++ [f x] := fun f => by rw [List.take_add_one, List.getElem?_map, hx]; simp
   have t1 := tk1 fun y => .str y.key
   have t2 := tk1 fun y => .str y.own
   have t3 := tk1 fun y => encE y.e
   have hlt : (S.take i).length = i := by rw [List.length_take]; omega
   obtain ⟨p, key, own, e⟩ := x
   cases e with
   | mk k q n s t ls ns l =>
   simp only [encE_mk (k := k)] at t3
   have hc : celI ⟨p, key, own, .mk k q n s t ls ns l⟩ = [.int .i64 p, .str key, .str own, .int .i64 k, .int .i64 q, .int .i64 n, .str s, .str t, .sl none false (ls.map .str), .sl none false (ns.map .str), .sl (some 8) false (l.map encE)] := rfl
   rw [hc] at hr
   simp -implicitDefEqProofs (disch := omega) [-getElem?_pos, wcells, hr, V.one, hlt]
   repeat (first | (refine ⟨(by omega : _ ≤ _), ?_⟩) | (refine ⟨(by omega : _ < _), ?_⟩))
   refine ⟨i + 1, by omega, by dsimp only; omega, ?_⟩
   refine .trans (b := ⟨[(5, .tsl tk.length none ((S.map fun y => .str y.key).take (i + 1))), (6, .tsl (tk.length + 1) none ((S.map fun y => .str y.own).take (i + 1))), (7, .tsl (tk.length + 2) (some 8) ((S.map fun y => encE y.e).take (i + 1))), (12, .msl o 0 S.length (some 11) c), (13, .v (.int .i64 S.length)), (14, .v (.int .i64 ((i : Int) + 1)))], ⟨os.set o (cellsI S rest) ++ [], tk ++ [i + 1, i + 1, i + 1]⟩⟩) ?_ (.eq2 (by simp) (by simp))
   refine Weak.dropQ (ys := []) rfl (fun n k => cellsI_low hpl) (fun ob h => by cases h) ?_ ?_
   ·simp [t1, t2, t3]
   ·simp
    omega
  ·obtain rfl : i = S.length := by omega
   have hT : ∀ f : Itm → V, List.take S.length (List.map f S) = List.map f S := fun f => List.take_of_length_le (by simp)
   simp -implicitDefEqProofs (disch := omega) [-getElem?_pos, hT]
   refine .finS _ ⟨_, tk⟩ ⟨rfl, rfl⟩ (.tup3 .tsl .tsl .tsl) (low_set2 (cellsI_low hpl))
def a130W : AFun := ⟨36,[.tmp 2],(.seq (.reg [2] [⟨some 2,none,.mv (.c .snil)⟩]) (.seq (.reg [3] [⟨some 3,none,.mv (.c (.int .i64 0))⟩]) (.seq (.seq (.reg [9,10,11] [⟨some 9,none,.mv (.t 0)⟩,⟨some 10,none,.len .sl (.t 9)⟩,⟨some 11,none,.mv (.c (.int .i64 0))⟩]) (.block 0 (.loop (.seq (.reg [12] [⟨some 12,none,.bin .lss .other false (.t 11) (.t 10)⟩]) (.seq (.cond (.t 12) .skip (.exit 0)) (.seq (.block 1 (.seq (.reg [5] [⟨some 13,none,.iaddr none (.t 9) (.t 11)⟩,⟨some 14,none,.load none (.t 13)⟩,⟨some 5,none,.mv (.t 14)⟩]) (.seq (.reg [3] [⟨some 15,none,.mv (.t 3)⟩,⟨some 16,none,.mv (.t 5)⟩,⟨some 17,none,.len .sl (.t 16)⟩,⟨some 18,none,.bin .add .other false (.t 15) (.t 17)⟩,⟨some 3,none,.mv (.t 18)⟩]) (.seq (.reg [20] [⟨some 19,none,.mv (.t 3)⟩,⟨some 20,none,.bin .lss .other true (.t 19) (.c (.int .i64 0))⟩]) (.cond (.t 20) (.reg [] [⟨some 21,none,.mkif 9 (.c (.str [108,101,110,32,111,117,116,32,111,102,32,114,97,110,103,101]))⟩,⟨none,none,.ext .stop []⟩]) .skip))))) (.reg [11] [⟨some 22,none,.bin .add .other true (.t 11) (.c (.int .i64 1))⟩,⟨some 11,none,.mv (.t 22)⟩]))))))) (.seq (.reg [6] [⟨some 23,none,.mv (.t 3)⟩,⟨some 24,none,.call (.c (.fn 164)) [.c .snil,.t 23]⟩,⟨some 6,none,.mv (.t 24)⟩]) (.seq (.seq (.reg [25,26,27] [⟨some 25,none,.mv (.t 0)⟩,⟨some 26,none,.len .sl (.t 25)⟩,⟨some 27,none,.mv (.c (.int .i64 0))⟩]) (.block 2 (.loop (.seq (.reg [28] [⟨some 28,none,.bin .lss .other false (.t 27) (.t 26)⟩]) (.seq (.cond (.t 28) .skip (.exit 2)) (.seq (.block 3 (.seq (.reg [8] [⟨some 29,none,.iaddr none (.t 25) (.t 27)⟩,⟨some 30,none,.load none (.t 29)⟩,⟨some 8,none,.mv (.t 30)⟩]) (.reg [6] [⟨some 31,none,.mv (.t 6)⟩,⟨some 32,none,.mv (.t 8)⟩,⟨some 33,none,.ext (.appm (some 8) 128) [.t 31,.t 32]⟩,⟨some 6,none,.mv (.t 33)⟩]))) (.reg [27] [⟨some 34,none,.bin .add .other true (.t 27) (.c (.int .i64 1))⟩,⟨some 27,none,.mv (.t 34)⟩]))))))) (.seq (.reg [2] [⟨some 35,none,.mv (.t 6)⟩,⟨some 2,none,.mv (.t 35)⟩]) .ret))))))⟩
theorem c130W : compF Tryz.prog [0, 2, 3, 5, 6, 8, 9, 10, 11, 12, 20, 25, 26, 27, 28] Tryz.f130 [33] = some a130W := by kernel_rfl
def ItsOk (σ : Sg) (hd : D) (l : List Itm) : Prop := (hd = .v .snil ∧ l = []) ∨ ∃ o c rest, hd = .msl o 0 l.length (some 11) (some c) ∧ σ.objs[o]? = some (cellsI l rest) ∧ Plain rest ∧ l.length ≤ c ∧ rest.length = (c - l.length) * 11 ∧ l ≠ []
def ItsAt (b : Nat) (σ : Sg) (hd : D) (l : List Itm) : Prop := (hd = .v .snil ∧ l = []) ∨ ∃ o c rest, hd = .msl o 0 l.length (some 11) (some c) ∧ b ≤ o ∧ σ.objs[o]? = some (cellsI l rest) ∧ Plain rest ∧ l.length ≤ c ∧ rest.length = (c - l.length) * 11 ∧ l ≠ []
theorem ItsAt.ok {b : Nat} {σ : Sg} {hd : D} {l : List Itm} (h : ItsAt b σ hd l) : ItsOk σ hd l := by
 rcases h with h | ⟨o, c, rest, h1, _, h3⟩
 ·exact .inl h
 ·exact .inr ⟨o, c, rest, h1, h3⟩
theorem k_KeyIs (F : Nat) (hF : F = 128 ∨ F = 211) {y : Itm} {key : Str} {cs : List D} {xo : Nat} {σ : Sg} (hx : σ.objs[xo]? = some (.cells cs)) (hk : cs[1]? = some (.v (.str key))) :
  ACalls Tryz.prog F [.v (.agg (celI y)), .ptr xo 0] σ fun r σ' => r = .v (.bool (decide (y.key = key))) ∧ σ' = σ := by
 unfold celI
 obtain ⟨p, k0, own, e⟩ := y
 cases e with
 | mk k q n s t ls ns l =>
 unfold celE
 dsimp only
 have hxl := (List.getElem?_eq_some_iff.1 hx).1
 have hg : ∀ r, (σ.objs ++ r)[xo]? = some (.cells cs) := fun r => by rw [List.getElem?_append_left hxl]; exact hx
 rcases hF with rfl | rfl
 ·skip
  refine acalls_fit Tryz.func128 (by kernel_rfl) c128 rfl (by simp [a128]) fun hf => ?_
  clear hf
  simp -implicitDefEqProofs (disch := omega) [-getElem?_pos, a128, hg, hk]
  exact .fin (.v (.bool (k0 == key))) ⟨by rw [beq_sd], rfl⟩ (.refl _)
 ·skip
  refine acalls_fit Tryz.func211 (by kernel_rfl) c211 rfl (by simp [a211]) fun hf => ?_
  clear hf
  simp -implicitDefEqProofs (disch := omega) [-getElem?_pos, a211, hg, hk]
  exact .fin (.v (.bool (k0 == key))) ⟨by rw [beq_sd], rfl⟩ (.refl _)
theorem k_IndexI {o : Nat} {c : Option Nat} {l : List Itm} {rest : List D} {fd : D} {q : Itm → Bool} {σ : Sg} (ho : σ.objs[o]? = some (cellsI l rest)) (hL : l.length ≤ 1048576) (hp : ∀ y ∈ l, WCall Tryz.prog fd [.v (.agg (celI y))] σ fun r σ' => r = .v (.bool (q y)) ∧ σ' = σ) :
  ACalls Tryz.prog 160 [.msl o 0 l.length (some 11) c, fd] σ fun r σ' => r = .v (.int .i64 ((l.findIdx? q).elim (-1) fun i => (i : Int))) ∧ σ' = σ := by
 refine acalls_fit Tryz.func160 (by kernel_rfl) c160 rfl (by simp [a160]) fun hf => ?_
 clear hf
 simp -implicitDefEqProofs (disch := omega) [-getElem?_pos, a160]
 refine W_loop (α := Nat) 0 (fun i => l.length - i) (fun i => ⟨[(0, .msl o 0 l.length (some 11) c), (1, fd), (7, .v (.int .i64 l.length)), (8, .v (.int .i64 i))], σ⟩) (fun i => i ≤ l.length ∧ l.findIdx? q = ((l.drop i).findIdx? q).map fun k => k + i)
  (.eq (by simp)) ⟨by omega, by simp⟩ fun i ⟨hi, he⟩ => ?_
 simp -implicitDefEqProofs (disch := omega) [-getElem?_pos]
 refine .mk (fun h => ?_) fun h => ?_
 ·obtain ⟨x, hx⟩ : ∃ x, l[i]? = some x := ⟨_, List.getElem?_eq_getElem (by omega)⟩
  simp -implicitDefEqProofs (disch := omega) [-getElem?_pos, ho, wcells, rows_take hx, allV_v]
  repeat (first | (refine ⟨(by omega : _ ≤ _), ?_⟩) | (refine ⟨(by omega : _ < _), ?_⟩))
  refine (hp x (List.mem_of_getElem? hx)).then fun r hr => ?_
  subst hr
  have hdc := drop_cons hx
  rw [hdc, List.findIdx?_cons] at he
  cases hq : q x with
  | true =>
   rw [if_pos hq] at he
   simp -implicitDefEqProofs (disch := omega) [-getElem?_pos]
   refine .fin _ ⟨?_, rfl⟩ (.refl _)
   rw [he]
   simp
  | false =>
   rw [if_neg (by simp [hq])] at he
   simp -implicitDefEqProofs (disch := omega) [-getElem?_pos]
   refine ⟨i + 1, ⟨by omega, ?_⟩, by dsimp only; omega, .eq (by simp)⟩
   rw [he]
   simp only [Option.map_map]
   congr 1
   funext k
   simp only [Function.comp]
   omega
 ·simp -implicitDefEqProofs (disch := omega) [-getElem?_pos]
  refine .fin _ ⟨?_, rfl⟩ (.refl _)
  rw [he, List.drop_eq_nil_of_le (by omega)]
  rfl
theorem k_HasI (F : Nat) (hF : F = 128 ∨ F = 211) {hd : D} {l : List Itm} {key : Str} {cs : List D} {xo : Nat} {σ : Sg} (hI : ItsOk σ hd l) (hL : l.length ≤ 1048576) (hx : σ.objs[xo]? = some (.cells cs)) (hk : cs[1]? = some (.v (.str key))) :
  ACalls Tryz.prog 127 [hd, .fn F [.ptr xo 0]] σ fun r σ' => r = .v (.bool (hasKey l key)) ∧ σ' = σ := by
 rcases hI with ⟨rfl, rfl⟩ | ⟨o, c, rest, rfl, ho, hpl, _⟩
 ·have k0 : ACalls Tryz.prog 160 [.v .snil, .fn F [.ptr xo 0]] σ fun r σ' => r = .v (.int .i64 (-1)) ∧ σ' = σ := by
   refine acalls_fit Tryz.func160 (by kernel_rfl) c160 rfl (by simp [a160]) fun hf => ?_
   clear hf
   simp -implicitDefEqProofs (disch := omega) [-getElem?_pos, a160]
   refine W_loop (α := Nat) 0 (fun i => i) (fun i => ⟨[(7, .v (.int .i64 0)), (8, .v (.int .i64 0))], σ⟩) (fun i => True) (.eq (by simp)) trivial fun i _ => ?_
   simp -implicitDefEqProofs (disch := omega) [-getElem?_pos]
   exact .fin _ ⟨rfl, rfl⟩ (.refl _)
  refine acalls_fit Tryz.func127 (by kernel_rfl) c127 rfl (by simp [a127]) fun hf => ?_
  clear hf
  simp -implicitDefEqProofs (disch := omega) [-getElem?_pos, a127]
  refine k0.then fun r hr => ?_
  subst hr
  simp -implicitDefEqProofs (disch := omega) [-getElem?_pos]
  exact .fin _ ⟨rfl, rfl⟩ (.refl _)
 ·have k1 := k_IndexI (o := o) (c := some c) (l := l) (rest := rest) (fd := .fn F [.ptr xo 0]) (q := fun y => decide (y.key = key)) (σ := σ) ho hL fun y _ => by
   rw [WCall_caps]
   exact k_KeyIs F hF hx hk
  unfold hasKey
  refine acalls_fit Tryz.func127 (by kernel_rfl) c127 rfl (by simp [a127]) fun hf => ?_
  clear hf
  simp -implicitDefEqProofs (disch := omega) [-getElem?_pos, a127]
  refine k1.then fun r hr => ?_
  subst hr
  simp -implicitDefEqProofs (disch := omega) [-getElem?_pos]
  refine .fin _ ⟨?_, rfl⟩ (.refl _)
  congr 2
  cases h : l.findIdx? fun y => decide (y.key = key) with
  | none =>
   have h2 := List.findIdx?_eq_none_iff.1 h
   simp
   exact fun x hx => by simpa using h2 x hx
  | some i =>
   have h2 := List.findIdx?_eq_some_iff_getElem.1 h
   obtain ⟨hlt, hq, _⟩ := h2
   simp
   exact ⟨_, List.getElem_mem hlt, by simpa using hq⟩
def rowsX (l : List Ex) : List D := (V.flat (l.map encE)).map .v
def cX (l : List Ex) (rest : List D) : List D := rowsX l ++ rest
theorem flatX_len (l : List Ex) : (V.flat (l.map encE)).length = l.length * 8 := by
 rw [V.flat_length (sh := some 8) (fun x hx => by obtain ⟨e, _, rfl⟩ := List.mem_map.1 hx; exact encE_shape e)]
 simp [shn]
theorem rowsX_len (l : List Ex) : (rowsX l).length = l.length * 8 := by rw [rowsX, List.length_map, flatX_len]
@[simp] theorem cX_len (l : List Ex) (rest : List D) : (cX l rest).length = l.length * 8 + rest.length := by rw [cX, List.length_append, rowsX_len]
theorem rowsX_app (a b : List Ex) : rowsX (a ++ b) = rowsX a ++ rowsX b := by simp [rowsX, V.flat]
theorem cX_put {l x : List Ex} {rest : List D} : List.take (l.length * 8) (cX l rest) ++ ((V.flat (x.map encE)).map .v ++ List.drop (l.length * 8 + (V.flat (x.map encE)).length) (cX l rest)) = cX (l ++ x) (rest.drop (x.length * 8)) := by
 have e := rowsX_len l
 unfold cX
 rw [← e, List.take_left, flatX_len, List.drop_length_add_append, rowsX_app, List.append_assoc]
 rfl
theorem k_GrowE {n : Nat} {σ : Sg} (hn : 0 < n) (hl : n ≤ 1048576) : ACalls Tryz.prog 164 [.v .snil, .v (.int .i64 n)] σ fun r σ' => ∃ c cs, n ≤ c ∧ n * 8 ≤ cs.length ∧ r = .msl σ.objs.length 0 0 (some 8) (some c) ∧ σ' = ⟨σ.objs ++ [.cells cs], σ.toks⟩ := by
 refine acalls_fit Tryz.func164 (by kernel_rfl) c164 rfl (by simp [a164]) fun hf => ?_
 clear hf
 simp -implicitDefEqProofs (disch := omega) [-getElem?_pos, a164]
 refine .mk (fun h => by omega) fun h => ?_
 simp -implicitDefEqProofs (disch := omega) [-getElem?_pos]
 refine .mk (fun h => ?_) fun h => by omega
 simp -implicitDefEqProofs (disch := omega) [-getElem?_pos]
 repeat refine ⟨by omega, ?_⟩
 intro hn0
 simp -implicitDefEqProofs (disch := omega) [-getElem?_pos]
 repeat refine ⟨by omega, ?_⟩
 intro c hc hm
 repeat refine ⟨by omega, ?_⟩
 have hfl : (V.flat (List.replicate n (zrow (some 8) [V.int .i64 0, V.int .i64 0, V.int .i64 0, V.str [], V.str [], V.snil, V.snil, V.snil]))).length = n * 8 := by
  rw [V.flat_length (sh := some 8) (by intro x hx; rw [List.eq_of_mem_replicate hx]; rfl)]
  simp [shn]
 exact ⟨_, _, WeakR.refl _ _ _, c, hc, _, by simp [hfl], rfl, rfl⟩
def vX (l : List Ex) : V := .sl (some 8) false (l.map encE)
def catX (L : List (List Ex)) : List Ex := L.flatten
theorem catX_take {L : List (List Ex)} {i : Nat} {x : List Ex} (h : L[i]? = some x) : catX (L.take (i + 1)) = catX (L.take i) ++ x := by
 unfold catX; rw [List.take_add_one, h]; simp
theorem catX_le {L : List (List Ex)} (i : Nat) : (catX (L.take i)).length ≤ (catX L).length := by
 unfold catX
 conv => rhs; rw [← List.take_append_drop i L, List.flatten_append, List.length_append]
 omega
structure CatS where
 i : Nat
 rest : List D
theorem k_ConcatE {L : List (List Ex)} {f : Bool} {σ : Sg} (hne : catX L ≠ []) (hl : (catX L).length ≤ 1048576) (hll : L.length ≤ 1000000) : ACalls Tryz.prog 130 [.v (.sl none f (L.map vX))] σ fun r σ' => r = .v (vX (catX L)) ∧ σ' = σ := by
 refine acalls_fit Tryz.func130 (by kernel_rfl) c130W rfl (by simp [a130W]) fun hf => ?_
 clear hf
 simp -implicitDefEqProofs (disch := omega) [-getElem?_pos, a130W]
 refine W_loop (α := Nat) 0 (fun i => L.length - i) (fun i => ⟨[(0, .v (.sl none f (L.map vX))), (3, .v (.int .i64 (catX (L.take i)).length)), (9, .v (.sl none f (L.map vX))), (10, .v (.int .i64 L.length)), (11, .v (.int .i64 i))], σ⟩) (fun i => i ≤ L.length)
  (.eq (by simp [catX])) (by omega) fun i hi => ?_
 have hfl := catX_le (L := L) i
 simp -implicitDefEqProofs (disch := omega) [-getElem?_pos]
 refine .mk (fun h => ?_) fun h => ?_
 ·simp -implicitDefEqProofs (disch := omega) [-getElem?_pos]
  repeat refine ⟨by omega, ?_⟩
  intro x hx
  have ht := catX_take hx
  have hfl2 := catX_le (L := L) (i + 1)
  have hlen : (catX (L.take (i + 1))).length = (catX (L.take i)).length + x.length := by rw [ht, List.length_append]
  unfold vX
  simp -implicitDefEqProofs (disch := omega) [-getElem?_pos]
  refine .mk (fun h => by omega) fun h => ?_
  simp -implicitDefEqProofs (disch := omega) [-getElem?_pos]
  exact ⟨i + 1, by omega, by dsimp only; omega, .eq (by simp [hlen, vX])⟩
 rw [List.take_of_length_le (l := L) (by omega)]
 have hpos : 0 < (catX L).length := List.length_pos_iff.2 hne
 simp -implicitDefEqProofs (disch := omega) [-getElem?_pos]
 refine (k_GrowE (n := (catX L).length) hpos hl).mono fun r σ' h => ?_
 obtain ⟨c, cs, hc, hcs, rfl, rfl⟩ := h
 simp -implicitDefEqProofs (disch := omega) [-getElem?_pos]
 refine W_loop (α := CatS) ⟨0, cs⟩ (fun x => L.length - x.i) (fun x => ⟨[(6, .msl σ.objs.length 0 (catX (L.take x.i)).length (some 8) (some c)), (25, .v (.sl none f (L.map vX))), (26, .v (.int .i64 L.length)), (27, .v (.int .i64 x.i))], ⟨σ.objs ++ [.cells (cX (catX (L.take x.i)) x.rest)], σ.toks⟩⟩) (fun x => x.i ≤ L.length ∧ (catX L).length * 8 ≤ (catX (L.take x.i)).length * 8 + x.rest.length)
  (.eq2 (by simp [catX, cX, rowsX, V.flat]) (by simp [catX])) ⟨by simp, by simpa [catX] using hcs⟩ fun ⟨i, rest⟩ ⟨hi, hr⟩ => ?_
 dsimp only at hi hr ⊢
 have hfl := catX_le (L := L) i
 simp -implicitDefEqProofs (disch := omega) [-getElem?_pos]
 refine .mk (fun h => ?_) fun h => ?_
 ·simp -implicitDefEqProofs (disch := omega) [-getElem?_pos]
  repeat refine ⟨by omega, ?_⟩
  intro x hx
  have ht := catX_take hx
  have hfl2 := catX_le (L := L) (i + 1)
  have hlen : (catX (L.take (i + 1))).length = (catX (L.take i)).length + x.length := by rw [ht, List.length_append]
  unfold vX
  simp -implicitDefEqProofs (disch := omega) [-getElem?_pos]
  refine .mk (fun h => ?_) fun h => absurd h (by omega)
  simp -implicitDefEqProofs (disch := omega) [-getElem?_pos, cX_put]
  refine ⟨by omega, ⟨i + 1, rest.drop (x.length * 8)⟩, ⟨by dsimp only; omega, by simp only [List.length_drop]; omega⟩, by dsimp only; omega, .eq2 ?_ (by simp [hlen, vX])⟩
  simp [ht]
 ·rw [List.take_of_length_le (l := L) (by omega)]
  simp -implicitDefEqProofs (disch := omega) [-getElem?_pos]
  have hcat : (catX L).map encE ≠ [] := fun h => hne (List.map_eq_nil_iff.1 h)
  refine .freeze ((catX L).map encE) _ ⟨rfl, rfl⟩ (by simp; rfl) (fun e => ?_) ?_ (by simp) (by intro x hx; obtain ⟨e, _, rfl⟩ := List.mem_map.1 hx; exact encE_shape e)
  ·have := congrArg List.length e
   rw [cX_len] at this
   simp only [List.length_nil] at this
   omega
  ·rw [List.drop_zero]
   have e := rowsX_len (catX L)
   have e2 : (catX L).length * shn (some 8) = (rowsX (catX L)).length := by rw [e]; rfl
   rw [e2, cX, List.take_left]
   rfl
theorem ItsAt.mono {σ τ : Sg} {b : Nat} {hd : D} {l : List Itm} (h : ItsAt b σ hd l) (hk : ∀ i ob, b ≤ i → σ.objs[i]? = some ob → τ.objs[i]? = some ob) : ItsAt b τ hd l := by
 rcases h with h | ⟨o, c, rest, h1, h0, h2, h3⟩
 ·exact .inl h
 ·exact .inr ⟨o, c, rest, h1, h0, hk o _ h0 h2, h3⟩
theorem appI {b : Nat} {σ : Sg} {hd : D} {l : List Itm} {y : Itm} {K : D → Sg → Prop} (h : ItsAt b σ hd l) (hL : l.length ≤ 1048576) (hb : b ≤ σ.objs.length)
  (hK : ∀ hd' σ', ItsAt b σ' hd' (l ++ [y]) → σ'.toks = σ.toks → (∀ i, i < b → σ'.objs[i]? = σ.objs[i]?) → b ≤ σ'.objs.length → K hd' σ') : WApmV (some 11) 168 hd [.agg (celI y)] σ K := by
 have hfl : V.flat [V.agg (celI y)] = celI y := by simp [V.flat, V.cells]
 have hrow : ∀ l : List Itm, rowsI (l ++ [y]) = rowsI l ++ (celI y).map .v := by
  intro l
  induction l with
  | nil => simp [rowsI]
  | cons x l ih => simp [rowsI, ih]
 have hjunk : ∀ n, Plain (List.replicate n D.junk) := fun n d hd => .inl (List.eq_of_mem_replicate hd)
 rcases h with ⟨rfl, rfl⟩ | ⟨o, c, rest, rfl, hbo, ho, hpl, hlc, hrl, hne⟩
 ·refine ⟨fun h => (by cases h), fun _ => ⟨by simp, fun c hc hm => ?_⟩⟩
  refine hK _ _ (.inr ⟨σ.objs.length, c, List.replicate ((c - 1) * 11) .junk, rfl, hb, ?_, hjunk _, by simpa using hc, by simp, by simp⟩) rfl (fun i hi => ?_) ?_
  ·simp only [Sg.add, hfl, cellsI, cI, List.nil_append, rowsI, List.append_nil, List.length_singleton]
   rw [List.getElem?_append_right (Nat.le_refl _), Nat.sub_self]
   rfl
  ·simp only [Sg.add]
   rw [List.getElem?_append_left (by omega)]
  ·simp only [Sg.add, List.length_append]
   omega
 ·refine ⟨rfl, ?_⟩
  unfold WApm1
  simp only [ho, cellsI]
  have hlen : (cI l rest).length = c * 11 := by rw [cI_len, hrl]; have : l.length ≤ c := hlc; omega
  refine ⟨fun hle => ⟨?_, ?_⟩, fun hgt => ⟨?_, ?_, fun c' hc' hm => ?_⟩⟩
  ·rw [hlen]; simp only [shn, List.length_singleton] at hle ⊢; omega
  ·simp only [List.length_singleton] at hle
   have hput : putAt (cI l rest) (0 + l.length * shn (some 11)) ((V.flat [V.agg (celI y)]).map .v) = cI (l ++ [y]) (rest.drop 11) := by
    unfold putAt cI
    have e : 0 + l.length * shn (some 11) = (rowsI l).length := by rw [rowsI_len]; simp [shn]
    rw [hfl, e, List.take_left, hrow, List.drop_length_add_append, List.length_map, celI_len, List.append_assoc]
   rw [hput]
   refine hK _ _ (.inr ⟨o, c, rest.drop 11, by simp, hbo, ?_, fun d hd => hpl d (List.mem_of_mem_drop hd), by simpa using hle, ?_, by simp⟩) rfl (fun i hi => ?_) ?_
   ·simp only [Sg.put]
    rw [List.getElem?_set_self (List.getElem?_eq_some_iff.1 ho).1]
    rfl
   ·simp only [List.length_drop, List.length_append, List.length_singleton]
    omega
   ·simp only [Sg.put]
    rw [List.getElem?_set_ne (by omega)]
   ·simp only [Sg.put, List.length_set]
    exact hb
  ·rw [hlen]; simp only [shn]; omega
  ·simp only [List.length_singleton]; omega
  ·have htake : ((cI l rest).drop 0).take (l.length * shn (some 11)) = rowsI l := by
    rw [List.drop_zero, cI]
    have e : l.length * shn (some 11) = (rowsI l).length := by rw [rowsI_len]; rfl
    rw [e, List.take_left]
   rw [htake, hfl]
   simp only [List.length_singleton] at hc' ⊢
   refine hK _ _ (.inr ⟨σ.objs.length, c', List.replicate ((c' - (l.length + 1)) * shn (some 11)) .junk, by simp, hb, ?_, hjunk _, by simpa using hc', by simp [shn], by simp⟩) rfl (fun i hi => ?_) ?_
   ·simp only [Sg.add]
    rw [List.getElem?_append_right (Nat.le_refl _), Nat.sub_self]
    simp only [List.getElem?_cons_zero, cellsI, cI, hrow, List.append_assoc]
   ·simp only [Sg.add]
    rw [List.getElem?_append_left (by omega)]
   ·simp only [Sg.add, List.length_append]
    omega
theorem k_OrderH {A R : List Ob} {tk : List Nat} {hd : D} {l : List Itm} (h : ItsAt A.length ⟨A ++ R, tk⟩ hd l) (hL : l.length ≤ 1048576) :
  ACalls Tryz.prog 129 [hd] ⟨A ++ R, tk⟩ fun r σ' => r = .tup [.v (.sl none false ((sortI l).map fun y => .str y.key)), .v (.sl none false ((sortI l).map fun y => .str y.own)), .v (.sl (some 8) false ((sortI l).map fun y => encE y.e))] ∧ ∃ R', σ' = ⟨A ++ R', tk⟩ := by
 rcases h with ⟨rfl, rfl⟩ | ⟨o, c, rest, rfl, hb, ho, hpl, _⟩
 ·have k0 := fun σ => k_SortNil (fd := .v (.fn 162)) (σ := σ)
  refine acalls_fit Tryz.func129 (by kernel_rfl) c129 rfl (by simp [a129]) fun hf => ?_
  clear hf
  simp -implicitDefEqProofs (disch := omega) [-getElem?_pos, a129]
  refine (k0 _).then fun r hr => ?_
  subst hr
  simp -implicitDefEqProofs (disch := omega) [-getElem?_pos]
  refine W_loop (α := Nat) 0 (fun i => i) (fun i => ⟨[(5, .v .snil), (6, .v .snil), (7, .v .snil), (13, .v (.int .i64 0)), (14, .v (.int .i64 0))], ⟨A ++ R, tk⟩⟩) (fun i => True) (.eq (by simp)) trivial fun i _ => ?_
  simp -implicitDefEqProofs (disch := omega) [-getElem?_pos]
  exact .fin _ ⟨rfl, R, rfl⟩ (.tup3 VLe.snil.d VLe.snil.d VLe.snil.d)
 ·have k1 := k_Order (o := o) (len := l.length) (c := some c) (l := l) (rest := rest) (σ := ⟨A ++ R, tk⟩) ho hpl rfl hL
  refine k1.mono fun r σ' hr => ?_
  obtain ⟨rfl, rfl⟩ := hr
  refine ⟨rfl, R.set (o - A.length) (cellsI (sortI l) rest), ?_⟩
  rw [List.set_append_right _ _ hb]
theorem k_Row {C : PC} {M g0 : Nat} {f : PF} {ops : List Str} (hf : PCt C g0 M f) (hon : On C f) (hne : ∀ s ∈ ops, s ≠ []) (hn : ops.length ≤ 100) (p : Nat) (st : PSt) (σ : Sg) (ok : OkP C st) (hM : rem C st < M) (hp : σ.objs[p]? = some (prs C st)) :
  ACalls Tryz.prog 192 [.ptr p 0, .bfn g0 (.ptr p 0), .v (vS ops)] σ fun r σ' => r = .v (encE (rowP C f ops st).e) ∧ σ' = ⟨σ.objs.set p (prs C (rowP C f ops st).st), σ.toks⟩ := by
 refine pset hp fun os tk hl => ?_
 clear hp σ
 have k1 := fun st r (ok : OkP C st) (hM : rem C st < M) => hf p st ⟨os.set p (prs C st) ++ r, tk⟩ ok hM (by simp [hl])
 have kq := fun st r (ok : OkP C st) => k_OpP (C := C) (st := st) (p := p) (ops := ops) (σ := ⟨os.set p (prs C st) ++ r, tk⟩) (by simp [hl]) ok hn
 have hlow := fun st n k => prs_low (C := C) (st := st) (n := n) (k := k)
 simp only [set_app_set hl] at k1 kq
 have k0 := fun r => k1 st r ok hM
 have ok1 := (hon st).ok ok
 have hM1 := Nat.lt_of_le_of_lt (hon st).le hM
 unfold rowP
 have hrem : rem C (f st).st < C.L.length + 1 := by
  unfold rem
  split <;> omega
 generalize (f st).e = a0 at *
 generalize (f st).st = st1 at *
 obtain ⟨F, hF⟩ : ∃ F, F = rowL C f ops (C.L.length + 1) a0 st1 := ⟨_, rfl⟩
 rw [← hF]
 cases a0 with
 | mk k0' p0 n0 s0 t0 ls0 ns0 l0 =>
 rw [encE_mk] at k0
 refine acalls_fit Tryz.func192 (by kernel_rfl) c192 rfl (by simp [a192]) fun hf => ?_
 clear hf
 simp -implicitDefEqProofs (disch := omega) [-getElem?_pos, a192]
 refine (k0 _).mono fun r σ' hr => ?_
 obtain ⟨rfl, rfl⟩ := hr
 simp -implicitDefEqProofs (disch := omega) [-getElem?_pos]
 refine (kq st1 _ ok1).mono fun r σ' hr => ?_
 obtain ⟨rfl, rfl⟩ := hr
 simp -implicitDefEqProofs (disch := omega) [-getElem?_pos]
 refine W_loop (α := PoS) ⟨C.L.length + 1, .mk k0' p0 n0 s0 t0 ls0 ns0 l0, st1⟩ (fun x => x.g) (fun x => ⟨[(0, .ptr p 0), (1, .bfn g0 (.ptr p 0)), (2, .v (vS ops)), (6, .ptr os.length 0), (7, .ptr (os.length + 1) 0), (8, .v (.str ((opP C ops x.st).getD [])))], ⟨os.set p (prs C (someP C ops x.st)) ++ [zOb, obE x.a], tk⟩⟩)
  (fun x => F = rowL C f ops x.g x.a x.st ∧ rem C x.st < x.g ∧ OkP C x.st ∧ rem C x.st < M) (.eq2 (by simp [zOb, obE_mk]) (by simp)) ⟨hF, hrem, ok1, hM1⟩ fun ⟨g, a, st⟩ ⟨hF, hrem, ok, hM⟩ => ?_
 dsimp only at hF hrem ok hM ⊢
 cases a with
 | mk k p' n s t ls ns l =>
 obtain ⟨g, rfl⟩ : ∃ g', g = g' + 1 := ⟨g - 1, by omega⟩
 rw [rowL] at hF
 unfold someP
 cases ho : opP C ops st with
 | none =>
  rw [ho] at hF
  dsimp only at hF
  subst hF
  dsimp only
  rw [encE_mk]
  simp -implicitDefEqProofs (disch := omega) [-getElem?_pos, obE_mk, zOb]
  exact .finS _ ⟨_, tk⟩ ⟨rfl, rfl⟩ (.refl _) (low_set2 (hlow _ _ _))
 | some u =>
  rw [ho] at hF
  dsimp only at hF
  have hu : u ≠ [] := hne u (List.mem_of_find?_eq_some ho)
  have hin := sees_in (op_in ho)
  have hpos := rem_pos hin
  have hra : rem C (advP st) = rem C st - 1 := rem_adv
  have k2 := fun r => k1 (advP st) r (ok.adv hin.2) (by omega)
  have ok2 := (hon (advP st)).ok (ok.adv hin.2)
  have hle2 := (hon (advP st)).le
  have hq := fun r => kq (f (advP st)).st r ok2
  generalize (f (advP st)).e = b at *
  generalize (f (advP st)).st = st2 at *
  cases b with
  | mk k9 p9 n9 s9 t9 ls9 ns9 l9 =>
  rw [encE_mk] at k2
  simp -implicitDefEqProofs (disch := omega) [-getElem?_pos, obE_mk, hu]
  refine (k2 _).mono fun r σ' hr => ?_
  obtain ⟨rfl, rfl⟩ := hr
  simp -implicitDefEqProofs (disch := omega) [-getElem?_pos]
  refine (hq _).mono fun r σ' hr => ?_
  obtain ⟨rfl, rfl⟩ := hr
  simp -implicitDefEqProofs (disch := omega) [-getElem?_pos]
  refine ⟨⟨g, opE u (.mk k p' n s t ls ns l) (.mk k9 p9 n9 s9 t9 ls9 ns9 l9), st2⟩, ⟨hF, by dsimp only; omega, ok2, by dsimp only; omega⟩, by dsimp only; omega,
   .trans (Weak.lit2 (env' := [(0, .ptr p 0), (1, .bfn g0 (.ptr p 0)), (2, .v (vS ops)), (6, .ptr os.length 0), (7, .ptr (os.length + 1) 0), (8, .v (.str ((opP C ops st2).getD [])))]) (k := 16) (p := p') (n := 0) (s := u) (t := []) (a := .mk k p' n s t ls ns l) (b := .mk k9 p9 n9 s9 t9 ls9 ns9 l9) (os.length + 1) (by simp [encE_mk]) rfl (by simp)) ?_⟩
  exact .trans (.eq2 (env' := [(0, .ptr p 0), (1, .bfn g0 (.ptr p 0)), (2, .v (vS ops)), (6, .ptr os.length 0), (7, .ptr (os.length + 1) 0), (8, .v (.str ((opP C ops st2).getD [])))]) (by simp; rfl) (by simp)) (Weak.dropP (ys := [zOb, obE (.mk 16 p' 0 u [] [] [] [.mk k p' n s t ls ns l, .mk k9 p9 n9 s9 t9 ls9 ns9 l9])]) rfl (fun n k => prs_low) low_two (by simp) (by simp; omega))
theorem ACalls.argC {P : Program} {f : Nat} {d d' e g : D} {σ : Sg} {R : D → Sg → Prop} (h : ACalls P f [e, g, d'] σ R) (hd : D.Le d d') : ACalls P f [e, g, d] σ R :=
 h.args rfl fun i a b h1 h2 => by
  match i with
  | 0 => cases h1; cases h2; exact .refl _
  | 1 => cases h1; cases h2; exact .refl _
  | 2 => cases h1; cases h2; exact hd
  | n + 3 => simp at h1
theorem ACalls.argD {P : Program} {f : Nat} {d d' e : D} {σ : Sg} {R : D → Sg → Prop} (h : ACalls P f [e, d'] σ R) (hd : D.Le d d') : ACalls P f [e, d] σ R :=
 h.args rfl fun i a b h1 h2 => by
  match i with
  | 0 => cases h1; cases h2; exact .refl _
  | 1 => cases h1; cases h2; exact hd
  | n + 2 => simp at h1
theorem k_Mul {C : PC} {M : Nat} {f : PF} (hf : PCt C 202 M (appP C f)) (hon : On C f) : PCt C 193 M (mulP C f) := by
 intro p st σ ok hM hp
 refine pset hp fun os tk hl => ?_
 clear hp σ
 have kr := fun r => k_Row (ops := [[42], [47], [35]]) hf (on_app hon) (by simp) (by simp) p st ⟨os.set p (prs C st) ++ r, tk⟩ ok hM (by simp [hl])
 have hlow := fun st n k => prs_low (C := C) (st := st) (n := n) (k := k)
 simp only [set_app_set hl] at kr
 unfold mulP
 generalize (rowP C (appP C f) [[42], [47], [35]] st).e = a at *
 generalize (rowP C (appP C f) [[42], [47], [35]] st).st = st1 at *
 cases a with
 | mk k p' n s t ls ns l =>
 rw [encE_mk] at kr ⊢
 clear hf
 refine acalls_fit Tryz.func193 (by kernel_rfl) c193 rfl (by simp [a193]) fun hf => ?_
 clear hf
 simp -implicitDefEqProofs (disch := omega) [-getElem?_pos, a193]
 refine (ACalls.argC (kr _) .lax).mono fun r σ' hr => ?_
 obtain ⟨rfl, rfl⟩ := hr
 simp -implicitDefEqProofs (disch := omega) [-getElem?_pos]
 exact .finS _ ⟨_, tk⟩ ⟨rfl, rfl⟩ (.refl _) (low_set2 (hlow _ _ _))
theorem k_Sum {C : PC} {M : Nat} {f : PF} (hf : PCt C 193 M (mulP C f)) (hon : On C f) : PCt C 165 M (sumP C f) := by
 intro p st σ ok hM hp
 refine pset hp fun os tk hl => ?_
 clear hp σ
 have kr := fun r => k_Row (ops := [[43], [45], [94]]) hf (on_mul hon) (by simp) (by simp) p st ⟨os.set p (prs C st) ++ r, tk⟩ ok hM (by simp [hl])
 have hlow := fun st n k => prs_low (C := C) (st := st) (n := n) (k := k)
 simp only [set_app_set hl] at kr
 unfold sumP
 generalize (rowP C (mulP C f) [[43], [45], [94]] st).e = a at *
 generalize (rowP C (mulP C f) [[43], [45], [94]] st).st = st1 at *
 cases a with
 | mk k p' n s t ls ns l =>
 rw [encE_mk] at kr ⊢
 clear hf
 refine acalls_fit Tryz.func165 (by kernel_rfl) c165 rfl (by simp [a165]) fun hf => ?_
 clear hf
 simp -implicitDefEqProofs (disch := omega) [-getElem?_pos, a165]
 refine (ACalls.argC (kr _) .lax).mono fun r σ' hr => ?_
 obtain ⟨rfl, rfl⟩ := hr
 simp -implicitDefEqProofs (disch := omega) [-getElem?_pos]
 exact .finS _ ⟨_, tk⟩ ⟨rfl, rfl⟩ (.refl _) (low_set2 (hlow _ _ _))
theorem k_Cmp {C : PC} {M : Nat} {f : PF} (hf : PCt C 165 M (sumP C f)) (hon : On C f) : PCt C 131 M (cmpP C f) := by
 intro p st σ ok hM hp
 refine pset hp fun os tk hl => ?_
 clear hp σ
 have k1 := fun st r (ok : OkP C st) (hM : rem C st < M) => hf p st ⟨os.set p (prs C st) ++ r, tk⟩ ok hM (by simp [hl])
 have kq := fun st r (ok : OkP C st) => k_OpP (C := C) (st := st) (p := p) (ops := [[60], [61, 61]]) (σ := ⟨os.set p (prs C st) ++ r, tk⟩) (by simp [hl]) ok (by simp)
 have hlow := fun st n k => prs_low (C := C) (st := st) (n := n) (k := k)
 simp only [set_app_set hl] at k1 kq
 have k0 := fun r => k1 st r ok hM
 have ok1 := (on_sum hon st).ok ok
 have hM1 := Nat.lt_of_le_of_lt (on_sum hon st).le hM
 unfold cmpP
 generalize sumP C f st = x at *
 obtain ⟨a, st1⟩ := x
 dsimp only at *
 have kq := fun r => kq st1 r ok1
 unfold someP at kq
 cases a with
 | mk k p' n s t ls ns l =>
 rw [encE_mk] at k0
 clear hf
 cases ho : opP C [[60], [61, 61]] st1 with
 | none =>
  simp only [ho, Option.getD_none] at kq
  dsimp only
  rw [encE_mk]
  refine acalls_fit Tryz.func131 (by kernel_rfl) c131 rfl (by simp [a131]) fun hf => ?_
  clear hf
  simp -implicitDefEqProofs (disch := omega) [-getElem?_pos, a131]
  refine (k0 _).mono fun r σ' hr => ?_
  obtain ⟨rfl, rfl⟩ := hr
  simp -implicitDefEqProofs (disch := omega) [-getElem?_pos]
  refine (ACalls.argD (kq _) .lax).mono fun r σ' hr => ?_
  obtain ⟨rfl, rfl⟩ := hr
  simp -implicitDefEqProofs (disch := omega) [-getElem?_pos]
  exact .finS _ ⟨_, tk⟩ ⟨rfl, rfl⟩ (.refl _) (low_set2 (hlow _ _ _))
 | some u =>
  simp only [ho, Option.getD_some] at kq
  have hu : u ≠ [] := by
   have := List.mem_of_find?_eq_some ho
   simp only [List.mem_cons, List.not_mem_nil, or_false] at this
   rcases this with rfl | rfl <;> simp
  have hin := sees_in (op_in ho)
  have hra : rem C (advP st1) = rem C st1 - 1 := rem_adv
  have k2 := fun r => k1 (advP st1) r (ok1.adv hin.2) (by omega)
  dsimp only
  generalize (sumP C f (advP st1)).e = b at *
  generalize (sumP C f (advP st1)).st = st2 at *
  cases b with
  | mk k9 p9 n9 s9 t9 ls9 ns9 l9 =>
  have hle := ex_le (lit2 (k := 16) (p := p') (n := 0) (s := u) (t := []) (a := .mk k p' n s t ls ns l) (b := .mk k9 p9 n9 s9 t9 ls9 ns9 l9))
  rw [encE_mk, encE_mk] at hle
  rw [encE_mk] at k2
  refine acalls_fit Tryz.func131 (by kernel_rfl) c131 rfl (by simp [a131]) fun hf => ?_
  clear hf
  simp -implicitDefEqProofs (disch := omega) [-getElem?_pos, a131]
  refine (k0 _).mono fun r σ' hr => ?_
  obtain ⟨rfl, rfl⟩ := hr
  simp -implicitDefEqProofs (disch := omega) [-getElem?_pos]
  refine (ACalls.argD (kq _) .lax).mono fun r σ' hr => ?_
  obtain ⟨rfl, rfl⟩ := hr
  simp -implicitDefEqProofs (disch := omega) [-getElem?_pos, hu]
  refine (k2 _).mono fun r σ' hr => ?_
  obtain ⟨rfl, rfl⟩ := hr
  simp -implicitDefEqProofs (disch := omega) [-getElem?_pos]
  exact .finS _ ⟨_, tk⟩ ⟨rfl, rfl⟩ hle.d (low_set2 (hlow _ _ _))
theorem k_Set {C : PC} {M : Nat} {f : PF} (hf : PCt C 131 M (cmpP C f)) (hon : On C f) : ∀ (g p : Nat) (st : PSt) (σ : Sg), rem C st < g → OkP C st → rem C st < M → σ.objs[p]? = some (prs C st) → ACalls Tryz.prog 88 [.ptr p 0] σ fun r σ' => r = .v (encE (setP C f g st).e) ∧ σ' = ⟨σ.objs.set p (prs C (setP C f g st).st), σ.toks⟩
 | 0, p, st, σ, h, _, _, _ => absurd h (Nat.not_lt_zero _)
 | g + 1, p, st, σ, hg, ok, hM, hp => by
  refine pset hp fun os tk hl => ?_
  clear hp σ
  have k1 := fun st r (ok : OkP C st) (hM : rem C st < M) => hf p st ⟨os.set p (prs C st) ++ r, tk⟩ ok hM (by simp [hl])
  have kt := fun st r (ok : OkP C st) => k_Takes (C := C) (st := st) (p := p) (s := sSet) (σ := ⟨os.set p (prs C st) ++ r, tk⟩) (by simp [hl]) ok
  have ih := fun st r (hg : rem C st < g) (ok : OkP C st) (hM : rem C st < M) => k_Set hf hon g p st ⟨os.set p (prs C st) ++ r, tk⟩ hg ok hM (by simp [hl])
  have hlow := fun st n k => prs_low (C := C) (st := st) (n := n) (k := k)
  simp only [set_app_set hl] at k1 kt ih
  have k0 := fun r => k1 st r ok hM
  have ok1 := (on_cmp hon st).ok ok
  have hle1 := (on_cmp hon st).le
  rw [setP]
  generalize cmpP C f st = x at *
  obtain ⟨a, st1⟩ := x
  dsimp only at *
  have kt := fun r => kt st1 r ok1
  unfold takeP at kt
  cases a with
  | mk k p' n s t ls ns l =>
  rw [encE_mk] at k0
  clear hf
  cases hs : sees C st1 0 sSet with
  | false =>
   rw [if_neg (by simp)]
   simp only [hs, Bool.false_eq_true, if_false] at kt
   dsimp only
   rw [encE_mk]
   refine acalls_fit Tryz.func88 (by kernel_rfl) c88 rfl (by simp [a88]) fun hf => ?_
   clear hf
   simp -implicitDefEqProofs (disch := omega) [-getElem?_pos, a88]
   refine (k0 _).mono fun r σ' hr => ?_
   obtain ⟨rfl, rfl⟩ := hr
   simp -implicitDefEqProofs (disch := omega) [-getElem?_pos]
   refine (kt _).mono fun r σ' hr => ?_
   obtain ⟨rfl, rfl⟩ := hr
   simp -implicitDefEqProofs (disch := omega) [-getElem?_pos]
   exact .finS _ ⟨_, tk⟩ ⟨rfl, rfl⟩ (.refl _) (low_set2 (hlow _ _ _))
  | true =>
   rw [if_pos rfl]
   simp only [hs, if_true] at kt
   have hin := sees_in hs
   have hpos := rem_pos hin
   have hra : rem C (advP st1) = rem C st1 - 1 := rem_adv
   have k2 := fun r => ih (advP st1) r (by omega) (ok1.adv hin.2) (by omega)
   dsimp only
   generalize (setP C f g (advP st1)).e = b at *
   generalize (setP C f g (advP st1)).st = st2 at *
   cases b with
   | mk k9 p9 n9 s9 t9 ls9 ns9 l9 =>
   have hle := ex_le (lit2 (k := 19) (p := p') (n := 0) (s := []) (t := []) (a := .mk k p' n s t ls ns l) (b := .mk k9 p9 n9 s9 t9 ls9 ns9 l9))
   rw [encE_mk, encE_mk] at hle
   rw [encE_mk] at k2
   refine acalls_fit Tryz.func88 (by kernel_rfl) c88 rfl (by simp [a88]) fun hf => ?_
   clear hf
   simp -implicitDefEqProofs (disch := omega) [-getElem?_pos, a88]
   refine (k0 _).mono fun r σ' hr => ?_
   obtain ⟨rfl, rfl⟩ := hr
   simp -implicitDefEqProofs (disch := omega) [-getElem?_pos]
   refine (kt _).mono fun r σ' hr => ?_
   obtain ⟨rfl, rfl⟩ := hr
   simp -implicitDefEqProofs (disch := omega) [-getElem?_pos]
   refine (k2 _).mono fun r σ' hr => ?_
   obtain ⟨rfl, rfl⟩ := hr
   simp -implicitDefEqProofs (disch := omega) [-getElem?_pos]
   exact .finS _ ⟨_, tk⟩ ⟨rfl, rfl⟩ hle.d (low_set2 (hlow _ _ _))
def headsT : List (Str × Int) := [(wRef, 17), (wPrint, 20), (wShow, 21), ([33], 18)]
def headsE : List (V × D) := headsT.map fun q => (.str q.1, .v (.int .i64 q.2))
def hfind (s : Str) : Option Int := headsT.lookup s
theorem find_head (s : Str) : mfind (.str s) headsE = (hfind s).map fun k => .v (.int .i64 k) := by
 unfold headsE hfind
 generalize headsT = l
 induction l with
 | nil => rfl
 | cons q l ih =>
  obtain ⟨a, b⟩ := q
  by_cases h : s = a
  ·subst h
   simp [mfind, keq]
  ·have hb : (s == a) = false := by simp [h]
   simp only [List.map_cons, List.lookup_cons, hb]
   rw [← ih]
   simp [mfind, keq, h]
theorem heads_ok : keysOk .str headsE = true := by rfl
theorem k_Heads {σ : Sg} : ACalls Tryz.prog 208 [] σ fun r σ' => r = .map σ.objs.length ∧ σ' = ⟨σ.objs ++ [.map headsE], σ.toks⟩ := by
 refine acalls_fit Tryz.func208 (by kernel_rfl) c208 rfl (by simp [a208]) fun hf => ?_
 clear hf
 simp -implicitDefEqProofs (disch := omega) [-getElem?_pos, a208]
 exact ⟨_, _, WeakR.refl _ _ _, rfl, rfl⟩
theorem head_of (t : Tk) : headP t = if t.k = 3 then some 13 else if t.k = 2 ∨ t.k = 6 then hfind t.s else none := by
 unfold headP hfind headsT
 by_cases h3 : t.k = 3
 ·rw [if_pos h3, if_pos h3]
 rw [if_neg h3, if_neg h3]
 by_cases h2 : t.k = 2 ∨ t.k = 6
 ·rw [if_pos h2, if_pos h2]
  by_cases a1 : t.s = wRef
  ·simp [a1, List.lookup_cons]
  by_cases a2 : t.s = wPrint
  ·simp [a1, a2, List.lookup_cons]
  by_cases a3 : t.s = wShow
  ·simp [a1, a2, a3, List.lookup_cons]
  by_cases a4 : t.s = [33]
  ·simp [a1, a2, a3, a4, List.lookup_cons]
  ·have b1 : (t.s == wRef) = false := by simp [a1]
   have b2 : (t.s == wPrint) = false := by simp [a2]
   have b3 : (t.s == wShow) = false := by simp [a3]
   have b4 : (t.s == [33]) = false := by simp [a4]
   rw [if_neg a1, if_neg a2, if_neg a3, if_neg a4]
   simp only [List.lookup_cons, b1, b2, b3, b4, List.lookup_nil]
 ·rw [if_neg h2, if_neg h2]
theorem hfind_13 (s : Str) : hfind s ≠ some 13 := by
 intro h
 unfold hfind headsT at h
 obtain ⟨l1, l2, he, _⟩ := List.lookup_eq_some_iff.1 h
 have : (s, (13 : Int)) ∈ ([(wRef, 17), (wPrint, 20), (wShow, 21), ([33], 18)] : List (Str × Int)) := by rw [he]; simp
 simp at this
theorem k_Pre {C : PC} {M : Nat} {f : PF} (hq : PCt C 206 M (postP C f)) (hon : On C f) : PCt C 204 M (preP C f) := by
 intro p st σ ok hM hp
 refine pset hp fun os tk hl => ?_
 clear hp σ
 have k2 := fun st r tk (ok : OkP C st) (hM : rem C st < M) => hq p st ⟨os.set p (prs C st) ++ r, tk⟩ ok hM (by simp [hl])
 have kp := fun r => k_Place (C := C) (st := st) (p := p) (σ := ⟨os.set p (prs C st) ++ r, tk⟩) (by simp [hl]) ok
 have ka := fun r => k_Ahead (C := C) (st := st) (p := p) (k := 0) (n := 0) (σ := ⟨os.set p (prs C st) ++ r, tk⟩) (by simp [hl]) ok rfl (by omega)
 have kh := fun σ => k_Heads (σ := σ)
 have hfd := find_head
 have hlow := fun st n k => prs_low (C := C) (st := st) (n := n) (k := k)
 simp only [set_app_set hl] at k2
 clear hq
 unfold preP
 have hin := ahd_in (C := C) (st := st)
 rw [head_of]
 generalize ahd C st 0 = t at *
 generalize placeP C st = q at *
 unfold encK at ka
 have hadv : ∀ E, Ob.cells [.v (.sl (some 4) false (C.L.map encK)), .v (.int .i64 ((st.i : Int) + 1)), .v (.int .i64 C.E), E] = Ob.cells [.v (.sl (some 4) false (C.L.map encK)), .v (.int .i64 (st.i + 1 : Nat)), .v (.int .i64 C.E), E] := fun E => by simp
 by_cases h3 : t.k = 3
 ·rw [if_pos h3]
  dsimp only
  rw [if_pos rfl]
  have hin2 := hin (by rw [h3]; decide)
  have hra : rem C (advP st) = rem C st - 1 := rem_adv
  have k2 := fun r tk => k2 (advP st) r tk (ok.adv hin2.2) (by omega)
  generalize (postP C f (advP st)).e = b at *
  generalize (postP C f (advP st)).st = st2 at *
  have hl2 := hlow st2
  generalize prs C st2 = P2 at *
  have hle := ex_le (lit1 (k := 13) (p := q) (n := 0) (s := t.s) (t := []) (a := b))
  obtain ⟨hi, hL⟩ := ok
  unfold prs advP at *
  dsimp only at *
  generalize errP st.bad = E at *
  rw [← hadv E] at k2
  cases b with
  | mk k9 p9 n9 s9 t9 ls9 ns9 l9 =>
  rw [encE_mk] at k2
  rw [encE_mk (k := k9)] at hle
  refine acalls_fit Tryz.func204 (by kernel_rfl) c204 rfl (by simp [a204]) fun hf => ?_
  clear hf
  simp -implicitDefEqProofs (disch := omega) [-getElem?_pos, a204]
  refine (kp _).then fun r hr => ?_
  subst hr
  simp -implicitDefEqProofs (disch := omega) [-getElem?_pos]
  refine (ka _).then fun r hr => ?_
  subst hr
  simp -implicitDefEqProofs (disch := omega) [-getElem?_pos]
  refine (kh _).mono fun r σ' hr => ?_
  obtain ⟨rfl, rfl⟩ := hr
  simp -implicitDefEqProofs (disch := omega) [-getElem?_pos, hfd, heads_ok, h3]
  refine (k2 _ _).mono fun r σ' hr => ?_
  obtain ⟨rfl, rfl⟩ := hr
  simp -implicitDefEqProofs (disch := omega) [-getElem?_pos]
  exact .finS _ ⟨_, tk⟩ ⟨rfl, rfl⟩ hle.d (low_set2 (hl2 _ _))
 rw [if_neg h3]
 have k3 := fun r tk => k2 st r tk ok hM
 by_cases h2 : t.k = 2 ∨ t.k = 6
 ·rw [if_pos h2]
  cases hk : hfind t.s with
  | some kk =>
   dsimp only
   have hk13 : ¬ kk = 13 := by
    intro h
    rw [h] at hk
    exact absurd hk (hfind_13 t.s)
   rw [if_neg hk13]
   have hin2 := hin (by rcases h2 with h | h <;> rw [h] <;> decide)
   clear k3
   have hra : rem C (advP st) = rem C st - 1 := rem_adv
   have k2 := fun r tk => k2 (advP st) r tk (ok.adv hin2.2) (by omega)
   generalize (postP C f (advP st)).e = b at *
   generalize (postP C f (advP st)).st = st2 at *
   have hl2 := hlow st2
   generalize prs C st2 = P2 at *
   have hle := ex_le (lit1 (k := kk) (p := q) (n := 0) (s := []) (t := []) (a := b))
   obtain ⟨hi, hL⟩ := ok
   unfold prs advP at *
   dsimp only at *
   generalize errP st.bad = E at *
   rw [← hadv E] at k2
   cases b with
   | mk k9 p9 n9 s9 t9 ls9 ns9 l9 =>
   rw [encE_mk] at k2
   rw [encE_mk (k := k9)] at hle
   refine acalls_fit Tryz.func204 (by kernel_rfl) c204 rfl (by simp [a204]) fun hf => ?_
   clear hf
   simp -implicitDefEqProofs (disch := omega) [-getElem?_pos, a204]
   refine (kp _).then fun r hr => ?_
   subst hr
   simp -implicitDefEqProofs (disch := omega) [-getElem?_pos]
   refine (ka _).then fun r hr => ?_
   subst hr
   simp -implicitDefEqProofs (disch := omega) [-getElem?_pos]
   refine (kh _).mono fun r σ' hr => ?_
   obtain ⟨rfl, rfl⟩ := hr
   rcases h2 with h2 | h2
   ·simp -implicitDefEqProofs (disch := omega) [-getElem?_pos, hfd, heads_ok, h3, h2, hk]
    refine (k2 _ _).mono fun r σ' hr => ?_
    obtain ⟨rfl, rfl⟩ := hr
    simp -implicitDefEqProofs (disch := omega) [-getElem?_pos]
    exact .finS _ ⟨_, tk⟩ ⟨rfl, rfl⟩ hle.d (low_set2 (hl2 _ _))
   have h22 : ¬ t.k = 2 := by omega
   simp -implicitDefEqProofs (disch := omega) [-getElem?_pos, hfd, heads_ok, h3, h2, h22, hk]
   refine (k2 _ _).mono fun r σ' hr => ?_
   obtain ⟨rfl, rfl⟩ := hr
   simp -implicitDefEqProofs (disch := omega) [-getElem?_pos]
   exact .finS _ ⟨_, tk⟩ ⟨rfl, rfl⟩ hle.d (low_set2 (hl2 _ _))
  | none =>
   clear k2
   generalize postP C f st = x at *
   obtain ⟨b, st2⟩ := x
   dsimp only at *
   cases b with
   | mk k9 p9 n9 s9 t9 ls9 ns9 l9 =>
   rw [encE_mk] at k3 ⊢
   refine acalls_fit Tryz.func204 (by kernel_rfl) c204 rfl (by simp [a204]) fun hf => ?_
   clear hf
   simp -implicitDefEqProofs (disch := omega) [-getElem?_pos, a204]
   refine (kp _).then fun r hr => ?_
   subst hr
   simp -implicitDefEqProofs (disch := omega) [-getElem?_pos]
   refine (ka _).then fun r hr => ?_
   subst hr
   simp -implicitDefEqProofs (disch := omega) [-getElem?_pos]
   refine (kh _).mono fun r σ' hr => ?_
   obtain ⟨rfl, rfl⟩ := hr
   rcases h2 with h2 | h2
   ·simp -implicitDefEqProofs (disch := omega) [-getElem?_pos, hfd, heads_ok, h3, h2, hk]
    refine (k3 _ _).mono fun r σ' hr => ?_
    obtain ⟨rfl, rfl⟩ := hr
    simp -implicitDefEqProofs (disch := omega) [-getElem?_pos]
    exact .finS _ ⟨_, tk⟩ ⟨rfl, rfl⟩ (.refl _) (low_set2 (hlow _ _ _))
   have h22 : ¬ t.k = 2 := by omega
   simp -implicitDefEqProofs (disch := omega) [-getElem?_pos, hfd, heads_ok, h3, h2, h22, hk]
   refine (k3 _ _).mono fun r σ' hr => ?_
   obtain ⟨rfl, rfl⟩ := hr
   simp -implicitDefEqProofs (disch := omega) [-getElem?_pos]
   exact .finS _ ⟨_, tk⟩ ⟨rfl, rfl⟩ (.refl _) (low_set2 (hlow _ _ _))
 ·rw [if_neg h2]
  have h22 : ¬ t.k = 2 := fun h => h2 (.inl h)
  have h26 : ¬ t.k = 6 := fun h => h2 (.inr h)
  clear k2
  generalize postP C f st = x at *
  obtain ⟨b, st2⟩ := x
  dsimp only at *
  cases b with
  | mk k9 p9 n9 s9 t9 ls9 ns9 l9 =>
  rw [encE_mk] at k3 ⊢
  refine acalls_fit Tryz.func204 (by kernel_rfl) c204 rfl (by simp [a204]) fun hf => ?_
  clear hf
  simp -implicitDefEqProofs (disch := omega) [-getElem?_pos, a204]
  refine (kp _).then fun r hr => ?_
  subst hr
  simp -implicitDefEqProofs (disch := omega) [-getElem?_pos]
  refine (ka _).then fun r hr => ?_
  subst hr
  simp -implicitDefEqProofs (disch := omega) [-getElem?_pos]
  refine (kh _).mono fun r σ' hr => ?_
  obtain ⟨rfl, rfl⟩ := hr
  cases hk : hfind t.s with
  | none =>
   simp -implicitDefEqProofs (disch := omega) [-getElem?_pos, hfd, heads_ok, h3, h22, h26, hk]
   refine (k3 _ _).mono fun r σ' hr => ?_
   obtain ⟨rfl, rfl⟩ := hr
   simp -implicitDefEqProofs (disch := omega) [-getElem?_pos]
   exact .finS _ ⟨_, tk⟩ ⟨rfl, rfl⟩ (.refl _) (low_set2 (hlow _ _ _))
  | some kk =>
   simp -implicitDefEqProofs (disch := omega) [-getElem?_pos, hfd, heads_ok, h3, h22, h26, hk]
   refine (k3 _ _).mono fun r σ' hr => ?_
   obtain ⟨rfl, rfl⟩ := hr
   simp -implicitDefEqProofs (disch := omega) [-getElem?_pos]
   exact .finS _ ⟨_, tk⟩ ⟨rfl, rfl⟩ (.refl _) (low_set2 (hlow _ _ _))
end Go.Proofs.YtpdeaekmgljeaaaGreatDoor
