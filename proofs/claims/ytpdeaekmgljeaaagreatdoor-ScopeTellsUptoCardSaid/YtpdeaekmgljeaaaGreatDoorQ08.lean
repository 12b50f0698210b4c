/-
  Scope, plainly: what is closed may be with numbers too. (Own work.)
-/
import Derived.Test.YtpdeaekmgljeaaaGreatDoorQ07
import Derived.Test.YtpdeaekmgljeaaaGreatDoorCards
import Derived.Test.YtpdeaekmgljeaaaGreatDoorTie
import Derived.Deep.DeepHandedRow
import Derived.Lib.LaidTab
import Derived.LaidHandle
import Derived.LaidLaws
set_option linter.unusedVariables false
set_option linter.unusedSimpArgs false
namespace Go.Proofs.YtpdeaekmgljeaaaGreatDoor
open Go Go.Abs
theorem dec_len : ∀ (k u : Nat), u < 10 ^ (k + 1) → (Lib.decDigits u).length ≤ k + 1
  | 0, u, h => by
    rw [Lib.decDigits, dif_pos (by omega)]
    simp
  | k + 1, u, h => by
    rw [Lib.decDigits]
    split
    · simp
    · have := dec_len k (u / 10) (by rw [Nat.pow_succ] at h; omega)
      rw [List.length_append]
      simp only [List.length_singleton]
      omega
theorem takeWhile_all {q : UInt8 → Bool} {s : Str} (h : ∀ x ∈ s, q x = true) : s.takeWhile q = s := by
  induction s with
  | nil => rfl
  | cons c r ih => rw [List.takeWhile_cons, if_pos (h c (by simp)), ih fun x hx => h x (by simp [hx])]
theorem isL_low {c : UInt8} {r : Str} (hc : lowB c = true) (ha : ∀ x ∈ c :: r, ldB x = true) (hw : (c :: r) ∉ wordsL) (hl : (c :: r).length ≤ 20) : isL (c :: r) 1 = true := by
  refine isR_imp (.inl rfl) ?_
  have hp : passS ldB (c :: r) 0 = c :: r := by unfold passS; rw [List.drop_zero]; exact takeWhile_all ha
  have hsp : spanE ldB (c :: r) 0 = (c :: r).length := by
    have : passS ldB (c :: r) 0 = ((c :: r).drop 0).takeWhile ldB := rfl
    unfold spanE
    rw [← this, hp, Nat.zero_add]
  unfold isR
  dsimp only
  rw [if_neg (by omega)]
  have ho : oneL (c :: r) 0 c = .tok ⟨1, 0, 0, c :: r⟩ (c :: r).length := by
    unfold oneL
    rw [if_pos hc, hp, if_neg hw]
    unfold nameN
    rw [hp, if_neg (by omega), hsp]
  rw [ho]
  simp
theorem vN_name {i : Nat} (hi : i < 10 ^ 19) : isL (vN i) 1 = true := by
  have hd := (dec_ok i).2.1
  have hl := dec_len 18 i hi
  obtain ⟨⟨c, r, hc, _, _⟩, _⟩ := dec_ok i
  have he : vN i = 118 :: Lib.decDigits i := by unfold vN; rw [itoa_nat]; rfl
  rw [he]
  refine isL_low rfl (fun x hx => ?_) (fun hw => ?_) (by simp only [List.length_cons]; omega)
  · rcases List.mem_cons.1 hx with rfl | hx
    · rfl
    · unfold ldB
      rw [hd x hx, Bool.or_true]
  · rw [hc] at hw
    simp [wordsL] at hw
theorem ownB_mk {k p n : Int} {s t : Str} {ls ns : List Str} {l : List Ex} : ownB (.mk k p n s t ls ns l) = if (l.length : Int) ≠ partsN k ls.length (decide (t ≠ [])) ∨ n < 0 ∨ (0 < n ∧ k ≠ 1) ∨ textB k s = false then false
    else if k = 8 then (ls.all fun s => isL s 1) && (riseL ls && decide (ls.length ≤ 30)) && decide (ns.length = 0) && decide (t = [])
    else if k = 14 then (ls.all fun s => isL s 3) && (riseL ls && decide (ls.length ≤ 30)) && decide (ns.length = ls.length) && (ns.all fun s => isL s 1) && (decide (t = []) || isL t 1) && decide (1 < l.length)
    else if k = 7 then isL t 1 && decide (ls.length + ns.length = 0)
    else decide (t = []) && decide (ls.length + ns.length = 0) := rfl
theorem own_sound {k p n : Int} {s t : Str} {ls ns : List Str} {l : List Ex} (h : ownB (.mk k p n s t ls ns l) = true) : (k = 14 → ns.length = ls.length) ∧ (k = 4 → l.length ≤ 1) ∧ (k = 7 → l.length ≤ 2) := by
  rw [ownB_mk] at h
  split at h
  · cases h
  rename_i hc
  simp only [not_or] at hc
  obtain ⟨hp, _⟩ := hc
  have hp : (l.length : Int) = partsN k ls.length (decide (t ≠ [])) := Classical.byContradiction hp
  refine ⟨fun h14 => ?_, fun h4 => ?_, fun h7 => ?_⟩
  · subst h14
    rw [if_neg (by decide), if_pos rfl] at h
    simp only [Bool.and_eq_true, decide_eq_true_eq] at h
    exact h.1.1.1.2
  · subst h4
    have : partsN 4 ls.length (decide (t ≠ [])) = 1 := rfl
    omega
  · subst h7
    have : partsN 7 ls.length (decide (t ≠ [])) = 2 := rfl
    omega
theorem fine_sound (e : Ex) : fineB e = true → sound e := by
  refine Ex.ind (P := fun e => fineB e = true → sound e) (fun k p n s t ls ns l ih => ?_) e
  intro h
  rw [fineB, Bool.and_eq_true] at h
  rw [sound]
  refine ⟨own_sound h.1, ?_⟩
  have hL : ∀ l : List Ex, (∀ x ∈ l, fineB x = true → sound x) → fineLB l = true → soundL l := by
    intro l
    induction l with
    | nil => intro _ _; simp [soundL]
    | cons x l ihl =>
      intro hx h
      rw [fineLB, Bool.and_eq_true] at h
      rw [soundL]
      exact ⟨hx x (by simp) h.1, ihl (fun y hy => hx y (by simp [hy])) h.2⟩
  exact hL l ih h.2
theorem goN_nodes (e : Ex) : ∀ (env : List Frm) (r : Rn), nds (goN e env r).e = nds e ∧ dep (goN e env r).e = dep e := by
  refine Ex.ind (P := fun e => ∀ (env : List Frm) (r : Rn), nds (goN e env r).e = nds e ∧ dep (goN e env r).e = dep e) (fun k p n s t ls ns l ih => ?_) e
  intro env r
  rw [goN]
  dsimp only
  generalize headN k p s t ns env r = h
  have hL : ∀ (l : List Ex) (i : Nat) (r : Rn), (∀ x ∈ l, ∀ (env : List Frm) (r : Rn), nds (goN x env r).e = nds x ∧ dep (goN x env r).e = dep x) → ndsL (goL k h env i l r).l = ndsL l ∧ depL (goL k h env i l r).l = depL l := by
    intro l
    induction l with
    | nil => intro i r _; exact ⟨rfl, rfl⟩
    | cons x l ihl =>
      intro i r hx
      have h1 := hx x (by simp) (innerN k h env i) r
      have h2 := ihl (i + 1) (goN x (innerN k h env i) r).r fun y hy => hx y (by simp [hy])
      simp only [goL, ndsL, depL, h1, h2, and_self]
  have h1 := hL l 0 h.r ih
  simp only [nds, dep, h1, and_self]
def asOk (env : List Frm) : Prop := ∀ f ∈ env, isL f.2 1 = true
theorem asOk_app {a b : List Frm} (ha : asOk a) (hb : asOk b) : asOk (a ++ b) := fun f hf => (List.mem_append.1 hf).elim (ha f) (hb f)
theorem asOk_one {f : Frm} (h : isL f.2 1 = true) : asOk [f] := fun g hg => by rw [List.mem_singleton.1 hg]; exact h
theorem namesR_ok : ∀ (ns : List Str) (r : Rn), r.old.length + ns.length < 10 ^ 19 → asOk (namesR ns r).1
  | [], r, h => fun f hf => by cases hf
  | x :: l, r, h => by
    simp only [List.length_cons] at h
    have h1 := namesR_ok l (bindR x r) (by simp only [bindR, List.length_append, List.length_singleton]; omega)
    intro f hf
    simp only [namesR, List.mem_cons] at hf
    rcases hf with rfl | hf
    · exact vN_name (by omega)
    · exact h1 f hf
theorem findF_ok {env : List Frm} {s : Str} (h : asOk env) (hf : (findF env s).2 = true) : isL (findF env s).1 1 = true := by
  unfold findF at hf ⊢
  cases hx : env.reverse.find? fun x => decide (x.1 = s) with
  | none => rw [hx] at hf; cases hf
  | some x =>
    have h2 := List.mem_of_find?_eq_some hx
    exact h x (by simpa using h2)
theorem inner_ok {k p : Int} {s t : Str} {ns : List Str} {env : List Frm} {r : Rn} {i : Nat} (he : asOk env) (hl : r.old.length + ns.length + 2 < 10 ^ 19) (hi : k = 14 → t = [] → i ≤ ns.length) : asOk (innerN k (headN k p s t ns env r) env i) := by
  have hv : ∀ i, i ≤ r.old.length + ns.length + 1 → isL (vN i) 1 = true := fun i h => vN_name (by omega)
  have hnl := namesR_len ns r
  by_cases h4 : k = 4 ∨ k = 6
  · have e : (headN k p s t ns env r).fs = (s, asR r) := by
      unfold headN
      rw [if_neg (by omega), if_pos h4]
    unfold innerN
    split
    · rw [e]; exact asOk_app he (asOk_one (hv _ (by omega)))
    · rw [if_neg (by omega), if_neg (by omega), if_neg (by omega)]
      exact he
  by_cases h7 : k = 7
  · subst h7
    have e : (headN 7 p s t ns env r).fs = (s, asR r) ∧ (headN 7 p s t ns env r).ft = (t, asR (bindR s r)) := ⟨rfl, rfl⟩
    have a1 := asOk_one (f := (s, asR r)) (hv r.old.length (by omega))
    have a2 := asOk_one (f := (t, asR (bindR s r))) (hv (r.old.length + 1) (by omega) |> fun h => by rw [asR_vN]; simpa [bindR] using h)
    unfold innerN
    split
    · rw [e.1]; exact asOk_app he a1
    · rw [if_pos rfl, e.1, e.2]; exact asOk_app he (asOk_app a1 a2)
  by_cases h14 : k = 14
  · subst h14
    have hfn : (headN 14 p s t ns env r).fn = (namesR ns r).1 := by unfold headN; simp; split <;> rfl
    unfold innerN
    rw [if_neg (by omega), if_neg (by omega), hfn, hnl.1]
    split
    · rename_i hc
      obtain ⟨x, hx⟩ : ∃ x, (namesR ns r).1[i - 1]? = some x := ⟨_, List.getElem?_eq_getElem (by omega)⟩
      rw [hx]
      exact asOk_app he (asOk_one (namesR_ok ns r (by omega) x (List.mem_of_getElem? hx)))
    · split
      · rename_i hc hd
        by_cases ht : t = []
        · have := hi rfl ht
          omega
        · have e : (headN 14 p s t ns env r).ft = (t, asR (namesR ns r).2) := by unfold headN; simp [ht]
          rw [e]
          refine asOk_app he (asOk_one (hv _ ?_))
          rw [hnl.2.1]
          omega
      · exact he
  unfold innerN
  rw [if_neg (by omega), if_neg (by omega), if_neg (by omega), if_neg (by omega)]
  exact he
theorem head_own_ok {k p n : Int} {s t : Str} {ls ns : List Str} {l l' : List Ex} {env : List Frm} {r : Rn} (h : ownB (.mk k p n s t ls ns l) = true) (hlen : l'.length = l.length) (hl : r.old.length + ns.length + 2 < 10 ^ 19) (he : asOk env) (hf : k = 3 → (findF env s).2 = true) :
    ownB (.mk k p n (headN k p s t ns env r).s (headN k p s t ns env r).t ls (headN k p s t ns env r).ns l') = true := by
  have hv : ∀ i, i ≤ r.old.length + ns.length + 1 → isL (vN i) 1 = true := fun i h => vN_name (by omega)
  have hnl := namesR_len ns r
  have hall : (((namesR ns r).1.map (·.2)).all fun s => isL s 1) = true := by
    rw [namesR_as]
    simp only [List.all_eq_true, vNs, List.mem_map, List.mem_range'_1]
    rintro x ⟨i, hi, rfl⟩
    exact hv i (by omega)
  have htx : ∀ (k : Int) (s' : Str), (k = 3 ∨ k = 4 ∨ k = 6 ∨ k = 7) → textB k s' = isL s' 1 := by
    rintro k s' (rfl | rfl | rfl | rfl) <;> rfl
  by_cases h3 : k = 3
  · subst h3
    have e : (headN 3 p s t ns env r).s = (findF env s).1 ∧ (headN 3 p s t ns env r).t = t ∧ (headN 3 p s t ns env r).ns = [] := ⟨rfl, rfl, rfl⟩
    rw [e.1, e.2.1, e.2.2]
    have hn := findF_ok he (hf rfl)
    rw [ownB_mk] at h ⊢
    rw [htx 3 _ (.inl rfl)] at h ⊢
    rw [hlen, hn]
    simp only [if_neg (show ¬ (3 : Int) = 8 by decide), if_neg (show ¬ (3 : Int) = 14 by decide), if_neg (show ¬ (3 : Int) = 7 by decide)] at h ⊢
    split at h
    · cases h
    rename_i hc
    simp only [not_or] at hc
    rw [if_neg (by simp only [not_or]; exact ⟨hc.1, hc.2.1, hc.2.2.1, by simp⟩)]
    simp only [Bool.and_eq_true, decide_eq_true_eq] at h ⊢
    exact ⟨h.1, by have := h.2; simp only [List.length_nil]; omega⟩
  by_cases h4 : k = 4 ∨ k = 6
  · have e : (headN k p s t ns env r).s = asR r ∧ (headN k p s t ns env r).t = t ∧ (headN k p s t ns env r).ns = [] := by
      unfold headN
      rw [if_neg (by omega), if_pos h4]
      exact ⟨rfl, rfl, rfl⟩
    rw [e.1, e.2.1, e.2.2]
    have hn := hv r.old.length (by omega)
    rw [ownB_mk] at h ⊢
    rw [htx k _ (by omega)] at h ⊢
    rw [hlen, asR_vN, hn]
    simp only [if_neg (show ¬ k = 8 by omega), if_neg (show ¬ k = 14 by omega), if_neg (show ¬ k = 7 by omega)] at h ⊢
    split at h
    · cases h
    rename_i hc
    simp only [not_or] at hc
    rw [if_neg (by simp only [not_or]; exact ⟨hc.1, hc.2.1, hc.2.2.1, by simp⟩)]
    simp only [Bool.and_eq_true, decide_eq_true_eq] at h ⊢
    exact ⟨h.1, by have := h.2; simp only [List.length_nil]; omega⟩
  by_cases h7 : k = 7
  · subst h7
    have e : (headN 7 p s t ns env r).s = asR r ∧ (headN 7 p s t ns env r).t = asR (bindR s r) ∧ (headN 7 p s t ns env r).ns = [] := ⟨rfl, rfl, rfl⟩
    rw [e.1, e.2.1, e.2.2]
    have hn := hv r.old.length (by omega)
    have hn2 : isL (asR (bindR s r)) 1 = true := by
      rw [asR_vN]
      refine hv _ ?_
      simp only [bindR, List.length_append, List.length_singleton]
      omega
    have hpt : ∀ (t : Str), partsN 7 ls.length (decide (t ≠ [])) = 2 := fun _ => rfl
    rw [ownB_mk] at h ⊢
    rw [htx 7 _ (by simp), hpt] at h ⊢
    rw [hlen, asR_vN r, hn]
    simp only [if_neg (show ¬ (7 : Int) = 8 by decide), if_neg (show ¬ (7 : Int) = 14 by decide), if_pos] at h ⊢
    split at h
    · cases h
    rename_i hc
    simp only [not_or] at hc
    rw [if_neg (by simp only [not_or]; exact ⟨hc.1, hc.2.1, hc.2.2.1, by simp⟩)]
    simp only [Bool.and_eq_true, decide_eq_true_eq] at h ⊢
    exact ⟨hn2, by have := h.2; simp only [List.length_nil]; omega⟩
  by_cases h14 : k = 14
  · subst h14
    have hns : (headN 14 p s t ns env r).ns = (namesR ns r).1.map (·.2) := by unfold headN; simp; split <;> rfl
    have hs : (headN 14 p s t ns env r).s = s := by unfold headN; simp; split <;> rfl
    rw [hns, hs]
    have hto : ∀ t' : Str, (decide (t' ≠ []) = decide (t ≠ [])) → (decide (t' = []) || isL t' 1) = true → ownB (.mk 14 p n s t' ls ((namesR ns r).1.map (·.2)) l') = true := by
      intro t' h1 h2
      rw [ownB_mk] at h ⊢
      simp only [if_neg (show ¬ (14 : Int) = 8 by decide), if_pos] at h ⊢
      rw [hlen, h1, hall, h2, List.length_map, hnl.1]
      split at h
      · cases h
      rename_i hc
      rw [if_neg hc]
      simp only [Bool.and_eq_true, decide_eq_true_eq] at h ⊢
      obtain ⟨⟨⟨⟨⟨q1, q2⟩, q3⟩, q4⟩, q5⟩, q6⟩ := h
      exact ⟨⟨⟨⟨⟨q1, q2⟩, q3⟩, trivial⟩, trivial⟩, q6⟩
    by_cases ht : t = []
    · have e : (headN 14 p s t ns env r).t = t := by unfold headN; simp [ht]
      rw [e]
      exact hto t rfl (by rw [ht]; rfl)
    · have e : (headN 14 p s t ns env r).t = asR (namesR ns r).2 := by unfold headN; simp [ht]
      rw [e]
      refine hto _ ?_ ?_
      · rw [asR_vN]
        simp [vN_ne, ht]
      · rw [asR_vN, hv _ (by rw [hnl.2.1]; omega), Bool.or_true]
  have e : headN k p s t ns env r = ⟨s, t, [], zF, zF, [], r⟩ := by unfold headN; rw [if_neg h3, if_neg h4, if_neg h7, if_neg h14]
  rw [e]
  dsimp only
  rw [ownB_mk] at h ⊢
  rw [hlen]
  split at h
  · cases h
  rename_i hc
  rw [if_neg hc]
  simp only [if_neg h14, if_neg h7] at h ⊢
  by_cases h8 : k = 8
  · rw [if_pos h8] at h ⊢
    simp only [Bool.and_eq_true, decide_eq_true_eq] at h ⊢
    exact ⟨⟨h.1.1, rfl⟩, h.2⟩
  · rw [if_neg h8] at h ⊢
    simp only [Bool.and_eq_true, decide_eq_true_eq] at h ⊢
    exact ⟨h.1, by have := h.2; simp only [List.length_nil]; omega⟩
theorem goN_fine (e : Ex) : fineB e = true → ∀ (env : List Frm) (r : Rn), r.old.length + csz e < 10 ^ 18 → asOk env → (∀ v ∈ fvs e, inE env v) → fineB (goN e env r).e = true := by
  refine Ex.ind (P := fun e => fineB e = true → ∀ (env : List Frm) (r : Rn), r.old.length + csz e < 10 ^ 18 → asOk env → (∀ v ∈ fvs e, inE env v) → fineB (goN e env r).e = true) (fun k p n s t ls ns l ih => ?_) e
  intro hf env r hsz he hv
  rw [fineB, Bool.and_eq_true] at hf
  obtain ⟨ho, hfl⟩ := hf
  have hso := own_sound ho
  rw [csz] at hsz
  have hn := nsz_ge ns
  have hh := headN_len k p s t ns env r
  have hpt : (l.length : Int) = partsN k ls.length (decide (t ≠ [])) := by
    rw [ownB_mk] at ho
    split at ho
    · cases ho
    rename_i hc
    simp only [not_or] at hc
    exact Classical.byContradiction hc.1
  rw [fvs] at hv
  have h1 := head_own_ok (l' := (goL k (headN k p s t ns env r) env 0 l (headN k p s t ns env r).r).l) (env := env) (r := r) ho (goL_length _ _ _ _ _ _) (by omega) he (fun h3 => findF_in.2 (hv s (by rw [if_pos h3]; simp)))
  have hio : ∀ i, i < l.length → asOk (innerN k (headN k p s t ns env r) env i) := fun i hi => inner_ok he (by omega) fun h14 ht => by
    subst h14 ht
    have : partsN 14 ls.length (decide (([] : Str) ≠ [])) = ls.length + 1 := by simp [partsN]
    have := hso.1 rfl
    omega
  have hin : ∀ i, i < l.length → ∀ v, inE (innerN k (headN k p s t ns env r) env i) v ↔ inE env v ∨ v ∈ bnd k s t ls ns i := fun i hi v =>
    inner_in hso.1 (fun h => by have := hso.2.1 h; omega) (fun h => by have := hso.2.2 h; omega)
  rw [goN]
  dsimp only
  rw [fineB, Bool.and_eq_true]
  refine ⟨h1, ?_⟩
  generalize headN k p s t ns env r = h at *
  have hL : ∀ (l : List Ex) (i n : Nat) (r : Rn), n = i + l.length → (∀ j, j < n → asOk (innerN k h env j) ∧ ∀ v, inE (innerN k h env j) v ↔ inE env v ∨ v ∈ bnd k s t ls ns j) → fineLB l = true → r.old.length + cszL l < 10 ^ 18 → (∀ v ∈ fvL k s t ls ns i l, inE env v) →
      (∀ x ∈ l, fineB x = true → ∀ (env : List Frm) (r : Rn), r.old.length + csz x < 10 ^ 18 → asOk env → (∀ v ∈ fvs x, inE env v) → fineB (goN x env r).e = true) → fineLB (goL k h env i l r).l = true := by
    intro l
    induction l with
    | nil => intro i n r _ _ _ _ _ _; rfl
    | cons x l ihl =>
      intro i n r hn hj hfl hr hv hx
      rw [fineLB, Bool.and_eq_true] at hfl
      simp only [List.length_cons] at hn
      simp only [cszL] at hr
      rw [fvL] at hv
      have hl := (goN_len x (innerN k h env i) r).1
      simp only [goL, fineLB, Bool.and_eq_true]
      refine ⟨hx x (by simp) hfl.1 _ _ (by omega) (hj i (by omega)).1 fun v hv2 => ?_, ihl (i + 1) n _ (by omega) hj hfl.2 (by omega) (fun v hv2 => hv v (List.mem_append_right _ hv2)) fun y hy => hx y (by simp [hy])⟩
      rw [(hj i (by omega)).2]
      by_cases hb : v ∈ bnd k s t ls ns i
      · exact .inr hb
      · exact .inl (hv v (List.mem_append_left _ (List.mem_filter.2 ⟨hv2, by simp [hb]⟩)))
  exact hL l 0 l.length h.r (by omega) (fun j hj => ⟨hio j hj, hin j hj⟩) hfl (by omega) (fun v hv2 => hv v (List.mem_append_right _ hv2)) ih
theorem head_mono (k p : Int) (s t : Str) (ns : List Str) (env : List Frm) (r : Rn) : ∃ fs, (headN k p s t ns env r).r.free = r.free ++ fs := by
  have hl := namesR_len ns r
  unfold headN
  split
  · dsimp only
    split
    · exact ⟨[], by simp⟩
    · exact ⟨_, rfl⟩
  · split
    · exact ⟨[], by simp [bindR]⟩
    · split
      · exact ⟨[], by simp [bindR]⟩
      · split
        · split
          · exact ⟨[], by simp [hl]⟩
          · exact ⟨[], by simp [bindR, hl]⟩
        · exact ⟨[], by simp⟩
theorem goN_mono (e : Ex) : ∀ (env : List Frm) (r : Rn), ∃ fs, (goN e env r).r.free = r.free ++ fs := by
  refine Ex.ind (P := fun e => ∀ (env : List Frm) (r : Rn), ∃ fs, (goN e env r).r.free = r.free ++ fs) (fun k p n s t ls ns l ih => ?_) e
  intro env r
  obtain ⟨f1, h1⟩ := head_mono k p s t ns env r
  rw [goN]
  dsimp only
  generalize headN k p s t ns env r = h at *
  have hL : ∀ (l : List Ex) (i : Nat) (r : Rn), (∀ x ∈ l, ∀ (env : List Frm) (r : Rn), ∃ fs, (goN x env r).r.free = r.free ++ fs) → ∃ fs, (goL k h env i l r).r.free = r.free ++ fs := by
    intro l
    induction l with
    | nil => intro i r _; exact ⟨[], by simp [goL]⟩
    | cons x l ihl =>
      intro i r hx
      obtain ⟨a, ha⟩ := hx x (by simp) (innerN k h env i) r
      obtain ⟨b, hb⟩ := ihl (i + 1) (goN x (innerN k h env i) r).r fun y hy => hx y (by simp [hy])
      exact ⟨a ++ b, by simp only [goL]; rw [hb, ha, List.append_assoc]⟩
  obtain ⟨f2, h2⟩ := hL l 0 h.r ih
  exact ⟨f1 ++ f2, by rw [h2, h1, List.append_assoc]⟩
theorem goL_mono (k : Int) (h : Hd) (env : List Frm) : ∀ (l : List Ex) (i : Nat) (r : Rn), ∃ fs, (goL k h env i l r).r.free = r.free ++ fs
  | [], i, r => ⟨[], by simp [goL]⟩
  | x :: l, i, r => by
    obtain ⟨a, ha⟩ := goN_mono x (innerN k h env i) r
    obtain ⟨b, hb⟩ := goL_mono k h env l (i + 1) (goN x (innerN k h env i) r).r
    exact ⟨a ++ b, by simp only [goL]; rw [hb, ha, List.append_assoc]⟩
theorem findF_mem {env : List Frm} {s : Str} (h : (findF env s).2 = true) : ∃ f ∈ env, f.2 = (findF env s).1 := by
  unfold findF at h ⊢
  cases hx : env.reverse.find? fun x => decide (x.1 = s) with
  | none => rw [hx] at h; cases h
  | some x => exact ⟨x, by simpa using List.mem_of_find?_eq_some hx, rfl⟩
theorem head_closed {k p : Int} {s t : Str} {ns : List Str} {env : List Frm} {r r2 : Rn} (h : (headN k p s t ns env r).r.free = []) :
    (headN k p (headN k p s t ns env r).s (headN k p s t ns env r).t (headN k p s t ns env r).ns (env.map dup) r2).r.free = r2.free := by
  by_cases h3 : k = 3
  · subst h3
    have hi := ((head_free 3 p s t ns env r).1 h).2 rfl
    obtain ⟨f, hf, he⟩ := findF_mem (findF_in.2 hi)
    have h2 : (findF (env.map dup) (findF env s).1).2 = true := findF_in.2 ⟨dup f, List.mem_map_of_mem hf, he⟩
    show (if (findF (env.map dup) (findF env s).1).2 = true then r2 else ⟨r2.old, r2.free ++ [p]⟩ : Rn).free = r2.free
    rw [if_pos h2]
  · have hl := fun ns => namesR_len ns r2
    generalize headN k p s t ns env r = g
    have e := headN.eq_1 k p g.s g.t g.ns (env.map dup) r2
    rw [if_neg h3] at e
    rw [e]
    split
    · rfl
    · split
      · rfl
      · split
        · split
          · exact (hl _).2.2
          · exact (hl _).2.2
        · rfl
theorem again_free (e : Ex) : ∀ (env : List Frm) (r r2 : Rn), r2.old.length = r.old.length → (goN e env r).r.free = [] → (goN (goN e env r).e (env.map dup) r2).r.free = r2.free := by
  refine Ex.ind (P := fun e => ∀ (env : List Frm) (r r2 : Rn), r2.old.length = r.old.length → (goN e env r).r.free = [] → (goN (goN e env r).e (env.map dup) r2).r.free = r2.free) (fun k p n s t ls ns l ih => ?_) e
  intro env r r2 h0 hf
  have hh := head_again k p s t ns env r r2 h0
  have hcl := fun h => head_closed (k := k) (p := p) (s := s) (t := t) (ns := ns) (env := env) (r := r) (r2 := r2) h
  have g0 := goN.eq_1 env r k p n s t ls ns l
  rw [g0] at hf ⊢
  dsimp only at hf ⊢
  generalize headN k p s t ns env r = h at *
  rw [goN]
  dsimp only
  generalize headN k p h.s h.t h.ns (env.map dup) r2 = g at *
  have hL : ∀ (l : List Ex) (i : Nat) (r r2 : Rn), r2.old.length = r.old.length → (goL k h env i l r).r.free = [] → (∀ x ∈ l, ∀ (env : List Frm) (r r2 : Rn), r2.old.length = r.old.length → (goN x env r).r.free = [] → (goN (goN x env r).e (env.map dup) r2).r.free = r2.free) →
      (goL k g (env.map dup) i (goL k h env i l r).l r2).r.free = r2.free := by
    intro l
    induction l with
    | nil => intro i r r2 h0 _ _; simp [goL]
    | cons x l ihl =>
      intro i r r2 h0 hf hx
      simp only [goL] at hf
      have ha := again x (innerN k h env i) r r2 h0
      have hf1 : (goN x (innerN k h env i) r).r.free = [] := by
        obtain ⟨b, hb⟩ := goL_mono k h env l (i + 1) (goN x (innerN k h env i) r).r
        rw [hb] at hf
        exact (List.append_eq_nil_iff.1 hf).1
      have h1 := hx x (by simp) (innerN k h env i) r r2 h0 hf1
      have h2 := ihl (i + 1) (goN x (innerN k h env i) r).r _ ha.2 hf fun y hy => hx y (by simp [hy])
      simp only [goL, inner_again hh]
      rw [h2, h1]
  have hf1 : h.r.free = [] := by
    obtain ⟨b, hb⟩ := goL_mono k h env l 0 h.r
    rw [hb] at hf
    exact (List.append_eq_nil_iff.1 hf).1
  rw [hL l 0 h.r g.r hh.r hf ih]
  exact hcl hf1
theorem goN_may {e : Ex} (hm : mayB e = true) (hs : csz e ≤ 1048576) (hv : fvs e = []) : mayB (goN e [] ⟨[], []⟩).e = true := by
  have hn := goN_nodes e [] ⟨[], []⟩
  unfold mayB at hm ⊢
  simp only [Bool.and_eq_true, decide_eq_true_eq] at hm ⊢
  rw [hn.1, hn.2]
  refine ⟨hm.1, hm.2.1, goN_fine e hm.2.2 [] _ ?_ (fun f hf => by cases hf) fun v hv2 => by rw [hv] at hv2; cases hv2⟩
  simp only [List.length_nil]
  omega
set_option maxHeartbeats 4000000
def RDoCt (e : Ex) : Prop := fineB e = true → ∀ (env : List Frm) (f : Bool) (r : Rn) (a : Option Nat) (p : Nat) (σ : Sg), csz e ≤ 1048576 → env.length + csz e ≤ 3000000 → r.old.length + csz e ≤ 3000000 → r.free.length + csz e ≤ 3000000 → σ.objs[p]? = some (numOb a r) → NOk σ.toks a r →
    ACalls Tryz.prog 18 [.ptr p 0, .v (encE e), .v (.sl (some 2) f (env.map encFr))] σ fun x σ' => x = .v (encE (goN e env r).e) ∧ ∃ a' tk', σ' = ⟨σ.objs.set p (numOb a' (goN e env r).r), tk'⟩ ∧ NStep σ.toks a r tk' a' (goN e env r).r
def ownF (k : Int) (t : Str) (h : Hd) : List Frm := if k = 4 ∨ k = 6 then [h.fs] else if k = 7 then [h.fs, h.ft] else if k = 14 then h.fn ++ (if t = [] then [] else [h.ft]) else []
structure RdS where
  i : Nat
  a : Option Nat
  tk : List Nat
  L : D
  G : List Ob
def RTok (n : Nat) (st : RdS) (xs : List V) : Prop := (st.L = .v .snil ∧ xs = []) ∨ ∃ T, st.L = .tsl T (some 8) xs ∧ st.tk[T]? = some xs.length ∧ st.a ≠ some T ∧ n ≤ T
structure RdI (k : Int) (h : Hd) (env : List Frm) (l : List Ex) (tk : List Nat) (a : Option Nat) (r : Rn) (st : RdS) : Prop where
  i : st.i ≤ l.length
  rs : NStep tk a r st.tk st.a (goL k h env 0 (l.take st.i) h.r).r
  L : RTok tk.length st ((goL k h env 0 (l.take st.i) h.r).l.map encE)
theorem fineLB_mem : ∀ {l : List Ex} {x : Ex}, fineLB l = true → x ∈ l → fineB x = true
  | y :: l, x, h, hx => by
    rw [fineLB, Bool.and_eq_true] at h
    rcases List.mem_cons.1 hx with rfl | hx
    · exact h.1
    · exact fineLB_mem h.2 hx
theorem rdo_loop {k q n : Int} {s t : Str} {ls ns : List Str} {l : List Ex} {env : List Frm} {f : Bool} {h : Hd} {r : Rn} {a : Option Nat} {p : Nat} {os : List Ob} {tk : List Nat} {df dn : D} {st : St} {s0 : RdS} (ih : ∀ x ∈ l, RDoCt x) (hl : p < os.length)
    (hfl : fineLB l = true) (hk4 : k = 4 → l.length ≤ 1) (hk7 : k = 7 → l.length ≤ 2) (hk14 : k = 14 → l.length ≤ 1 + (h.fn ++ (if t = [] then [] else [h.ft])).length)
    (hc : cszL l ≤ 1048576) (hen : env.length + 2 + cszL l ≤ 3000000) (hold : h.r.old.length + cszL l ≤ 3000000) (hfree : h.r.free.length + cszL l ≤ 3000000)
    (hdf : LD (some 2) ((ownF k t h).map encFr) df) (hdn : LD none (h.ns.map .str) dn) (hI : RdI k h env l tk a r s0) (h0 : s0.i = 0)
    (hw : Weak ⟨os.set p (numOb a r), tk⟩ st ⟨[(0, .ptr p 0), (2, .v (.sl (some 2) f (env.map encFr))), (4, .ptr os.length 0), (6, .ptr (os.length + 1) 0), (7, .ptr (os.length + 2) 0), (9, df), (14, .v (.int .i64 s0.i))],
      ⟨os.set p (numOb s0.a (goL k h env 0 (l.take s0.i) h.r).r) ++ (obE (.mk k q n s t ls ns l) :: zOb :: outOb k q n h.s h.t ls dn s0.L :: s0.G), s0.tk⟩⟩) :
    W Tryz.prog ⟨os.set p (numOb a r), tk⟩ (loopX (tlX 7 a18.body)) (QBlk 4 (QSeq Tryz.prog ⟨os.set p (numOb a r), tk⟩ (contX (tlX 7 a18.body)) (Post ⟨os.set p (numOb a r), tk⟩ a18.res fun x σ' => x = .v (encE (.mk k q n h.s h.t ls h.ns (goL k h env 0 l h.r).l)) ∧ ∃ a' tk', σ' = ⟨os.set p (numOb a' (goL k h env 0 l h.r).r), tk'⟩ ∧ NStep tk a r tk' a' (goL k h env 0 l h.r).r))) st := by
  refine W_loop (α := RdS) s0 (fun x => l.length - x.i) (fun x => ⟨[(0, .ptr p 0), (2, .v (.sl (some 2) f (env.map encFr))), (4, .ptr os.length 0), (6, .ptr (os.length + 1) 0), (7, .ptr (os.length + 2) 0), (9, df), (14, .v (.int .i64 x.i))],
      ⟨os.set p (numOb x.a (goL k h env 0 (l.take x.i) h.r).r) ++ (obE (.mk k q n s t ls ns l) :: zOb :: outOb k q n h.s h.t ls dn x.L :: x.G), x.tk⟩⟩) (fun x => RdI k h env l tk a r x) hw hI fun ⟨i, a', tk', L, G⟩ ⟨hi, hrs, hL⟩ => ?_
  clear hw hI
  dsimp only at hi hrs hL ⊢
  have hcL := cszL_len l
  simp -implicitDefEqProofs (maxSteps := 2000000) (disch := omega) [-getElem?_pos, obE_mk]
  refine .mk (fun hlt => ?_) fun hlt => ?_
  · obtain ⟨x, hx⟩ : ∃ x, l[i]? = some x := ⟨_, List.getElem?_eq_getElem (by omega)⟩
    have ihx := ih x (List.mem_of_getElem? hx) (fineLB_mem hfl (List.mem_of_getElem? hx))
    have hcx := gz_mem (List.mem_of_getElem? hx)
    have hlen1 := goL_len k h env (l.take i) 0 h.r
    have hin2 := innerN_len k h env i
    have htk := gz_take l i
    have hget := gz_get hx
    have hrec : ∀ (d : D) (hd : d = .v (vF (innerN k h env i)) ∨ ∃ g, d = .v (.sl (some 2) g ((innerN k h env i).map encFr))) (ρ : List Ob), ACalls Tryz.prog 18 [.ptr p 0, .v (encE x), d] ⟨os.set p (numOb a' (goL k h env 0 (l.take i) h.r).r) ++ ρ, tk'⟩ fun y σ' => y = .v (encE (goN x (innerN k h env i) (goL k h env 0 (l.take i) h.r).r).e) ∧ ∃ a2 tk2, σ' = ⟨os.set p (numOb a2 (goN x (innerN k h env i) (goL k h env 0 (l.take i) h.r).r).r) ++ ρ, tk2⟩ ∧ NStep tk' a' (goL k h env 0 (l.take i) h.r).r tk2 a2 (goN x (innerN k h env i) (goL k h env 0 (l.take i) h.r).r).r := by
      intro d hd ρ
      have hgo := fun g => ihx (innerN k h env i) g (goL k h env 0 (l.take i) h.r).r a' p ⟨os.set p (numOb a' (goL k h env 0 (l.take i) h.r).r) ++ ρ, tk'⟩ (by omega) (by omega) (by omega) (by omega) (by simp [hl]) hrs.ok
      simp only [set_app_set hl] at hgo
      rcases hd with rfl | ⟨g, rfl⟩
      · exact hgo false
      · exact hgo g
    have hnext : (goL k h env 0 (l.take (i + 1)) h.r) = ⟨(goL k h env 0 (l.take i) h.r).l ++ [(goN x (innerN k h env i) (goL k h env 0 (l.take i) h.r).r).e], (goN x (innerN k h env i) (goL k h env 0 (l.take i) h.r).r).r⟩ := by
      rw [take_succ_get hx, goL_snoc, List.length_take, Nat.min_eq_left hi]
    have hXl : (goL k h env 0 (l.take i) h.r).l.length ≤ l.length := by rw [hlen1.2.2, List.length_take]; omega
    clear ih ihx hcx hlen1 htk hget
    generalize hNX : goN x (innerN k h env i) (goL k h env 0 (l.take i) h.r).r = NX at *
    generalize goL k h env 0 (l.take i) h.r = LX at *
    have hfsl : env.length + 1 ≤ 4000000 ∧ env.length + 2 ≤ 4000000 := by omega
    cases x with
    | mk k9 p9 n9 s9 t9 ls9 ns9 l9 =>
    rw [encE_mk] at hrec
    have km := fun (f : Bool) (l : List Frm) (x : Frm) σ h => k_RMore (f := f) (l := l) (x := x) (σ := σ) h
    unfold encFr at km
    by_cases h4 : k = 4
    focus
      have b4 : (k == 4) = true := by rw [h4]; rfl
      have b6 : (k == 6) = false := by rw [h4]; rfl
      have b7 : (k == 7) = false := by rw [h4]; rfl
      have b14 : (k == 14) = false := by rw [h4]; rfl
      have hO : ownF k t h = [h.fs] := by unfold ownF; simp [h4]
      rw [hO] at hdf
      rcases hdf with ⟨rfl, hn0⟩ | ⟨T0, rfl⟩
      · simp at hn0
      have hin : innerN k h env i = env ++ [h.fs] := by unfold innerN; simp [h4]
      have hd9 := hrec (.v (vF (env ++ [h.fs]))) (.inl (by rw [hin]))
      simp -implicitDefEqProofs (maxSteps := 2000000) (disch := omega) [-getElem?_pos, hx, obE_mk, encE_mk, encFr, b4, b6, b7, b14]
      refine (km _ env (h.fs.1, h.fs.2) _ (by omega)).then fun y hy => ?_
      subst hy
      simp -implicitDefEqProofs (maxSteps := 2000000) (disch := omega) [-getElem?_pos, hx, encE_mk]
      refine ⟨by omega, ?_⟩
    rotate_left 1
    by_cases h6 : k = 6
    focus
      have b4 : (k == 4) = false := by rw [h6]; rfl
      have b6 : (k == 6) = true := by rw [h6]; rfl
      have b7 : (k == 7) = false := by rw [h6]; rfl
      have b14 : (k == 14) = false := by rw [h6]; rfl
      by_cases hi1 : i = 1
      focus
        have hO : ownF k t h = [h.fs] := by unfold ownF; simp [h6]
        rw [hO] at hdf
        rcases hdf with ⟨rfl, hn0⟩ | ⟨T0, rfl⟩
        · simp at hn0
        have hin : innerN k h env i = env ++ [h.fs] := by unfold innerN; simp [h6, hi1]
        have hd9 := hrec (.v (vF (env ++ [h.fs]))) (.inl (by rw [hin]))
        have hb1 : ((i : Int) == 1) = true := by rw [hi1]; rfl
        simp -implicitDefEqProofs (maxSteps := 2000000) (disch := omega) [-getElem?_pos, hx, obE_mk, encE_mk, encFr, hb1, b4, b6, b7, b14]
        refine (km _ env (h.fs.1, h.fs.2) _ (by omega)).then fun y hy => ?_
        subst hy
        simp -implicitDefEqProofs (maxSteps := 2000000) (disch := omega) [-getElem?_pos, hx, encE_mk]
        refine ⟨by omega, ?_⟩
      rotate_left 1
      have hin : innerN k h env i = env := by unfold innerN; simp [h6, hi1]
      have hd9 := hrec (.v (.sl (some 2) f (env.map encFr))) (.inr ⟨f, by rw [hin]⟩)
      have hb1 : ((i : Int) == 1) = false := beq_false_of_ne (by omega)
      simp -implicitDefEqProofs (maxSteps := 2000000) (disch := omega) [-getElem?_pos, hx, obE_mk, encE_mk, encFr, hb1, b4, b6, b7, b14]
      refine ⟨by omega, ?_⟩
    rotate_left 2
    by_cases h7 : k = 7
    focus
      have b4 : (k == 4) = false := by rw [h7]; rfl
      have b6 : (k == 6) = false := by rw [h7]; rfl
      have b7 : (k == 7) = true := by rw [h7]; rfl
      have b14 : (k == 14) = false := by rw [h7]; rfl
      by_cases hi0 : i = 0
      focus
        have hO : ownF k t h = [h.fs, h.ft] := by unfold ownF; simp [h7]
        rw [hO] at hdf
        rcases hdf with ⟨rfl, hn0⟩ | ⟨T0, rfl⟩
        · simp at hn0
        have hin : innerN k h env i = env ++ [h.fs, h.ft] := by unfold innerN; simp [h7, hi0]
        have hd9 := hrec (.v (vF (env ++ [h.fs, h.ft]))) (.inl (by rw [hin]))
        have hb0 : ((i : Int) == 0) = true := by rw [hi0]; rfl
        simp -implicitDefEqProofs (maxSteps := 2000000) (disch := omega) [-getElem?_pos, hx, obE_mk, encE_mk, encFr, hb0, b4, b6, b7, b14]
        refine (km _ env (h.fs.1, h.fs.2) _ (by omega)).then fun y hy => ?_
        subst hy
        simp -implicitDefEqProofs (maxSteps := 2000000) (disch := omega) [-getElem?_pos, hx, hb0, vF, encFr, encE_mk]
        have hkm := km false (env ++ [(h.fs.1, h.fs.2)]) (h.ft.1, h.ft.2)
        simp only [List.map_append, List.map_cons, List.map_nil, encFr] at hkm
        refine (hkm _ (by simp; omega)).then fun y hy => ?_
        subst hy
        simp -implicitDefEqProofs (maxSteps := 2000000) (disch := omega) [-getElem?_pos, hx, encE_mk]
        refine ⟨by omega, ?_⟩
      rotate_left 1
      have hO : ownF k t h = [h.fs, h.ft] := by unfold ownF; simp [h7]
      rw [hO] at hdf
      rcases hdf with ⟨rfl, hn0⟩ | ⟨T0, rfl⟩
      · simp at hn0
      have hi1 : i = 1 := by have := hk7 h7; omega
      have hin : innerN k h env i = env ++ [h.fs] := by unfold innerN; simp [h7, hi1]
      have hd9 := hrec (.v (vF (env ++ [h.fs]))) (.inl (by rw [hin]))
      have hb0 : ((i : Int) == 0) = false := beq_false_of_ne (by omega)
      simp -implicitDefEqProofs (maxSteps := 2000000) (disch := omega) [-getElem?_pos, hx, obE_mk, encE_mk, encFr, hb0, b4, b6, b7, b14]
      refine (km _ env (h.fs.1, h.fs.2) _ (by omega)).then fun y hy => ?_
      subst hy
      simp -implicitDefEqProofs (maxSteps := 2000000) (disch := omega) [-getElem?_pos, hx, hb0, encE_mk]
      refine ⟨by omega, ?_⟩
    rotate_left 2
    by_cases h14 : k = 14
    focus
      have b4 : (k == 4) = false := by rw [h14]; rfl
      have b6 : (k == 6) = false := by rw [h14]; rfl
      have b7 : (k == 7) = false := by rw [h14]; rfl
      have b14 : (k == 14) = true := by rw [h14]; rfl
      by_cases hi0 : i = 0
      focus
        have hin : innerN k h env i = env := by unfold innerN; simp [h14, hi0]
        have hd9 := hrec (.v (.sl (some 2) f (env.map encFr))) (.inr ⟨f, by rw [hin]⟩)
        have hn0 : ¬ 0 < i := by omega
        simp -implicitDefEqProofs (maxSteps := 2000000) (disch := omega) [-getElem?_pos, hx, obE_mk, encE_mk, encFr, hn0, b4, b6, b7, b14]
        refine ⟨by omega, ?_⟩
      rotate_left 1
      have hipos : 0 < i := by omega
      have hO : ownF k t h = h.fn ++ (if t = [] then [] else [h.ft]) := by unfold ownF; simp [h14]
      have hlO := hk14 h14
      rw [hO] at hdf
      generalize hOO : h.fn ++ (if t = [] then [] else [h.ft]) = O at hdf hlO
      obtain ⟨yf, hyf⟩ : ∃ yf, O[i - 1]? = some yf := ⟨_, List.getElem?_eq_getElem (by omega)⟩
      have hin : innerN k h env i = env ++ [yf] := by
        unfold innerN
        rw [← hOO] at hyf hlO
        by_cases hil : i ≤ h.fn.length
        · rw [List.getElem?_append_left (by omega)] at hyf
          simp [h14, hipos, hil, hyf]
        · rw [List.getElem?_append_right (by omega)] at hyf
          by_cases ht : t = []
          · rw [if_pos ht] at hyf; simp at hyf
          · rw [if_neg ht] at hyf
            have hz : i - 1 - h.fn.length = 0 := by
              rw [if_neg ht] at hlO
              simp at hlO
              omega
            rw [hz] at hyf
            simp at hyf
            simp [h14, hipos, hil, hyf]
      have hd9 := hrec (.v (vF (env ++ [yf]))) (.inl (by rw [hin]))
      obtain ⟨y1, y2⟩ := yf
      rcases hdf with ⟨rfl, hn0⟩ | ⟨T0, rfl⟩
      · rw [List.map_eq_nil_iff] at hn0
        rw [hn0] at hyf
        simp at hyf
      have e1 : ((i : Int) - 1).toNat = i - 1 := by omega
      simp -implicitDefEqProofs (maxSteps := 2000000) (disch := omega) [-getElem?_pos, hx, obE_mk, encE_mk, encFr, hipos, e1, hyf, b4, b6, b7, b14]
      refine ⟨by omega, by omega, ?_⟩
      refine (km _ env (y1, y2) _ (by omega)).then fun y hy => ?_
      subst hy
      simp -implicitDefEqProofs (maxSteps := 2000000) (disch := omega) [-getElem?_pos, hx, encE_mk]
      refine ⟨by omega, ?_⟩
    rotate_left 2
    have b4 : (k == 4) = false := beq_false_of_ne h4
    have b6 : (k == 6) = false := beq_false_of_ne h6
    have b7 : (k == 7) = false := beq_false_of_ne h7
    have b14 : (k == 14) = false := beq_false_of_ne h14
    have hin : innerN k h env i = env := by unfold innerN; simp [h4, h6, h7, h14]
    have hd9 := hrec (.v (.sl (some 2) f (env.map encFr))) (.inr ⟨f, by rw [hin]⟩)
    simp -implicitDefEqProofs (maxSteps := 2000000) (disch := omega) [-getElem?_pos, hx, obE_mk, encE_mk, encFr, b4, b6, b7, b14]
    refine ⟨by omega, ?_⟩
    all_goals
      skip
      obtain ⟨⟨k8, p8, n8, s8, t8, ls8, ns8, l8⟩, rX⟩ := NX
      obtain ⟨lX, rl⟩ := LX
      dsimp only at *
      simp only [encE_mk (k := k8)] at hd9
      refine (hd9 _).mono fun y σ' hr => ?_
      obtain ⟨rfl, a2, tk2, rfl, hst⟩ := hr
      rcases hL with ⟨rfl, hL0⟩ | ⟨TL, rfl, hT, hTa, hTn⟩
      focus
        simp -implicitDefEqProofs (maxSteps := 2000000) (disch := omega) [-getElem?_pos, outOb]
        have hlX : lX = [] := List.map_eq_nil_iff.1 hL0
        exact ⟨⟨i + 1, a2, tk2 ++ [1], .tsl tk2.length (some 8) [encE (.mk k8 p8 n8 s8 t8 ls8 ns8 l8)], _⟩, ⟨by dsimp only; omega, by rw [hnext]; exact (hrs.trans hst).more 1, by rw [hnext, hlX]; exact .inr ⟨_, rfl, by simp, hst.lt.1, Nat.le_trans hrs.len hst.len⟩⟩, by dsimp only; omega, .eq2 (by simp [hnext, outOb, encE_mk, obE_mk]; rfl) (by simp)⟩
      obtain ⟨q1, q2, q3⟩ := hst.fresh hT hTa (by simp)
      simp -implicitDefEqProofs (maxSteps := 2000000) (disch := omega) [-getElem?_pos, q1, outOb]
      refine ⟨by omega, ⟨⟨i + 1, a2, tk2.set TL (lX.length + 1), .tsl TL (some 8) (lX.map encE ++ [encE (.mk k8 p8 n8 s8 t8 ls8 ns8 l8)]), _⟩, ⟨by dsimp only; omega, by rw [hnext]; exact (hrs.trans hst).put _ hTn q2 q3, by rw [hnext]; exact .inr ⟨TL, by simp, by have := (List.getElem?_eq_some_iff.1 q1).1; simp [this], q2, hTn⟩⟩, by dsimp only; omega, .eq2 (by simp [hnext, outOb, encE_mk, obE_mk]; rfl) (by simp)⟩⟩
  · obtain rfl : i = l.length := by omega
    rw [List.take_length] at hrs hL
    rcases hL with ⟨rfl, hL0⟩ | ⟨TL, rfl, hT, hTa, hTn⟩
    focus
      have hL1 : (goL k h env 0 l h.r).l = [] := List.map_eq_nil_iff.1 hL0
      rw [hL1]
      rcases hdn with ⟨rfl, hn0⟩ | ⟨TN, rfl⟩
      focus
        have hn1 : h.ns = [] := List.map_eq_nil_iff.1 hn0
        rw [hn1]
        simp -implicitDefEqProofs (maxSteps := 2000000) (disch := omega) [-getElem?_pos, outOb, contX, tlX, a18, zOb]
        refine PostV.keepS _ ⟨rfl, a', tk', rfl, hrs⟩ go_le0 (by simp) hrs.len (low_set2 (numOb_low hrs.ok)) (by simp)
      simp -implicitDefEqProofs (maxSteps := 2000000) (disch := omega) [-getElem?_pos, outOb, contX, tlX, a18, zOb]
      refine PostV.keepS _ ⟨rfl, a', tk', rfl, hrs⟩ (go_le .tsl VLe.snil.d) (by simp) hrs.len (low_set2 (numOb_low hrs.ok)) (by simp)
    rcases hdn with ⟨rfl, hn0⟩ | ⟨TN, rfl⟩
    focus
      have hn1 : h.ns = [] := List.map_eq_nil_iff.1 hn0
      rw [hn1]
      simp -implicitDefEqProofs (maxSteps := 2000000) (disch := omega) [-getElem?_pos, outOb, contX, tlX, a18, zOb]
      refine PostV.keepS _ ⟨rfl, a', tk', rfl, hrs⟩ (go_le VLe.snil.d .tsl) (by simp) hrs.len (low_set2 (numOb_low hrs.ok)) (by simp)
    simp -implicitDefEqProofs (maxSteps := 2000000) (disch := omega) [-getElem?_pos, outOb, contX, tlX, a18, zOb]
    refine PostV.keepS _ ⟨rfl, a', tk', rfl, hrs⟩ (go_le .tsl .tsl) (by simp) hrs.len (low_set2 (numOb_low hrs.ok)) (by simp)
set_option maxHeartbeats 1000000
theorem findF_snoc (l : List Frm) (x : Frm) (s : Str) : findF (l ++ [x]) s = if x.1 = s then (x.2, true) else findF l s := by
  unfold findF
  rw [List.reverse_append, List.reverse_singleton, List.singleton_append, List.find?_cons]
  by_cases h : x.1 = s <;> simp [h]
theorem rdo_go {k q n : Int} {s t : Str} {ls ns : List Str} {l : List Ex} {env : List Frm} {f : Bool} {h : Hd} {r : Rn} {a a' : Option Nat} {p : Nat} {os : List Ob} {tk tk' : List Nat} {df dn : D} {st : St} {G : List Ob} (ih : ∀ x ∈ l, RDoCt x) (hl : p < os.length)
    (hfl : fineLB l = true) (hk4 : k = 4 → l.length ≤ 1) (hk7 : k = 7 → l.length ≤ 2) (hk14 : k = 14 → l.length ≤ 1 + (h.fn ++ (if t = [] then [] else [h.ft])).length)
    (hc : cszL l ≤ 1048576) (hen : env.length + 2 + cszL l ≤ 3000000) (hold : h.r.old.length + cszL l ≤ 3000000) (hfree : h.r.free.length + cszL l ≤ 3000000)
    (hdf : LD (some 2) ((ownF k t h).map encFr) df) (hdn : LD none (h.ns.map .str) dn) (hst : NStep tk a r tk' a' h.r)
    (hw : Weak ⟨os.set p (numOb a r), tk⟩ st ⟨[(0, .ptr p 0), (2, .v (.sl (some 2) f (env.map encFr))), (4, .ptr os.length 0), (6, .ptr (os.length + 1) 0), (7, .ptr (os.length + 2) 0), (9, df), (14, .v (.int .i64 0))],
      ⟨os.set p (numOb a' h.r) ++ (obE (.mk k q n s t ls ns l) :: zOb :: outOb k q n h.s h.t ls dn (.v .snil) :: G), tk'⟩⟩) :
    W Tryz.prog ⟨os.set p (numOb a r), tk⟩ (loopX (tlX 7 a18.body)) (QBlk 4 (QSeq Tryz.prog ⟨os.set p (numOb a r), tk⟩ (contX (tlX 7 a18.body)) (Post ⟨os.set p (numOb a r), tk⟩ a18.res fun x σ' => x = .v (encE (.mk k q n h.s h.t ls h.ns (goL k h env 0 l h.r).l)) ∧ ∃ a' tk', σ' = ⟨os.set p (numOb a' (goL k h env 0 l h.r).r), tk'⟩ ∧ NStep tk a r tk' a' (goL k h env 0 l h.r).r))) st := by
  have h0 : goL k h env 0 (l.take 0) h.r = ⟨[], h.r⟩ := by simp [goL]
  refine rdo_loop (s := s) (t := t) (ns := ns) (f := f) (s0 := ⟨0, a', tk', .v .snil, G⟩) ih hl hfl hk4 hk7 hk14 hc hen hold hfree hdf hdn ⟨Nat.zero_le _, by dsimp only; rw [h0]; exact hst, by dsimp only; rw [h0]; exact .inl ⟨rfl, rfl⟩⟩ rfl ?_
  dsimp only
  rw [h0]
  exact hw
structure RNmI (ns : List Str) (tk : List Nat) (a : Option Nat) (r : Rn) (st : NmS) : Prop where
  i : st.i ≤ ns.length
  rs : NStep tk a r st.tk st.a (namesR (ns.take st.i) r).2
  d : (st.i = 0 ∧ st.df = .v .snil ∧ st.dn = .v .snil) ∨ ∃ TF TN, st.df = .tsl TF (some 2) ((namesR (ns.take st.i) r).1.map encFr) ∧ st.dn = .tsl TN none (((namesR (ns.take st.i) r).1.map (·.2)).map .str) ∧ TF ≠ TN ∧
    st.tk[TF]? = some st.i ∧ st.tk[TN]? = some st.i ∧ st.a ≠ some TF ∧ st.a ≠ some TN ∧ tk.length ≤ TF ∧ tk.length ≤ TN
theorem k_RDo (e : Ex) : RDoCt e := by
  refine Ex.ind (P := RDoCt) (fun k q n s t ls ns l ih => ?_) e
  intro hfine env f r a p σ he hen hold hfree hp ok
  revert ok
  refine pstart (Q := fun σ => NOk σ.toks a r → ACalls Tryz.prog 18 [.ptr p 0, .v (encE (.mk k q n s t ls ns l)), .v (.sl (some 2) f (env.map encFr))] σ fun x σ' => x = .v (encE (goN (.mk k q n s t ls ns l) env r).e) ∧ ∃ a' tk', σ' = ⟨σ.objs.set p (numOb a' (goN (.mk k q n s t ls ns l) env r).r), tk'⟩ ∧ NStep σ.toks a r tk' a' (goN (.mk k q n s t ls ns l) env r).r) hp fun os tk hl ok => ?_
  clear hp σ
  dsimp only at ok
  rw [csz] at he hen hold hfree
  have hns := nsz_ge ns
  have hls := nsz_ge ls
  rw [fineB, Bool.and_eq_true] at hfine
  obtain ⟨hown, hfl⟩ := hfine
  have hso := own_sound hown
  have hparts : (l.length : Int) = partsN k ls.length (decide (t ≠ [])) := by
    rw [ownB_mk] at hown
    split at hown
    · cases hown
    rename_i hc
    simp only [not_or] at hc
    exact Classical.byContradiction hc.1
  have kb := fun (a : Option Nat) (r : Rn) (s : Str) (tk : List Nat) (ρ : List Ob) (ok : NOk tk a r) hl' => k_RBindN (a := a) (r := r) (s := s) (p := p) (σ := ⟨os.set p (numOb a r) ++ ρ, tk⟩) (by simp [hl]) ok hl'
  simp only [List.set_set]
  rw [goN]
  have hh := headN_len k q s t ns env r
  have hgo := fun (h : Hd) (a' : Option Nat) (tk' : List Nat) (df dn : D) (st : St) (G : List Ob) (hr1 : h.r.old.length ≤ r.old.length + 2 + ns.length) (hr2 : h.r.free.length ≤ r.free.length + 1) hk14 => rdo_go (k := k) (q := q) (n := n) (s := s) (t := t) (ls := ls) (ns := ns) (l := l) (env := env) (f := f) (h := h) (r := r) (a := a) (p := p) (os := os) (tk := tk) (a' := a') (tk' := tk') (df := df) (dn := dn) (st := st) (G := G) ih hl hfl hso.2.1 hso.2.2 hk14 (by omega) (by omega) (by omega) (by omega)
  rw [encE_mk]
  dsimp only
  by_cases h3 : k = 3
  · subst h3
    have hl0 : l = [] := by
      have : partsN 3 ls.length (decide (t ≠ [])) = 0 := rfl
      exact List.length_eq_zero_iff.1 (by omega)
    subst hl0
    have hH2 : headN 3 q s t ns env r = ⟨(findF env s).1, t, [], zF, zF, [], if (findF env s).2 = true then r else ⟨r.old, r.free ++ [q]⟩⟩ := by unfold headN; rw [if_pos rfl]
    rw [hH2] at hh ⊢
    simp only [goL]
    refine acalls_fit Tryz.func18 (by kernel_rfl) c18 rfl (by simp [a18]) fun hf => ?_
    clear hf
    simp -implicitDefEqProofs (maxSteps := 2000000) (disch := omega) [-getElem?_pos, a18]
    refine W_loop (α := Nat) env.length (fun m => m) (fun m => ⟨[(0, .ptr p 0), (2, .v (.sl (some 2) f (env.map encFr))), (4, .ptr os.length 0), (6, .ptr (os.length + 1) 0), (7, .ptr (os.length + 2) 0), (8, .v (.int .i64 ((m : Int) - 1)))],
        ⟨os.set p (numOb a r) ++ [obE (.mk 3 q n s t ls ns []), zOb, outOb 3 q n s t ls (.v .snil) (.v .snil)], tk⟩⟩) (fun m => m ≤ env.length ∧ findF env s = findF (env.take m) s)
      (.eq2 (by simp [outOb, zOb, obE_mk]; done) (by simp)) ⟨Nat.le_refl _, by rw [List.take_length]⟩ fun m ⟨hm, hfd⟩ => ?_
    simp -implicitDefEqProofs (maxSteps := 2000000) (disch := omega) [-getElem?_pos, obE_mk]
    refine .mk (fun hge => ?_) fun hge => ?_
    · obtain ⟨m, rfl⟩ : ∃ m', m = m' + 1 := ⟨m - 1, by omega⟩
      obtain ⟨⟨x1, x2⟩, hx⟩ : ∃ x, env[m]? = some x := ⟨_, List.getElem?_eq_getElem (by omega)⟩
      rw [take_succ_get hx, findF_snoc] at hfd
      dsimp only at hfd
      have em : (((m + 1 : Nat) : Int) - 1).toNat = m := by omega
      have em2 : (((m + 1 : Nat) : Int) - 1) = (m : Int) := by omega
      simp -implicitDefEqProofs (maxSteps := 2000000) (disch := omega) [-getElem?_pos, em2, hx, encFr]
      refine ⟨by omega, .mk (fun hxs => ?_) fun hxs => ?_⟩
      · rw [if_pos hxs] at hfd
        rw [hfd]
        simp -implicitDefEqProofs (maxSteps := 2000000) (disch := omega) [-getElem?_pos, hx, encFr, outOb, zOb]
        refine ⟨by omega, ?_⟩
        exact PostV.keepS _ ⟨rfl, a, tk, rfl, RStep.refl ok⟩ go_le0 (by simp) (by simp) (low_set2 (numOb_low ok)) (by simp)
      · rw [if_neg hxs] at hfd
        simp -implicitDefEqProofs (maxSteps := 2000000) (disch := omega) [-getElem?_pos]
        exact ⟨m, ⟨by omega, hfd⟩, by dsimp only; omega, .eq2 (by simp [obE_mk]) (by simp)⟩
    · obtain rfl : m = 0 := by omega
      have hfd2 : findF env s = (s, false) := by rw [hfd]; rfl
      rw [hfd2]
      have hlow := fun n => numOb_low (n := n) ok
      have hst2 : NStep tk a r tk a ⟨r.old, r.free ++ [q]⟩ := RStep.refl ok
      unfold numOb at hlow ⊢
      by_cases hfr : r.free = []
      · simp -implicitDefEqProofs (maxSteps := 2000000) (disch := omega) [-getElem?_pos, hfr, outOb, zOb, hl]
        exact PostV.keepS _ ⟨rfl, a, tk, by simp [hfr], hst2⟩ go_le0 (by simp) (by simp) (low_set2 (by exact ⟨(hlow _).1, trivial, trivial, trivial⟩)) (by simp)
      · obtain ⟨q0, rest, hq⟩ : ∃ q0 rest, r.free = q0 :: rest := by
          cases hc : r.free with
          | nil => exact absurd hc hfr
          | cons q0 rest => exact ⟨q0, rest, rfl⟩
        simp -implicitDefEqProofs (maxSteps := 2000000) (disch := omega) [-getElem?_pos, hq, outOb, zOb, hl]
        exact PostV.keepS _ ⟨rfl, a, tk, by simp [hq], hst2⟩ go_le0 (by simp) (by simp) (low_set2 (by exact ⟨(hlow _).1, trivial, trivial, trivial⟩)) (by simp)
  have hb3 : (k == 3) = false := beq_false_of_ne h3
  by_cases h4 : k = 4
  · have hH2 : headN k q s t ns env r = ⟨asR r, t, [], (s, asR r), zF, [], bindR s r⟩ := by unfold headN; rw [if_neg h3, if_pos (.inl h4)]
    rw [hH2] at hh ⊢
    have hb4 : (k == 4) = true := by rw [h4]; rfl
    have hb7 : (k == 7) = false := beq_false_of_ne (by omega)
    have hb14 : (k == 14) = false := beq_false_of_ne (by omega)
    refine acalls_fit Tryz.func18 (by kernel_rfl) c18 rfl (by simp [a18]) fun hf => ?_
    clear hf
    simp -implicitDefEqProofs (maxSteps := 2000000) (disch := omega) [-getElem?_pos, a18, hb3, hb4, hb7, hb14]
    refine (kb _ _ s _ _ ok (by omega)).mono fun x σ' hx => ?_
    obtain ⟨rfl, a', tk', rfl, hst⟩ := hx
    simp -implicitDefEqProofs (maxSteps := 2000000) (disch := omega) [-getElem?_pos, encFr, hb3, hb4, hb7, hb14]
    have hO : ownF k t ⟨asR r, t, [], (s, asR r), zF, [], bindR s r⟩ = [(s, asR r)] := by unfold ownF; rw [if_pos (by omega)]
    have hg2 := fun st => hgo ⟨asR r, t, [], (s, asR r), zF, [], bindR s r⟩ a' (tk' ++ [1]) (.tsl tk'.length (some 2) [.agg [.str s, .str (asR r)]]) (.v .snil) st [.cells [.v (.str s), .v (.str (asR r))]] hh.1 hh.2 (fun h => absurd h (by omega)) (by rw [hO]; exact .inr ⟨_, rfl⟩) (.inl ⟨rfl, rfl⟩) (hst.more 1)
    clear hgo
    dsimp only at hg2
    refine hg2 _ ?_
    exact .eq2 (by simp [outOb, zOb, obE_mk]; done) (by simp)
  have hb4 : (k == 4) = false := beq_false_of_ne h4
  by_cases h6 : k = 6
  · have hH2 : headN k q s t ns env r = ⟨asR r, t, [], (s, asR r), zF, [], bindR s r⟩ := by unfold headN; rw [if_neg h3, if_pos (.inr h6)]
    rw [hH2] at hh ⊢
    have hb6 : (k == 6) = true := by rw [h6]; rfl
    have hb7 : (k == 7) = false := beq_false_of_ne (by omega)
    have hb14 : (k == 14) = false := beq_false_of_ne (by omega)
    refine acalls_fit Tryz.func18 (by kernel_rfl) c18 rfl (by simp [a18]) fun hf => ?_
    clear hf
    simp -implicitDefEqProofs (maxSteps := 2000000) (disch := omega) [-getElem?_pos, a18, hb3, hb4, hb6, hb7, hb14]
    refine (kb _ _ s _ _ ok (by omega)).mono fun x σ' hx => ?_
    obtain ⟨rfl, a', tk', rfl, hst⟩ := hx
    simp -implicitDefEqProofs (maxSteps := 2000000) (disch := omega) [-getElem?_pos, encFr, hb3, hb4, hb6, hb7, hb14]
    have hO : ownF k t ⟨asR r, t, [], (s, asR r), zF, [], bindR s r⟩ = [(s, asR r)] := by unfold ownF; rw [if_pos (by omega)]
    have hg2 := fun st => hgo ⟨asR r, t, [], (s, asR r), zF, [], bindR s r⟩ a' (tk' ++ [1]) (.tsl tk'.length (some 2) [.agg [.str s, .str (asR r)]]) (.v .snil) st [.cells [.v (.str s), .v (.str (asR r))]] hh.1 hh.2 (fun h => absurd h (by omega)) (by rw [hO]; exact .inr ⟨_, rfl⟩) (.inl ⟨rfl, rfl⟩) (hst.more 1)
    clear hgo
    dsimp only at hg2
    refine hg2 _ ?_
    exact .eq2 (by simp [outOb, zOb, obE_mk]; done) (by simp)
  have hb6 : (k == 6) = false := beq_false_of_ne h6
  by_cases h7 : k = 7
  · have hH2 : headN k q s t ns env r = ⟨asR r, asR (bindR s r), [], (s, asR r), (t, asR (bindR s r)), [], bindR t (bindR s r)⟩ := by unfold headN; rw [if_neg h3, if_neg (by omega), if_pos h7]
    rw [hH2] at hh ⊢
    have hb7 : (k == 7) = true := by rw [h7]; rfl
    have hb14 : (k == 14) = false := beq_false_of_ne (by omega)
    refine acalls_fit Tryz.func18 (by kernel_rfl) c18 rfl (by simp [a18]) fun hf => ?_
    clear hf
    simp -implicitDefEqProofs (maxSteps := 2000000) (disch := omega) [-getElem?_pos, a18, hb3, hb4, hb6, hb7, hb14]
    refine (kb _ _ s _ _ ok (by omega)).mono fun x σ' hx => ?_
    obtain ⟨rfl, a1, tk1, rfl, hst1⟩ := hx
    simp -implicitDefEqProofs (maxSteps := 2000000) (disch := omega) [-getElem?_pos, encFr, hb3, hb4, hb6, hb7, hb14]
    have hst1' := hst1.more 1
    refine (kb _ _ t _ _ hst1'.ok (by simp [bindR]; omega)).mono fun x σ' hx => ?_
    obtain ⟨rfl, a2, tk2, rfl, hst2⟩ := hx
    obtain ⟨q1, q2, q3⟩ := hst2.fresh (i := tk1.length) (n := 1) (by simp) hst1.lt.1 (by simp)
    simp -implicitDefEqProofs (maxSteps := 2000000) (disch := omega) [-getElem?_pos, encFr, hb3, hb4, hb6, hb7, hb14, q1]
    have hO : ownF k t ⟨asR r, asR (bindR s r), [], (s, asR r), (t, asR (bindR s r)), [], bindR t (bindR s r)⟩ = [(s, asR r), (t, asR (bindR s r))] := by unfold ownF; rw [if_neg (by omega), if_pos h7]
    have hg2 := fun st => hgo ⟨asR r, asR (bindR s r), [], (s, asR r), (t, asR (bindR s r)), [], bindR t (bindR s r)⟩ a2 (tk2.set tk1.length 2) (.tsl tk1.length (some 2) [.agg [.str s, .str (asR r)], .agg [.str t, .str (asR (bindR s r))]]) (.v .snil) st [.cells [.v (.str s), .v (.str (asR r))], .cells [.v (.str t), .v (.str (asR (bindR s r)))]] hh.1 hh.2 (fun h => absurd h (by omega)) (by rw [hO]; exact .inr ⟨_, rfl⟩) (.inl ⟨rfl, rfl⟩) ((hst1'.trans hst2).put 2 hst1.len q2 q3)
    clear hgo
    dsimp only at hg2
    refine hg2 _ ?_
    exact .eq2 (by simp [outOb, zOb, obE_mk]; done) (by simp)
  have hb7 : (k == 7) = false := beq_false_of_ne h7
  by_cases h14 : k = 14
  · have hb14 : (k == 14) = true := by rw [h14]; rfl
    refine acalls_fit Tryz.func18 (by kernel_rfl) c18 rfl (by simp [a18]) fun hf => ?_
    clear hf
    simp -implicitDefEqProofs (maxSteps := 2000000) (disch := omega) [-getElem?_pos, a18, hb3, hb4, hb6, hb7, hb14]
    refine W_loop (α := NmS) ⟨0, a, tk, .v .snil, .v .snil, []⟩ (fun x => ns.length - x.i) (fun x => ⟨[(0, .ptr p 0), (2, .v (.sl (some 2) f (env.map encFr))), (4, .ptr os.length 0), (6, .ptr (os.length + 1) 0), (7, .ptr (os.length + 2) 0), (9, x.df), (11, .v (.int .i64 x.i))],
        ⟨os.set p (numOb x.a (namesR (ns.take x.i) r).2) ++ (obE (.mk k q n s t ls ns l) :: zOb :: outOb k q n s t ls x.dn (.v .snil) :: x.G), x.tk⟩⟩) (fun x => RNmI ns tk a r x)
      (.eq2 (by simp [outOb, zOb, obE_mk, namesR]; done) (by simp)) ⟨Nat.zero_le _, by simp only [List.take_zero, namesR]; exact RStep.refl ok, .inl ⟨rfl, rfl, rfl⟩⟩ fun ⟨i, a', tk', df, dn, G⟩ ⟨hi, hrs, hd⟩ => ?_
    dsimp only at hi hrs hd ⊢
    have hnl := namesR_len (ns.take i) r
    rw [List.length_take, Nat.min_eq_left hi] at hnl
    simp -implicitDefEqProofs (maxSteps := 2000000) (disch := omega) [-getElem?_pos, obE_mk]
    refine .mk (fun hlt => ?_) fun hlt => ?_
    · obtain ⟨x, hx⟩ : ∃ x, ns[i]? = some x := ⟨_, List.getElem?_eq_getElem (by omega)⟩
      have hnext : namesR (ns.take (i + 1)) r = ((namesR (ns.take i) r).1 ++ [(x, asR (namesR (ns.take i) r).2)], bindR x (namesR (ns.take i) r).2) := by rw [take_succ_get hx, namesR_snoc]
      simp -implicitDefEqProofs (maxSteps := 2000000) (disch := omega) [-getElem?_pos, hx, obE_mk]
      refine ⟨by omega, ?_⟩
      refine (kb _ _ x _ _ hrs.ok (by omega)).mono fun y σ' hy => ?_
      obtain ⟨rfl, a2, tk2, rfl, hst⟩ := hy
      generalize hNX : namesR (ns.take i) r = NX at *
      rcases hd with ⟨h0, rfl, rfl⟩ | ⟨TF, TN, rfl, rfl, hne, hTF, hTN, hf1, hf2, hf5, hf6⟩
      · simp -implicitDefEqProofs (maxSteps := 2000000) (disch := omega) [-getElem?_pos, encFr, outOb]
        have hn0 : NX.1 = [] := List.length_eq_zero_iff.1 (by omega)
        have hl2 := (hst.more 1).lt
        rw [List.length_append, List.length_singleton] at hl2
        refine ⟨⟨i + 1, a2, tk2 ++ [1, 1], .tsl tk2.length (some 2) [.agg [.str x, .str (asR NX.2)]], .tsl (tk2.length + 1) none [.str (asR NX.2)], _⟩, ⟨by dsimp only; omega, ?_, .inr ⟨tk2.length, tk2.length + 1, ?_⟩⟩, by dsimp only; omega, .eq2 (by simp [hnext, outOb, zOb, obE_mk]; rfl) (by simp)⟩
        · have := ((hrs.trans hst).more 1).more 1
          rw [List.append_assoc] at this
          dsimp only
          rw [hnext]
          exact this
        · dsimp only
          rw [hnext, hn0]
          refine ⟨rfl, rfl, by omega, by rw [h0]; simp, by rw [h0]; simp, hst.lt.1, hl2.1, Nat.le_trans hrs.len hst.len, Nat.le_succ_of_le (Nat.le_trans hrs.len hst.len)⟩
      · obtain ⟨q1, q2, q3⟩ := hst.fresh hTF hf1 (by simp)
        obtain ⟨q4, q5, q6⟩ := hst.fresh hTN hf2 (by simp)
        have l1 := (List.getElem?_eq_some_iff.1 q1).1
        have l2 := (List.getElem?_eq_some_iff.1 q4).1
        simp -implicitDefEqProofs (maxSteps := 2000000) (disch := omega) [-getElem?_pos, encFr, outOb, q1, q4, hne]
        refine ⟨by omega, by omega, by omega, by omega, ⟨i + 1, a2, (tk2.set TF (NX.1.length + 1)).set TN (NX.1.length + 1), .tsl TF (some 2) (NX.1.map encFr ++ [.agg [.str x, .str (asR NX.2)]]), .tsl TN none (NX.1.map (V.str ∘ fun x => x.2) ++ [.str (asR NX.2)]), _⟩, ⟨by dsimp only; omega, ?_, .inr ⟨TF, TN, ?_⟩⟩, by dsimp only; omega, .eq2 (by simp [hnext, outOb, zOb, obE_mk]; rfl) (by simp)⟩
        · dsimp only
          rw [hnext]
          exact ((hrs.trans hst).put _ hf5 q2 q3).put _ hf6 q5 q6
        · dsimp only
          rw [hnext]
          have hi2 : i = NX.1.length := by omega
          refine ⟨by simp [encFr], by simp, hne, ?_, ?_, q2, q5, hf5, hf6⟩
          · rw [List.getElem?_set_ne (fun e => hne e.symm), List.getElem?_set_self l1, hi2]
          · rw [List.getElem?_set_self (by simpa using l2), hi2]
    · obtain rfl : i = ns.length := by omega
      rw [List.take_length] at hrs hd hnl
      have hlp : l.length ≤ 1 + ((namesR ns r).1 ++ (if t = [] then [] else [(t, asR (namesR ns r).2)])).length := by
        have h1 := hso.1 h14
        rw [h14] at hparts
        have hp : partsN 14 ls.length (decide (t ≠ [])) = ls.length + (if decide (t ≠ []) = true then 1 else 0) + 1 := rfl
        rw [hp] at hparts
        by_cases ht : t = []
        · simp [ht] at hparts ⊢; omega
        · simp [ht] at hparts ⊢; omega
      by_cases ht : t = []
      · have hH2 : headN k q s t ns env r = ⟨s, t, (namesR ns r).1.map (·.2), zF, zF, (namesR ns r).1, (namesR ns r).2⟩ := by unfold headN; rw [if_neg h3, if_neg (by omega), if_neg h7, if_pos h14, if_pos ht]
        rw [hH2] at hh ⊢
        subst ht
        have hLD : LD (some 2) ((namesR ns r).1.map encFr) df ∧ LD none (((namesR ns r).1.map (·.2)).map .str) dn := by
          rcases hd with ⟨h0, rfl, rfl⟩ | ⟨TF, TN, rfl, rfl, _⟩
          · have hn0 : (namesR ns r).1 = [] := List.length_eq_zero_iff.1 (by omega)
            rw [hn0]
            exact ⟨.inl ⟨rfl, rfl⟩, .inl ⟨rfl, rfl⟩⟩
          · exact ⟨.inr ⟨_, rfl⟩, .inr ⟨_, rfl⟩⟩
        have hO : ownF k [] ⟨s, [], (namesR ns r).1.map (·.2), zF, zF, (namesR ns r).1, (namesR ns r).2⟩ = (namesR ns r).1 := by unfold ownF; rw [if_neg (by omega), if_neg h7, if_pos h14]; simp
        simp -implicitDefEqProofs (maxSteps := 2000000) (disch := omega) [-getElem?_pos, hb3, hb4, hb6, hb7, hb14, obE_mk]
        have hg2 := fun st => hgo ⟨s, [], (namesR ns r).1.map (·.2), zF, zF, (namesR ns r).1, (namesR ns r).2⟩ a' tk' df dn st G hh.1 hh.2 (fun _ => by simpa using hlp) (by rw [hO]; exact hLD.1) hLD.2 hrs
        clear hgo
        dsimp only at hg2
        refine hg2 _ ?_
        exact .eq2 (by simp [outOb, zOb, obE_mk]; done) (by simp)
      · have hH2 : headN k q s t ns env r = ⟨s, asR (namesR ns r).2, (namesR ns r).1.map (·.2), zF, (t, asR (namesR ns r).2), (namesR ns r).1, bindR t (namesR ns r).2⟩ := by unfold headN; rw [if_neg h3, if_neg (by omega), if_neg h7, if_pos h14, if_neg ht]
        rw [hH2] at hh ⊢
        have hO : ownF k t ⟨s, asR (namesR ns r).2, (namesR ns r).1.map (·.2), zF, (t, asR (namesR ns r).2), (namesR ns r).1, bindR t (namesR ns r).2⟩ = (namesR ns r).1 ++ [(t, asR (namesR ns r).2)] := by unfold ownF; rw [if_neg (by omega), if_neg h7, if_pos h14, if_neg ht]
        rw [if_neg ht] at hlp
        simp -implicitDefEqProofs (maxSteps := 2000000) (disch := omega) [-getElem?_pos, hb3, hb4, hb6, hb7, hb14, obE_mk, ht]
        refine (kb _ _ t _ _ hrs.ok (by omega)).mono fun y σ' hy => ?_
        obtain ⟨rfl, a2, tk2, rfl, hst⟩ := hy
        rcases hd with ⟨h0, rfl, rfl⟩ | ⟨TF, TN, rfl, rfl, hne, hTF, hTN, hf1, hf2, hf5, hf6⟩
        · have hn0 : (namesR ns r).1 = [] := List.length_eq_zero_iff.1 (by omega)
          simp -implicitDefEqProofs (maxSteps := 2000000) (disch := omega) [-getElem?_pos, encFr, outOb, zOb, hb3, hb4, hb6, hb7, hb14]
          have hg2 := fun st => hgo ⟨s, asR (namesR ns r).2, (namesR ns r).1.map (·.2), zF, (t, asR (namesR ns r).2), (namesR ns r).1, bindR t (namesR ns r).2⟩ a2 (tk2 ++ [1]) (.tsl tk2.length (some 2) [.agg [.str t, .str (asR (namesR ns r).2)]]) (.v .snil) st (G ++ [.cells [.v (.str t), .v (.str (asR (namesR ns r).2))]]) hh.1 hh.2 (fun _ => by dsimp only; rw [if_neg ht]; exact hlp) (by rw [hO, hn0]; exact .inr ⟨_, rfl⟩) (by dsimp only; rw [hn0]; exact .inl ⟨rfl, rfl⟩) ((hrs.trans hst).more 1)
          clear hgo
          dsimp only at hg2
          refine hg2 _ ?_
          exact .eq2 (by simp [outOb, zOb, obE_mk, encFr]; done) (by simp [encFr])
        · obtain ⟨q1, q2, q3⟩ := hst.fresh hTF hf1 (by simp)
          have e5 : ns.length = (namesR ns r).1.length := hnl.1.symm
          simp -implicitDefEqProofs (maxSteps := 2000000) (disch := omega) [-getElem?_pos, encFr, outOb, zOb, hb3, hb4, hb6, hb7, hb14, q1]
          have hg2 := fun st => hgo ⟨s, asR (namesR ns r).2, (namesR ns r).1.map (·.2), zF, (t, asR (namesR ns r).2), (namesR ns r).1, bindR t (namesR ns r).2⟩ a2 (tk2.set TF ((namesR ns r).1.length + 1)) (.tsl TF (some 2) (((namesR ns r).1 ++ [(t, asR (namesR ns r).2)]).map encFr)) (.tsl TN none (((namesR ns r).1.map (·.2)).map .str)) st (G ++ [.cells [.v (.str t), .v (.str (asR (namesR ns r).2))]]) hh.1 hh.2 (fun _ => by dsimp only; rw [if_neg ht]; exact hlp) (by rw [hO]; exact .inr ⟨_, rfl⟩) (.inr ⟨_, rfl⟩) ((hrs.trans hst).put _ hf5 q2 q3)
          clear hgo
          dsimp only at hg2
          refine ⟨by omega, by omega, hg2 _ ?_⟩
          exact .eq2 (by simp [outOb, zOb, obE_mk, encFr]; done) (by simp [encFr])
  have hb14 : (k == 14) = false := beq_false_of_ne h14
  have hH2 : headN k q s t ns env r = ⟨s, t, [], zF, zF, [], r⟩ := by unfold headN; rw [if_neg h3, if_neg (by omega), if_neg h7, if_neg h14]
  rw [hH2] at hh ⊢
  have hO : ownF k t ⟨s, t, [], zF, zF, [], r⟩ = [] := by unfold ownF; rw [if_neg (by omega), if_neg h7, if_neg h14]
  refine acalls_fit Tryz.func18 (by kernel_rfl) c18 rfl (by simp [a18]) fun hf => ?_
  clear hf
  simp -implicitDefEqProofs (maxSteps := 2000000) (disch := omega) [-getElem?_pos, a18, hb3, hb4, hb6, hb7, hb14]
  have hg2 := fun st => hgo ⟨s, t, [], zF, zF, [], r⟩ a tk (.v .snil) (.v .snil) st [] hh.1 hh.2 (fun h => absurd h (by omega)) (by rw [hO]; exact .inl ⟨rfl, rfl⟩) (.inl ⟨rfl, rfl⟩) (RStep.refl ok)
  clear hgo
  dsimp only at hg2
  refine hg2 _ ?_
  exact .eq2 (by simp [outOb, zOb, obE_mk]; done) (by simp)
mutual
def stripE : Ex → Ex
  | .mk k _ n s t ls ns l => .mk k 0 n s t ls ns (stripL l)
def stripL : List Ex → List Ex
  | [] => []
  | x :: l => stripE x :: stripL l
end
theorem stripL_eq : ∀ l, stripL l = l.map stripE
  | [] => by simp [stripL]
  | x :: l => by simp [stripL, stripL_eq l]
def kR : List CT → Int
  | [] => 0
  | t :: _ => t.k
def sR : List CT → Str
  | [] => []
  | t :: _ => t.s
def seesR (R : List CT) (s : Str) : Bool := (decide (kR R = 2) || decide (kR R = 6)) && decide (sR R = s)
def Dr (C : PC) (i : Nat) (R : List CT) : Prop := (C.L.map core).drop i = R
theorem Dr.get {C : PC} {i : Nat} {R : List CT} (h : Dr C i R) (n : Nat) : ((C.L[i + n]?).getD zTk).k = kR (R.drop n) ∧ ((C.L[i + n]?).getD zTk).s = sR (R.drop n) ∧ ((C.L[i + n]?).getD zTk).n = (R.drop n).head?.elim 0 (·.n) := by
  have h2 : (C.L.map core).drop (i + n) = R.drop n := by rw [← h, List.drop_drop]
  have h3 : (R.drop n).head? = (C.L[i + n]?).map core := by rw [← h2, List.head?_drop, List.getElem?_map]
  cases hd : C.L[i + n]? with
  | none =>
    rw [hd] at h3
    have : R.drop n = [] := by cases hr : R.drop n with
      | nil => rfl
      | cons x r => rw [hr] at h3; cases h3
    rw [this]
    exact ⟨rfl, rfl, rfl⟩
  | some t =>
    rw [hd] at h3
    cases hr : R.drop n with
    | nil => rw [hr] at h3; cases h3
    | cons x r =>
      rw [hr] at h3
      cases h3
      exact ⟨rfl, rfl, rfl⟩
theorem Dr.hd0 {C : PC} {i : Nat} {R : List CT} (h : Dr C i R) (n : Nat) : (ahd C ⟨i, none⟩ n).k = kR (R.drop n) ∧ (ahd C ⟨i, none⟩ n).s = sR (R.drop n) := by
  have := h.get n
  exact ⟨this.1, this.2.1⟩
theorem Dr.k {C : PC} {i : Nat} {R : List CT} (h : Dr C i R) : (ahd C ⟨i, none⟩ 0).k = kR R := (h.hd0 0).1
theorem Dr.s {C : PC} {i : Nat} {R : List CT} (h : Dr C i R) : (ahd C ⟨i, none⟩ 0).s = sR R := (h.hd0 0).2
theorem Dr.se {C : PC} {i : Nat} {R : List CT} (h : Dr C i R) (s : Str) : sees C ⟨i, none⟩ 0 s = seesR R s := by
  unfold sees seesT seesR
  rw [h.k, h.s]
theorem Dr.next {C : PC} {i : Nat} {t : CT} {R : List CT} (h : Dr C i (t :: R)) : Dr C (i + 1) R := by
  unfold Dr at h ⊢
  rw [← List.drop_drop, h]
  rfl
theorem Dr.skip {C : PC} {i : Nat} {X R : List CT} (h : Dr C i (X ++ R)) : Dr C (i + X.length) R := by
  unfold Dr at h ⊢
  rw [← List.drop_drop, h]
  simp
theorem Dr.must {C : PC} {i : Nat} {t : CT} {R : List CT} (h : Dr C i (t :: R)) (s : Str) (ht : t = wdT s ∨ t = sgT s) : mustP C s ⟨i, none⟩ = ⟨i + 1, none⟩ := by
  unfold mustP
  rw [h.se, if_pos]
  · rfl
  · unfold seesR kR sR
    rcases ht with rfl | rfl <;> simp
theorem Dr.text {C : PC} {i : Nat} {t : CT} {R : List CT} (h : Dr C i (t :: R)) {k : Int} (ht : t.k = k) : textP C k ⟨i, none⟩ = ⟨t.s, ⟨i + 1, none⟩⟩ := by
  unfold textP
  rw [h.k, h.s, if_pos (by exact ht)]
  rfl
theorem Dr.op {C : PC} {i : Nat} {R : List CT} (h : Dr C i R) (ops : List Str) : opP C ops ⟨i, none⟩ = ops.find? fun s => seesR R s := by
  unfold opP
  congr 1
  funext s
  exact h.se s
theorem Dr.len {C : PC} {i : Nat} {X R : List CT} (h : Dr C i (X ++ R)) (hX : X ≠ []) : i + X.length ≤ C.L.length := by
  unfold Dr at h
  have := congrArg List.length h
  rw [List.length_drop, List.length_map, List.length_append] at this
  have : X.length ≠ 0 := fun h => hX (List.length_eq_zero_iff.1 h)
  omega
def Good (C : PC) (f : PF) (X : List CT) (e : Ex) (F : List CT → Prop) : Prop := ∀ i R, Dr C i (X ++ R) → F R → ∃ e', f ⟨i, none⟩ = ⟨e', ⟨i + X.length, none⟩⟩ ∧ stripE e' = stripE e
theorem Good.mono {C : PC} {f : PF} {X : List CT} {e : Ex} {F G : List CT → Prop} (h : Good C f X e F) (hg : ∀ R, G R → F R) : Good C f X e G := fun i R hd hR => h i R hd (hg R hR)
def headR (X : List CT) : Option Int := if kR X = 3 then some 13
  else if kR X = 2 ∨ kR X = 6 then (if sR X = wRef then some 17 else if sR X = wPrint then some 20 else if sR X = wShow then some 21 else if sR X = [33] then some 18 else none)
  else none
theorem Dr.head {C : PC} {i : Nat} {R : List CT} (h : Dr C i R) : headP (ahd C ⟨i, none⟩ 0) = headR R := by
  unfold headP headR
  rw [h.k, h.s]
theorem k_Texts5 {a b : List Str} {σ : Sg} : ACalls Tryz.prog 46 [.v (vS a), .v (vS b)] σ fun r σ' => r = .v (.bool (decide (a = b))) ∧ σ' = σ := by
  refine acalls_fit Tryz.func46 (by kernel_rfl) c46 rfl (by simp [a46]) fun hf => ?_
  simp at hf
  simp -implicitDefEqProofs (maxSteps := 2000000) (disch := omega) [-getElem?_pos, a46]
  refine .mk (fun hl => ?_) fun hl => ?_
  rotate_left
  · simp -implicitDefEqProofs (maxSteps := 2000000) (disch := omega) [-getElem?_pos]
    exact .fin _ ⟨by simp; intro h; exact hl (by rw [h]), rfl⟩ (.refl _)
  simp -implicitDefEqProofs (maxSteps := 2000000) (disch := omega) [-getElem?_pos]
  refine W_loop (α := Nat) 0 (fun i => a.length - i) (fun i => ⟨[(0, .v (vS a)), (1, .v (vS b)), (5, .v (.int .i64 i))], σ⟩) (fun i => i ≤ a.length ∧ (a = b ↔ a.drop i = b.drop i))
    (.eq (by simp)) ⟨by omega, by simp⟩ fun i ⟨hi, he⟩ => ?_
  simp -implicitDefEqProofs (maxSteps := 2000000) (disch := omega) [-getElem?_pos]
  refine .mk (fun h => ?_) fun h => ?_
  · simp -implicitDefEqProofs (maxSteps := 2000000) (disch := omega) [-getElem?_pos]
    refine ⟨by omega, fun x hx => ?_⟩
    refine ⟨by omega, fun y hy => ?_⟩
    rw [drop_cons hx, drop_cons hy] at he
    refine .mk (fun hq => ?_) fun hq => ?_
    · subst hq
      simp -implicitDefEqProofs (maxSteps := 2000000) (disch := omega) [-getElem?_pos]
      refine ⟨i + 1, ⟨by omega, ?_⟩, by dsimp only; omega, .eq (by simp)⟩
      simpa using he
    · simp -implicitDefEqProofs (maxSteps := 2000000) (disch := omega) [-getElem?_pos]
      refine .fin _ ⟨?_, rfl⟩ (.refl _)
      rw [decide_eq_false (fun h' => hq (List.cons.inj (he.1 h')).1)]
  · simp -implicitDefEqProofs (maxSteps := 2000000) (disch := omega) [-getElem?_pos]
    refine .fin _ ⟨?_, rfl⟩ (.refl _)
    rw [List.drop_eq_nil_of_le (by omega), List.drop_eq_nil_of_le (by omega)] at he
    rw [decide_eq_true (he.2 rfl)]
noncomputable instance : DecidableEq Ex := fun _ _ => Classical.propDecidable _
noncomputable def sameB (a b : Ex) : Bool := decide (stripE a = stripE b)
theorem stripE_mk {k p n : Int} {s t : Str} {ls ns : List Str} {l : List Ex} : stripE (.mk k p n s t ls ns l) = .mk k 0 n s t ls ns (l.map stripE) := by
  rw [stripE, stripL_eq]
theorem k_Same5 (a : Ex) : ∀ (b : Ex) {σ : Sg}, csz a ≤ 1048576 → ACalls Tryz.prog 19 [.v (encE a), .v (encE b)] σ fun r σ' => r = .v (.bool (sameB a b)) ∧ σ' = σ := by
  refine Ex.ind (P := fun a => ∀ (b : Ex) {σ : Sg}, csz a ≤ 1048576 → ACalls Tryz.prog 19 [.v (encE a), .v (encE b)] σ fun r σ' => r = .v (.bool (sameB a b)) ∧ σ' = σ) (fun k p n s t ls ns l ih => ?_) a
  intro b σ he
  simp only [csz] at he
  have hll := cszL_len l
  cases b with
  | mk k2 p2 n2 s2 t2 ls2 ns2 l2 =>
  have hB : sameB (.mk k p n s t ls ns l) (.mk k2 p2 n2 s2 t2 ls2 ns2 l2) = decide (k = k2 ∧ n = n2 ∧ s = s2 ∧ t = t2 ∧ ls = ls2 ∧ ns = ns2 ∧ l.map stripE = l2.map stripE) := by
    unfold sameB
    rw [stripE_mk, stripE_mk]
    simp
  generalize sameB (.mk k p n s t ls ns l) (.mk k2 p2 n2 s2 t2 ls2 ns2 l2) = B at hB ⊢
  rw [encE_mk, encE_mk]
  refine acalls_fit Tryz.func19 (by kernel_rfl) c19 rfl (by simp [a19]) fun hf => ?_
  clear hf
  simp -implicitDefEqProofs (maxSteps := 2000000) (disch := omega) [-getElem?_pos, a19]
  refine k_Texts5.then fun r hr => ?_
  subst hr
  simp -implicitDefEqProofs (maxSteps := 2000000) (disch := omega) [-getElem?_pos]
  refine k_Texts5.then fun r hr => ?_
  subst hr
  by_cases h1 : k = k2
  rotate_left
  · simp -implicitDefEqProofs (maxSteps := 2000000) (disch := omega) [-getElem?_pos, h1]
    exact .fin (.v (.bool false)) ⟨by rw [hB]; simp [h1], rfl⟩ (.refl _)
  by_cases h2 : n = n2
  rotate_left
  · simp -implicitDefEqProofs (maxSteps := 2000000) (disch := omega) [-getElem?_pos, h1, h2]
    exact .fin (.v (.bool false)) ⟨by rw [hB]; simp [h2], rfl⟩ (.refl _)
  by_cases h3 : s = s2
  rotate_left
  · simp -implicitDefEqProofs (maxSteps := 2000000) (disch := omega) [-getElem?_pos, h1, h2, h3]
    exact .fin (.v (.bool false)) ⟨by rw [hB]; simp [h3], rfl⟩ (.refl _)
  by_cases h4 : t = t2
  rotate_left
  · simp -implicitDefEqProofs (maxSteps := 2000000) (disch := omega) [-getElem?_pos, h1, h2, h3, h4]
    exact .fin (.v (.bool false)) ⟨by rw [hB]; simp [h4], rfl⟩ (.refl _)
  by_cases h5 : ls = ls2
  rotate_left
  · simp -implicitDefEqProofs (maxSteps := 2000000) (disch := omega) [-getElem?_pos, h1, h2, h3, h4, h5]
    exact .fin (.v (.bool false)) ⟨by rw [hB]; simp [h5], rfl⟩ (.refl _)
  by_cases h6 : ns = ns2
  rotate_left
  · simp -implicitDefEqProofs (maxSteps := 2000000) (disch := omega) [-getElem?_pos, h1, h2, h3, h4, h5, h6]
    exact .fin (.v (.bool false)) ⟨by rw [hB]; simp [h6], rfl⟩ (.refl _)
  subst h1 h2 h3 h4 h5 h6
  by_cases h7 : l.length = l2.length
  rotate_left
  · have h7i : ¬ (l.length : Int) = l2.length := by omega
    simp -implicitDefEqProofs (maxSteps := 2000000) (disch := omega) [-getElem?_pos, h7, h7i]
    refine .fin (.v (.bool false)) ⟨?_, rfl⟩ (.refl _)
    rw [hB, decide_eq_false]
    rintro ⟨_, _, _, _, _, _, h⟩
    exact h7 (by simpa using congrArg List.length h)
  simp -implicitDefEqProofs (maxSteps := 2000000) (disch := omega) [-getElem?_pos, h7]
  refine W_loop (α := Nat) 0 (fun i => l.length - i) (fun i => ⟨[(2, .ptr σ.objs.length 0), (3, .ptr (σ.objs.length + 1) 0), (4, .v (.bool false)), (7, .v (.int .i64 i))], ⟨σ.objs ++ [obE (.mk k p n s t ls ns l), obE (.mk k p2 n s t ls ns l2)], σ.toks⟩⟩)
    (fun i => i ≤ l.length ∧ (l.map stripE = l2.map stripE ↔ (l.drop i).map stripE = (l2.drop i).map stripE)) (.eq2 (by simp [obE_mk]) (by simp)) ⟨by omega, by simp⟩ fun i ⟨hi, he2⟩ => ?_
  simp -implicitDefEqProofs (maxSteps := 2000000) (disch := omega) [-getElem?_pos, obE_mk]
  refine .mk (fun h => ?_) fun h => ?_
  · simp -implicitDefEqProofs (maxSteps := 2000000) (disch := omega) [-getElem?_pos]
    refine ⟨by omega, ?_⟩
    intro x hx
    refine ⟨by omega, ?_⟩
    intro y hy
    rw [drop_cons hx, drop_cons hy, List.map_cons, List.map_cons] at he2
    have hx1 := cszL_mem (List.mem_of_getElem? hx)
    refine (ih x (List.mem_of_getElem? hx) y (by omega)).then fun r hr => ?_
    subst hr
    by_cases hq : stripE x = stripE y
    · rw [hq] at he2
      have hs : sameB x y = true := decide_eq_true hq
      simp -implicitDefEqProofs (maxSteps := 2000000) (disch := omega) [-getElem?_pos, hs]
      refine ⟨i + 1, ⟨by omega, ?_⟩, by dsimp only; omega, .eq2 (by simp [obE_mk]) (by simp)⟩
      simpa using he2
    · have hs : sameB x y = false := decide_eq_false hq
      simp -implicitDefEqProofs (maxSteps := 2000000) (disch := omega) [-getElem?_pos, hs]
      refine .fin (.v (.bool false)) ⟨?_, rfl⟩ (.refl _)
      have hne : ¬ l.map stripE = l2.map stripE := fun h => hq (List.cons.inj (he2.1 h)).1
      rw [hB]
      simp [hne]
  · simp -implicitDefEqProofs (maxSteps := 2000000) (disch := omega) [-getElem?_pos]
    refine .fin (.v (.bool true)) ⟨?_, rfl⟩ (.refl _)
    rw [List.drop_eq_nil_of_le (by omega), List.drop_eq_nil_of_le (by omega)] at he2
    rw [hB]
    simp [he2.2 rfl]
theorem k_CountB (e : Ex) : ∀ {m : Int} {σ : Sg}, csz e ≤ 1048576 → -2000000 ≤ m → m ≤ 2000000 → ACalls Tryz.prog 30 [.v (encE e), .v (.int .i64 m)] σ fun r σ' => (∃ m' : Int, m - csz e ≤ m' ∧ m' ≤ m ∧ (m' < 0 ∨ csz e ≤ 8 * (m - m')) ∧ r = .v (.int .i64 m')) ∧ σ' = σ := by
  refine Ex.ind (P := fun e => ∀ {m : Int} {σ : Sg}, csz e ≤ 1048576 → -2000000 ≤ m → m ≤ 2000000 → ACalls Tryz.prog 30 [.v (encE e), .v (.int .i64 m)] σ fun r σ' => (∃ m' : Int, m - csz e ≤ m' ∧ m' ≤ m ∧ (m' < 0 ∨ csz e ≤ 8 * (m - m')) ∧ r = .v (.int .i64 m')) ∧ σ' = σ) (fun k p n s t ls ns l ih => ?_) e
  intro m σ he h1 h2
  simp only [csz] at he ⊢
  have hnl := nsz_len ns
  have hnl2 := nsz_len ls
  have hll := cszL_len l
  rw [encE_mk]
  refine acalls_fit Tryz.func30 (by kernel_rfl) c30 rfl (by simp [a30]) fun hf => ?_
  clear hf
  simp -implicitDefEqProofs (maxSteps := 2000000) (disch := omega) [-getElem?_pos, a30]
  obtain ⟨os, hos⟩ : ∃ os, os = σ.objs ++ [Ob.cells [.v (.int .i64 k), .v (.int .i64 p), .v (.int .i64 n), .v (.str s), .v (.str t), .v (.sl none false (ls.map .str)), .v (.sl none false (ns.map .str)), .v (.sl (some 8) false (l.map encE))]] := ⟨_, rfl⟩
  have ho : os[σ.objs.length]? = some (Ob.cells [.v (.int .i64 k), .v (.int .i64 p), .v (.int .i64 n), .v (.str s), .v (.str t), .v (.sl none false (ls.map .str)), .v (.sl none false (ns.map .str)), .v (.sl (some 8) false (l.map encE))]) := by rw [hos]; simp
  refine W_loop (α := KSt) ⟨0, m - 1 - s.length - t.length⟩ (fun x => ls.length - x.i) (fun x => ⟨[(2, .ptr σ.objs.length 0), (1, .v (.int .i64 x.m)), (5, .v (.int .i64 x.i))], ⟨os, σ.toks⟩⟩)
    (fun x => x.i ≤ ls.length ∧ x.m = m - 1 - s.length - t.length - nsz (ls.take x.i)) (.eq2 (by simp [hos]) (by simp)) ⟨by simp, by simp [nsz]⟩ fun ⟨i, m1⟩ ⟨hi, hm⟩ => ?_
  dsimp only at hi hm ⊢
  have hnt := nsz_take ls i
  simp -implicitDefEqProofs (maxSteps := 2000000) (disch := omega) [-getElem?_pos, ho]
  refine .mk (fun h => ?_) fun h => ?_
  · simp -implicitDefEqProofs (maxSteps := 2000000) (disch := omega) [-getElem?_pos, ho]
    refine ⟨by omega, ?_⟩
    intro x hx
    have hx1 := nsz_get hx
    have hx2 := nsz_take ls (i + 1)
    simp -implicitDefEqProofs (maxSteps := 2000000) (disch := omega) [-getElem?_pos, ho]
    refine ⟨⟨i + 1, m1 - 1 - x.length⟩, ⟨by dsimp only; omega, by dsimp only; omega⟩, by dsimp only; omega, .eq (by simp)⟩
  rw [List.take_of_length_le (by omega)] at hm
  clear hnt
  have hnt2 := nsz_take ns
  simp -implicitDefEqProofs (maxSteps := 2000000) (disch := omega) [-getElem?_pos, ho]
  refine W_loop (α := KSt) ⟨0, m1⟩ (fun x => ns.length - x.i) (fun x => ⟨[(2, .ptr σ.objs.length 0), (1, .v (.int .i64 x.m)), (6, .v (.int .i64 x.i))], ⟨os, σ.toks⟩⟩)
    (fun x => x.i ≤ ns.length ∧ x.m = m1 - nsz (ns.take x.i)) (.eq (by simp)) ⟨by simp, by simp [nsz]⟩ fun ⟨i, m2⟩ ⟨hi, hm4⟩ => ?_
  dsimp only at hi hm4 ⊢
  have hnt := nsz_take ns i
  simp -implicitDefEqProofs (maxSteps := 2000000) (disch := omega) [-getElem?_pos, ho]
  refine .mk (fun h => ?_) fun h => ?_
  · simp -implicitDefEqProofs (maxSteps := 2000000) (disch := omega) [-getElem?_pos, ho]
    refine ⟨by omega, ?_⟩
    intro x hx
    have hx1 := nsz_get hx
    have hx2 := nsz_take ns (i + 1)
    simp -implicitDefEqProofs (maxSteps := 2000000) (disch := omega) [-getElem?_pos, ho]
    refine ⟨⟨i + 1, m2 - 1 - x.length⟩, ⟨by dsimp only; omega, by dsimp only; omega⟩, by dsimp only; omega, .eq (by simp)⟩
  rw [List.take_of_length_le (by omega)] at hm4
  clear hnt
  simp -implicitDefEqProofs (maxSteps := 2000000) (disch := omega) [-getElem?_pos, ho]
  refine W_loop (α := KSt) ⟨0, m2⟩ (fun x => l.length - x.i) (fun x => ⟨[(2, .ptr σ.objs.length 0), (1, .v (.int .i64 x.m)), (7, .v (.int .i64 x.i))], ⟨os, σ.toks⟩⟩)
    (fun x => x.i ≤ l.length ∧ x.m ≤ m2 ∧ m2 - cszL (l.take x.i) ≤ x.m ∧ (x.m < 0 ∨ cszL (l.take x.i) ≤ 8 * (m2 - x.m))) (.eq (by simp)) ⟨by simp, by simp, by simp [cszL], by simp [cszL]⟩ fun ⟨i, m3⟩ ⟨hi, hm2, hm3, hm4⟩ => ?_
  dsimp only at hi hm2 hm3 hm4 ⊢
  have hlt := cszL_take l i
  simp -implicitDefEqProofs (maxSteps := 2000000) (disch := omega) [-getElem?_pos, ho]
  refine .mk (fun h => ?_) fun h => ?_
  · simp -implicitDefEqProofs (maxSteps := 2000000) (disch := omega) [-getElem?_pos, ho]
    refine .mk (fun h3 => ?_) fun h3 => ?_
    · simp -implicitDefEqProofs (maxSteps := 2000000) (disch := omega) [-getElem?_pos, ho]
      refine ⟨by omega, ?_⟩
      intro x hx
      have hx1 := cszL_get hx
      have hx2 := cszL_take l (i + 1)
      refine (ih x (List.mem_of_getElem? hx) (by omega) (by omega) (by omega)).then fun r hr => ?_
      obtain ⟨m', h5, h6, h7, rfl⟩ := hr
      simp -implicitDefEqProofs (maxSteps := 2000000) (disch := omega) [-getElem?_pos, ho]
      refine ⟨⟨i + 1, m'⟩, ⟨by dsimp only; omega, by dsimp only; omega, by dsimp only; omega, by dsimp only; omega⟩, by dsimp only; omega, .eq (by simp)⟩
    · simp -implicitDefEqProofs (maxSteps := 2000000) (disch := omega) [-getElem?_pos, ho]
      subst hos
      exact .fin _ ⟨⟨m3, by omega, by omega, .inl (by omega), rfl⟩, rfl⟩ (.refl _)
  · simp -implicitDefEqProofs (maxSteps := 2000000) (disch := omega) [-getElem?_pos, ho]
    subst hos
    exact .fin _ ⟨⟨m3, by omega, by omega, by rw [List.take_of_length_le (by omega)] at hm4; omega, rfl⟩, rfl⟩ (.refl _)
theorem k_FewB {e : Ex} {σ : Sg} (he : csz e ≤ 1048576) : ACalls Tryz.prog 9 [.v (encE e)] σ fun r σ' => (∃ b, r = .v (.bool b) ∧ (b = true → csz e ≤ 160000)) ∧ σ' = σ := by
  have hc := fun σ => k_CountB e (m := 20000) (σ := σ) he (by omega) (by omega)
  cases e with
  | mk k p n s t ls ns l =>
  rw [encE_mk] at hc ⊢
  refine acalls_fit Tryz.func9 (by kernel_rfl) c9 rfl (by simp [a9]) fun hf => ?_
  clear hf
  simp -implicitDefEqProofs (maxSteps := 2000000) (disch := omega) [-getElem?_pos, a9]
  refine (hc _).then fun r hr => ?_
  obtain ⟨m', h5, h6, h7, rfl⟩ := hr
  simp -implicitDefEqProofs (maxSteps := 2000000) (disch := omega) [-getElem?_pos]
  refine .fin (.v (.bool (decide (0 ≤ m')))) ⟨?_, rfl⟩ (.refl _)
  by_cases h0 : 0 ≤ m'
  · exact .inr ⟨by rw [decide_eq_true h0], by omega⟩
  · exact .inl (by rw [decide_eq_false h0])
theorem own_names {k p n : Int} {s t : Str} {ls ns : List Str} {l : List Ex} (h : ownB (.mk k p n s t ls ns l) = true) : ns.length ≤ l.length := by
  have hp := own_sound h
  rw [ownB_mk] at h
  split at h
  · cases h
  rename_i hc
  simp only [not_or] at hc
  have hpt : (l.length : Int) = partsN k ls.length (decide (t ≠ [])) := Classical.byContradiction hc.1
  by_cases h8 : k = 8
  · rw [if_pos h8] at h
    simp only [Bool.and_eq_true, decide_eq_true_eq] at h
    omega
  rw [if_neg h8] at h
  by_cases h14 : k = 14
  · have := hp.1 h14
    unfold partsN at hpt
    rw [if_neg h8, if_pos h14] at hpt
    split at hpt <;> omega
  rw [if_neg h14] at h
  by_cases h7 : k = 7
  · rw [if_pos h7] at h
    simp only [Bool.and_eq_true, decide_eq_true_eq] at h
    omega
  rw [if_neg h7] at h
  simp only [Bool.and_eq_true, decide_eq_true_eq] at h
  omega
theorem name_len {s : Str} (h : isL s 1 = true) : s.length ≤ 20 := by obtain ⟨_, _, _, _, _, _, h⟩ := name_of h; exact h
theorem nsz_names : ∀ {l : List Str}, (∀ x ∈ l, x.length ≤ 20) → nsz l ≤ 21 * l.length
  | [], _ => by simp [nsz]
  | x :: l, h => by
    have h1 := h x (by simp)
    have h2 := nsz_names (l := l) fun y hy => h y (by simp [hy])
    simp only [nsz, List.length_cons]
    omega
theorem head_len {k p : Int} {s t : Str} {ns : List Str} {env : List Frm} {r : Rn} (he : asOk env) (hl : r.old.length + ns.length + 2 < 10 ^ 19) :
    (headN k p s t ns env r).s.length ≤ s.length + 20 ∧ (headN k p s t ns env r).t.length ≤ t.length + 20 ∧ nsz (headN k p s t ns env r).ns ≤ 21 * ns.length := by
  have hv : ∀ i, i ≤ r.old.length + ns.length + 1 → (vN i).length ≤ 20 := fun i h => name_len (vN_name (by omega))
  have hnl := namesR_len ns r
  have hall : nsz ((namesR ns r).1.map (·.2)) ≤ 21 * ns.length := by
    have := nsz_names (l := (namesR ns r).1.map (·.2)) fun x hx => by
      rw [namesR_as] at hx
      simp only [vNs, List.mem_map, List.mem_range'_1] at hx
      obtain ⟨i, hi, rfl⟩ := hx
      exact hv i (by omega)
    rwa [List.length_map, hnl.1] at this
  by_cases h3 : k = 3
  · subst h3
    have e : (headN 3 p s t ns env r).s = (findF env s).1 ∧ (headN 3 p s t ns env r).t = t ∧ (headN 3 p s t ns env r).ns = [] := ⟨rfl, rfl, rfl⟩
    rw [e.1, e.2.1, e.2.2]
    refine ⟨?_, by omega, by simp [nsz]⟩
    cases hf : (findF env s).2 with
    | true => have := name_len (findF_ok he hf); omega
    | false =>
      have : (findF env s).1 = s := by
        unfold findF at hf ⊢
        cases hx : env.reverse.find? fun x => decide (x.1 = s) with
        | none => rfl
        | some x => rw [hx] at hf; cases hf
      rw [this]; omega
  by_cases h4 : k = 4 ∨ k = 6
  · have e : headN k p s t ns env r = ⟨asR r, t, [], (s, asR r), zF, [], bindR s r⟩ := by unfold headN; rw [if_neg h3, if_pos h4]
    rw [e]
    have := hv r.old.length (by omega)
    refine ⟨?_, by dsimp only; omega, by simp [nsz]⟩
    dsimp only
    rw [asR_vN]
    omega
  by_cases h7 : k = 7
  · have e : headN k p s t ns env r = ⟨asR r, asR (bindR s r), [], (s, asR r), (t, asR (bindR s r)), [], bindR t (bindR s r)⟩ := by unfold headN; rw [if_neg h3, if_neg h4, if_pos h7]
    rw [e]
    have h1 := hv r.old.length (by omega)
    have h2 := hv (r.old.length + 1) (by omega)
    have e2 : (bindR s r).old.length = r.old.length + 1 := by simp [bindR]
    refine ⟨?_, ?_, by simp [nsz]⟩
    · dsimp only
      rw [asR_vN]
      omega
    · dsimp only
      rw [asR_vN, e2]
      omega
  by_cases h14 : k = 14
  · by_cases ht : t = []
    · have e : headN k p s t ns env r = ⟨s, t, (namesR ns r).1.map (·.2), zF, zF, (namesR ns r).1, (namesR ns r).2⟩ := by unfold headN; rw [if_neg h3, if_neg h4, if_neg h7, if_pos h14, if_pos ht]
      rw [e]
      exact ⟨by dsimp only; omega, by dsimp only; omega, hall⟩
    · have e : headN k p s t ns env r = ⟨s, asR (namesR ns r).2, (namesR ns r).1.map (·.2), zF, (t, asR (namesR ns r).2), (namesR ns r).1, bindR t (namesR ns r).2⟩ := by unfold headN; rw [if_neg h3, if_neg h4, if_neg h7, if_pos h14, if_neg ht]
      rw [e]
      refine ⟨by dsimp only; omega, ?_, hall⟩
      have := hv (namesR ns r).2.old.length (by omega)
      dsimp only
      rw [asR_vN]
      omega
  have e : headN k p s t ns env r = ⟨s, t, [], zF, zF, [], r⟩ := by unfold headN; rw [if_neg h3, if_neg h4, if_neg h7, if_neg h14]
  rw [e]
  exact ⟨by dsimp only; omega, by dsimp only; omega, by simp [nsz]⟩
theorem goN_size (e : Ex) : fineB e = true → ∀ (env : List Frm) (r : Rn), r.old.length + csz e < 10 ^ 18 → asOk env → csz (goN e env r).e + 21 ≤ csz e + 63 * nds e := by
  refine Ex.ind (P := fun e => fineB e = true → ∀ (env : List Frm) (r : Rn), r.old.length + csz e < 10 ^ 18 → asOk env → csz (goN e env r).e + 21 ≤ csz e + 63 * nds e) (fun k p n s t ls ns l ih => ?_) e
  intro hf env r hsz he
  rw [fineB, Bool.and_eq_true] at hf
  obtain ⟨ho, hfl⟩ := hf
  have hso := own_sound ho
  have hnn := own_names ho
  rw [csz] at hsz
  have hn := nsz_ge ns
  have hh := headN_len k p s t ns env r
  have hhl := head_len (k := k) (p := p) (s := s) (t := t) (ns := ns) (r := r) he (by omega)
  have hpt : (l.length : Int) = partsN k ls.length (decide (t ≠ [])) := by
    rw [ownB_mk] at ho
    split at ho
    · cases ho
    rename_i hc
    simp only [not_or] at hc
    exact Classical.byContradiction hc.1
  have hio : ∀ i, i < l.length → asOk (innerN k (headN k p s t ns env r) env i) := fun i hi => inner_ok he (by omega) fun h14 ht => by
    subst h14 ht
    have : partsN 14 ls.length (decide (([] : Str) ≠ [])) = ls.length + 1 := by simp [partsN]
    have := hso.1 rfl
    omega
  rw [goN]
  dsimp only
  rw [csz, csz, nds]
  generalize headN k p s t ns env r = h at *
  have hL : ∀ (l : List Ex) (i n : Nat) (r : Rn), n = i + l.length → (∀ j, j < n → asOk (innerN k h env j)) → fineLB l = true → r.old.length + cszL l < 10 ^ 18 →
      (∀ x ∈ l, fineB x = true → ∀ (env : List Frm) (r : Rn), r.old.length + csz x < 10 ^ 18 → asOk env → csz (goN x env r).e + 21 ≤ csz x + 63 * nds x) → cszL (goL k h env i l r).l + 21 * l.length ≤ cszL l + 63 * ndsL l := by
    intro l
    induction l with
    | nil => intro i n r _ _ _ _ _; simp [goL, cszL]
    | cons x l ihl =>
      intro i n r hn hj hfl hr hx
      rw [fineLB, Bool.and_eq_true] at hfl
      simp only [List.length_cons] at hn
      simp only [cszL] at hr
      have hl := (goN_len x (innerN k h env i) r).1
      have h1 := hx x (by simp) hfl.1 (innerN k h env i) r (by omega) (hj i (by omega))
      have h2 := ihl (i + 1) n (goN x (innerN k h env i) r).r (by omega) hj hfl.2 (by omega) fun y hy => hx y (by simp [hy])
      simp only [goL, cszL, ndsL, List.length_cons]
      omega
  have := hL l 0 l.length h.r (by omega) hio hfl (by omega) ih
  omega
def ex8a : Ex := .mk 3 0 0 [97] [] [] [] []
def ex8 : Ex := .mk 4 0 0 [97] [] [] [] [.mk 4 0 0 [97] [] [] [] [ex8a]]
def ex8v : Ex := .mk 3 3 0 [97] [] [] [] []
theorem ex8_le : VLes [.int .i64 4, .int .i64 0, .int .i64 0, .str [97], .str [], .snil, .snil, .sl (some 8) true [.agg [.int .i64 4, .int .i64 0, .int .i64 0, .str [97], .str [], .snil, .snil, .sl (some 8) true [.agg [.int .i64 3, .int .i64 0, .int .i64 0, .str [97], .str [], .snil, .snil, .snil]]]]] (celE ex8) :=
  ⟨.refl _, .refl _, .refl _, .refl _, .refl _, .snil, .snil, exs_le ⟨⟨.refl _, .refl _, .refl _, .refl _, .refl _, .snil, .snil, exs_le ⟨⟨.refl _, .refl _, .refl _, .refl _, .refl _, .snil, .snil, .snil, trivial⟩, trivial⟩, trivial⟩, trivial⟩, trivial⟩
theorem ex8v_le : VLes [.int .i64 3, .int .i64 3, .int .i64 0, .str [97], .str [], .snil, .snil, .snil] (celE ex8v) := ⟨.refl _, .refl _, .refl _, .refl _, .refl _, .snil, .snil, .snil, trivial⟩
def ex8n : Ex := .mk 4 0 0 [118, 48] [] [] [] [.mk 4 0 0 [118, 49] [] [] [] [.mk 3 0 0 [118, 49] [] [] [] []]]
theorem itoa01 : Lib.itoa ((0 : Nat) : Int) = [48] ∧ Lib.itoa ((1 : Nat) : Int) = [49] := by
  refine ⟨?_, ?_⟩ <;> (rw [itoa_nat, Lib.decDigits]; rfl)
theorem num8 : numberD ex8 = .tup [.v (encE ex8n), .v (vS [[97], [97]]), .v .inil] := by
  have hm : mayB ex8 = true := by kernel_rfl
  have hg : goN ex8 [] r0 = ⟨ex8n, ⟨[[97], [97]], []⟩⟩ := by
    have h0 : asR r0 = [118, 48] := by show [118] ++ Lib.itoa ((0 : Nat) : Int) = _; rw [itoa01.1]; rfl
    have h1 : asR ⟨[[97]], []⟩ = [118, 49] := by show [118] ++ Lib.itoa ((1 : Nat) : Int) = _; rw [itoa01.2]; rfl
    have e0 : headN 4 0 [97] [] [] [] r0 = ⟨[118, 48], [], [], ([97], [118, 48]), zF, [], ⟨[[97]], []⟩⟩ := by unfold headN; rw [if_neg (by decide), if_pos (.inl rfl), h0]; rfl
    have e1 : headN 4 0 [97] [] [] [([97], [118, 48])] ⟨[[97]], []⟩ = ⟨[118, 49], [], [], ([97], [118, 49]), zF, [], ⟨[[97], [97]], []⟩⟩ := by unfold headN; simp [h1, bindR]
    have i0 : innerN 4 ⟨[118, 48], [], [], ([97], [118, 48]), zF, [], ⟨[[97]], []⟩⟩ [] 0 = [([97], [118, 48])] := rfl
    have i1 : innerN 4 ⟨[118, 49], [], [], ([97], [118, 49]), zF, [], ⟨[[97], [97]], []⟩⟩ [([97], [118, 48])] 0 = [([97], [118, 48]), ([97], [118, 49])] := rfl
    have e2 : headN 3 0 [97] [] [] [([97], [118, 48]), ([97], [118, 49])] ⟨[[97], [97]], []⟩ = ⟨[118, 49], [], [], zF, zF, [], ⟨[[97], [97]], []⟩⟩ := rfl
    simp only [ex8, ex8a, ex8n, goN, goL, e0, e1, i0, i1, e2]
  unfold numberD
  rw [if_pos hm, hg]
theorem chk8 : checkD ex8v = spotV 3 4 := by
  have hm : mayB ex8v = true := by kernel_rfl
  unfold checkD
  rw [if_pos hm]
  rfl
theorem k_Up8 {σ : Sg} : ACalls Tryz.prog 13 [] σ fun r σ' => r = .v (.bool true) ∧ σ' = σ := by
  have e1 := fun σ => (k_Number (e := ex8) (σ := σ) (by decide)).arg1 (ex_le ex8_le).d
  have e2 := fun σ => (k_Check (e := ex8v) (σ := σ) (by decide)).arg1 (ex_le ex8v_le).d
  have ko := fun σ => k_OfSpotI (q := 3) (k := 4) (σ := σ)
  rw [num8] at e1
  rw [chk8] at e2
  unfold ex8n at e1
  unfold spotV at e2 ko
  rw [encE_mk] at e1
  refine acalls_fit Tryz.func13 (by kernel_rfl) c13 rfl (by simp [a13]) fun hf => ?_
  clear hf
  simp -implicitDefEqProofs (maxSteps := 2000000) (disch := omega) [-getElem?_pos, a13]
  refine (e1 _).then fun r hr => ?_
  subst hr
  simp -implicitDefEqProofs (maxSteps := 2000000) (disch := omega) [-getElem?_pos]
  refine (e2 _).then fun r hr => ?_
  subst hr
  simp -implicitDefEqProofs (maxSteps := 2000000) (disch := omega) [-getElem?_pos]
  refine (ko _).then fun r hr => ?_
  subst hr
  simp -implicitDefEqProofs (maxSteps := 2000000) (disch := omega) [-getElem?_pos, encE_mk]
  exact .fin _ ⟨rfl, rfl⟩ (.refl _)
structure OnceF (e : Ex) (y : Ex) (old : List Str) (free : List Int) : Prop where
  bnd : bndrs y = vNs 0 old.length
  ol : old.length ≤ 160000
  sz : csz y ≤ 1048576
  num : numberD y = .tup [.v (encE y), .v (vS (goN y [] r0).r.old), .v .inil] ∨ free ≠ []
  chk : checkD y = .v .inil ∨ free ≠ []
  fr : free = [] ↔ fvs e = []
  fry : free = [] → fvs y = []
  any : ∃ z o d, numberD y = .tup [.v (encE z), .v (vS o), d] ∧ (d = .v .inil ∨ d = errArg)
theorem may_fineB {e : Ex} (h : mayB e = true) : fineB e = true := by
  unfold mayB at h
  simp only [Bool.and_eq_true] at h
  exact h.2.2
theorem onceF {e : Ex} (hm : mayB e = true) (hs : csz e ≤ 160000) : OnceF e (goN e [] r0).e (goN e [] r0).r.old (goN e [] r0).r.free := by
  have hmy : (goN e [] r0).r.free = [] → mayB (goN e [] r0).e = true := fun h => goN_may hm (by omega) ((free_nil (fine_sound e (may_fineB hm))).1 h)
  have hfi := may_fineB hm
  have hb := (goN_bndrs e [] r0).2
  have hl := (goN_len e [] r0).1
  have hz := goN_size e hfi [] r0 (by simp [r0]; omega) (fun f hf => by cases hf)
  have hn : nds e ≤ 1500 := by
    unfold mayB at hm
    simp only [Bool.and_eq_true, decide_eq_true_eq] at hm
    exact hm.2.1
  have hag := again_nil e
  have haf := again_free e [] r0 r0 rfl
  have h0 : r0.old.length = 0 := rfl
  rw [h0] at hb hl
  refine ⟨by simpa using hb, by omega, by omega, ?_, ?_, free_nil (fine_sound e hfi), fun h => ?_, ?_⟩
  · by_cases hf : (goN e [] r0).r.free = []
    · left
      unfold numberD
      rw [if_pos (hmy hf)]
      have : (goN (goN e [] r0).e [] r0).e = (goN e [] r0).e := hag
      rw [this]
    · exact .inr hf
  · by_cases hf : (goN e [] r0).r.free = []
    · left
      unfold checkD
      rw [if_pos (hmy hf)]
      have : (goN (goN e [] r0).e [] r0).r.free = [] := haf hf
      rw [this]
    · exact .inr hf
  · have : (goN (goN e [] r0).e [] r0).r.free = [] := haf h
    exact (free_nil (goN_sound e (fine_sound e hfi) [] r0)).1 this
  · unfold numberD
    cases mayB (goN e [] r0).e with
    | true => exact ⟨_, _, _, rfl, .inl rfl⟩
    | false => exact ⟨_, _, _, rfl, .inr rfl⟩
theorem k_PlacesR (e : Ex) : ∀ {σ : Sg}, csz e ≤ 1048576 → ACalls Tryz.prog 20 [.v (encE e), .v (encE e)] σ fun r σ' => r = .v (.bool true) ∧ σ' = σ := by
  refine Ex.ind (P := fun e => ∀ {σ : Sg}, csz e ≤ 1048576 → ACalls Tryz.prog 20 [.v (encE e), .v (encE e)] σ fun r σ' => r = .v (.bool true) ∧ σ' = σ) (fun k p n s t ls ns l ih => ?_) e
  intro σ he
  rw [csz] at he
  have hcl := cszL_len l
  rw [encE_mk]
  refine acalls_fit Tryz.func20 (by kernel_rfl) c20 rfl (by simp [a20]) fun hf => ?_
  clear hf
  simp -implicitDefEqProofs (maxSteps := 2000000) (disch := omega) [-getElem?_pos, a20]
  refine W_loop (α := Nat) 0 (fun i => l.length - i) (fun i => ⟨[(2, .ptr σ.objs.length 0), (3, .ptr (σ.objs.length + 1) 0), (5, .v (.int .i64 i))], ⟨σ.objs ++ [obE (.mk k p n s t ls ns l), obE (.mk k p n s t ls ns l)], σ.toks⟩⟩) (fun i => i ≤ l.length) (.eq2 (by simp [obE_mk]) (by simp)) (Nat.zero_le _) fun i hi => ?_
  simp -implicitDefEqProofs (maxSteps := 2000000) (disch := omega) [-getElem?_pos, obE_mk]
  refine .mk (fun hlt => ?_) fun hlt => ?_
  · obtain ⟨x, hx⟩ : ∃ x, l[i]? = some x := ⟨_, List.getElem?_eq_getElem (by omega)⟩
    have hx1 := cszL_mem (List.mem_of_getElem? hx)
    simp -implicitDefEqProofs (maxSteps := 2000000) (disch := omega) [-getElem?_pos, obE_mk, hx]
    refine ⟨by omega, ?_⟩
    refine (ih x (List.mem_of_getElem? hx) (by omega)).then fun r hr => ?_
    subst hr
    simp -implicitDefEqProofs (maxSteps := 2000000) (disch := omega) [-getElem?_pos]
    exact ⟨i + 1, by omega, by dsimp only; omega, .eq2 (by simp [obE_mk]) (by simp)⟩
  · simp -implicitDefEqProofs (maxSteps := 2000000) (disch := omega) [-getElem?_pos]
    exact .fin _ ⟨rfl, rfl⟩ (.refl _)
theorem k_TextsR {l : List Str} {σ : Sg} : ACalls Tryz.prog 21 [.v (vS l), .v (vS l)] σ fun r σ' => r = .v (.bool true) ∧ σ' = σ := by
  have kt := fun σ => k_Texts5 (a := l) (b := l) (σ := σ)
  refine acalls_fit Tryz.func21 (by kernel_rfl) c21 rfl (by simp [a21]) fun hf => ?_
  clear hf
  simp -implicitDefEqProofs (maxSteps := 2000000) (disch := omega) [-getElem?_pos, a21]
  refine (kt _).then fun r hr => ?_
  subst hr
  simp -implicitDefEqProofs (maxSteps := 2000000) (disch := omega) [-getElem?_pos]
  exact .fin _ ⟨by simp, rfl⟩ (.refl _)
theorem k_RDo0 {e : Ex} {p : Nat} {σ : Sg} (hfi : fineB e = true) (he : csz e ≤ 1048576) (hp : σ.objs[p]? = some (.cells [.v .snil, .v (.int .i64 0), .v (.bool false)])) : ACalls Tryz.prog 18 [.ptr p 0, .v (encE e), .v .snil] σ fun x σ' => x = .v (encE (goN e [] r0).e) ∧ ∃ a' tk', σ' = ⟨σ.objs.set p (numOb a' (goN e [] r0).r), tk'⟩ ∧ NStep σ.toks none r0 tk' a' (goN e [] r0).r := by
  refine (k_RDo e hfi [] false r0 none p σ he (by simp; omega) (by simp [r0]; omega) (by simp [r0]; omega) hp ⟨rfl, rfl, fun i h => by cases h⟩).args rfl fun i d d' h1 h2 => ?_
  match i with
  | 0 => cases h1; cases h2; exact .refl _
  | 1 => cases h1; cases h2; exact .refl _
  | 2 => cases h1; cases h2; exact VLe.snil.d
  | i + 3 => simp at h1
def checkR (e : Ex) : D := if mayB e = true then (match (goN e [] r0).r.free with
  | [] => .tup [.v (.int .i64 0), .v (.int .i64 (-1))]
  | q :: _ => .tup [.v (.int .i64 4), .v (.int .i64 q)]) else .tup [.v (.int .i64 1), .v (.int .i64 (-1))]
theorem k_RCheck {e : Ex} {σ : Sg} (he : csz e ≤ 1048576) : ACalls Tryz.prog 14 [.v (encE e)] σ fun r σ' => r = checkR e ∧ σ' = σ := by
  have km := fun σ => k_RMay (e := e) (σ := σ) he
  have kg := fun (hm : mayB e = true) p σ => k_RDo0 (e := e) (p := p) (σ := σ) (may_fineB hm) he
  have hD : checkR e = if mayB e = true then (match (goN e [] r0).r.free with
    | [] => .tup [.v (.int .i64 0), .v (.int .i64 (-1))]
    | q :: _ => .tup [.v (.int .i64 4), .v (.int .i64 q)]) else .tup [.v (.int .i64 1), .v (.int .i64 (-1))] := rfl
  generalize checkR e = D0 at hD ⊢
  generalize hM : mayB e = M at hD km kg
  generalize goN e [] r0 = X at hD kg
  obtain ⟨y, ⟨old, free⟩⟩ := X
  cases e with
  | mk k p n s t ls ns l =>
  rw [encE_mk] at km kg ⊢
  refine acalls_fit Tryz.func14 (by kernel_rfl) c14 rfl (by simp [a14]) fun hf => ?_
  clear hf
  simp -implicitDefEqProofs (maxSteps := 2000000) (disch := omega) [-getElem?_pos, a14]
  refine (km _).then fun x hx => ?_
  subst hx
  cases M with
  | false =>
    simp -implicitDefEqProofs (maxSteps := 2000000) (disch := omega) [-getElem?_pos]
    exact .fin _ ⟨by rw [hD]; rfl, rfl⟩ (.refl _)
  | true =>
    simp -implicitDefEqProofs (maxSteps := 2000000) (disch := omega) [-getElem?_pos]
    refine (kg rfl (σ.objs.length + 1) _ (by simp)).mono fun x σ' hx => ?_
    obtain ⟨rfl, a', tk', rfl, hst⟩ := hx
    obtain ⟨ts, rfl⟩ := RStep.ext hst
    unfold numOb
    cases free with
    | nil =>
      simp -implicitDefEqProofs (maxSteps := 2000000) (disch := omega) [-getElem?_pos]
      exact .fin _ ⟨by rw [hD]; rfl, rfl⟩ (.refl _)
    | cons q rest =>
      simp -implicitDefEqProofs (maxSteps := 2000000) (disch := omega) [-getElem?_pos]
      exact .fin _ ⟨by rw [hD]; rfl, rfl⟩ (.refl _)
theorem tok_le {tk : List Nat} {a : Option Nat} {l : List Str} (h : tokOk tk a l.length) : D.Le (tokD a (l.map .str)) (.v (vS l)) := by
  cases a with
  | none =>
    have h0 : l = [] := List.length_eq_zero_iff.1 h
    subst h0
    exact VLe.snil.d
  | some T => exact .tsl
theorem k_Tells8 {e : Ex} {σ : Sg} (he : csz e ≤ 1048576) : ACalls Tryz.prog 4 [.v (encE e)] σ fun r σ' => r = .v (.bool true) ∧ σ' = σ := by
  have ku := fun σ => k_Up8 (σ := σ)
  have kf := fun σ => k_FewB (e := e) (σ := σ) he
  have kn := fun σ => k_Number (e := e) (σ := σ) he
  have kc := fun σ => k_Check (e := e) (σ := σ) he
  have kr := fun σ => k_RCheck (e := e) (σ := σ) he
  have kg := fun (hm : mayB e = true) p σ => k_RDo0 (e := e) (p := p) (σ := σ) (may_fineB hm) he
  have hN : numberD e = if mayB e = true then .tup [.v (encE (goN e [] r0).e), .v (vS (goN e [] r0).r.old), .v .inil] else .tup [.v (encE zEx), .v (vS []), errArg] := rfl
  have hC : checkD e = if mayB e = true then (match (goN e [] r0).r.free with
    | [] => .v .inil
    | q :: _ => spotV q 4) else errArg := rfl
  have hR : checkR e = if mayB e = true then (match (goN e [] r0).r.free with
    | [] => .tup [.v (.int .i64 0), .v (.int .i64 (-1))]
    | q :: _ => .tup [.v (.int .i64 4), .v (.int .i64 q)]) else .tup [.v (.int .i64 1), .v (.int .i64 (-1))] := rfl
  have F := fun hm hs => onceF (e := e) hm hs
  generalize numberD e = ND at kn hN
  generalize checkD e = CD at kc hC
  generalize checkR e = RR at kr hR
  generalize hM : mayB e = M at hN hC hR kg F
  generalize goN e [] r0 = X at hN hC hR kg F
  obtain ⟨y, ⟨old, free⟩⟩ := X
  cases e with
  | mk k p n s t ls ns l =>
  rw [encE_mk] at kf kn kc kr kg ⊢
  refine acalls_fit Tryz.func4 (by kernel_rfl) c4 rfl (by simp [a4]) fun hf => ?_
  clear hf
  simp -implicitDefEqProofs (maxSteps := 2000000) (disch := omega) [-getElem?_pos, a4]
  refine (ku _).then fun r hr => ?_
  subst hr
  simp -implicitDefEqProofs (maxSteps := 2000000) (disch := omega) [-getElem?_pos]
  refine (kf _).then fun r hr => ?_
  obtain ⟨b, rfl, hb⟩ := hr
  cases b with
  | false =>
    simp -implicitDefEqProofs (maxSteps := 2000000) (disch := omega) [-getElem?_pos]
    exact .fin _ ⟨rfl, rfl⟩ (.refl _)
  | true =>
  have hsz := hb rfl
  clear hb kf
  simp -implicitDefEqProofs (maxSteps := 2000000) (disch := omega) [-getElem?_pos]
  refine (kr _).then fun r hr => ?_
  rw [hr]
  clear hr r
  cases M with
  | false =>
    have hN : ND = .tup [.v (encE zEx), .v (vS []), errArg] := hN
    have hC : CD = errArg := hC
    have hR : RR = .tup [.v (.int .i64 1), .v (.int .i64 (-1))] := hR
    subst hN hC hR
    unfold errArg at kc kn
    unfold zEx at kn
    rw [encE_mk] at kn
    simp -implicitDefEqProofs (maxSteps := 2000000) (disch := omega) [-getElem?_pos]
    refine (kc _).then fun r hr => ?_
    subst hr
    simp -implicitDefEqProofs (maxSteps := 2000000) (disch := omega) [-getElem?_pos]
    refine k_Of1.then fun r hr => ?_
    subst hr
    simp -implicitDefEqProofs (maxSteps := 2000000) (disch := omega) [-getElem?_pos]
    refine (kn _).then fun r hr => ?_
    subst hr
    simp -implicitDefEqProofs (maxSteps := 2000000) (disch := omega) [-getElem?_pos]
    exact ⟨by kernel_rfl, .fin _ ⟨rfl, rfl⟩ (.refl _)⟩
  | true =>
  have F := F rfl hsz
  have hsy := F.sz
  clear F
  have kg := kg rfl
  have hN : ND = .tup [.v (encE y), .v (vS old), .v .inil] := hN
  subst hN
  have ksm : ∀ σ, ACalls Tryz.prog 19 [.v (encE y), .v (encE y)] σ fun r σ' => r = .v (.bool true) ∧ σ' = σ := fun σ => by
    have h := k_Same5 y y (σ := σ) hsy
    have hs : sameB y y = true := by unfold sameB; exact decide_eq_true rfl
    rwa [hs] at h
  have kpl := fun σ => k_PlacesR y (σ := σ) hsy
  have ktx : ∀ (d : D), D.Le d (.v (vS old)) → ∀ σ, ACalls Tryz.prog 21 [.v (vS old), d] σ fun r σ' => r = .v (.bool true) ∧ σ' = σ := fun d hd σ =>
    (k_TextsR (l := old) (σ := σ)).args rfl fun i d1 d2 h1 h2 => by
      match i with
      | 0 => cases h1; cases h2; exact .refl _
      | 1 => cases h1; cases h2; exact hd
      | i + 2 => simp at h1
  cases y with
  | mk k2 p2 n2 s2 t2 ls2 ns2 l2 =>
  rw [encE_mk] at kn ksm kpl kg
  cases free with
  | nil =>
    have hC : CD = .v .inil := hC
    have hR : RR = .tup [.v (.int .i64 0), .v (.int .i64 (-1))] := hR
    subst hC hR
    simp -implicitDefEqProofs (maxSteps := 2000000) (disch := omega) [-getElem?_pos]
    refine (kc _).then fun r hr => ?_
    subst hr
    simp -implicitDefEqProofs (maxSteps := 2000000) (disch := omega) [-getElem?_pos]
    refine k_Of0.then fun r hr => ?_
    subst hr
    simp -implicitDefEqProofs (maxSteps := 2000000) (disch := omega) [-getElem?_pos]
    refine (kn _).then fun r hr => ?_
    subst hr
    simp -implicitDefEqProofs (maxSteps := 2000000) (disch := omega) [-getElem?_pos]
    refine (kg (σ.objs.length + 2) _ (by simp)).mono fun x σ' hx => ?_
    obtain ⟨rfl, a', tk', rfl, hst⟩ := hx
    obtain ⟨ts, rfl⟩ := RStep.ext hst
    unfold numOb
    dsimp only
    have hLe := tok_le hst.oa
    dsimp only [o0] at hLe
    generalize tokD a' (old.map .str) = T at hLe ⊢
    simp -implicitDefEqProofs (maxSteps := 2000000) (disch := omega) [-getElem?_pos]
    refine (ksm _).then fun r hr => ?_
    subst hr
    simp -implicitDefEqProofs (maxSteps := 2000000) (disch := omega) [-getElem?_pos]
    refine (kpl _).then fun r hr => ?_
    subst hr
    simp -implicitDefEqProofs (maxSteps := 2000000) (disch := omega) [-getElem?_pos]
    refine (ktx T hLe _).then fun r hr => ?_
    subst hr
    simp -implicitDefEqProofs (maxSteps := 2000000) (disch := omega) [-getElem?_pos]
    exact .fin _ ⟨rfl, rfl⟩ (.refl _)
  | cons q rest =>
    have hC : CD = spotV q 4 := hC
    have hR : RR = .tup [.v (.int .i64 4), .v (.int .i64 q)] := hR
    subst hC hR
    have ko := fun σ => k_OfSpotI (q := q) (k := 4) (σ := σ)
    unfold spotV at kc ko
    simp -implicitDefEqProofs (maxSteps := 2000000) (disch := omega) [-getElem?_pos]
    refine (kc _).then fun r hr => ?_
    subst hr
    simp -implicitDefEqProofs (maxSteps := 2000000) (disch := omega) [-getElem?_pos]
    refine (ko _).then fun r hr => ?_
    subst hr
    simp -implicitDefEqProofs (maxSteps := 2000000) (disch := omega) [-getElem?_pos]
    refine (kn _).then fun r hr => ?_
    subst hr
    simp -implicitDefEqProofs (maxSteps := 2000000) (disch := omega) [-getElem?_pos]
    refine (kg (σ.objs.length + 2) _ (by simp)).mono fun x σ' hx => ?_
    obtain ⟨rfl, a', tk', rfl, hst⟩ := hx
    obtain ⟨ts, rfl⟩ := RStep.ext hst
    unfold numOb
    dsimp only
    have hLe := tok_le hst.oa
    dsimp only [o0] at hLe
    generalize tokD a' (old.map .str) = T at hLe ⊢
    simp -implicitDefEqProofs (maxSteps := 2000000) (disch := omega) [-getElem?_pos]
    refine (ksm _).then fun r hr => ?_
    subst hr
    simp -implicitDefEqProofs (maxSteps := 2000000) (disch := omega) [-getElem?_pos]
    refine (kpl _).then fun r hr => ?_
    subst hr
    simp -implicitDefEqProofs (maxSteps := 2000000) (disch := omega) [-getElem?_pos]
    refine (ktx T hLe _).then fun r hr => ?_
    subst hr
    simp -implicitDefEqProofs (maxSteps := 2000000) (disch := omega) [-getElem?_pos]
    exact .fin _ ⟨rfl, rfl⟩ (.refl _)
namespace parS
theorem strs_of {x : V} (h : Arg Tryz.prog 22 x) : ∃ l : List Str, x = vS l := by
  obtain ⟨xs, rfl, _, hx⟩ := h.sl (e := 9) (sh := none) (by kernel_rfl) (by kernel_rfl) (by kernel_rfl)
  obtain ⟨l, rfl⟩ := list_of_all (enc := V.str) fun y hy => by
    obtain ⟨n, rfl, _⟩ := (hx y hy).str (by kernel_rfl) (by kernel_rfl)
    exact ⟨n, rfl⟩
  exact ⟨l, rfl⟩
theorem sl_arg {P : Program} {t e : TypeId} {sh : Sh} {cs : List V} (hu : P.underlying t = some (.slice e)) (hs : tsh P t = some none) (he : tsh P e = some sh) (h : Ty P t cs) : ∃ x, cs = [x] ∧ Arg P t x := by
  obtain ⟨xs, rfl, _, _⟩ := h.sl_inv hu he
  exact ⟨_, rfl, h, hs⟩
theorem bulk_mem {y : V} : ∀ {xs : List V}, y ∈ xs → y.bulk ≤ V.bulkL xs
  | x :: xs, h => by
    simp only [V.bulkL]
    rcases List.mem_cons.1 h with rfl | h
    · omega
    · have := bulk_mem h; omega
theorem intsL_sub : ∀ l : List {e : Ex // intsE e}, intsL (l.map (·.1))
  | [] => by simp [intsL]
  | z :: l => by rw [List.map_cons, intsL]; exact ⟨z.2, intsL_sub l⟩
theorem expr_of2 : ∀ (n : Nat) {x : V}, x.bulk ≤ n → Arg Tryz.prog 25 x → ∃ t : Ex, x = encE t ∧ intsE t
  | 0, x, hn, h => by
    obtain ⟨parts, rfl, hp⟩ := h.struct (t := 25) (fs := Tryz.prog.fieldsOf 25) (n := 8) (ts := [3, 3, 2, 9, 9, 22, 22, 23]) (by kernel_rfl) (by kernel_rfl) (by kernel_rfl)
    match parts, hp with
    | [p, q, r, s, t, u, v, w], ⟨h1, h2, h3, h4, h5, h6, h7, h8, _⟩ =>
      obtain ⟨a, rfl, _⟩ := h1.int_inv (k := .i64) (by kernel_rfl)
      simp [V.bulk, V.bulkL] at hn
  | n + 1, x, hn, h => by
    obtain ⟨parts, rfl, hp⟩ := h.struct (t := 25) (fs := Tryz.prog.fieldsOf 25) (n := 8) (ts := [3, 3, 2, 9, 9, 22, 22, 23]) (by kernel_rfl) (by kernel_rfl) (by kernel_rfl)
    match parts, hp with
    | [p, q, r, s, t, u, v, w], ⟨h1, h2, h3, h4, h5, h6, h7, h8, _⟩ =>
      obtain ⟨a, rfl, _⟩ := h1.int_inv (k := .i64) (by kernel_rfl)
      obtain ⟨a2, rfl, _⟩ := h2.int_inv (k := .i64) (by kernel_rfl)
      obtain ⟨b, rfl, hb⟩ := h3.int_inv (k := .i64) (by kernel_rfl)
      obtain ⟨c, rfl, _⟩ := h4.str_inv (by kernel_rfl)
      obtain ⟨d, rfl, _⟩ := h5.str_inv (by kernel_rfl)
      obtain ⟨y0, rfl, hy0⟩ := sl_arg (e := 9) (sh := none) (by kernel_rfl) (by kernel_rfl) (by kernel_rfl) h6
      obtain ⟨ls, rfl⟩ := strs_of hy0
      obtain ⟨y1, rfl, hy1⟩ := sl_arg (e := 9) (sh := none) (by kernel_rfl) (by kernel_rfl) (by kernel_rfl) h7
      obtain ⟨ns, rfl⟩ := strs_of hy1
      obtain ⟨y2, rfl, hy2⟩ := sl_arg (e := 25) (sh := some 8) (by kernel_rfl) (by kernel_rfl) (by kernel_rfl) h8
      obtain ⟨xs, rfl, _, hx⟩ := hy2.sl (e := 25) (sh := some 8) (by kernel_rfl) (by kernel_rfl) (by kernel_rfl)
      simp [V.bulk, V.bulkL] at hn
      obtain ⟨l, rfl⟩ := list_of_all (enc := fun e : {e : Ex // intsE e} => encE e.1) fun y hy => by
        obtain ⟨t, ht, hi⟩ := expr_of2 n (by have := bulk_mem hy; omega) (hx y hy)
        exact ⟨⟨t, hi⟩, ht⟩
      refine ⟨.mk a a2 b c d ls ns (l.map (·.1)), by rw [encE_mk, List.map_map]; rfl, ?_⟩
      rw [intsE]
      refine ⟨hb, ?_⟩
      exact intsL_sub l
def p10T : List Int := (List.range 20).map fun i => ((10 ^ i : Nat) : Int)
theorem own : ownKnob Tryz.prog.godebug = none := by kernel_rfl
theorem laidOut : laidOutB Tryz.prog = true := by kernel_rfl
theorem gErr : (Tryz.prog.globals[6]?).map (·.type) = some 29 := by kernel_rfl
theorem errI : ∃ ms, Tryz.prog.underlying 29 = some (.interface ms) := ⟨_, Tryz.underlying29⟩
theorem rtT : (Tryz.prog.cutTypes.find? (·.1 == "internal/reflectlite.rtype")).map (·.2) = some 143 := by kernel_rfl
theorem size : Tryz.prog.types.size = 276 := by kernel_rfl
theorem oneRow : ((List.range 276).filter fun t => Tryz.prog.rowNamed t [101, 114, 114, 111, 114]) = [29] := by kernel_rfl
theorem hcells {W : World} {g : Nat} {name : String} {cs : Array Value} (hn : Tryz.prog.globalNamed name = some g) (h : W.var? Tryz.prog name = some cs) : ∃ ty fr, W.heap[g]? = some (.cells cs ty fr) := by
  unfold World.var? at h
  rw [hn] at h
  simp only [Option.bind_some] at h
  cases hx : W.heap[g]? with
  | none => rw [hx] at h; cases h
  | some ob =>
    rw [hx] at h
    cases ob with
    | cells cs' ty fr =>
      have h' : some cs' = some cs := h
      cases h'
      exact ⟨ty, fr, rfl⟩
    | _ => cases h
theorem glob_of {W : World} (h : laidMetH Tryz.prog Rows.parseBackUptoRow.laid W) : ∀ p ∈ globs, ∃ cs ty fr, W.heap[p.1]? = some (.cells cs ty fr) ∧ p.2 cs := by
  have h' : laidMet Tryz.prog [("math/bits.deBruijn32tab", Rows.laid_math_bits_deBruijn32tab), ("math/bits.deBruijn64tab", Rows.laid_math_bits_deBruijn64tab), ("internal/strconv.uint64pow10", Lib.tabData .u64 p10T), ("strconv.ErrRange", Rows.laid_strconv_ErrRange), ("strconv.ErrSyntax", Rows.laid_strconv_ErrSyntax)] W ∧ handlesMet Tryz.prog [("errors.errorType", Rows.laid_errors_errorType)] W := h
  obtain ⟨⟨ps, hv, _⟩, hh⟩ := h'
  obtain ⟨_, _, _, _, _, _, _, _, _, _, hv, _⟩ := hv
  obtain ⟨_, _, _, _, _, _, _, _, _, _, hv, _⟩ := hv
  obtain ⟨g1, t1, cs1, fuel1, p1, q1, hg1, ht1, hvar1, hd1, hv, _⟩ := hv
  obtain ⟨g2, t2, cs2, fuel2, p2, q2, hg2, ht2, hvar2, hd2, _, _⟩ := hv
  obtain ⟨name, u, ty, e1, e2, e3, e4, e5⟩ := hh _ (List.mem_singleton.2 rfl)
  have en : name = [101, 114, 114, 111, 114] := (Option.some.inj e1).symm
  subst en
  obtain rfl := Option.some.inj (rtT.symm.trans e2)
  have hm : ty ∈ (List.range 276).filter fun t => Tryz.prog.rowNamed t [101, 114, 114, 111, 114] := List.mem_filter.2 ⟨List.mem_range.2 (by rw [← size]; exact e3), e4⟩
  rw [oneRow] at hm
  obtain rfl := List.mem_singleton.1 hm
  have hth : typeHandle Tryz.prog 29 = .pointer (some ⟨7, 29, none⟩) := by kernel_rfl
  rw [hth] at e5
  obtain rfl := Option.some.inj ((show (Tryz.prog.globals[1]?).map (·.type) = some 186 by kernel_rfl).symm.trans ((Option.some.inj ((show Tryz.prog.globalNamed "internal/strconv.uint64pow10" = some 1 by kernel_rfl).symm.trans hg1)) ▸ ht1))
  obtain rfl := Option.some.inj ((show Tryz.prog.globalNamed "strconv.ErrRange" = some 6 by kernel_rfl).symm.trans hg2)
  obtain rfl := Option.some.inj (gErr.symm.trans ht2)
  obtain ⟨ms, hms⟩ := errI
  obtain ⟨_, te, pe, hcs2, _, _⟩ := iface_of_trod hms hd2
  have hcs2' : cs2 = #[.iface te pe] := Array.eq_one_of_toList hcs2
  subst hcs2'
  have ht := Lib.cells_of_tab (t := 186) (e := 137) (n := 20) (by kernel_rfl) (by kernel_rfl) (by kernel_rfl) (by kernel_rfl) hd1
  obtain ⟨ty0, fr0, h0⟩ := hcells (g := 0) (by kernel_rfl) e5
  obtain ⟨ty1, fr1, h1⟩ := hcells (g := 1) (by kernel_rfl) hvar1
  obtain ⟨ty2, fr2, h2⟩ := hcells (g := 6) (by kernel_rfl) hvar2
  intro p hp
  simp only [globs, List.mem_cons, List.not_mem_nil, or_false] at hp
  rcases hp with rfl | rfl | rfl
  · exact ⟨_, _, _, h0, rfl⟩
  · exact ⟨_, _, _, h1, Array.toList_inj.1 (ht.trans (by kernel_rfl))⟩
  · exact ⟨_, _, _, h2, _, _, rfl⟩
def cellsTo (cs : Array Value) : Obj → Obj
  | .cells _ t frozen => .cells cs t frozen
  | o => o
noncomputable def low : Nat := (World.holding Tryz.prog default ⟨#[], #[], []⟩).heap.size
noncomputable def laidWorld (os : Os) : World :=
  { World.holding Tryz.prog os ⟨#[.cells #[.string ⟨#[118, 97, 108, 117, 101, 32, 111, 117, 116, 32, 111, 102, 32, 114, 97, 110, 103, 101]⟩] 247, .cells #[.string ⟨#[105, 110, 118, 97, 108, 105, 100, 32, 115, 121, 110, 116, 97, 120]⟩] 247], #[], []⟩ with heap := ((((((World.holding Tryz.prog os ⟨#[.cells #[.string ⟨#[118, 97, 108, 117, 101, 32, 111, 117, 116, 32, 111, 102, 32, 114, 97, 110, 103, 101]⟩] 247, .cells #[.string ⟨#[105, 110, 118, 97, 108, 105, 100, 32, 115, 121, 110, 116, 97, 120]⟩] 247], #[], []⟩).heap.modify 0 (cellsTo #[.iface 143 (.agg #[.pointer (some ⟨7, 29, none⟩)])])).modify 1 (cellsTo #[.int .u64 1, .int .u64 10, .int .u64 100, .int .u64 1000, .int .u64 10000, .int .u64 100000, .int .u64 1000000, .int .u64 10000000, .int .u64 100000000, .int .u64 1000000000, .int .u64 10000000000, .int .u64 100000000000, .int .u64 1000000000000, .int .u64 10000000000000, .int .u64 100000000000000, .int .u64 1000000000000000, .int .u64 10000000000000000, .int .u64 100000000000000000, .int .u64 1000000000000000000, .int .u64 10000000000000000000])).modify 5 (cellsTo #[.iface 245 (.pointer (some ⟨low + 1, 0, none⟩))])).modify 6 (cellsTo #[.iface 245 (.pointer (some ⟨low, 0, none⟩))])).modify 3 (cellsTo #[.int .u8 0, .int .u8 1, .int .u8 28, .int .u8 2, .int .u8 29, .int .u8 14, .int .u8 24, .int .u8 3, .int .u8 30, .int .u8 22, .int .u8 20, .int .u8 15, .int .u8 25, .int .u8 17, .int .u8 4, .int .u8 8, .int .u8 31, .int .u8 27, .int .u8 13, .int .u8 23, .int .u8 21, .int .u8 19, .int .u8 16, .int .u8 7, .int .u8 26, .int .u8 12, .int .u8 18, .int .u8 6, .int .u8 11, .int .u8 5, .int .u8 10, .int .u8 9])).modify 4 (cellsTo #[.int .u8 0, .int .u8 1, .int .u8 56, .int .u8 2, .int .u8 57, .int .u8 49, .int .u8 28, .int .u8 3, .int .u8 61, .int .u8 58, .int .u8 42, .int .u8 50, .int .u8 38, .int .u8 29, .int .u8 17, .int .u8 4, .int .u8 62, .int .u8 47, .int .u8 59, .int .u8 36, .int .u8 45, .int .u8 43, .int .u8 51, .int .u8 22, .int .u8 53, .int .u8 39, .int .u8 33, .int .u8 30, .int .u8 24, .int .u8 18, .int .u8 12, .int .u8 5, .int .u8 63, .int .u8 55, .int .u8 48, .int .u8 27, .int .u8 60, .int .u8 41, .int .u8 37, .int .u8 16, .int .u8 46, .int .u8 35, .int .u8 44, .int .u8 21, .int .u8 52, .int .u8 32, .int .u8 23, .int .u8 11, .int .u8 54, .int .u8 26, .int .u8 40, .int .u8 15, .int .u8 34, .int .u8 20, .int .u8 31, .int .u8 10, .int .u8 25, .int .u8 14, .int .u8 19, .int .u8 9, .int .u8 13, .int .u8 8, .int .u8 7, .int .u8 6]) }
end parS
namespace scopeTells
open parS
def args0 : Array Value := #[.agg #[.int .i64 0, .int .i64 0, .int .i64 0, .string ⟨#[]⟩, .string ⟨#[]⟩, .slice none 0 0, .slice none 0 0, .slice none 0 0]]
theorem laid_met (os : Os) : laidMetH Tryz.prog Rows.scopeTellsUptoRow.laid ((laidWorld os).forCall (fun _ _ => 0) ⟨#[], args0, []⟩).memory :=
  laidMetH_of_parts (laidMet_of_run' 8 (by kernel_rfl) (by kernel_rfl)) (by kernel_rfl)
theorem reads (os : Os) {H : Type} (enc : TypeId × Value → H) : ∃ places, DataW.whole enc Tryz.prog ((laidWorld os).forCall (fun _ _ => 0) ⟨#[], args0, []⟩).memory Tryz.f4.params.toList Rows.scopeTellsSpec.vars false args0.toList 8 =
    some ([.agg [.lit (.int .i64 0), .lit (.int .i64 0), .lit (.int .i64 0), .lit (.string []), .lit (.string []), .nil, .nil, .nil]], [], places) :=
  ⟨[], by kernel_rfl⟩
set_option maxRecDepth 100000 in
theorem lifted (os : Os) (started : os.Started) (H : Type) (enc : TypeId × Value → H) (F : Stop.Interp) :
    ReturnsInHanded {} Tryz.checked os 4 .any ((Rows.OpenSpec.upto Rows.scopeTellsSpec).preRow enc Tryz.prog Tryz.f4 Rows.scopeTellsUptoRow.domain false Rows.scopeTellsUptoRow.laid) (((Rows.OpenSpec.upto Rows.scopeTellsSpec).at F).post enc Tryz.prog Tryz.f4 false true false false) := by
  obtain ⟨places, hx⟩ := reads os enc
  refine returnsInHanded_of_row (C := Tryz.checked) (s := Rows.OpenSpec.upto Rows.scopeTellsSpec) own started (by kernel_rfl) Tryz.func4
    (witness_row_at (enc := enc) (C := Tryz.checked) false (laidWorld os) args0 rfl (by kernel_rfl) (by kernel_rfl) (by kernel_rfl)
      (OpenSpec.preRow_of_cond 8 hx (by kernel_rfl) (fun k hk => by cases hk; kernel_rfl) (by kernel_rfl) (laid_met os))) ?_
  intro W base args ds gs before hval hW _ hcond _ hL _ _
  refine law_calls (T := [3, 2, 4, 9, 22, 25, 23]) (by kernel_rfl) laidOut (by kernel_rfl) (rt := 4) rfl (by kernel_rfl) hval _ rfl hW (fun ds hl => ?_) (fun xs hxs hbk => ?_) (glob_of hL)
  · match ds, hl with
    | [_], _ => rfl
  · replace hbk := Nat.le_trans hbk (of_decide_eq_true (hcond _ rfl))
    match xs, hxs with
    | [_], ⟨a1, _⟩ =>
      obtain ⟨e, rfl, hi⟩ := expr_of2 _ (Nat.le_refl _) a1
      simp only [V.bulkL, bulk_ex] at hbk
      exact (k_Tells8 (e := e) (by omega)).mono fun r σ' h => h.1
theorem said : Rows.ScopeTellsUptoSaid :=
  OpenClaim.holds_of_cond 4 Tryz.f4 rfl rfl rfl rfl rfl rfl rfl ⟨rfl, rfl, rfl, rfl, rfl⟩ rfl rfl rfl rfl rfl (by kernel_rfl) Tryz.func4 (by kernel_rfl)
    (of_decide_eq_true (by kernel_rfl)) (by unfold Func.isWrapper; first | (rw [if_pos (by decide +kernel)]; kernel_rfl) | (rw [if_neg (by decide +kernel)]; exact ⟨rfl, rfl⟩))
    (fun os started H enc _ F => by rw [OpenClaim.pre_eq_preRow]; exact lifted os started H enc F)
theorem plain (f : FuncId) (fn : Func) (hf : Tryz.pinned.checked.prog.funcNamed "bushel/bushellaw08.ScopeTells" = some f) (hfn : Tryz.pinned.checked.prog.funcs[f]? = some fn) :
    true = Tryz.pinned.checked.prog.looks [] ∧ ∀ (j : Nat) t, fn.params[j]? = some t → Tryz.pinned.checked.prog.wantsStandIn t = false := by
  obtain rfl : f = 4 := Option.some.inj ((show Tryz.prog.funcNamed "bushel/bushellaw08.ScopeTells" = some 4 by kernel_rfl).symm.trans hf) |>.symm
  obtain rfl : fn = Tryz.f4 := (Option.some.inj (Tryz.func4.symm.trans hfn)).symm
  refine ⟨by kernel_rfl, fun j t ht => ?_⟩
  rw [Tryz.params4] at ht
  have hm := Array.mem_of_getElem? ht
  simp only [List.mem_toArray, List.mem_cons, List.not_mem_nil, or_false] at hm
  subst hm
  exact (show Tryz.prog.wantsStandIn 25 = false by kernel_rfl)
theorem proved : Rows.ScopeTellsUptoCardSaid :=
  Claim7.holds_tied_plain_at .later [] _ _ _ _ said (fun _ h => by cases h) (by kernel_rfl) (fun _ h => by cases h) scopeTellsUpto_row_tie rfl ⟨rfl, rfl⟩ (by kernel_rfl) rfl plain (by kernel_rfl)
end scopeTells
end Go.Proofs.YtpdeaekmgljeaaaGreatDoor
