/-
  Core expressions, plainly: values stay as great as they may be; references point into the store. (Own work.)
-/
import Derived.Test.YtbifjffjibnjjaaDoorK2
import Derived.Lib.ItoaLen
set_option linter.unusedVariables false
set_option linter.unusedSimpArgs false
namespace Go.Proofs.YtbifjffjibnjjaaDoor
open Go Go.Abs

/-- An expression that is not too great, of numbers that are ones. -/
def okC (L : Nat) (e : Co) : Prop := csz e ≤ L ∧ (encC e).fits
theorem okC.mono {L L' : Nat} {e : Co} (h : okC L e) (k : L ≤ L') : okC L' e := ⟨Nat.le_trans h.1 k, h.2⟩
mutual
def okV (n L : Nat) : Vl → Prop
  | .int n => inR .i64 n
  | .text s => s.length ≤ L
  | .fn _ _ _ part env => okC L part ∧ okE n L env
  | .tup l => l.length ≤ L ∧ okVs n L l
  | .tag _ v => okV n L v
  | .ref k => k < n
def okVs (n L : Nat) : List Vl → Prop
  | [] => True
  | v :: l => okV n L v ∧ okVs n L l
def okE (n L : Nat) : En → Prop
  | .nil => True
  | .cons _ v e => okV n L v ∧ okE n L e
end
theorem okVs_iff {n L : Nat} : ∀ {l : List Vl}, okVs n L l ↔ ∀ v ∈ l, okV n L v
  | [] => by simp [okVs]
  | v :: l => by simp [okVs, okVs_iff (l := l)]
mutual
theorem okV.mono {n L n' L' : Nat} (hn : n ≤ n') (hL : L ≤ L') : ∀ {v : Vl}, okV n L v → okV n' L' v
  | .int _, h => h
  | .text s, h => Nat.le_trans h hL
  | .fn _ _ _ part env, h => ⟨h.1.mono hL, okE.mono hn hL h.2⟩
  | .tup l, h => ⟨Nat.le_trans h.1 hL, okVs.mono hn hL h.2⟩
  | .tag _ v, h => okV.mono (v := v) hn hL h
  | .ref k, h => Nat.lt_of_lt_of_le h hn
theorem okVs.mono {n L n' L' : Nat} (hn : n ≤ n') (hL : L ≤ L') : ∀ {l : List Vl}, okVs n L l → okVs n' L' l
  | [], h => trivial
  | v :: l, h => ⟨okV.mono hn hL h.1, okVs.mono hn hL h.2⟩
theorem okE.mono {n L n' L' : Nat} (hn : n ≤ n') (hL : L ≤ L') : ∀ {e : En}, okE n L e → okE n' L' e
  | .nil, h => trivial
  | .cons _ v e, h => ⟨okV.mono hn hL h.1, okE.mono hn hL h.2⟩
end
structure okM (L : Nat) (m : Ms) : Prop where
  st : ∀ v ∈ m.st, okV m.st.length L v
  tr : m.tr.length ≤ L
theorem okM.mono {L L' : Nat} {m : Ms} (h : okM L m) (hL : L ≤ L') : okM L' m := ⟨fun v hv => (h.st v hv).mono (Nat.le_refl _) hL, Nat.le_trans h.tr hL⟩
/-- What comes of something, with so much to spare. -/
structure Okr {α : Type} (P : Nat → Nat → α → Prop) (c L : Nat) (m : Ms) (r : Rs α) : Prop where
  fuel : r.m.fuel ≤ m.fuel
  st : m.st.length ≤ r.m.st.length
  ok : okM (L + c + (m.fuel - r.m.fuel)) r.m
  v : ∀ v, r.v = some v → P r.m.st.length (L + c + (m.fuel - r.m.fuel)) v
theorem Okr.more {α : Type} {P : Nat → Nat → α → Prop} {c c' L : Nat} {m : Ms} {r : Rs α} (hP : ∀ n L L' a, L ≤ L' → P n L a → P n L' a) (h : Okr P c L m r) (hc : c ≤ c') : Okr P c' L m r :=
  ⟨h.fuel, h.st, h.ok.mono (by omega), fun v hv => hP _ _ _ _ (by omega) (h.v v hv)⟩
theorem okV_L : ∀ n L L' (a : Vl), L ≤ L' → okV n L a → okV n L' a := fun n L L' a h k => k.mono (Nat.le_refl _) h
theorem okVs_L : ∀ n L L' (a : List Vl), L ≤ L' → okVs n L a → okVs n L' a := fun n L L' a h k => k.mono (Nat.le_refl _) h
theorem Okr.bind {α β : Type} {P : Nat → Nat → α → Prop} {Q : Nat → Nat → β → Prop} {c L : Nat} {m : Ms} {r : Rs α} {k : α → Ms → Rs β} (hQ : ∀ n L L' a, L ≤ L' → Q n L a → Q n L' a) (h : Okr P 0 L m r)
    (hk : ∀ a m1, m1.fuel ≤ m.fuel → m.st.length ≤ m1.st.length → okM (L + (m.fuel - m1.fuel)) m1 → P m1.st.length (L + (m.fuel - m1.fuel)) a → Okr Q c (L + (m.fuel - m1.fuel)) m1 (k a m1)) : Okr Q c L m (r.bind k) := by
  obtain ⟨v, m1⟩ := r
  cases v with
  | none => exact ⟨h.fuel, h.st, h.ok.mono (by dsimp only [Rs.bind]; omega), fun v hv => by cases hv⟩
  | some a =>
    have h1 := h.fuel
    have h2 := hk a m1 h.fuel h.st (h.ok.mono (by dsimp only; omega)) (by simpa using h.v a rfl)
    have h3 := h2.fuel
    dsimp only at h1
    refine ⟨Nat.le_trans h2.fuel h.fuel, Nat.le_trans h.st h2.st, h2.ok.mono (by dsimp only [Rs.bind]; omega), fun v hv => hQ _ _ _ _ ?_ (h2.v v hv)⟩
    dsimp only [Rs.bind]
    omega
section
variable {α : Type} {P : Nat → Nat → α → Prop} {c L : Nat} {m : Ms}
theorem Okr.fin {e f : Int} (h : okM L m) : Okr P c L m (endM e f m) := by
  unfold endM
  split
  · exact ⟨Nat.le_refl _, Nat.le_refl _, ⟨(h.mono (by omega)).st, (h.mono (by omega)).tr⟩, fun v hv => by cases hv⟩
  · exact ⟨Nat.le_refl _, Nat.le_refl _, h.mono (by omega), fun v hv => by cases hv⟩
theorem Okr.stuck (h : okM L m) : Okr P c L m (stuckM m) := .fin h
theorem Okr.done {a : α} (h : okM L m) (hP : P m.st.length (L + c) a) : Okr P c L m (done a m) :=
  ⟨Nat.le_refl _, Nat.le_refl _, h.mono (by omega), fun v hv => by cases hv; simpa [Go.Proofs.YtbifjffjibnjjaaDoor.done] using hP⟩
end
theorem prt_csz : ∀ (l : List Co) (i : Nat), csz (prt l i) ≤ 6 + cszL l
  | [], i => by simp [prt, zCo, csz, cszL, nsz]
  | x :: l, 0 => by simp [prt, cszL]; omega
  | x :: l, i + 1 => by
    have := prt_csz l i
    simp only [prt, cszL, List.getElem?_cons_succ] at this ⊢
    omega
theorem okC.prt {L : Nat} {k n : Int} {s t : Str} {ns : List Str} {l : List Co} (h : okC L (.mk k n s t ns l)) (i : Nat) : okC L (prt l i) := by
  obtain ⟨h1, h2⟩ := h
  have := prt_csz l i
  simp only [csz] at h1
  refine ⟨by omega, ?_⟩
  rw [encC_mk] at h2
  simp only [V.fits, V.fitsL] at h2
  have hl := V.fitsL_iff.1 h2.2.2.2.2.2.1.2
  unfold Go.Proofs.YtbifjffjibnjjaaDoor.prt
  cases hg : l[i]? with
  | none =>
    simp only [Option.getD_none, zCo]
    rw [encC_mk]
    simp only [V.fits, V.fitsL, List.map_nil, List.length_nil]
    exact ⟨by decide, by decide, by decide, by decide, by decide, by decide, trivial⟩
  | some x => exact hl _ (List.mem_map.2 ⟨x, List.mem_of_getElem? hg, rfl⟩)
theorem okC.mem {L : Nat} {k n : Int} {s t : Str} {ns : List Str} {l : List Co} (h : okC L (.mk k n s t ns l)) {x : Co} (hx : x ∈ l) : okC L x := by
  obtain ⟨i, hi⟩ := List.mem_iff_getElem?.1 hx
  have := h.prt i
  unfold Go.Proofs.YtbifjffjibnjjaaDoor.prt at this
  rw [hi] at this
  exact this
theorem okC.num {L : Nat} {k n : Int} {s t : Str} {ns : List Str} {l : List Co} (h : okC L (.mk k n s t ns l)) : inR .i64 n ∧ s.length ≤ L ∧ l.length ≤ L := by
  obtain ⟨h1, h2⟩ := h
  rw [encC_mk] at h2
  simp only [V.fits, V.fitsL] at h2
  simp only [csz] at h1
  have := cszL_len l
  exact ⟨h2.2.1, by omega, by omega⟩
theorem zVl_ok {n L : Nat} : okV n L zVl := by
  show inR .i64 0
  decide
theorem look_ok {n L : Nat} {s : Str} {v : Vl} : ∀ {e : En}, okE n L e → lookE e s = some v → okV n L v
  | .nil, h, hv => by cases hv
  | .cons x w e, h, hv => by
    simp only [lookE] at hv
    split at hv
    · cases hv; exact h.1
    · exact look_ok h.2 hv
/-- What an evaluator must come to. -/
def OkR (R : Rec) (L F : Nat) : Prop := ∀ (e : Co) (env : En) (m : Ms) (L' : Nat), L ≤ L' → okC L' e → okE m.st.length L' env → okM L' m → m.fuel ≤ F → Okr okV 0 L' m (R e env m)
section
variable {R : Rec} {L0 F : Nat} (hR : OkR R L0 F) (h0 : 2000 ≤ L0)
include hR
theorem ok_all (env : En) : ∀ (l : List Co) (m : Ms) (L : Nat), L0 ≤ L → (∀ x ∈ l, okC L x) → okE m.st.length L env → okM L m → m.fuel ≤ F → Okr (fun n L vs => okVs n L vs ∧ vs.length = l.length) 0 L m (allM R env l m)
  | [], m, L, hL, hl, he, hm, hf => .done hm ⟨trivial, rfl⟩
  | x :: l, m, L, hL, hl, he, hm, hf => by
    refine (hR x env m L hL (hl x (by simp)) he hm hf).bind (fun n L L' a h k => ⟨okVs_L n L L' a h k.1, k.2⟩) fun v m1 hf1 hs1 hm1 hv => ?_
    have h2 := ok_all env l m1 (L + (m.fuel - m1.fuel)) (by omega) (fun y hy => (hl y (by simp [hy])).mono (by omega)) (he.mono hs1 (by omega)) hm1 (by omega)
    exact h2.bind (fun n L L' a h k => ⟨okVs_L n L L' a h k.1, k.2⟩) fun vs m2 hf2 hs2 hm2 hvs => .done hm2 ⟨⟨hv.mono hs2 (by omega), hvs.1⟩, by simp [hvs.2]⟩
theorem ok_choose (env : En) (a b c : Co) (m : Ms) (L : Nat) (hL : L0 ≤ L) (ha : okC L a) (hb : okC L b) (hc : okC L c) (he : okE m.st.length L env) (hm : okM L m) (hf : m.fuel ≤ F) : Okr okV 0 L m (chooseM R env a b c m) := by
  refine (hR a env m L hL ha he hm hf).bind okV_L fun v m1 hf1 hs1 hm1 hv => ?_
  split
  · split
    · exact hR b env m1 _ (by omega) (hb.mono (by omega)) (he.mono hs1 (by omega)) hm1 (by omega)
    · exact hR c env m1 _ (by omega) (hc.mono (by omega)) (he.mono hs1 (by omega)) hm1 (by omega)
  · exact .stuck hm1
theorem ok_arms (env : En) (l : List Co) (t : Str) (n : Int) (w : Vl) : ∀ (ns : List Str) (i : Nat) (below : Int) (m : Ms) (L : Nat), L0 ≤ L → (∀ i, okC L (prt l i)) → okE m.st.length L env → okV m.st.length L w → okM L m → m.fuel ≤ F → Okr okV 0 L m (armsM R env l t n w ns i below m)
  | [], i, below, m, L, hL, hl, he, hw, hm, hf => by
    unfold armsM
    split
    · exact .stuck hm
    · exact hR _ _ m L hL (hl _) ⟨hw, he⟩ hm hf
  | x :: ns, i, below, m, L, hL, hl, he, hw, hm, hf => by
    unfold armsM
    refine (hR _ env m L hL (hl _) he hm hf).bind okV_L fun v m1 hf1 hs1 hm1 hv => ?_
    split
    · split
      · exact hR _ _ m1 _ (by omega) ((hl _).mono (by omega)) ⟨hw.mono hs1 (by omega), he.mono hs1 (by omega)⟩ hm1 (by omega)
      · exact ok_arms env l t n w ns _ _ m1 _ (by omega) (fun i => (hl i).mono (by omega)) (he.mono hs1 (by omega)) (hw.mono hs1 (by omega)) hm1 (by omega)
    · exact .stuck hm1
theorem ok_cases (env : En) (t : Str) (ns : List Str) (l : List Co) (m : Ms) (L : Nat) (hL : L0 ≤ L) (hl : ∀ i, okC L (prt l i)) (he : okE m.st.length L env) (hm : okM L m) (hf : m.fuel ≤ F) : Okr okV 0 L m (casesM R env t ns l m) := by
  refine (hR _ env m L hL (hl _) he hm hf).bind okV_L fun v m1 hf1 hs1 hm1 hv => ?_
  split
  · exact ok_arms hR env l t _ _ ns 0 0 m1 _ (by omega) (fun i => (hl i).mono (by omega)) (he.mono hs1 (by omega)) hv hm1 (by omega)
  · exact .stuck hm1
theorem ok_apply (vs : List Vl) (m : Ms) (L : Nat) (hL : L0 ≤ L) (hv : okVs m.st.length L vs) (hm : okM L m) (hf : m.fuel ≤ F) : Okr okV 0 L m (applyM R vs m) := by
  unfold applyM
  split
  · rename_i rc self param part env v _
    obtain ⟨⟨h1, h2⟩, h3, _⟩ := hv
    refine hR _ _ m L hL h1 ⟨h3, ?_⟩ hm hf
    split
    · exact ⟨⟨h1, h2⟩, h2⟩
    · exact h2
  · exact .stuck hm
omit hR in
theorem ok_tuple (k : Int) (t a x : Vl) (m : Ms) (L : Nat) (ht : okV m.st.length L t) (hx : okV m.st.length L x) (hm : okM L m) : Okr okV 1 L m (tupleM k t a x m) := by
  unfold tupleM
  split
  · rename_i l n
    obtain ⟨h1, h2⟩ := ht
    have h2' := okVs_iff.1 h2
    have hm1 := fun (v : Vl) (h : okV m.st.length L v) => h.mono (n' := m.st.length) (L' := L + 1) (Nat.le_refl _) (by omega)
    have ht2 : ∀ i, ∀ v ∈ l.take i, okV m.st.length (L + 1) v := fun i v hv => hm1 v (h2' v (List.mem_of_mem_take hv))
    have hd2 : ∀ i, ∀ v ∈ l.drop i, okV m.st.length (L + 1) v := fun i v hv => hm1 v (h2' v (List.mem_of_mem_drop hv))
    split
    · exact .stuck hm
    · split
      · refine .done hm ?_
        cases hg : l[n.toNat]? with
        | none => exact hm1 _ hx
        | some v => exact hm1 _ (h2' v (List.mem_of_getElem? hg))
      · split
        · refine .done hm ⟨?_, okVs_iff.2 fun v hv => ?_⟩
          · simp only [List.length_append, List.length_take, List.length_drop]; omega
          · rcases List.mem_append.1 hv with hv | hv
            · exact ht2 _ v hv
            · exact hd2 _ v hv
        · have hins : ∀ i j, i ≤ j → okV m.st.length (L + 1) (.tup (l.take i ++ x :: l.drop j)) := fun i j hij => by
            refine ⟨?_, okVs_iff.2 fun v hv => ?_⟩
            · simp only [List.length_append, List.length_cons, List.length_take, List.length_drop]; omega
            · rcases List.mem_append.1 hv with hv | hv
              · exact ht2 _ v hv
              · rcases List.mem_cons.1 hv with rfl | hv
                · exact hm1 _ hx
                · exact hd2 _ v hv
          split
          · exact .done hm (hins _ _ (Nat.le_refl _))
          · exact .done hm (hins _ _ (Nat.le_succ _))
  · exact .stuck hm
omit hR in
theorem flagC_ok (b : Bool) : inR .i64 (flagC b) := by cases b <;> decide
omit hR in
theorem ok_arith (s : Str) (a b : Int) (m : Ms) (L : Nat) (hm : okM L m) : Okr okV 1 L m (arithM s a b m) := by
  unfold arithM
  repeat' split
  all_goals first | exact .done hm (inR_wrap _ _) | exact .stuck hm | exact .fin hm | exact .done hm (flagC_ok _)
omit hR in
theorem u8_ok (c : UInt8) : inR .i64 (c.toNat : Int) := by
  have := c.toNat_lt
  have h1 : IntKind.i64.min = -9223372036854775808 := by decide
  have h2 : IntKind.i64.max = 9223372036854775807 := by decide
  unfold inR
  rw [h1, h2]
  omega
omit hR in
include h0 in
theorem ok_op (s : Str) (a b : Vl) (m : Ms) (L : Nat) (hL : L0 ≤ L) (hm : okM L m) : Okr okV 1 L m (opM s a b m) := by
  unfold opM
  split
  · rename_i x y
    split
    · split
      · exact .fin hm
      · refine .done hm ?_
        show (x ++ y).length ≤ _
        rw [List.length_append]
        omega
    · exact .stuck hm
  · split
    · generalize (if _ < (0 : Int) then none else _) = o
      cases o with
      | none => exact .fin hm
      | some c => exact .done hm (u8_ok c)
    · exact .stuck hm
  · exact ok_arith _ _ _ m L hm
  · exact .stuck hm
omit hR in
include h0 in
theorem ok_read (m : Ms) (L : Nat) (hL : L0 ≤ L) (hm : okM L m) : Okr okV 1 L m (readM m) := by
  unfold readM
  split
  · exact .fin hm
  · rename_i s r hi
    have hm2 : okM L { m with inp := r } := ⟨hm.st, hm.tr⟩
    split
    · have := Okr.fin (α := Vl) (P := okV) (c := 1) (e := 9) (f := 2) hm2
      exact ⟨this.fuel, this.st, this.ok, this.v⟩
    · have := Okr.done (P := okV) (c := 1) (a := .text s) hm2 (by show s.length ≤ _; omega)
      exact ⟨this.fuel, this.st, this.ok, this.v⟩
include h0 in
theorem ok_do (k : Int) (s : Str) (vs : List Vl) (m : Ms) (L : Nat) (hL : L0 ≤ L) (hv : okVs m.st.length L vs) (hl : vs.length ≤ L) (hm : okM L m) (hf : m.fuel ≤ F) : Okr okV 1 L m (doM R k s vs m) := by
  have hm1 := fun (v : Vl) (h : okV m.st.length L v) => h.mono (n' := m.st.length) (L' := L + 1) (Nat.le_refl _) (by omega)
  unfold doM
  by_cases h : k = 5
  · rw [if_pos h]
    exact (ok_apply hR vs m L hL hv hm hf).more okV_L (by omega)
  rw [if_neg h]
  clear h
  by_cases h : k = 8
  · rw [if_pos h]
    exact .done hm ⟨by omega, hv.mono (Nat.le_refl _) (by omega)⟩
  rw [if_neg h]
  clear h
  by_cases h : k = 9 ∨ k = 11
  · rw [if_pos h]
    split
    · exact ok_tuple _ _ _ _ m L hv.1 zVl_ok hm
    · exact .stuck hm
  rw [if_neg h]
  clear h
  by_cases h : k = 10 ∨ k = 12
  · rw [if_pos h]
    split
    · exact ok_tuple _ _ _ _ m L hv.2.2.1 hv.1 hm
    · exact .stuck hm
  rw [if_neg h]
  clear h
  by_cases h : k = 13
  · rw [if_pos h]
    split
    · exact .done hm (hm1 _ hv.1)
    · exact .stuck hm
  rw [if_neg h]
  clear h
  by_cases h : k = 16
  · rw [if_pos h]
    split
    · exact ok_op h0 _ _ _ m L hL hm
    · exact .stuck hm
  rw [if_neg h]
  clear h
  by_cases h : k = 17
  · rw [if_pos h]
    split
    · rename_i v
      refine ⟨Nat.le_refl _, by simp [done], ⟨fun w hw => ?_, ?_⟩, fun w hw => ?_⟩
      · simp only [done] at hw ⊢
        rcases List.mem_append.1 hw with hw | hw
        · exact (hm.st w hw).mono (by simp) (by omega)
        · simp only [List.mem_singleton] at hw
          subst hw
          exact hv.1.mono (by simp) (by omega)
      · have := hm.tr
        simp only [done]
        omega
      · simp only [done, Option.some.injEq] at hw
        subst hw
        simp [done, okV]
    · exact .stuck hm
  rw [if_neg h]
  clear h
  by_cases h : k = 18
  · rw [if_pos h]
    split
    · rename_i i
      refine .done hm ?_
      cases hg : m.st[i]? with
      | none => exact zVl_ok
      | some v => exact hm1 _ (hm.st v (List.mem_of_getElem? hg))
    · exact .stuck hm
  rw [if_neg h]
  clear h
  by_cases h : k = 19
  · rw [if_pos h]
    split
    · rename_i i v
      refine ⟨Nat.le_refl _, by simp [done], ⟨fun w hw => ?_, ?_⟩, fun w hw => ?_⟩
      · simp only [done] at hw ⊢
        rw [List.length_set]
        rcases List.mem_or_eq_of_mem_set hw with hw | rfl
        · exact (hm.st w hw).mono (Nat.le_refl _) (by omega)
        · exact hv.2.1.mono (Nat.le_refl _) (by omega)
      · have := hm.tr
        simp only [done]
        omega
      · simp only [done, Option.some.injEq] at hw
        subst hw
        exact ⟨by simp, trivial⟩
    · exact .stuck hm
  rw [if_neg h]
  clear h
  by_cases h : k = 20
  · rw [if_pos h]
    split
    · rename_i x
      refine ⟨Nat.le_refl _, Nat.le_refl _, ⟨fun w hw => (hm.st w hw).mono (Nat.le_refl _) (by omega), ?_⟩, fun w hw => ?_⟩
      · have := hm.tr
        simp only [done, List.length_append, List.length_singleton]
        omega
      · simp only [done, Option.some.injEq] at hw
        subst hw
        exact ⟨by simp, trivial⟩
    · exact .stuck hm
  rw [if_neg h]
  clear h
  by_cases h : k = 21
  · rw [if_pos h]
    split
    · rename_i n
      refine .done hm ?_
      show (Lib.itoa n).length ≤ _
      have := Lib.itoa_length_le n hv.1.1 hv.1.2
      omega
    · exact .stuck hm
  rw [if_neg h]
  clear h
  by_cases h : k = 22
  · rw [if_pos h]
    exact ok_read h0 m L hL hm
  rw [if_neg h]
  clear h
  exact .stuck hm
include h0 in
theorem ok_step (e : Co) (env : En) (m : Ms) (L : Nat) (hL : L0 ≤ L) (hc : okC L e) (he : okE m.st.length L env) (hm : okM L m) (hf : m.fuel ≤ F) : Okr okV 1 L m (stepM R e env m) := by
  have w0 := fun {r : Rs Vl} (h : Okr okV 0 L m r) => h.more (c' := 1) okV_L (by omega)
  cases e with
  | mk k n s t ns l =>
  obtain ⟨hn, hs, hl⟩ := hc.num
  rw [stepM_mk]
  by_cases h : partsC k l.length ns.length (decide (t ≠ [])) ≠ l.length
  · rw [if_pos h]
    exact .stuck hm
  rw [if_neg h]
  clear h
  by_cases h : k = 1
  · rw [if_pos h]
    exact .done hm hn
  rw [if_neg h]
  clear h
  by_cases h : k = 2
  · rw [if_pos h]
    exact .done hm (Nat.le_succ_of_le hs)
  rw [if_neg h]
  clear h
  by_cases h : k = 3
  · rw [if_pos h]
    split
    · rename_i v hv
      exact .done hm ((look_ok he hv).mono (Nat.le_refl _) (by omega))
    · exact .stuck hm
  rw [if_neg h]
  clear h
  by_cases h : k = 4
  · rw [if_pos h]
    exact .done hm ⟨(hc.prt 0).mono (by omega), he.mono (Nat.le_refl _) (by omega)⟩
  rw [if_neg h]
  clear h
  by_cases h : k = 6
  · rw [if_pos h]
    refine w0 ?_
    refine (hR _ env m L hL (hc.prt 0) he hm hf).bind okV_L fun v m1 hf1 hs1 hm1 hv => ?_
    exact hR _ _ m1 _ (by omega) ((hc.prt 1).mono (by omega)) ⟨hv, he.mono hs1 (by omega)⟩ hm1 (by omega)
  rw [if_neg h]
  clear h
  by_cases h : k = 7
  · rw [if_pos h]
    exact w0 (hR _ _ m L hL (hc.prt 1) ⟨⟨hc.prt 0, he⟩, he⟩ hm hf)
  rw [if_neg h]
  clear h
  by_cases h : k = 15
  · rw [if_pos h]
    exact w0 (ok_choose hR env _ _ _ m L hL (hc.prt 0) (hc.prt 1) (hc.prt 2) he hm hf)
  rw [if_neg h]
  clear h
  by_cases h : k = 14
  · rw [if_pos h]
    exact w0 (ok_cases hR env t ns l m L hL hc.prt he hm hf)
  rw [if_neg h]
  clear h
  refine (ok_all hR env l m L hL (fun x hx => hc.mem hx) he hm hf).bind okV_L fun vs m1 hf1 hs1 hm1 hv => ?_
  exact ok_do hR h0 k s vs m1 _ (by omega) hv.1 (by omega) hm1 (by omega)
end
theorem ok_ev (L0 : Nat) (h0 : 2000 ≤ L0) : ∀ (g F : Nat), OkR (evM g) L0 F
  | 0, F => fun e env m L hL hc he hm hf => ⟨Nat.le_refl _, Nat.le_refl _, hm.mono (by omega), fun v hv => by cases hv⟩
  | g + 1, F => fun e env m L hL hc he hm hf => by
    rw [evM]
    by_cases hz : m.fuel = 0
    · rw [if_pos hz]
      exact .fin hm
    · rw [if_neg hz]
      have h := ok_step (ok_ev L0 h0 g F) h0 e env { m with fuel := m.fuel - 1 } L hL hc he ⟨hm.st, hm.tr⟩ (by dsimp only; omega)
      have h1 := h.fuel
      dsimp only at h1
      have e1 : L + 1 + (m.fuel - 1 - (stepM (evM g) e env { m with fuel := m.fuel - 1 }).m.fuel) = L + 0 + (m.fuel - (stepM (evM g) e env { m with fuel := m.fuel - 1 }).m.fuel) := by omega
      exact ⟨by omega, h.st, e1 ▸ h.ok, e1 ▸ h.v⟩
end Go.Proofs.YtbifjffjibnjjaaDoor
