/-
  Types: what is put in gives the variables other numbers. (Own work.)
-/
import Derived.Test.YtkpnhcccocaakaaDoorT17
set_option linter.unusedVariables false
set_option linter.unusedSimpArgs false
namespace Go.Proofs.YtkpnhcccocaakaaDoor
open Go Go.Abs

mutual
/-- A type with other numbers. -/
def shT (f : Int) : Tp → Tp
  | .mk k n l ls tl => .mk k (if k = 7 then n + f else n) (shTL f l) ls (if isRowN k = true ∧ 0 ≤ tl then tl + f else tl)
def shTL (f : Int) : List Tp → List Tp
  | [] => []
  | x :: l => shT f x :: shTL f l
end
theorem shTL_eq (f : Int) : ∀ l, shTL f l = l.map (shT f)
  | [] => rfl
  | x :: l => by simp [shTL, shTL_eq f l]
theorem shTL_len (f : Int) (l : List Tp) : (shTL f l).length = l.length := by rw [shTL_eq, List.length_map]
theorem sh_kd (f : Int) (t : Tp) : kdT (shT f t) = kdT t := by
  obtain ⟨k, n, l, ls, tl⟩ := t
  rfl
theorem sh_tbk (f : Int) (t : Tp) : tbk (shT f t) = tbk t := by
  refine Tp.ind (P := fun t => tbk (shT f t) = tbk t) (fun k n l ls tl ih => ?_) t
  have hl : tbkL (shTL f l) = tbkL l := by
    induction l with
    | nil => rfl
    | cons x l ih2 => simp only [shTL, tbkL]; rw [ih x (by simp), ih2 fun y hy => ih y (by simp [hy])]
  simp only [shT, tbk, hl]
theorem sh_tnd (f : Int) (t : Tp) : tnd (shT f t) = tnd t := by
  refine Tp.ind (P := fun t => tnd (shT f t) = tnd t) (fun k n l ls tl ih => ?_) t
  have hl : tndL (shTL f l) = tndL l := by
    induction l with
    | nil => rfl
    | cons x l ih2 => simp only [shTL, tndL]; rw [ih x (by simp), ih2 fun y hy => ih y (by simp [hy])]
  simp only [shT, tnd, hl]
theorem sh_fineR {f : Int} (hf : 1 ≤ f) (t : Tp) : fineR t = true → fineR (shT f t) = true := by
  refine Tp.ind (P := fun t => fineR t = true → fineR (shT f t) = true) (fun k n l ls tl ih h => ?_) t
  obtain ⟨h1, h2⟩ := tfine h
  simp only [shT, fineR, Bool.and_eq_true]
  refine ⟨?_, ?_⟩
  · simp only [okT, Bool.and_eq_true, decide_eq_true_eq, Bool.not_eq_true', decide_eq_false_iff_not, Bool.and_eq_false_imp, Bool.not_eq_false'] at h1 ⊢
    rw [shTL_len]
    obtain ⟨⟨⟨p1, p2⟩, p3⟩, p4⟩ := h1
    refine ⟨⟨⟨p1, ?_⟩, ?_⟩, ?_⟩
    · split <;> omega
    · intro hp
      split at hp
      · assumption
      · exact p3 hp
    · by_cases hr : isRowN k = true
      · rw [if_pos hr] at p4 ⊢
        simp only [Bool.and_eq_true, Bool.not_eq_true', decide_eq_false_iff_not] at p4 ⊢
        refine ⟨⟨?_, p4.1.2⟩, p4.2⟩
        have := p4.1.1
        split <;> omega
      · rw [if_neg hr] at p4 ⊢
        rw [if_neg (fun hh => hr hh.1)]
        exact p4
  · rw [shTL_eq]
    refine fineRL_true fun x hx => ?_
    obtain ⟨y, hy, rfl⟩ := List.mem_map.1 hx
    exact ih y hy (h2 y hy)
def shV (f : Int) (w : Vs) : Vs := ⟨w.ts.map (· + f), w.rs.map (· + f)⟩
theorem addI_sh (f : Int) (l : List Int) (n : Int) : addI (l.map (· + f)) (n + f) = (addI l n).map (· + f) := by
  have : n + f ∈ l.map (· + f) ↔ n ∈ l := by
    simp only [List.mem_map]
    constructor
    · rintro ⟨x, hx, he⟩
      rwa [← show x = n by omega]
    · exact fun h => ⟨n, h, rfl⟩
  unfold addI
  by_cases h : n ∈ l
  · rw [if_pos h, if_pos (this.2 h)]
  · rw [if_neg h, if_neg fun hh => h (this.1 hh)]
    simp
theorem sh_vis {f : Int} (hf : 1 ≤ f) (t : Tp) : ∀ w : Vs, vis (shT f t) (shV f w) = shV f (vis t w) := by
  refine Tp.ind (P := fun t => ∀ w : Vs, vis (shT f t) (shV f w) = shV f (vis t w)) (fun k n l ls tl ih w => ?_) t
  have hL : ∀ (w : Vs), visL (shTL f l) (shV f w) = shV f (visL l w) := by
    induction l with
    | nil => intro w; rfl
    | cons x l ih2 =>
      intro w
      simp only [shTL, visL]
      rw [ih x (by simp), ih2 fun y hy => ih y (by simp [hy])]
  have h1 : (if k = 7 then (⟨addI (shV f w).ts (if k = 7 then n + f else n), (shV f w).rs⟩ : Vs) else shV f w) = shV f (if k = 7 then ⟨addI w.ts n, w.rs⟩ else w) := by
    by_cases h7 : k = 7
    · simp only [if_pos h7, shV, addI_sh]
    · simp only [if_neg h7]
  simp only [shT, vis]
  rw [h1, hL]
  by_cases hr : isRowN k = true ∧ 0 ≤ tl
  · have e : (if isRowN k = true ∧ 0 ≤ tl then tl + f else tl) = tl + f := if_pos hr
    have h2 : isRowN k = true ∧ 0 ≤ tl + f := ⟨hr.1, by omega⟩
    rw [e, if_pos hr, if_pos h2]
    simp only [shV, addI_sh]
  · have e : (if isRowN k = true ∧ 0 ≤ tl then tl + f else tl) = tl := if_neg hr
    rw [e, if_neg hr, if_neg hr]
theorem ixI_sh (f : Int) (n : Int) : ∀ l : List Int, ixI (l.map (· + f)) (n + f) = ixI l n
  | [] => rfl
  | x :: l => by
    simp only [List.map_cons, ixI, ixI_sh f n l]
    by_cases h : x = n
    · rw [if_pos h, if_pos (by omega)]
    · rw [if_neg h, if_neg (by omega)]
theorem sh_tail {f : Int} (hf : 1 ≤ f) (rs : List Int) (k tl : Int) (hr : isRowN k = true) (n : Nat) : tailT (rs.map (· + f)) (if isRowN k = true ∧ 0 ≤ tl then tl + f else tl) n = tailT rs tl n := by
  unfold tailT
  by_cases h : 0 ≤ tl
  · have e : (if isRowN k = true ∧ 0 ≤ tl then tl + f else tl) = tl + f := if_pos ⟨hr, h⟩
    have h2 : 0 ≤ tl + f := by omega
    rw [e, if_pos h, if_pos h2, ixI_sh]
  · have e : (if isRowN k = true ∧ 0 ≤ tl then tl + f else tl) = tl := if_neg fun hh => h hh.2
    rw [e, if_neg h, if_neg h]
theorem sh_txt {f : Int} (hf : 1 ≤ f) (ts rs : List Int) (t : Tp) (hfi : fineR t = true) : txt (ts.map (· + f)) (rs.map (· + f)) (shT f t) = txt ts rs t := by
  revert hfi
  refine Tp.ind (P := fun t => fineR t = true → txt (ts.map (· + f)) (rs.map (· + f)) (shT f t) = txt ts rs t) (fun k n l ls tl ih h => ?_) t
  obtain ⟨h1, h2⟩ := tfine h
  have hk := okT_kinds h1
  have hL : txtL (ts.map (· + f)) (rs.map (· + f)) (shTL f l) = txtL ts rs l := by
    rw [txtL_eq, txtL_eq, shTL_eq, List.map_map]
    exact List.map_congr_left fun x hx => ih x hx (h2 x hx)
  have hd : (shTL f l).map kdT = l.map kdT := by
    rw [shTL_eq, List.map_map]
    exact List.map_congr_left fun x _ => sh_kd f x
  simp only [shT, txt, hL, hd]
  unfold txtK
  by_cases c1 : k = 1
  · rw [if_pos c1, if_pos c1]
  rw [if_neg c1, if_neg c1]
  by_cases c2 : k = 2
  · rw [if_pos c2, if_pos c2]
  rw [if_neg c2, if_neg c2]
  by_cases c3 : k = 3
  · rw [if_pos c3, if_pos c3]
  rw [if_neg c3, if_neg c3]
  by_cases c6 : k = 6
  · rw [if_pos c6, if_pos c6]
  rw [if_neg c6, if_neg c6]
  by_cases c7 : k = 7
  · rw [if_pos c7, if_pos c7, if_pos c7, ixI_sh]
  rw [if_neg c7, if_neg c7]
  have hr : isRowN k = true := by
    simp only [partsN] at hk
    simp only [isRowN, decide_eq_true_eq]
    by_cases h45 : k = 4 ∨ k = 5
    · exact h45
    · simp [c1, c2, c3, c6, c7, h45] at hk
  unfold rowT
  rw [sh_tail hf rs k tl hr]
theorem sh_txtOf {f : Int} (hf : 1 ≤ f) (t : Tp) (hfi : (fineS t 0).1 = true) : (fineS (shT f t) 0).1 = true ∧ txtOf (shT f t) = txtOf t := by
  have hh := hfi
  rw [fine_may] at hh
  simp only [Bool.and_eq_true, decide_eq_true_eq] at hh
  have h2 : (fineS (shT f t) 0).1 = true := by
    rw [fine_may, sh_fineR hf t hh.1, sh_tnd]
    simpa using hh.2
  refine ⟨h2, ?_⟩
  have hv := sh_vis hf t ⟨[], []⟩
  unfold txtOf
  rw [if_pos hfi, if_pos h2]
  have e : shV f ⟨[], []⟩ = ⟨[], []⟩ := rfl
  rw [e] at hv
  rw [hv]
  exact sh_txt hf _ _ t hh.1
def tlY (Y : List NT) (k tl : Int) : Int := if isRowN k = true ∧ 0 ≤ tl then (match getT tl Y with | some (.mk _ _ _ _ r) => r | none => tl) else tl
def putK (X : List NT) (k n : Int) (u : Tp) : Tp := if k = 7 then (match getT n X with | some x => x | none => u) else u
mutual
def putT (X Y : List NT) : Tp → Tp
  | .mk k n l ls tl => putK X k n (.mk k n (putTL X Y l) ls (tlY Y k tl))
def putTL (X Y : List NT) : List Tp → List Tp
  | [] => []
  | x :: l => putT X Y x :: putTL X Y l
end
theorem putTL_eq (X Y : List NT) : ∀ l, putTL X Y l = l.map (putT X Y)
  | [] => rfl
  | x :: l => by simp [putTL, putTL_eq X Y l]
theorem put_none (t : Tp) : putT [] [] t = t := by
  refine Tp.ind (P := fun t => putT [] [] t = t) (fun k n l ls tl ih => ?_) t
  have hl : putTL [] [] l = l := by
    rw [putTL_eq]
    induction l with
    | nil => rfl
    | cons x l ih2 => rw [List.map_cons, ih x (by simp), ih2 fun y hy => ih y (by simp [hy])]
  rw [putT, hl]
  have h1 : tlY [] k tl = tl := by unfold tlY; split <;> rfl
  have h2 : ∀ u, putK [] k n u = u := fun u => by unfold putK; split <;> rfl
  rw [h1, h2]
def mapX (f : Int) (ts : List Int) : List NT := ts.map fun n => ⟨n, .mk 7 (n + f) [] [] (-1)⟩
def mapY (f : Int) (rs : List Int) : List NT := rs.map fun n => ⟨n, .mk 4 0 [] [] (n + f)⟩
theorem getX (f n : Int) : ∀ {ts : List Int}, n ∈ ts → getT n (mapX f ts) = some (.mk 7 (n + f) [] [] (-1))
  | [], h => by cases h
  | x :: ts, h => by
    simp only [mapX, List.map_cons, getT]
    by_cases hx : n = x
    · rw [if_pos hx, hx]
    · rw [if_neg hx]
      exact getX f n ((List.mem_cons.1 h).resolve_left hx)
theorem getY (f n : Int) : ∀ {ts : List Int}, n ∈ ts → getT n (mapY f ts) = some (.mk 4 0 [] [] (n + f))
  | [], h => by cases h
  | x :: ts, h => by
    simp only [mapY, List.map_cons, getT]
    by_cases hx : n = x
    · rw [if_pos hx, hx]
    · rw [if_neg hx]
      exact getY f n ((List.mem_cons.1 h).resolve_left hx)
theorem getT_mem {n : Int} {x : Tp} : ∀ {X : List NT}, getT n X = some x → ∃ e ∈ X, e.t = x
  | [], h => by cases h
  | e :: X, h => by
    simp only [getT] at h
    split at h
    · cases h
      exact ⟨e, by simp, rfl⟩
    · obtain ⟨y, hy, he⟩ := getT_mem h
      exact ⟨y, by simp [hy], he⟩
structure Sub (w w' : Vs) : Prop where
  ts : ∀ n ∈ w.ts, n ∈ w'.ts
  rs : ∀ n ∈ w.rs, n ∈ w'.rs
theorem Sub.refl (w : Vs) : Sub w w := ⟨fun _ h => h, fun _ h => h⟩
theorem Sub.trans {a b c : Vs} (h : Sub a b) (k : Sub b c) : Sub a c := ⟨fun n hn => k.ts n (h.ts n hn), fun n hn => k.rs n (h.rs n hn)⟩
theorem addI_old {l : List Int} {n m : Int} (h : m ∈ l) : m ∈ addI l n := by
  unfold addI
  split
  · exact h
  · simp [h]
theorem addI_new (l : List Int) (n : Int) : n ∈ addI l n := by
  unfold addI
  split
  · assumption
  · simp
theorem vis_parts {k n : Int} {l : List Tp} {ls : List Str} {tl : Int} (w : Vs) : ∃ w1, Sub w w1 ∧ (k = 7 → n ∈ w1.ts) ∧ Sub (visL l w1) (vis (.mk k n l ls tl) w) ∧ (isRowN k = true → 0 ≤ tl → tl ∈ (vis (.mk k n l ls tl) w).rs) := by
  refine ⟨if k = 7 then ⟨addI w.ts n, w.rs⟩ else w, ?_, ?_, ?_, ?_⟩
  · split
    · exact ⟨fun m h => addI_old h, fun m h => h⟩
    · exact .refl _
  · intro h
    rw [if_pos h]
    exact addI_new _ _
  · simp only [vis]
    generalize visL l _ = w2
    split
    · exact ⟨fun m h => h, fun m h => addI_old h⟩
    · exact .refl _
  · intro h1 h2
    simp only [vis]
    rw [if_pos ⟨h1, h2⟩]
    exact addI_new _ _
theorem vis_sub (t : Tp) : ∀ w, Sub w (vis t w) := by
  refine Tp.ind (P := fun t => ∀ w, Sub w (vis t w)) (fun k n l ls tl ih w => ?_) t
  obtain ⟨w1, h1, h2, h3, h4⟩ := vis_parts (k := k) (n := n) (l := l) (ls := ls) (tl := tl) w
  refine h1.trans (Sub.trans ?_ h3)
  clear h3 h1 h2 h4
  induction l generalizing w1 with
  | nil => exact .refl _
  | cons x l ih2 => exact (ih x (by simp) w1).trans (ih2 (fun y hy => ih y (by simp [hy])) (vis x w1))
theorem visL_sub : ∀ (l : List Tp) (w : Vs), Sub w (visL l w)
  | [], w => .refl _
  | x :: l, w => (vis_sub x w).trans (visL_sub l (vis x w))
theorem put_sh {f : Int} {w' : Vs} (t : Tp) : ∀ w, fineR t = true → Sub (vis t w) w' → putT (mapX f w'.ts) (mapY f w'.rs) t = shT f t := by
  refine Tp.ind (P := fun t => ∀ w, fineR t = true → Sub (vis t w) w' → putT (mapX f w'.ts) (mapY f w'.rs) t = shT f t) (fun k n l ls tl ih w hfi hs => ?_) t
  obtain ⟨hok, hfl⟩ := tfine hfi
  obtain ⟨w1, h1, h2, h3, h4⟩ := vis_parts (k := k) (n := n) (l := l) (ls := ls) (tl := tl) w
  have h5 : Sub (visL l w1) w' := h3.trans hs
  have hl : putTL (mapX f w'.ts) (mapY f w'.rs) l = shTL f l := by
    clear hok hfi h2 h3 h4 hs h1
    induction l generalizing w1 with
    | nil => rfl
    | cons x l ih2 =>
      simp only [putTL, shTL]
      simp only [visL] at h5
      rw [ih x (by simp) w1 (hfl x (by simp)) ((visL_sub l _).trans h5), ih2 (fun y hy => ih y (by simp [hy])) (fun y hy => hfl y (by simp [hy])) (vis x w1) h5]
  have ht : tlY (mapY f w'.rs) k tl = if isRowN k = true ∧ 0 ≤ tl then tl + f else tl := by
    unfold tlY
    by_cases hr : isRowN k = true ∧ 0 ≤ tl
    · rw [if_pos hr, if_pos hr, getY f tl (hs.rs _ (h4 hr.1 hr.2))]
    · rw [if_neg hr, if_neg hr]
  rw [putT, shT, hl, ht]
  unfold putK
  by_cases h7 : k = 7
  · subst h7
    rw [if_pos rfl, if_pos rfl, getX f n (h5.ts _ ((visL_sub l w1).ts _ (h2 rfl)))]
    simp [okT, partsN, isRowN] at hok
    have hl0 : l = [] := List.eq_nil_of_length_eq_zero (by omega)
    rw [hl0, hok.2.1, hok.2.2]
    simp [isRowN, shTL]
  · rw [if_neg h7, if_neg h7]
theorem addI_nodup {l : List Int} {n : Int} (h : l.Nodup) : (addI l n).Nodup := by
  unfold addI
  split
  · exact h
  · rename_i hn
    rw [List.nodup_append]
    refine ⟨h, by simp, fun a ha b hb => ?_⟩
    rw [List.mem_singleton] at hb
    rintro rfl
    exact hn (hb ▸ ha)
theorem vis_nodup (t : Tp) : ∀ w : Vs, w.ts.Nodup → w.rs.Nodup → (vis t w).ts.Nodup ∧ (vis t w).rs.Nodup := by
  refine Tp.ind (P := fun t => ∀ w : Vs, w.ts.Nodup → w.rs.Nodup → (vis t w).ts.Nodup ∧ (vis t w).rs.Nodup) (fun k n l ls tl ih w h1 h2 => ?_) t
  have hL : ∀ w : Vs, w.ts.Nodup → w.rs.Nodup → (visL l w).ts.Nodup ∧ (visL l w).rs.Nodup := by
    induction l with
    | nil => intro w h1 h2; exact ⟨h1, h2⟩
    | cons x l ih2 =>
      intro w h1 h2
      obtain ⟨q1, q2⟩ := ih x (by simp) w h1 h2
      exact ih2 (fun y hy => ih y (by simp [hy])) _ q1 q2
  have hw : (if k = 7 then (⟨addI w.ts n, w.rs⟩ : Vs) else w).ts.Nodup ∧ (if k = 7 then (⟨addI w.ts n, w.rs⟩ : Vs) else w).rs.Nodup := by
    split
    · exact ⟨addI_nodup h1, h2⟩
    · exact ⟨h1, h2⟩
  obtain ⟨q1, q2⟩ := hL _ hw.1 hw.2
  simp only [vis]
  split
  · exact ⟨q1, addI_nodup q2⟩
  · exact ⟨q1, q2⟩
/-- Numbers of variables, and of tails, are no less than none. -/
theorem vis_pos (t : Tp) : ∀ w : Vs, fineR t = true → (∀ n ∈ w.ts, 0 ≤ n) → (∀ n ∈ w.rs, 0 ≤ n) → (∀ n ∈ (vis t w).ts, 0 ≤ n) ∧ (∀ n ∈ (vis t w).rs, 0 ≤ n) := by
  refine Tp.ind (P := fun t => ∀ w : Vs, fineR t = true → (∀ n ∈ w.ts, 0 ≤ n) → (∀ n ∈ w.rs, 0 ≤ n) → (∀ n ∈ (vis t w).ts, 0 ≤ n) ∧ (∀ n ∈ (vis t w).rs, 0 ≤ n)) (fun k n l ls tl ih w hfi h1 h2 => ?_) t
  obtain ⟨hok, hfl⟩ := tfine hfi
  have hn0 : 0 ≤ n := by simp [okT] at hok; omega
  have hadd : ∀ (l : List Int) (n : Int), 0 ≤ n → (∀ m ∈ l, 0 ≤ m) → ∀ m ∈ addI l n, 0 ≤ m := by
    intro l n hn h m hm
    unfold addI at hm
    split at hm
    · exact h m hm
    · rcases List.mem_append.1 hm with hm | hm
      · exact h m hm
      · rw [List.mem_singleton] at hm; omega
  have hL : ∀ w : Vs, (∀ n ∈ w.ts, 0 ≤ n) → (∀ n ∈ w.rs, 0 ≤ n) → (∀ n ∈ (visL l w).ts, 0 ≤ n) ∧ (∀ n ∈ (visL l w).rs, 0 ≤ n) := by
    clear hok hfi
    induction l with
    | nil => intro w h1 h2; exact ⟨h1, h2⟩
    | cons x l ih2 =>
      intro w h1 h2
      obtain ⟨q1, q2⟩ := ih x (by simp) w (hfl x (by simp)) h1 h2
      exact ih2 (fun y hy => ih y (by simp [hy])) (fun y hy => hfl y (by simp [hy])) _ q1 q2
  have hw : (∀ m ∈ (if k = 7 then (⟨addI w.ts n, w.rs⟩ : Vs) else w).ts, 0 ≤ m) ∧ (∀ m ∈ (if k = 7 then (⟨addI w.ts n, w.rs⟩ : Vs) else w).rs, 0 ≤ m) := by
    split
    · exact ⟨hadd _ _ hn0 h1, h2⟩
    · exact ⟨h1, h2⟩
  obtain ⟨q1, q2⟩ := hL _ hw.1 hw.2
  simp only [vis]
  split
  · rename_i hr
    exact ⟨q1, hadd _ _ hr.2 q2⟩
  · exact ⟨q1, q2⟩
end Go.Proofs.YtkpnhcccocaakaaDoor
