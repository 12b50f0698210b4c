/-
  More rules: a cell that may be appended to; what an aggregate gives. (Own work; seat-independent.)
-/
import Derived.Test.YtcbdnndgnbgnaaaAbsU
set_option linter.unusedVariables false
set_option linter.unusedSimpArgs false
namespace Go.Abs
open Go

theorem Inv.obLe {σ : Sg} {m : Gh} {w : World} {o : Nat} {cs cs' : List D} (h : Inv σ m w) (ho : σ.objs[o]? = some (.cells cs)) (hne : cs ≠ []) (hl : cs.length = cs'.length)
    (hle : ∀ (i : Nat) d d', cs[i]? = some d → cs'[i]? = some d' → ∀ u, RepD m w d u → RepD m w d' u) : Inv ⟨σ.objs.set o (.cells cs'), σ.toks⟩ m w := by
  refine ⟨by simp [h.lobj], h.ltok, h.nodup, fun o' ob b ho' hb => ?_, fun o' hn => ?_, h.tk⟩
  · rw [List.getElem?_set] at ho'
    split at ho'
    · rename_i e
      subst e
      split at ho'
      · cases ho'
        obtain ⟨us, ty, h1, h2, h3, h4⟩ := h.ob o _ b ho hb
        refine ⟨us, ty, h1, by omega, fun i d u hd hu => ?_, h4⟩
        have hi : i < cs.length := by rw [hl]; exact (List.getElem?_eq_some_iff.1 hd).1
        have := h3 i cs[i] u (List.getElem?_eq_getElem hi) hu
        exact ⟨hle i _ _ (List.getElem?_eq_getElem hi) hd u this.1, this.2⟩
      · cases ho'
    · exact h.ob o' ob b ho' hb
  · have hg := h.gone o' hn
    rw [List.getElem?_set]
    split
    · rename_i e
      subst e
      rw [ho] at hg
      cases hg
      exact absurd rfl hne
    · exact hg

/-- A cell that is nil may be appended to: it gets its place. -/
theorem Weak.tokO {B : Sg} {env env' : List (Nat × D)} {σ : Sg} {o k : Nat} {sh : Sh} {cs : List D} (ho : σ.objs[o]? = some (.cells cs)) (hk : cs[k]? = some (.v .snil)) (h : EnvEq env env') :
    Weak B ⟨env, σ⟩ ⟨env', ⟨σ.objs.set o (.cells (cs.set k (.tsl σ.toks.length sh []))), σ.toks ++ [0]⟩⟩ := by
  refine ⟨fun n hn => ?_, fun m0 m w0 w tmps hB hX hI hE => ?_⟩
  · rcases h.spec n with e | e
    · exact e.trans hn
    · exact e
  · obtain ⟨hI', hX'⟩ := hI.tadd sh 0 (Nat.zero_le _)
    have hkl := (List.getElem?_eq_some_iff.1 hk).1
    have hI2 := hI'.obLe (o := o) (cs := cs) (cs' := cs.set k (.tsl σ.toks.length sh [])) ho (by rintro rfl; simp at hk) (by simp) ?_
    · refine ⟨_, hI2, fun n => ?_, hX.trans hX'⟩
      show RepD _ w (look env' n) _
      rcases h.spec n with e | e
      · rw [e]; exact (hE n).mono hX'
      · rw [e]; exact .junk _
    · intro i d d' hd hd' u hu
      rw [List.getElem?_set] at hd'
      split at hd'
      · rename_i e
        subst e
        cases hd'
        rw [hk] at hd
        cases hd
        cases hu with
        | v _ _ hv =>
          cases hv
          have h0 : RepV w (Fz m w) (.sl sh true []) (.slice none 0 0) := .slNil sh true none
          have := h0.tokd (m := m) hX'
          rw [show σ.toks.length = m.toks.length from hI.tok_len.symm]
          exact this
      · rw [hd] at hd'
        cases hd'
        exact hu

theorem RepD.toV {m : Gh} {w : World} {x : V} {u : Value} (h : RepD m w (.v x) u) : RepV w (Fz m w) x u := by
  cases h with | v _ _ h => exact h

theorem D.Le.aggV {ds : List D} {xs : List V} (hl : ds.length = xs.length) (h1 : ∀ c ∈ xs, c.one = true) (h : ∀ (i : Nat) d x, ds[i]? = some d → xs[i]? = some x → D.Le d (.v x)) : D.Le (.agg ds) (.v (.agg xs)) := by
  intro m w u hu
  cases hu with
  | agg cs us hl' hone hr =>
    refine .v _ _ (.agg xs us (by omega) h1 fun i c u hc hu => ?_)
    have hi : i < ds.length := by rw [hl]; exact (List.getElem?_eq_some_iff.1 hc).1
    exact (h i ds[i] c (List.getElem?_eq_getElem hi) hc m w u (hr i _ u (List.getElem?_eq_getElem hi) hu)).toV
theorem D.Le.agg3 {a b c : D} {x y z : V} (h1 : x.one = true) (h2 : y.one = true) (h3 : z.one = true) (ha : D.Le a (.v x)) (hb : D.Le b (.v y)) (hc : D.Le c (.v z)) : D.Le (.agg [a, b, c]) (.v (.agg [x, y, z])) :=
    .aggV rfl (by intro c hc; simp only [List.mem_cons, List.not_mem_nil, or_false] at hc; rcases hc with rfl | rfl | rfl <;> assumption) fun i d x h1 h2 => by
    match i with
    | 0 => cases h1; cases h2; exact ha
    | 1 => cases h1; cases h2; exact hb
    | 2 => cases h1; cases h2; exact hc
    | n + 3 => simp at h1
theorem D.Le.aggVV {xs ys : List V} (hl : xs.length = ys.length) (h1 : ∀ c ∈ ys, c.one = true) (h : ∀ (i : Nat) x y, xs[i]? = some x → ys[i]? = some y → D.Le (.v x) (.v y)) : D.Le (.v (.agg xs)) (.v (.agg ys)) := by
  intro m w u hu
  cases hu with
  | v _ _ hu =>
    cases hu with
    | agg cs us hl' hone hr =>
      refine .v _ _ (.agg ys us (by omega) h1 fun i c u hc hu => ?_)
      have hi : i < xs.length := by rw [hl]; exact (List.getElem?_eq_some_iff.1 hc).1
      exact (h i xs[i] c (List.getElem?_eq_getElem hi) hc m w u (.v _ _ (hr i _ u (List.getElem?_eq_getElem hi) hu))).toV
theorem D.Le.vagg3 {a b c : V} {x y z : V} (h1 : x.one = true) (h2 : y.one = true) (h3 : z.one = true) (ha : D.Le (.v a) (.v x)) (hb : D.Le (.v b) (.v y)) (hc : D.Le (.v c) (.v z)) : D.Le (.v (.agg [a, b, c])) (.v (.agg [x, y, z])) :=
    .aggVV rfl (by intro c hc; simp only [List.mem_cons, List.not_mem_nil, or_false] at hc; rcases hc with rfl | rfl | rfl <;> assumption) fun i d x h1 h2 => by
    match i with
    | 0 => cases h1; cases h2; exact ha
    | 1 => cases h1; cases h2; exact hb
    | 2 => cases h1; cases h2; exact hc
    | n + 3 => simp at h1
/-- One value's readings are the other's too. -/
def VLe (x y : V) : Prop := ∀ w F u, RepV w F x u → RepV w F y u
theorem VLe.refl (x : V) : VLe x x := fun _ _ _ h => h
theorem VLe.snil {sh : Sh} {f : Bool} : VLe .snil (.sl sh f []) := fun w F u h => by cases h; exact .slNil _ _ _
theorem VLe.lax {sh : Sh} {f : Bool} {xs : List V} : VLe (.sl sh f xs) (.sl sh false xs) := fun w F u h => h.lax
def VLes : List V → List V → Prop
  | [], [] => True
  | x :: xs, y :: ys => VLe x y ∧ VLes xs ys
  | _, _ => False
theorem VLes.get : ∀ {xs ys : List V}, VLes xs ys → ∀ (i : Nat) x y, xs[i]? = some x → ys[i]? = some y → VLe x y
  | [], [], _, i, x, y, h, _ => by simp at h
  | x :: xs, y :: ys, h, 0, _, _, h1, h2 => by cases h1; cases h2; exact h.1
  | x :: xs, y :: ys, h, i + 1, _, _, h1, h2 => VLes.get h.2 i _ _ (by simpa using h1) (by simpa using h2)
  | [], _ :: _, h, _, _, _, _, _ => h.elim
  | _ :: _, [], h, _, _, _, _, _ => h.elim
theorem VLes.len : ∀ {xs ys : List V}, VLes xs ys → xs.length = ys.length
  | [], [], _ => rfl
  | x :: xs, y :: ys, h => by simp [VLes.len h.2]
  | [], _ :: _, h => h.elim
  | _ :: _, [], h => h.elim
theorem VLe.agg {xs ys : List V} (h : VLes xs ys) (h1 : ∀ c ∈ ys, c.one = true) : VLe (.agg xs) (.agg ys) := by
  intro w F u hu
  have hl := h.len
  cases hu with
  | agg cs us hl' hone hr =>
    refine .agg ys us (by omega) h1 fun i c u hc hu => ?_
    have hi : i < xs.length := by rw [hl]; exact (List.getElem?_eq_some_iff.1 hc).1
    exact h.get i _ c (List.getElem?_eq_getElem hi) hc w F u (hr i _ u (List.getElem?_eq_getElem hi) hu)
theorem VLe.sl {sh : Sh} {f : Bool} {xs ys : List V} (hl : xs.length = ys.length) (hs : ∀ y ∈ ys, y.shape = sh) (h1 : ∀ c ∈ V.flat ys, c.one = true) (h : VLes (V.flat xs) (V.flat ys)) : VLe (.sl sh f xs) (.sl sh false ys) := by
  intro w F u hu
  cases hu with
  | slNil _ _ a =>
    have : ys = [] := List.length_eq_zero_iff.1 hl.symm
    subst this
    exact .slNil _ _ _
  | sl _ _ _ b off cap us hs' h1' hl' hm hf hc hr =>
    rw [hl]
    refine .sl sh false ys b off cap us hs h1 (by omega) hm (fun h => by cases h) (fun i hi => hc i (by rw [hl]; exact hi)) fun i c hc' => ?_
    have hi : i < (V.flat xs).length := by rw [h.len]; exact (List.getElem?_eq_some_iff.1 hc').1
    exact h.get i _ c (List.getElem?_eq_getElem hi) hc' w F _ (hr i _ (List.getElem?_eq_getElem hi))
theorem VLe.d {x y : V} (h : VLe x y) : D.Le (.v x) (.v y) := by
  intro m w u hu
  cases hu with
  | v _ _ hu => exact .v _ _ (h _ _ _ hu)
theorem Weak.tokE {B : Sg} {env env' : List (Nat × D)} {σ σ' : Sg} (o k : Nat) (sh : Sh) (cs : List D) (ho : σ.objs[o]? = some (.cells cs)) (hk : cs[k]? = some (.v .snil)) (hσ : ⟨σ.objs.set o (.cells (cs.set k (.tsl σ.toks.length sh []))), σ.toks ++ [0]⟩ = σ') (h : EnvEq env env') : Weak B ⟨env, σ⟩ ⟨env', σ'⟩ :=
  hσ ▸ .tokO ho hk h

/-- The end of a function that leaves its caller's memory with some objects set. -/
theorem PostV.finS {B : Sg} {r : D} {R : D → Sg → Prop} (r' : D) (σ' : Sg) {σ : Sg} (h : R r' σ') (hr : D.Le r r') (hob : ∀ ob ∈ σ'.objs, ob ∈ B.objs ∨ ob.low σ'.objs.length σ'.toks.length) (hb : r'.low σ'.objs.length σ'.toks.length := by simp)
    (ho : σ.objs = σ'.objs ++ σ.objs.drop σ'.objs.length := by simp) (ht : σ.toks = σ'.toks ++ σ.toks.drop σ'.toks.length := by simp) (hos : B.objs.length ≤ σ'.objs.length := by simp) (hts : B.toks.length ≤ σ'.toks.length := by simp) : PostV B r σ R := by
  obtain ⟨os, ts⟩ := σ
  obtain ⟨os', ts'⟩ := σ'
  dsimp only at ho ht
  rw [ho, ht]
  exact ⟨r', _, WeakR.drop hos hts hob hr hb, h⟩
theorem low_set {B : List Ob} {o n k : Nat} {ob : Ob} (h : ob.low n k) : ∀ ob' ∈ B.set o ob, ob' ∈ B ∨ ob'.low n k := by
  intro ob' hm
  rcases List.mem_or_eq_of_mem_set hm with h1 | rfl
  · exact .inl h1
  · exact .inr h
section
variable {α : Type} {os r : List α} {o k : Nat} {x y : α}
@[simp] theorem set_app_set (h : o < os.length) : (os.set o x ++ r).set o y = os.set o y ++ r := by
  rw [List.set_append_left _ _ (by simpa using h), List.set_set]
@[simp] theorem get_app_set (h : o < os.length) : (os.set o x ++ r)[o]? = some x := by
  rw [List.getElem?_append_left (by simpa using h)]; simp [h]
@[simp] theorem get_sapp0 : (os.set o x ++ r)[os.length]? = r[0]? := by
  rw [List.getElem?_append_right (by simp)]; simp
@[simp] theorem get_sapp : (os.set o x ++ r)[os.length + k]? = r[k]? := by
  rw [List.getElem?_append_right (by simp)]; simp
@[simp] theorem set_sapp0 : (os.set o x ++ r).set os.length y = os.set o x ++ r.set 0 y := by
  rw [List.set_append_right _ _ (by simp)]; simp
@[simp] theorem set_sapp : (os.set o x ++ r).set (os.length + k) y = os.set o x ++ r.set k y := by
  rw [List.set_append_right _ _ (by simp)]; simp
end
end Go.Abs
