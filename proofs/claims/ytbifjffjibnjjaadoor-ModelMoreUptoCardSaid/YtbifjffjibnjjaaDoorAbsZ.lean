/-
  More rules: a cell that may be appended to; what an aggregate gives. (Own work; seat-independent.)
-/
import Derived.Test.YtbifjffjibnjjaaDoorAbsU
set_option linter.unusedVariables false
set_option linter.unusedSimpArgs false
namespace Go.Abs
open Go

theorem Inv.obLe {σ : Sg} {m : Gh} {w : World} {o : Nat} {cs cs' : List D} (h : Inv σ m w) (ho : σ.objs[o]? = some (.cells cs)) (hne : cs ≠ []) (hl : cs.length = cs'.length)
    (hle : ∀ (i : Nat) d d', cs[i]? = some d → cs'[i]? = some d' → ∀ u, RepD m w d u → RepD m w d' u) : Inv ⟨σ.objs.set o (.cells cs'), σ.toks⟩ m w := by
  refine ⟨by simp [h.lobj], h.ltok, h.nodup, fun o' ob b ho' hb => ?_, fun o' hn => ?_, h.tk, h.glob⟩
  · rw [List.getElem?_set] at ho'
    split at ho'
    · rename_i e
      subst e
      split at ho'
      · cases ho'
        obtain ⟨us, ty, h1, h2, h3, h4⟩ := h.ob o _ b ho hb
        refine ⟨us, ty, h1, by omega, fun i d u hd hu => ?_, h4⟩
        have hi : i < cs.length := by rw [hl]; exact (List.getElem?_eq_some_iff.1 hd).1
        have := h3 i cs[i] u (List.getElem?_eq_getElem hi) hu
        exact ⟨hle i _ _ (List.getElem?_eq_getElem hi) hd u this.1, this.2⟩
      · cases ho'
    · exact h.ob o' ob b ho' hb
  · have hg := h.gone o' hn
    rw [List.getElem?_set]
    split
    · rename_i e
      subst e
      rw [ho] at hg
      cases hg
      exact absurd rfl hne
    · exact hg

/-- A cell that is nil may be appended to: it gets its place. -/
theorem Weak.tokO {B : Sg} {env env' : List (Nat × D)} {σ : Sg} {o k : Nat} {sh : Sh} {cs : List D} (ho : σ.objs[o]? = some (.cells cs)) (hk : cs[k]? = some (.v .snil)) (h : EnvEq env env') :
    Weak B ⟨env, σ⟩ ⟨env', ⟨σ.objs.set o (.cells (cs.set k (.tsl σ.toks.length sh []))), σ.toks ++ [0]⟩⟩ := by
  refine ⟨fun n hn => ?_, fun m0 m w0 w tmps hB hX hI hE => ?_⟩
  · rcases h.spec n with e | e
    · exact e.trans hn
    · exact e
  · obtain ⟨hI', hX'⟩ := hI.tadd sh 0 (Nat.zero_le _)
    have hkl := (List.getElem?_eq_some_iff.1 hk).1
    have hI2 := hI'.obLe (o := o) (cs := cs) (cs' := cs.set k (.tsl σ.toks.length sh [])) ho (by rintro rfl; simp at hk) (by simp) ?_
    · refine ⟨_, hI2, fun n => ?_, hX.trans hX'⟩
      show RepD _ w (look env' n) _
      rcases h.spec n with e | e
      · rw [e]; exact (hE n).mono hX'
      · rw [e]; exact .junk _
    · intro i d d' hd hd' u hu
      rw [List.getElem?_set] at hd'
      split at hd'
      · rename_i e
        subst e
        cases hd'
        rw [hk] at hd
        cases hd
        cases hu with
        | v _ _ hv =>
          cases hv
          have h0 : RepV w (Fz m w) (.sl sh true []) (.slice none 0 0) := .slNil sh true none
          have := h0.tokd (m := m) hX'
          rw [show σ.toks.length = m.toks.length from hI.tok_len.symm]
          exact this
      · rw [hd] at hd'
        cases hd'
        exact hu

theorem RepD.toV {m : Gh} {w : World} {x : V} {u : Value} (h : RepD m w (.v x) u) : RepV w (Fz m w) x u := by
  cases h with | v _ _ h => exact h

theorem D.Le.aggV {ds : List D} {xs : List V} (hl : ds.length = xs.length) (h1 : ∀ c ∈ xs, c.one = true) (h : ∀ (i : Nat) d x, ds[i]? = some d → xs[i]? = some x → D.Le d (.v x)) : D.Le (.agg ds) (.v (.agg xs)) := by
  intro m w u hu
  cases hu with
  | agg cs us hl' hone hr =>
    refine .v _ _ (.agg xs us (by omega) h1 fun i c u hc hu => ?_)
    have hi : i < ds.length := by rw [hl]; exact (List.getElem?_eq_some_iff.1 hc).1
    exact (h i ds[i] c (List.getElem?_eq_getElem hi) hc m w u (hr i _ u (List.getElem?_eq_getElem hi) hu)).toV
theorem D.Le.agg3 {a b c : D} {x y z : V} (h1 : x.one = true) (h2 : y.one = true) (h3 : z.one = true) (ha : D.Le a (.v x)) (hb : D.Le b (.v y)) (hc : D.Le c (.v z)) : D.Le (.agg [a, b, c]) (.v (.agg [x, y, z])) :=
    .aggV rfl (by intro c hc; simp only [List.mem_cons, List.not_mem_nil, or_false] at hc; rcases hc with rfl | rfl | rfl <;> assumption) fun i d x h1 h2 => by
    match i with
    | 0 => cases h1; cases h2; exact ha
    | 1 => cases h1; cases h2; exact hb
    | 2 => cases h1; cases h2; exact hc
    | n + 3 => simp at h1
theorem D.Le.aggVV {xs ys : List V} (hl : xs.length = ys.length) (h1 : ∀ c ∈ ys, c.one = true) (h : ∀ (i : Nat) x y, xs[i]? = some x → ys[i]? = some y → D.Le (.v x) (.v y)) : D.Le (.v (.agg xs)) (.v (.agg ys)) := by
  intro m w u hu
  cases hu with
  | v _ _ hu =>
    cases hu with
    | agg cs us hl' hone hr =>
      refine .v _ _ (.agg ys us (by omega) h1 fun i c u hc hu => ?_)
      have hi : i < xs.length := by rw [hl]; exact (List.getElem?_eq_some_iff.1 hc).1
      exact (h i xs[i] c (List.getElem?_eq_getElem hi) hc m w u (.v _ _ (hr i _ u (List.getElem?_eq_getElem hi) hu))).toV
theorem D.Le.vagg3 {a b c : V} {x y z : V} (h1 : x.one = true) (h2 : y.one = true) (h3 : z.one = true) (ha : D.Le (.v a) (.v x)) (hb : D.Le (.v b) (.v y)) (hc : D.Le (.v c) (.v z)) : D.Le (.v (.agg [a, b, c])) (.v (.agg [x, y, z])) :=
    .aggVV rfl (by intro c hc; simp only [List.mem_cons, List.not_mem_nil, or_false] at hc; rcases hc with rfl | rfl | rfl <;> assumption) fun i d x h1 h2 => by
    match i with
    | 0 => cases h1; cases h2; exact ha
    | 1 => cases h1; cases h2; exact hb
    | 2 => cases h1; cases h2; exact hc
    | n + 3 => simp at h1
/-- One value's readings are the other's too. -/
def VLe (x y : V) : Prop := ∀ w F u, RepV w F x u → RepV w F y u
theorem VLe.refl (x : V) : VLe x x := fun _ _ _ h => h
theorem VLe.snil {sh : Sh} {f : Bool} : VLe .snil (.sl sh f []) := fun w F u h => by cases h; exact .slNil _ _ _
theorem VLe.lax {sh : Sh} {f : Bool} {xs : List V} : VLe (.sl sh f xs) (.sl sh false xs) := fun w F u h => h.lax
def VLes : List V → List V → Prop
  | [], [] => True
  | x :: xs, y :: ys => VLe x y ∧ VLes xs ys
  | _, _ => False
theorem VLes.get : ∀ {xs ys : List V}, VLes xs ys → ∀ (i : Nat) x y, xs[i]? = some x → ys[i]? = some y → VLe x y
  | [], [], _, i, x, y, h, _ => by simp at h
  | x :: xs, y :: ys, h, 0, _, _, h1, h2 => by cases h1; cases h2; exact h.1
  | x :: xs, y :: ys, h, i + 1, _, _, h1, h2 => VLes.get h.2 i _ _ (by simpa using h1) (by simpa using h2)
  | [], _ :: _, h, _, _, _, _, _ => h.elim
  | _ :: _, [], h, _, _, _, _, _ => h.elim
theorem VLes.len : ∀ {xs ys : List V}, VLes xs ys → xs.length = ys.length
  | [], [], _ => rfl
  | x :: xs, y :: ys, h => by simp [VLes.len h.2]
  | [], _ :: _, h => h.elim
  | _ :: _, [], h => h.elim
theorem VLe.agg {xs ys : List V} (h : VLes xs ys) (h1 : ∀ c ∈ ys, c.one = true) : VLe (.agg xs) (.agg ys) := by
  intro w F u hu
  have hl := h.len
  cases hu with
  | agg cs us hl' hone hr =>
    refine .agg ys us (by omega) h1 fun i c u hc hu => ?_
    have hi : i < xs.length := by rw [hl]; exact (List.getElem?_eq_some_iff.1 hc).1
    exact h.get i _ c (List.getElem?_eq_getElem hi) hc w F u (hr i _ u (List.getElem?_eq_getElem hi) hu)
theorem VLe.sl {sh : Sh} {f : Bool} {xs ys : List V} (hl : xs.length = ys.length) (hs : ∀ y ∈ ys, y.shape = sh) (h1 : ∀ c ∈ V.flat ys, c.one = true) (h : VLes (V.flat xs) (V.flat ys)) : VLe (.sl sh f xs) (.sl sh false ys) := by
  intro w F u hu
  cases hu with
  | slNil _ _ a =>
    have : ys = [] := List.length_eq_zero_iff.1 hl.symm
    subst this
    exact .slNil _ _ _
  | sl _ _ _ b off cap us hs' h1' hl' hm hf hc hr =>
    rw [hl]
    refine .sl sh false ys b off cap us hs h1 (by omega) hm (fun h => by cases h) (fun i hi => hc i (by rw [hl]; exact hi)) fun i c hc' => ?_
    have hi : i < (V.flat xs).length := by rw [h.len]; exact (List.getElem?_eq_some_iff.1 hc').1
    exact h.get i _ c (List.getElem?_eq_getElem hi) hc' w F _ (hr i _ (List.getElem?_eq_getElem hi))
theorem VLe.d {x y : V} (h : VLe x y) : D.Le (.v x) (.v y) := by
  intro m w u hu
  cases hu with
  | v _ _ hu => exact .v _ _ (h _ _ _ hu)
theorem Weak.tokE {B : Sg} {env env' : List (Nat × D)} {σ σ' : Sg} (o k : Nat) (sh : Sh) (cs : List D) (ho : σ.objs[o]? = some (.cells cs)) (hk : cs[k]? = some (.v .snil)) (hσ : ⟨σ.objs.set o (.cells (cs.set k (.tsl σ.toks.length sh []))), σ.toks ++ [0]⟩ = σ') (h : EnvEq env env') : Weak B ⟨env, σ⟩ ⟨env', σ'⟩ :=
  hσ ▸ .tokO ho hk h

/-- The end of a function that leaves its caller's memory with some objects set. -/
theorem PostV.finS {B : Sg} {r : D} {R : D → Sg → Prop} (r' : D) (σ' : Sg) {σ : Sg} (h : R r' σ') (hr : D.Le r r') (hob : ∀ ob ∈ σ'.objs, ob ∈ B.objs ∨ ob.low σ'.objs.length σ'.toks.length) (hb : r'.low σ'.objs.length σ'.toks.length := by simp)
    (ho : σ.objs = σ'.objs ++ σ.objs.drop σ'.objs.length := by simp) (ht : σ.toks = σ'.toks ++ σ.toks.drop σ'.toks.length := by simp) (hos : B.objs.length ≤ σ'.objs.length := by simp) (hts : B.toks.length ≤ σ'.toks.length := by simp) : PostV B r σ R := by
  obtain ⟨os, ts⟩ := σ
  obtain ⟨os', ts'⟩ := σ'
  dsimp only at ho ht
  rw [ho, ht]
  exact ⟨r', _, WeakR.drop hos hts hob hr hb, h⟩
theorem low_set {B : List Ob} {o n k : Nat} {ob : Ob} (h : ob.low n k) : ∀ ob' ∈ B.set o ob, ob' ∈ B ∨ ob'.low n k := by
  intro ob' hm
  rcases List.mem_or_eq_of_mem_set hm with h1 | rfl
  · exact .inl h1
  · exact .inr h
section
variable {α : Type} {os r : List α} {o k : Nat} {x y : α}
@[simp] theorem set_app_set (h : o < os.length) : (os.set o x ++ r).set o y = os.set o y ++ r := by
  rw [List.set_append_left _ _ (by simpa using h), List.set_set]
@[simp] theorem get_app_set (h : o < os.length) : (os.set o x ++ r)[o]? = some x := by
  rw [List.getElem?_append_left (by simpa using h)]; simp [h]
@[simp] theorem get_sapp0 : (os.set o x ++ r)[os.length]? = r[0]? := by
  rw [List.getElem?_append_right (by simp)]; simp
@[simp] theorem get_sapp : (os.set o x ++ r)[os.length + k]? = r[k]? := by
  rw [List.getElem?_append_right (by simp)]; simp
@[simp] theorem set_sapp0 : (os.set o x ++ r).set os.length y = os.set o x ++ r.set 0 y := by
  rw [List.set_append_right _ _ (by simp)]; simp
@[simp] theorem set_sapp : (os.set o x ++ r).set (os.length + k) y = os.set o x ++ r.set k y := by
  rw [List.set_append_right _ _ (by simp)]; simp
end

/-- A slice that may be written to, handed out: its object is no more, and its cells stay as they are. -/
theorem WeakR.freeze {B : Sg} {o off len : Nat} {sh : Sh} {cp : Option Nat} {os : List Ob} {ts : List Nat} {cs : List D} {xs : List V} (ho : B.objs.length ≤ o) (hcs : (B.objs ++ os)[o]? = some (.cells cs)) (hne : cs ≠ [])
    (hx : (cs.drop off).take (len * shn sh) = (V.flat xs).map .v) (hl : xs.length = len) (hs : ∀ x ∈ xs, x.shape = sh) : WeakR B (.msl o off len sh cp) ⟨B.objs ++ os, B.toks ++ ts⟩ (.v (.sl sh false xs)) B := by
  intro m0 m w0 w u hB hX hI hR
  have hI' := hI.take (n := B.objs.length) (k := B.toks.length) (by
    simp only [List.take_left]
    intro ob hm
    exact hB.ob_low hm)
  simp only [List.take_left] at hI'
  refine ⟨_, hI', ?_, hX.take (by rw [hB.lobj]; exact Nat.le_refl _) (by rw [hB.tok_len]; exact Nat.le_refl _)⟩
  cases hR with
  | msl _ _ _ _ _ aa cap hol hbb hlc hcm hcc =>
  rcases hbb with ⟨b, rfl, hb⟩ | ⟨h0, h1⟩
  · have hb := hI.live hcs (by rintro e; cases e; exact hne rfl) hb
    obtain ⟨us, ty, hh, hsz, hob, hone⟩ := hI.ob o _ b hcs hb
    have hfl : (V.flat xs).length = len * shn sh := by rw [V.flat_length hs, hl]
    have hfit : off + len * shn sh ≤ cs.length ∨ len * shn sh = 0 := by
      have := congrArg List.length hx
      simp only [List.length_take, List.length_drop, List.length_map, hfl] at this
      omega
    have hnm : ∀ off', ¬ (m.take B.objs.length B.toks.length).mut b off' := by
      rintro off' (h | ⟨tk, h, h2, _⟩)
      · have h3 := Gh.mem_objb.1 h
        simp only [Gh.take] at h3
        obtain ⟨j, hj⟩ := List.mem_iff_getElem?.1 h3
        rw [List.getElem?_take] at hj
        split at hj
        · rename_i hlt
          have := objb_inj (List.nodup_append.1 hI.nodup).1 hj hb
          omega
        · cases hj
      · have h3 : tk ∈ m.toks := List.mem_of_mem_take h
        exact Gh.own_not_obj hI.nodup h3 h2 (Gh.mem_objb.2 (List.mem_of_getElem? hb))
    have hbs : b < w.heap.size := (Array.getElem?_eq_some_iff.1 hh).1
    have hat : ∀ (i : Nat) c, (V.flat xs)[i]? = some c → ∃ u, us[off + i]? = some u ∧ RepV w (Fz m w) c u ∧ u.oneCell' = true := by
      intro i c hc
      have hil : i < len * shn sh := by rw [← hfl]; exact (List.getElem?_eq_some_iff.1 hc).1
      have h3 : ((cs.drop off).take (len * shn sh))[i]? = some (.v c) := by rw [hx, List.getElem?_map, hc]; rfl
      rw [List.getElem?_take_of_lt hil, List.getElem?_drop] at h3
      have hlt : off + i < us.size := Nat.lt_of_lt_of_le (List.getElem?_eq_some_iff.1 h3).1 hsz
      obtain ⟨q1, q2⟩ := hob (off + i) _ us[off + i] h3 (Array.getElem?_eq_getElem hlt)
      exact ⟨_, Array.getElem?_eq_getElem hlt, q1.v_inv, q2⟩
    refine .v _ _ ?_
    rw [← hl]
    refine .sl sh false xs b off cap (fun i => us.getD (off + i) undef) hs (fun c hc => ?_) (by omega) hcm (fun h => by cases h) (fun i hi => ?_) fun i c hc => ?_
    · obtain ⟨i, hi⟩ := List.mem_iff_getElem?.1 hc
      obtain ⟨u, _, h3, h4⟩ := hat i c hi
      cases h3 <;> first | rfl | (simp [Value.oneCell'] at h4)
    · rw [hl, ← hfl] at hi
      obtain ⟨u, h3, _⟩ := hat i _ (List.getElem?_eq_getElem hi)
      refine ⟨?_, hbs, hnm _⟩
      rw [cell_of_row w b (off + i) us ty (0, 0) hh, h3]
      simp [Array.getD_eq_getD_getElem?, h3]
    · obtain ⟨u, h3, h4, _⟩ := hat i c hc
      have e : us.getD (off + i) undef = u := by simp [Array.getD_eq_getD_getElem?, h3]
      show RepV _ _ c (us.getD (off + i) undef)
      rw [e]
      exact h4.mono ⟨fun b' off' hf => ⟨rfl, hf.1, fun hx => hf.2 (Gh.take_mut hx)⟩, fun _ _ => rfl⟩
  · subst h0 h1
    have : xs = [] := List.length_eq_zero_iff.1 hl
    subst this
    exact .v _ _ (.slNil _ _ _)
/-- The same at a function's end. -/
theorem PostV.freeze {B : Sg} {o off len : Nat} {sh : Sh} {cp : Option Nat} {R : D → Sg → Prop} (xs : List V) (cs : List D) {σ : Sg} (h : R (.v (.sl sh false xs)) B) (hcs : σ.objs[o]? = some (.cells cs)) (hne : cs ≠ [])
    (hx : (cs.drop off).take (len * shn sh) = (V.flat xs).map .v) (hl : xs.length = len) (hs : ∀ x ∈ xs, x.shape = sh) (ho : B.objs.length ≤ o := by simp) (hos : σ.objs = B.objs ++ σ.objs.drop B.objs.length := by simp)
    (hts : σ.toks = B.toks ++ σ.toks.drop B.toks.length := by simp) : PostV B (.msl o off len sh cp) σ R := by
  obtain ⟨os, ts⟩ := σ
  dsimp only at hos hts hcs
  refine ⟨_, B, ?_, h⟩
  rw [hos, hts]
  exact .freeze ho (by rw [← hos]; exact hcs) hne hx hl hs

/-- A cell that may be given out for good. -/
def Giv (n : Nat) (σ : Sg) (d : D) (y : V) : Prop := d = .v y ∨ ∃ o2 fs, d = .map o2 ∧ n ≤ o2 ∧ σ.objs[o2]? = some (.map (fmD fs)) ∧ y = .fmap fs
/-- A struct that may be written to, handed out with the maps in it: they stay as they are. -/
theorem WeakR.freezeP {B : Sg} {o : Nat} {os : List Ob} {ts : List Nat} {cs : List D} {ys : List V} (ho : B.objs.length ≤ o) (hcs : (B.objs ++ os)[o]? = some (.cells cs)) (hne : cs ≠ [])
    (hl : cs.length = ys.length) (hg : ∀ (i : Nat) d y, cs[i]? = some d → ys[i]? = some y → Giv B.objs.length ⟨B.objs ++ os, B.toks ++ ts⟩ d y) : WeakR B (.ptr o 0) ⟨B.objs ++ os, B.toks ++ ts⟩ (.v (.box (some ys.length) (.agg ys) 0)) B := by
  intro m0 m w0 w u hB hX hI hR
  have hI' := hI.take (n := B.objs.length) (k := B.toks.length) (by
    simp only [List.take_left]
    intro ob hm
    exact hB.ob_low hm)
  simp only [List.take_left] at hI'
  refine ⟨_, hI', ?_, hX.take (by rw [hB.lobj]; exact Nat.le_refl _) (by rw [hB.tok_len]; exact Nat.le_refl _)⟩
  have hnm : ∀ (j b : Nat), B.objs.length ≤ j → m.objs[j]? = some (some b) → ∀ off', ¬ (m.take B.objs.length B.toks.length).mut b off' := by
    rintro j b hj hb off' (h | ⟨tk, h, h2, _⟩)
    · have h3 := Gh.mem_objb.1 h
      simp only [Gh.take] at h3
      obtain ⟨q, hq⟩ := List.mem_iff_getElem?.1 h3
      rw [List.getElem?_take] at hq
      split at hq
      · rename_i hlt
        have := objb_inj (List.nodup_append.1 hI.nodup).1 hq hb
        omega
      · cases hq
    · have h3 : tk ∈ m.toks := List.mem_of_mem_take h
      exact Gh.own_not_obj hI.nodup h3 h2 (Gh.mem_objb.2 (List.mem_of_getElem? hb))
  have kp : Kp w (Fz m w) w (Fz (m.take B.objs.length B.toks.length) w) := fz_take
  cases hR with
  | ptr _ _ b hb =>
  have hb := hI.live hcs (by rintro e; cases e; exact hne rfl) hb
  obtain ⟨us, ty, hh, hsz, hob, hone⟩ := hI.ob o _ b hcs hb
  have hbs : b < w.heap.size := (Array.getElem?_eq_some_iff.1 hh).1
  have hat : ∀ (i : Nat) y, ys[i]? = some y → ∃ u, us[i]? = some u ∧ RepV w (Fz (m.take B.objs.length B.toks.length) w) y u ∧ u.oneCell' = true := by
    intro i y hy
    have hil : i < cs.length := by rw [hl]; exact (List.getElem?_eq_some_iff.1 hy).1
    have h3 := List.getElem?_eq_getElem hil
    have hlt : i < us.size := Nat.lt_of_lt_of_le hil hsz
    obtain ⟨q1, q2⟩ := hob i cs[i] us[i] h3 (Array.getElem?_eq_getElem hlt)
    refine ⟨us[i], Array.getElem?_eq_getElem hlt, ?_, q2⟩
    rcases hg i _ y h3 hy with e | ⟨o2, fs, e, ho2, hm2, rfl⟩
    · rw [e] at q1
      exact q1.v_inv.mono kp
    · rw [e] at q1
      generalize hux : us[i] = ux at q1
      cases q1 with
      | map _ b2 hb2 =>
      have hb2 := hI.live hm2 (by simp) hb2
      obtain ⟨ms, clock, hh2, hsz2, hrep, hst⟩ := hI.ob o2 _ b2 hm2 hb2
      have hbs2 : b2 < w.heap.size := (Array.getElem?_eq_some_iff.1 hh2).1
      refine .fmap fs b2 ms clock hh2 (fun off => ⟨hbs2, hnm o2 b2 ho2 hb2 off⟩) hst (by simpa [fmD] using hsz2) (fun i x e hx he => ?_) fun i x e hx he => ?_
      · have := (hrep i (x.1, .v x.2) e (by simp [fmD, hx]) he).1
        exact this.mono kp
      · have := (hrep i (x.1, .v x.2) e (by simp [fmD, hx]) he).2
        exact this.v_inv.mono kp
  refine .v _ _ (.box _ _ 0 b 0 (fun i => us.getD i undef) rfl (fun c hc => ?_) (fun i hi => ?_) fun i c hc => ?_)
  · obtain ⟨i, hi⟩ := List.mem_iff_getElem?.1 (show c ∈ ys from hc)
    obtain ⟨u, _, h3, h4⟩ := hat i c hi
    cases h3 <;> first | rfl | (simp [Value.oneCell'] at h4)
  · have hi' : i < ys.length := hi
    obtain ⟨u, h3, _⟩ := hat i _ (List.getElem?_eq_getElem hi')
    refine ⟨?_, hbs, hnm o b ho hb _⟩
    rw [Nat.zero_add, cell_of_row w b i us ty (0, 0) hh, h3]
    simp [Array.getD_eq_getD_getElem?, h3]
  · obtain ⟨u, h3, h4, _⟩ := hat i c hc
    have e : us.getD i undef = u := by simp [Array.getD_eq_getD_getElem?, h3]
    show RepV _ _ c (us.getD i undef)
    rw [e]
    exact h4
/-- The same at a function's end. -/
theorem PostV.freezeP {B : Sg} {o : Nat} {R : D → Sg → Prop} (ys : List V) (cs : List D) {σ : Sg} (h : R (.v (.box (some ys.length) (.agg ys) 0)) B) (hcs : σ.objs[o]? = some (.cells cs)) (hne : cs ≠ []) (hl : cs.length = ys.length)
    (hg : ∀ (i : Nat) d y, cs[i]? = some d → ys[i]? = some y → Giv B.objs.length σ d y) (ho : B.objs.length ≤ o := by simp) (hos : σ.objs = B.objs ++ σ.objs.drop B.objs.length := by simp)
    (hts : σ.toks = B.toks ++ σ.toks.drop B.toks.length := by simp) : PostV B (.ptr o 0) σ R := by
  obtain ⟨os, ts⟩ := σ
  dsimp only at hos hts hcs
  refine ⟨_, B, ?_, h⟩
  rw [hos, hts] at hg ⊢
  exact .freezeP ho (by rw [← hos]; exact hcs) hne hl hg

/-- The second environment tells less. -/
def EnvLe (env : List (Nat × D)) : List (Nat × D) → Prop
  | [] => True
  | (i, d) :: r => D.Le (look env i) d ∧ (look env i = .junk → d = .junk) ∧ EnvLe env r
theorem EnvLe.spec {env : List (Nat × D)} : ∀ {env' : List (Nat × D)}, EnvLe env env' → ∀ i, D.Le (look env i) (look env' i) ∧ (look env i = .junk → look env' i = .junk)
  | [], _, i => ⟨.junk _, fun _ => rfl⟩
  | (j, d) :: r, h, i => by
    simp only [look]
    by_cases hij : j = i
    · subst hij; rw [if_pos rfl]; exact ⟨h.1, h.2.1⟩
    · rw [if_neg hij]; exact h.2.2.spec i
theorem Weak.le {B : Sg} {env env' : List (Nat × D)} {σ : Sg} (h : EnvLe env env') : Weak B ⟨env, σ⟩ ⟨env', σ⟩ :=
  ⟨fun n hn => (h.spec n).2 hn, fun m0 m w0 w tmps hB hX hI hE => ⟨m, hI, fun n => (h.spec n).1 m w _ (hE n), hX⟩⟩
theorem Weak.le2 {B : Sg} {env env' : List (Nat × D)} {σ σ' : Sg} (hσ : σ = σ') (h : EnvLe env env') : Weak B ⟨env, σ⟩ ⟨env', σ'⟩ := hσ ▸ .le h
attribute [simp] EnvLe
@[simp] theorem Le_refl (d : D) : D.Le d d ↔ True := ⟨fun _ => trivial, fun _ => .refl d⟩
@[simp] theorem Le_snil {sh : Sh} {f : Bool} : D.Le (.v .snil) (.v (.sl sh f [])) ↔ True := ⟨fun _ => trivial, fun _ => .snil⟩
@[simp] theorem Le_tsl {t : Nat} {sh : Sh} {xs : List V} : D.Le (.tsl t sh xs) (.v (.sl sh false xs)) ↔ True := ⟨fun _ => trivial, fun _ => .tsl⟩
@[simp] theorem Le_lax {sh : Sh} {f : Bool} {xs : List V} : D.Le (.v (.sl sh f xs)) (.v (.sl sh false xs)) ↔ True := ⟨fun _ => trivial, fun _ => .lax⟩

/-! ### Cells of a vector -/
section
variable {α : Type} {f : α → D} {l : List α} {rest : List D} {i : Nat}
theorem get_vec (h : i < l.length) : (l.map f ++ rest)[i]? = l[i]?.map f := by
  rw [List.getElem?_append_left (by simpa using h), List.getElem?_map]
theorem WSome_vec {K : D → Prop} (h : i < l.length) : WSome (l[i]?.map f) K = ∀ y, l[i]? = some y → K (f y) := by
  rw [List.getElem?_eq_getElem h]
  simp
theorem WSome_vget {K : D → Prop} (h : i < l.length) : WSome (l.map f ++ rest)[i]? K = ∀ y, l[i]? = some y → K (f y) := by
  rw [get_vec h, WSome_vec h]
theorem put_vec {x : α} (h : i < l.length) : (l.map f ++ rest).take i ++ f x :: (l.map f ++ rest).drop (i + 1) = (l.set i x).map f ++ rest := by
  have : (l.map f ++ rest).take i ++ f x :: (l.map f ++ rest).drop (i + 1) = (l.map f ++ rest).set i (f x) := by
    rw [List.set_eq_take_append_cons_drop, if_pos (by simp; omega)]
  rw [this, List.set_append_left _ _ (by simpa using h), List.map_set]
end

/-- An object's block is turned; no other one is. -/
theorem Ext.turned {m : Gh} {w w' : World} {b : Nat} (hb : b ∈ m.objb) (os : w'.os = w.os) (tape : w'.tape = w.tape) (output : w'.output = w.output) (size : w.heap.size ≤ w'.heap.size) (old : ∀ c, c < w.heap.size → c ≠ b → w'.heap[c]? = w.heap[c]?) : Ext m w m w' := by
  refine ⟨os, tape, output, size, fun _ _ h => .inl h, fun _ tk h => ⟨tk, h, rfl, Nat.le_refl _, fun _ => rfl⟩, fun c off f => ⟨cell?_of_heap (old c f.1 ?_), f.2⟩, fun c hc hn => ⟨old c hc ?_, hn⟩⟩
  · rintro rfl; exact f.2 (.inl hb)
  · rintro rfl; exact hn (List.mem_append.2 (.inl hb))
theorem Inv.turned {σ : Sg} {m : Gh} {w w' : World} (h : Inv σ m w) {o b : Nat} (hb : m.objs[o]? = some (some b)) (e : Ext m w m w') (old : ∀ c, c < w.heap.size → c ≠ b → w'.heap[c]? = w.heap[c]?) (ob : Ob) (r : ObRep m w' ob b) : Inv (σ.put o ob) m w' := by
  have hmem : b ∈ m.objb := Gh.mem_objb.2 (List.mem_of_getElem? hb)
  have nd : m.objb.Nodup := (List.nodup_append.1 h.nodup).1
  refine ⟨by simp [Sg.put, h.lobj], h.ltok, h.nodup, fun i ob' c hi hc => ?_, fun i hi => ?_, fun tk htk => ?_, h.glob.mono e⟩
  · simp only [Sg.put, List.getElem?_set] at hi
    by_cases hio : o = i
    · subst hio
      have hcb : c = b := Option.some.inj (Option.some.inj (hc.symm.trans hb))
      subst hcb
      simp only [if_true] at hi
      split at hi
      · cases hi; exact r
      · cases hi
    · rw [if_neg hio] at hi
      have hcb : c ≠ b := by
        rintro rfl
        exact hio (objb_inj nd hb hc)
      exact (h.ob i ob' c hi hc).mono e (old c (h.lt_obj (Gh.mem_objb.2 (List.mem_of_getElem? hc))) hcb)
  · have hio : o ≠ i := by
      rintro rfl
      rw [hb] at hi
      cases hi
    simp only [Sg.put, List.getElem?_set]
    rw [if_neg hio]
    exact h.gone i hi
  · obtain ⟨h1, h2, h3, h4⟩ := h.tk tk htk
    refine ⟨h1, h2, h3, fun c hbo => ?_⟩
    have hne : c ≠ b := by
      rintro rfl
      exact (List.nodup_append.1 h.nodup).2.2 c hmem c (Gh.mem_ownb.2 ⟨tk, htk, hbo⟩) rfl
    rw [old c (h.lt_own (Gh.mem_ownb.2 ⟨tk, htk, hbo⟩)) hne]
    exact h4 c hbo

/-! ### Structs given out at once; objects whose block is known -/
section
variable {P : Program} {σ : Sg} {K : D → Sg → Prop} {J : D → Prop}
/-- An object that lies in that block. -/
def WKn (b : Nat) (σ : Sg) (F : Nat → List D → Prop) : Prop := ∃ (o : Nat) (cs : List D), σ.objs[o]? = some (.known b cs) ∧ F o cs
theorem WKn.mk {b o : Nat} {σ : Sg} {cs : List D} {F : Nat → List D → Prop} (h : σ.objs[o]? = some (.known b cs)) (hf : F o cs) : WKn b σ F := ⟨o, cs, h, hf⟩
@[simp] theorem WX_ibox {x : V} : WX .ibox [.v x] σ K = (x.cells.all V.one = true ∧ K (.v (.box x.shape x 0)) σ) := rfl
@[simp] theorem WX_xbox {x : D} : WX .xbox [x] σ K = (x.lies = true ∧ ∀ b, K (.v (.adr b 0)) (σ.add (.known b x.cells))) := rfl
@[simp] theorem WX_iexp {sh : Sh} {o off len : Nat} {c : Option Nat} {k : IntKind} {n : Int} : WX (.iexp sh) [.msl o off len sh c, .v (.int k n)] σ K =
    (0 ≤ n ∧ n < len ∧ WCells σ.objs[o]? fun cs => cs ≠ [] ∧ ∀ b, K (.v (.adr b (off + n.toNat * shn sh))) (σ.put o (.known b cs))) := by
  simp only [WX, WCells, true_and]
  rcases σ.objs[o]? with _ | (cs | es | _ | _) <;> rfl
theorem WLoad_box {sh sh' : Sh} {x : V} {off : Nat} : WLoad sh (.v (.box sh' x off)) σ J = WLoad sh (.imm sh' x off) σ J := rfl
attribute [simp] WLoad_box
@[simp] theorem WX_ldk_box {sh sh' : Sh} {x : V} {off : Nat} : WX (.ldk sh) [.v (.box sh' x off)] σ K = WLoad sh (.imm sh' x off) σ fun d => K d σ := rfl
@[simp] theorem WX_ldk_imm {sh sh' : Sh} {x : V} {off : Nat} : WX (.ldk sh) [.imm sh' x off] σ K = WLoad sh (.imm sh' x off) σ fun d => K d σ := rfl
@[simp] theorem WX_ldk_ptr {sh : Sh} {o off : Nat} : WX (.ldk sh) [.ptr o off] σ K = WLoad sh (.ptr o off) σ fun d => K d σ := rfl
@[simp] theorem WX_ldk_adr {b off : Nat} : WX (.ldk none) [.v (.adr b off)] σ K = WKn b σ fun _ cs => WSome cs[off]? fun d => K d σ := by
  simp only [WX, WLdk, WKn, WSome, eq_iff_iff]
  exact ⟨fun ⟨o, cs, h1, h2⟩ => ⟨o, cs, h1, by cases h : cs[off]? <;> rw [h] at h2 <;> exact h2⟩, fun ⟨o, cs, h1, h2⟩ => ⟨o, cs, h1, by cases h : cs[off]? <;> rw [h] at h2 <;> exact h2⟩⟩
@[simp] theorem WX_ldk_adr_row {n b off : Nat} : WX (.ldk (some n)) [.v (.adr b off)] σ K = WKn b σ fun _ cs => 0 < n ∧ off + n ≤ cs.length ∧ K (mkAgg ((cs.drop off).take n)) σ := rfl
@[simp] theorem WStore_adr {n b off : Nat} {x : D} : WStore n (.v (.adr b off)) x σ K = WKn b σ fun o cs => x.lies = true ∧ x.cells.length = n ∧ 0 < n ∧ off + n ≤ cs.length ∧ K (.tup []) (σ.put o (.known b (putAt cs off x.cells))) := rfl
@[simp] theorem WFaddr_box {sh : Sh} {off p : Nat} {x : V} : WFaddr off (.v (.box sh x p)) J = J (.v (.box sh x (p + off))) := rfl
@[simp] theorem WFaddr_adr {b off p : Nat} : WFaddr off (.v (.adr b p)) J = J (.v (.adr b (p + off))) := rfl
@[simp] theorem WNil_box {sh : Sh} {x : V} {p : Nat} : WNil (.v (.box sh x p)) J = J (.v (.box sh x p)) := rfl
@[simp] theorem WNil_adr {b p : Nat} : WNil (.v (.adr b p)) J = J (.v (.adr b p)) := rfl
variable {I : V → Prop} {c : Bool}
@[simp] theorem WBin_pb_eql {sh : Sh} {x : V} {p : Nat} : WBin P .eql .ptr c (.v .pnil) (.v (.box sh x p)) I = I (.bool false) := by simp [WBin, WEq]
@[simp] theorem WBin_pb_neq {sh : Sh} {x : V} {p : Nat} : WBin P .neq .ptr c (.v .pnil) (.v (.box sh x p)) I = I (.bool true) := by simp [WBin, WEq]
@[simp] theorem WBin_bp_eql {sh : Sh} {x : V} {p : Nat} : WBin P .eql .ptr c (.v (.box sh x p)) (.v .pnil) I = I (.bool false) := by simp [WBin, WEq]
@[simp] theorem WBin_bp_neq {sh : Sh} {x : V} {p : Nat} : WBin P .neq .ptr c (.v (.box sh x p)) (.v .pnil) I = I (.bool true) := by simp [WBin, WEq]
@[simp] theorem WBin_pa_eql {b p : Nat} : WBin P .eql .ptr c (.v .pnil) (.v (.adr b p)) I = I (.bool false) := by simp [WBin, WEq]
@[simp] theorem WBin_pa_neq {b p : Nat} : WBin P .neq .ptr c (.v .pnil) (.v (.adr b p)) I = I (.bool true) := by simp [WBin, WEq]
@[simp] theorem WBin_ap_eql {b p : Nat} : WBin P .eql .ptr c (.v (.adr b p)) (.v .pnil) I = I (.bool false) := by simp [WBin, WEq]
@[simp] theorem WBin_ap_neq {b p : Nat} : WBin P .neq .ptr c (.v (.adr b p)) (.v .pnil) I = I (.bool true) := by simp [WBin, WEq]
end
theorem D.Le.unimm {sh : Sh} {x : V} {off : Nat} : D.Le (.imm sh x off) (.v (.box sh x off)) := fun _ _ _ h => h.unbox
theorem D.Le.imm {sh : Sh} {x : V} {off : Nat} : D.Le (.v (.box sh x off)) (.imm sh x off) := fun _ _ _ h => h.box

end Go.Abs
