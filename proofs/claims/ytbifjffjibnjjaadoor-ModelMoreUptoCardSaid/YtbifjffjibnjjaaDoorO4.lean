/-
  Expressions, walked: what values and machines stand for; the small functions. (Own work.)
-/
import Derived.Test.YtbifjffjibnjjaaDoorO1
set_option linter.unusedVariables false
set_option linter.unusedSimpArgs false
set_option maxHeartbeats 1000000
namespace Go.Proofs.YtbifjffjibnjjaaDoor
open Go Go.Abs

def exV : Ex → List V
  | .mk k p n s t ls ns l => [.int .i64 k, .int .i64 p, .int .i64 n, .str s, .str t, .sl none false (ls.map .str), .sl none false (ns.map .str), .sl (some 8) false (l.map encE)]
theorem encE_exV (e : Ex) : encE e = .agg (exV e) := by cases e; rw [encE_mk]; rfl
/-- A value's six cells. -/
def boxP (k n : Int) (s : Str) (f o c : V) : V := .box (some 6) (.agg [.int .i64 k, .int .i64 n, .str s, f, o, c]) 0
mutual
def encP (φ : Nat → Nat) : Vl → V
  | .int n => boxP 1 n [] .mnil .pnil .pnil
  | .text s => boxP 2 0 s .mnil .pnil .pnil
  | .fn rc self param part env => boxP 3 0 [] .mnil .pnil (.box (some 12) (.agg ([.bool rc, .str self, .str param] ++ exV part ++ [encN φ env])) 0)
  | .rcd l => boxP 4 0 [] (.fmap (encF φ l)) .pnil .pnil
  | .tag s v => boxP 5 0 s .mnil (encP φ v) .pnil
  | .ref k => .adr (φ k) 0
def encF (φ : Nat → Nat) : En → List (V × V)
  | .nil => []
  | .cons x v e => (.str x, encP φ v) :: encF φ e
def encN (φ : Nat → Nat) : En → V
  | .nil => .pnil
  | .cons x v e => .box (some 3) (.agg [.str x, encP φ v, encN φ e]) 0
end
mutual
theorem encP_ext {φ φ' : Nat → Nat} {n L : Nat} (h : ∀ k, k < n → φ' k = φ k) : ∀ {v : Vl}, okV n L v → encP φ' v = encP φ v
  | .int n, _ => by simp [encP]
  | .text s, _ => by simp [encP]
  | .fn rc self param part env, k => by simp [encP, encN_ext h k.2.2.2]
  | .rcd l, k => by simp [encP, encF_ext h k.2]
  | .tag n v, k => by simp only [encP]; rw [encP_ext (v := v) h k.2]
  | .ref i, k => by simp only [encP]; rw [h i k]
theorem encF_ext {φ φ' : Nat → Nat} {n L : Nat} (h : ∀ k, k < n → φ' k = φ k) : ∀ {e : En}, okE n L e → encF φ' e = encF φ e
  | .nil, _ => by simp [encF]
  | .cons x v e, k => by simp only [encF]; rw [encP_ext h k.2.1, encF_ext h k.2.2]
theorem encN_ext {φ φ' : Nat → Nat} {n L : Nat} (h : ∀ k, k < n → φ' k = φ k) : ∀ {e : En}, okE n L e → encN φ' e = encN φ e
  | .nil, _ => by simp [encN]
  | .cons x v e, k => by simp only [encN]; rw [encP_ext h k.2.1, encN_ext h k.2.2]
end
theorem encP_one {φ : Nat → Nat} (v : Vl) : (encP φ v).one = true := by cases v <;> simp [encP, boxP, V.one]
theorem encN_one {φ : Nat → Nat} (v : En) : (encN φ v).one = true := by cases v <;> simp [encN, V.one]
theorem encP_shape {φ : Nat → Nat} (v : Vl) : (encP φ v).shape = none := by cases v <;> simp [encP, boxP, V.shape]
theorem encP_cells {φ : Nat → Nat} (v : Vl) : (encP φ v).cells = [encP φ v] := by cases v <;> simp [encP, boxP, V.cells]
theorem encN_cells {φ : Nat → Nat} (v : En) : (encN φ v).cells = [encN φ v] := by cases v <;> simp [encN, V.cells]
attribute [irreducible] encP encF encN
/-- What a reference points to. -/
def refC (φ : Nat → Nat) (v : Vl) : List V := [.int .i64 6, .int .i64 0, .str [], .mnil, encP φ v, .pnil]
def resW (φ : Nat → Nat) : Option Vl → D
  | some v => .v (encP φ v)
  | none => .v .pnil
/-- The machine. -/
def machOb (tt : Nat) (m : Ms) : Ob := .cells [.v (vS m.inp), .v (.int .i64 m.fuel), .v (.int .i64 m.err), .v (.int .i64 m.fault), .v (.str []), .tsl tt none (m.tr.map .str)]
structure Sto (mo tt : Nat) (φ ψ : Nat → Nat) (m : Ms) (σ : Sg) : Prop where
  mach : σ.objs[mo]? = some (machOb tt m)
  tok : σ.toks[tt]? = some m.tr.length
  st : ∀ (k : Nat) v, m.st[k]? = some v → ∃ rest, σ.objs[ψ k]? = some (.known (φ k) ((refC φ v).map .v ++ rest))
  inj : ∀ i j, i < m.st.length → j < m.st.length → ψ i = ψ j → i = j
theorem Sto.lt {mo tt : Nat} {φ ψ : Nat → Nat} {m : Ms} {σ : Sg} (h : Sto mo tt φ ψ m σ) {k : Nat} (hk : k < m.st.length) : ψ k < σ.objs.length := by
  obtain ⟨rest, hr⟩ := h.st k m.st[k] (List.getElem?_eq_getElem hk)
  exact (List.getElem?_eq_some_iff.1 hr).1
theorem Sto.mlt {mo tt : Nat} {φ ψ : Nat → Nat} {m : Ms} {σ : Sg} (h : Sto mo tt φ ψ m σ) : mo < σ.objs.length := (List.getElem?_eq_some_iff.1 h.mach).1
theorem Sto.ne {mo tt : Nat} {φ ψ : Nat → Nat} {m : Ms} {σ : Sg} (h : Sto mo tt φ ψ m σ) {k o : Nat} {cs : List D} (hk : k < m.st.length) (ho : σ.objs[o]? = some (.cells cs)) : ψ k ≠ o := by
  rintro rfl
  obtain ⟨rest, hr⟩ := h.st k m.st[k] (List.getElem?_eq_getElem hk)
  rw [ho] at hr
  cases hr
/-- The same in a greater memory. -/
theorem Sto.mono {mo tt : Nat} {φ ψ : Nat → Nat} {m : Ms} {σ τ : Sg} (h : Sto mo tt φ ψ m σ) (ho : ∀ i, i < σ.objs.length → τ.objs[i]? = σ.objs[i]?) (ht : τ.toks[tt]? = σ.toks[tt]?) : Sto mo tt φ ψ m τ := by
  refine ⟨(ho _ h.mlt).trans h.mach, ht.trans h.tok, fun k v hk => ?_, h.inj⟩
  obtain ⟨rest, hr⟩ := h.st k v hk
  exact ⟨rest, (ho _ (h.lt (List.getElem?_eq_some_iff.1 hk).1)).trans hr⟩
theorem Sto.add {mo tt : Nat} {φ ψ : Nat → Nat} {m : Ms} {σ : Sg} (h : Sto mo tt φ ψ m σ) (xs : List Ob) : Sto mo tt φ ψ m ⟨σ.objs ++ xs, σ.toks⟩ :=
  h.mono (fun i hi => List.getElem?_append_left hi) rfl
/-- What may have changed. -/
structure Aft (mo tt : Nat) (φ ψ : Nat → Nat) (m : Ms) (σ : Sg) (φ' ψ' : Nat → Nat) (m' : Ms) (σ' : Sg) : Prop where
  sto : Sto mo tt φ' ψ' m' σ'
  fe : ∀ k, k < m.st.length → φ' k = φ k
  pe : ∀ k, k < m.st.length → ψ' k = ψ k
  new : ∀ k, m.st.length ≤ k → k < m'.st.length → σ.objs.length ≤ ψ' k
  objs : σ.objs.length ≤ σ'.objs.length
  keep : ∀ i, i < σ.objs.length → i ≠ mo → (∀ k, k < m.st.length → ψ k ≠ i) → σ'.objs[i]? = σ.objs[i]?
  toks : σ.toks.length ≤ σ'.toks.length
  ktok : ∀ t, t < σ.toks.length → t ≠ tt → σ'.toks[t]? = σ.toks[t]?
section
variable {mo tt : Nat} {φ ψ φ' ψ' φ'' ψ'' : Nat → Nat} {m m' m'' : Ms} {σ σ' σ'' : Sg}
theorem Aft.refl (h : Sto mo tt φ ψ m σ) : Aft mo tt φ ψ m σ φ ψ m σ :=
  ⟨h, fun _ _ => rfl, fun _ _ => rfl, fun k h1 h2 => by omega, Nat.le_refl _, fun _ _ _ _ => rfl, Nat.le_refl _, fun _ _ _ => rfl⟩
theorem Aft.trans (h : Aft mo tt φ ψ m σ φ' ψ' m' σ') (g : Aft mo tt φ' ψ' m' σ' φ'' ψ'' m'' σ'') (hs : m.st.length ≤ m'.st.length) : Aft mo tt φ ψ m σ φ'' ψ'' m'' σ'' := by
  refine ⟨g.sto, fun k hk => (g.fe k (by omega)).trans (h.fe k hk), fun k hk => (g.pe k (by omega)).trans (h.pe k hk), fun k h1 h2 => ?_, Nat.le_trans h.objs g.objs, fun i hi hm hk => ?_, Nat.le_trans h.toks g.toks, fun t h1 h2 => (g.ktok t (Nat.lt_of_lt_of_le h1 h.toks) h2).trans (h.ktok t h1 h2)⟩
  · by_cases hk : k < m'.st.length
    · rw [g.pe k hk]; exact h.new k h1 hk
    · exact Nat.le_trans h.objs (g.new k (by omega) h2)
  · rw [g.keep i (Nat.lt_of_lt_of_le hi h.objs) hm fun k hk2 => ?_]
    · exact h.keep i hi hm hk
    · by_cases hk1 : k < m.st.length
      · rw [h.pe k hk1]; exact hk k hk1
      · have := h.new k (by omega) hk2
        omega
/-- More objects. -/
theorem Aft.add (h : Aft mo tt φ ψ m σ φ' ψ' m' σ') (xs : List Ob) : Aft mo tt φ ψ m σ φ' ψ' m' ⟨σ'.objs ++ xs, σ'.toks⟩ :=
  ⟨h.sto.add xs, h.fe, h.pe, h.new, by simp only [List.length_append]; exact Nat.le_trans h.objs (Nat.le_add_right _ _), fun i hi hm hk => by
    rw [List.getElem?_append_left (Nat.lt_of_lt_of_le hi h.objs)]; exact h.keep i hi hm hk, h.toks, h.ktok⟩
/-- From where own objects were not there. -/
theorem Aft.back {xs : List Ob} (h : Aft mo tt φ ψ m ⟨σ.objs ++ xs, σ.toks⟩ φ' ψ' m' σ') (hS : Sto mo tt φ ψ m σ) : Aft mo tt φ ψ m σ φ' ψ' m' σ' :=
  ⟨h.sto, h.fe, h.pe, fun k h1 h2 => Nat.le_trans (by simp) (h.new k h1 h2), Nat.le_trans (by simp) h.objs, fun i hi hm hk => by
    rw [h.keep i (by simp only [List.length_append]; omega) hm hk]; exact List.getElem?_append_left hi, h.toks, h.ktok⟩
/-- An own object is set. -/
theorem Aft.put (h : Aft mo tt φ ψ m σ φ' ψ' m' σ') {o : Nat} {cs : List D} (ob : Ob) (hb : σ.objs.length ≤ o) (ho : σ'.objs[o]? = some (.cells cs)) (hm : mo ≠ o) : Aft mo tt φ ψ m σ φ' ψ' m' ⟨σ'.objs.set o ob, σ'.toks⟩ := by
  refine ⟨⟨?_, h.sto.tok, fun k v hk => ?_, h.sto.inj⟩, h.fe, h.pe, h.new, by simpa using h.objs, fun i hi hmi hk => ?_, h.toks, h.ktok⟩
  · rw [List.getElem?_set_ne (Ne.symm hm)]; exact h.sto.mach
  · obtain ⟨rest, hr⟩ := h.sto.st k v hk
    exact ⟨rest, by rw [List.getElem?_set_ne (Ne.symm (h.sto.ne (List.getElem?_eq_some_iff.1 hk).1 ho))]; exact hr⟩
  · show (σ'.objs.set o ob)[i]? = _
    rw [List.getElem?_set_ne (by omega)]; exact h.keep i hi hmi hk
/-- An own object after a call. -/
theorem Aft.loc {xs : List Ob} (h : Aft mo tt φ ψ m ⟨σ.objs ++ xs, σ.toks⟩ φ' ψ' m' σ') (hS : Sto mo tt φ ψ m σ) {j : Nat} {ob : Ob} (hj : xs[j]? = some ob) : σ'.objs[σ.objs.length + j]? = some ob := by
  have hl := (List.getElem?_eq_some_iff.1 hj).1
  rw [h.keep _ (by simp only [List.length_append]; omega) (by have := hS.mlt; omega) fun k hk => by have := hS.lt hk; omega]
  rw [List.getElem?_append_right (by omega), Nat.add_sub_cancel_left, hj]
end
/-- What a part of the machine comes to. -/
def Outc (mo tt : Nat) (φ ψ : Nat → Nat) (m : Ms) (σ : Sg) (rs : Rs Vl) (r : D) (σ' : Sg) : Prop := ∃ φ' ψ', r = resW φ' rs.v ∧ Aft mo tt φ ψ m σ φ' ψ' rs.m σ'

/-- The machine's own cells are set. -/
theorem Sto.setM {mo tt : Nat} {φ ψ : Nat → Nat} {m m' : Ms} {σ : Sg} (h : Sto mo tt φ ψ m σ) (hst : m'.st = m.st) (htr : m'.tr = m.tr) : Aft mo tt φ ψ m σ φ ψ m' ⟨σ.objs.set mo (machOb tt m'), σ.toks⟩ := by
  refine ⟨⟨?_, by rw [htr]; exact h.tok, fun k v hk => ?_, by rw [hst]; exact h.inj⟩, fun _ _ => rfl, fun _ _ => rfl, fun k h1 h2 => by rw [hst] at h2; omega, by simp, fun i hi hm hk => ?_, Nat.le_refl _, fun _ _ _ => rfl⟩
  · rw [List.getElem?_set_self h.mlt]
  · rw [hst] at hk
    obtain ⟨rest, hr⟩ := h.st k v hk
    exact ⟨rest, by rw [List.getElem?_set_ne (Ne.symm (h.ne (List.getElem?_eq_some_iff.1 hk).1 h.mach))]; exact hr⟩
  · show (σ.objs.set mo _)[i]? = _
    rw [List.getElem?_set_ne (Ne.symm hm)]


theorem k_End {mo tt : Nat} {φ ψ : Nat → Nat} {m : Ms} {e f : Int} {σ : Sg} (h : Sto mo tt φ ψ m σ) : ACalls Tryd.prog 55 [.ptr mo 0, .v (.int .i64 e), .v (.int .i64 f)] σ (Outc mo tt φ ψ m σ (endM e f m)) := by
  have hm := h.mach
  have hl := h.mlt
  unfold machOb at hm
  refine acalls_fit Tryd.func55 (by kernel_rfl) c55 rfl (by simp [a55]) fun hf => ?_
  clear hf
  simp -implicitDefEqProofs (maxSteps := 2000000) (disch := omega) [-getElem?_pos, a55, hm, hl]
  refine .mk (fun he => ?_) fun he => ?_
  · simp -implicitDefEqProofs (maxSteps := 2000000) (disch := omega) [-getElem?_pos, hm, hl, List.getElem?_set_self, List.set_set]
    refine ⟨_, _, WeakR.refl _ _ _, φ, ψ, ?_, ?_⟩
    · simp [endM, he, resW]
    · have := h.setM (m' := (endM (α := Vl) e f m).m) (by simp [endM, he]) (by simp [endM, he])
      simpa [endM, he, machOb] using this
  · simp -implicitDefEqProofs (maxSteps := 2000000) (disch := omega) [-getElem?_pos, hm, hl, List.getElem?_set_self, List.set_set]
    refine ⟨_, _, WeakR.refl _ _ _, φ, ψ, ?_, ?_⟩
    · simp [endM, he, resW]
    · have := Aft.refl h
      simpa [endM, he] using this
theorem endM_v {α : Type} {e f : Int} {m : Ms} : (endM (α := α) e f m).v = none := rfl
theorem k_Stuck {mo tt : Nat} {φ ψ : Nat → Nat} {m : Ms} {σ : Sg} (h : Sto mo tt φ ψ m σ) : ACalls Tryd.prog 57 [.ptr mo 0] σ (Outc mo tt φ ψ m σ (stuckM m)) := by
  refine acalls_fit Tryd.func57 (by kernel_rfl) c57 rfl (by simp [a57]) fun hf => ?_
  clear hf
  simp -implicitDefEqProofs (maxSteps := 2000000) (disch := omega) [-getElem?_pos, a57]
  refine (k_End h).mono fun r σ2 ⟨φ2, ψ2, hr, hA⟩ => ?_
  rw [endM_v] at hr
  subst hr
  unfold resW
  simp -implicitDefEqProofs (maxSteps := 2000000) (disch := omega) [-getElem?_pos]
  exact ⟨_, _, WeakR.refl _ _ _, φ2, ψ2, rfl, hA⟩
theorem k_PartsM {k p n : Int} {s t : Str} {ls ns : List Str} {l : List Ex} {σ : Sg} (hn : ls.length ≤ 4000001) : ACalls Tryd.prog 56 [.v (encE (.mk k p n s t ls ns l))] σ fun r σ' => r = .v (.int .i64 (partsC k ls.length (decide (t ≠ [])))) ∧ σ' = σ := by
  rw [encE_mk]
  refine acalls_fit Tryd.func56 (by kernel_rfl) c56 rfl (by simp [a56]) fun hf => ?_
  clear hf
  simp -implicitDefEqProofs (maxSteps := 2000000) (disch := omega) [-getElem?_pos, a56]
  refine .mk (fun h => ?_) fun h => ?_
  · subst h
    simp -implicitDefEqProofs (maxSteps := 2000000) (disch := omega) [-getElem?_pos]
    exact .fin _ ⟨by simp [partsC], rfl⟩ (.refl _)
  simp -implicitDefEqProofs (maxSteps := 2000000) (disch := omega) [-getElem?_pos]
  refine .mk (fun h => ?_) fun h => ?_
  · subst h
    simp -implicitDefEqProofs (maxSteps := 2000000) (disch := omega) [-getElem?_pos]
    exact .fin _ ⟨by simp [partsC], rfl⟩ (.refl _)
  simp -implicitDefEqProofs (maxSteps := 2000000) (disch := omega) [-getElem?_pos]
  refine .mk (fun h => ?_) fun h => ?_
  · subst h
    simp -implicitDefEqProofs (maxSteps := 2000000) (disch := omega) [-getElem?_pos]
    exact .fin _ ⟨by simp [partsC], rfl⟩ (.refl _)
  simp -implicitDefEqProofs (maxSteps := 2000000) (disch := omega) [-getElem?_pos]
  refine .mk (fun h => ?_) fun h => ?_
  · subst h
    simp -implicitDefEqProofs (maxSteps := 2000000) (disch := omega) [-getElem?_pos]
    exact .fin _ ⟨by simp [partsC], rfl⟩ (.refl _)
  simp -implicitDefEqProofs (maxSteps := 2000000) (disch := omega) [-getElem?_pos]
  refine .mk (fun h => ?_) fun h => ?_
  · subst h
    simp -implicitDefEqProofs (maxSteps := 2000000) (disch := omega) [-getElem?_pos]
    exact .fin _ ⟨by simp [partsC], rfl⟩ (.refl _)
  simp -implicitDefEqProofs (maxSteps := 2000000) (disch := omega) [-getElem?_pos]
  refine .mk (fun h => ?_) fun h => ?_
  · subst h
    simp -implicitDefEqProofs (maxSteps := 2000000) (disch := omega) [-getElem?_pos]
    exact .fin _ ⟨by simp [partsC], rfl⟩ (.refl _)
  simp -implicitDefEqProofs (maxSteps := 2000000) (disch := omega) [-getElem?_pos]
  refine .mk (fun h => ?_) fun h => ?_
  · subst h
    simp -implicitDefEqProofs (maxSteps := 2000000) (disch := omega) [-getElem?_pos]
    exact .fin _ ⟨by simp [partsC], rfl⟩ (.refl _)
  simp -implicitDefEqProofs (maxSteps := 2000000) (disch := omega) [-getElem?_pos]
  refine .mk (fun h => ?_) fun h => ?_
  · subst h
    simp -implicitDefEqProofs (maxSteps := 2000000) (disch := omega) [-getElem?_pos]
    exact .fin _ ⟨by simp [partsC], rfl⟩ (.refl _)
  simp -implicitDefEqProofs (maxSteps := 2000000) (disch := omega) [-getElem?_pos]
  refine .mk (fun h => ?_) fun h => ?_
  · subst h
    simp -implicitDefEqProofs (maxSteps := 2000000) (disch := omega) [-getElem?_pos]
    exact .fin _ ⟨by simp [partsC], rfl⟩ (.refl _)
  simp -implicitDefEqProofs (maxSteps := 2000000) (disch := omega) [-getElem?_pos]
  refine .mk (fun h => ?_) fun h => ?_
  · subst h
    simp -implicitDefEqProofs (maxSteps := 2000000) (disch := omega) [-getElem?_pos]
    exact .fin _ ⟨by simp [partsC], rfl⟩ (.refl _)
  simp -implicitDefEqProofs (maxSteps := 2000000) (disch := omega) [-getElem?_pos]
  refine .mk (fun h => ?_) fun h => ?_
  · subst h
    simp -implicitDefEqProofs (maxSteps := 2000000) (disch := omega) [-getElem?_pos]
    exact .fin _ ⟨by simp [partsC], rfl⟩ (.refl _)
  simp -implicitDefEqProofs (maxSteps := 2000000) (disch := omega) [-getElem?_pos]
  refine .mk (fun h => ?_) fun h => ?_
  · subst h
    simp -implicitDefEqProofs (maxSteps := 2000000) (disch := omega) [-getElem?_pos]
    exact .fin _ ⟨by simp [partsC], rfl⟩ (.refl _)
  simp -implicitDefEqProofs (maxSteps := 2000000) (disch := omega) [-getElem?_pos]
  refine .mk (fun h => ?_) fun h => ?_
  · subst h
    simp -implicitDefEqProofs (maxSteps := 2000000) (disch := omega) [-getElem?_pos]
    exact .fin _ ⟨by simp [partsC], rfl⟩ (.refl _)
  simp -implicitDefEqProofs (maxSteps := 2000000) (disch := omega) [-getElem?_pos]
  refine .mk (fun h => ?_) fun h => ?_
  · subst h
    simp -implicitDefEqProofs (maxSteps := 2000000) (disch := omega) [-getElem?_pos]
    exact .fin _ ⟨by simp [partsC], rfl⟩ (.refl _)
  simp -implicitDefEqProofs (maxSteps := 2000000) (disch := omega) [-getElem?_pos]
  refine .mk (fun h => ?_) fun h => ?_
  · subst h
    simp -implicitDefEqProofs (maxSteps := 2000000) (disch := omega) [-getElem?_pos]
    exact .fin _ ⟨by simp [partsC], rfl⟩ (.refl _)
  simp -implicitDefEqProofs (maxSteps := 2000000) (disch := omega) [-getElem?_pos]
  refine .mk (fun h => ?_) fun h => ?_
  · subst h
    simp -implicitDefEqProofs (maxSteps := 2000000) (disch := omega) [-getElem?_pos]
    exact .fin _ ⟨by simp [partsC], rfl⟩ (.refl _)
  simp -implicitDefEqProofs (maxSteps := 2000000) (disch := omega) [-getElem?_pos]
  refine .mk (fun h => ?_) fun h => ?_
  · subst h
    simp -implicitDefEqProofs (maxSteps := 2000000) (disch := omega) [-getElem?_pos]
    exact .fin _ ⟨by simp [partsC], rfl⟩ (.refl _)
  simp -implicitDefEqProofs (maxSteps := 2000000) (disch := omega) [-getElem?_pos]
  refine .mk (fun h => ?_) fun h => ?_
  · subst h
    simp -implicitDefEqProofs (maxSteps := 2000000) (disch := omega) [-getElem?_pos]
    exact .fin _ ⟨by simp [partsC], rfl⟩ (.refl _)
  simp -implicitDefEqProofs (maxSteps := 2000000) (disch := omega) [-getElem?_pos]
  refine .mk (fun h => ?_) fun h => ?_
  · subst h
    simp -implicitDefEqProofs (maxSteps := 2000000) (disch := omega) [-getElem?_pos]
    exact .fin _ ⟨by simp [partsC], rfl⟩ (.refl _)
  simp -implicitDefEqProofs (maxSteps := 2000000) (disch := omega) [-getElem?_pos]
  refine .mk (fun h => ?_) fun h => ?_
  · subst h
    simp -implicitDefEqProofs (maxSteps := 2000000) (disch := omega) [-getElem?_pos]
    exact .fin _ ⟨by simp [partsC], rfl⟩ (.refl _)
  simp -implicitDefEqProofs (maxSteps := 2000000) (disch := omega) [-getElem?_pos]
  refine .mk (fun h => ?_) fun h => ?_
  · subst h
    simp -implicitDefEqProofs (maxSteps := 2000000) (disch := omega) [-getElem?_pos]
    exact .fin _ ⟨by simp [partsC], rfl⟩ (.refl _)
  simp -implicitDefEqProofs (maxSteps := 2000000) (disch := omega) [-getElem?_pos]
  refine .mk (fun h => ?_) fun h => ?_
  · subst h
    simp -implicitDefEqProofs (maxSteps := 2000000) (disch := omega) [-getElem?_pos]
    refine .mk (fun h2 => ?_) fun h2 => ?_
    · subst h2
      simp -implicitDefEqProofs (maxSteps := 2000000) (disch := omega) [-getElem?_pos]
      exact .fin _ ⟨by simp [partsC], rfl⟩ (.refl _)
    · simp -implicitDefEqProofs (maxSteps := 2000000) (disch := omega) [-getElem?_pos]
      exact .fin _ ⟨by simp [partsC, h2], rfl⟩ (.refl _)
  simp -implicitDefEqProofs (maxSteps := 2000000) (disch := omega) [-getElem?_pos]
  refine .fin _ ⟨?_, rfl⟩ (.refl _)
  unfold partsC
  repeat rw [if_neg (by omega)]

/-! ### A value looked into -/
@[simp] theorem P_nil {φ : Nat → Nat} {v : Vl} {K : D → Prop} : WNil (.v (encP φ v)) K = K (.v (encP φ v)) := by cases v <;> simp [encP, boxP]
@[simp] theorem P_fa0 {φ : Nat → Nat} {v : Vl} {K : D → Prop} : WFaddr 0 (.v (encP φ v)) K = K (.v (encP φ v)) := by cases v <;> simp [encP, boxP]
@[simp] theorem P_eql {P : Program} {c : Bool} {I : V → Prop} {φ : Nat → Nat} {v : Vl} : WBin P .eql .ptr c (.v (encP φ v)) (.v .pnil) I = I (.bool false) := by cases v <;> simp [encP, boxP]
@[simp] theorem P_neq {P : Program} {c : Bool} {I : V → Prop} {φ : Nat → Nat} {v : Vl} : WBin P .neq .ptr c (.v (encP φ v)) (.v .pnil) I = I (.bool true) := by cases v <;> simp [encP, boxP]
theorem P_kind {mo tt : Nat} {φ ψ : Nat → Nat} {m : Ms} {σ : Sg} (h : Sto mo tt φ ψ m σ) {v : Vl} {L : Nat} (hv : okV m.st.length L v) {K : D → Sg → Prop} (hk : K (.v (.int .i64 (kindV v))) σ) : WX (.ldk none) [.v (encP φ v)] σ K := by
  cases v with
  | ref k =>
    obtain ⟨w, hw⟩ : ∃ w, m.st[k]? = some w := ⟨_, List.getElem?_eq_getElem hv⟩
    obtain ⟨rest, hr⟩ := h.st k w hw
    unfold encP
    rw [WX_ldk_adr]
    exact .mk hr (by simpa [refC, kindV] using hk)
  | _ =>
    unfold encP boxP
    simpa [kindV] using hk
def areW : List Vl → List Int → Bool
  | v :: l, k :: ks => kindV v == k && areW l ks
  | _, [] => true
  | [], _ => false
theorem k_Are {mo tt : Nat} {φ ψ : Nat → Nat} {m : Ms} {L : Nat} {l : List Vl} {ks : List Int} {f : Bool} {σ : Sg} (h0 : Sto mo tt φ ψ m σ) (hv : okVs m.st.length L l) (hl : ks.length ≤ l.length) (hk : ks.length ≤ 100) : ACalls Tryd.prog 90 [.v (.sl none f (l.map (encP φ))), .v (.sl none true (ks.map (.int .i64)))] σ fun r σ' => r = .v (.bool (areW l ks)) ∧ σ' = σ := by
  have hv' := okVs_iff.1 hv
  refine acalls_fit Tryd.func90 (by kernel_rfl) c90m rfl (by simp [a90m]) fun hf => ?_
  clear hf
  simp -implicitDefEqProofs (maxSteps := 2000000) (disch := omega) [-getElem?_pos, a90m]
  refine W_loop (α := Nat) 0 (fun i => ks.length - i) (fun i => ⟨[(0, .v (.sl none f (l.map (encP φ)))), (7, .v (.sl none true (ks.map (.int .i64)))), (8, .v (.int .i64 ks.length)), (9, .v (.int .i64 i))], σ⟩) (fun i => i ≤ ks.length ∧ areW l ks = areW (l.drop i) (ks.drop i)) (.eq (by simp)) ⟨by simp, by simp⟩ fun i ⟨hi, he⟩ => ?_
  simp -implicitDefEqProofs (maxSteps := 2000000) (disch := omega) [-getElem?_pos]
  refine .mk (fun h => ?_) fun h => ?_
  · simp -implicitDefEqProofs (maxSteps := 2000000) (disch := omega) [-getElem?_pos]
    refine ⟨by omega, fun k hk => ?_⟩
    refine ⟨by omega, fun x hx => ?_⟩
    rw [drop_cons hk, drop_cons hx] at he
    refine P_kind h0 (hv' x (List.mem_of_getElem? hx)) ?_
    simp -implicitDefEqProofs (maxSteps := 2000000) (disch := omega) [-getElem?_pos]
    refine .mk (fun hq => ?_) fun hq => ?_
    · simp -implicitDefEqProofs (maxSteps := 2000000) (disch := omega) [-getElem?_pos]
      refine ⟨i + 1, ⟨by omega, ?_⟩, by show ks.length - (i + 1) < ks.length - i; omega, .eq (by simp)⟩
      rw [he]
      simp [areW, hq]
    · simp -implicitDefEqProofs (maxSteps := 2000000) (disch := omega) [-getElem?_pos]
      refine .fin _ ⟨?_, rfl⟩ (.refl _)
      rw [he]
      simp [areW, hq]
  · simp -implicitDefEqProofs (maxSteps := 2000000) (disch := omega) [-getElem?_pos]
    have hz : ks.drop i = [] := List.drop_eq_nil_of_le (by omega)
    rw [hz] at he
    refine .fin _ ⟨?_, rfl⟩ (.refl _)
    rw [he]
    cases l.drop i <;> rfl
end Go.Proofs.YtbifjffjibnjjaaDoor
