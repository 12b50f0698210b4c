/-
  Core expressions, walked: what values and machines stand for; the small functions. (Own work.)
-/
import Derived.Test.YtbifjffjibnjjaaDoorK3
set_option linter.unusedVariables false
set_option linter.unusedSimpArgs false
set_option maxHeartbeats 1000000
namespace Go.Proofs.YtbifjffjibnjjaaDoor
open Go Go.Abs

def coV : Co → List V
  | .mk k n s t ns l => [.int .i64 k, .int .i64 n, .str s, .str t, .sl none false (ns.map .str), .sl (some 6) false (l.map encC)]
theorem encC_coV (e : Co) : encC e = .agg (coV e) := by cases e; rw [encC_mk]; rfl
theorem list6 {α : Type} : ∀ {l : List α}, l.length = 6 → ∃ a b c d e f, l = [a, b, c, d, e, f]
  | [a, b, c, d, e, f], _ => ⟨a, b, c, d, e, f, rfl⟩
mutual
def celW (φ : Nat → Nat) : Vl → List V
  | .int n => [.int .i64 1, .int .i64 n, .str [], .snil, .pnil, .pnil]
  | .text s => [.int .i64 2, .int .i64 0, .str s, .snil, .pnil, .pnil]
  | .fn rc self param part env => [.int .i64 3, .int .i64 0, .str [], .snil, .box (some 10) (.agg ([.bool rc, .str self, .str param] ++ coV part ++ [encN φ env])) 0, .pnil]
  | .tup l => [.int .i64 4, .int .i64 0, .str [], .sl (some 6) false (encWs φ l), .pnil, .pnil]
  | .tag n v => [.int .i64 5, .int .i64 n, .str [], .sl (some 6) false [.agg (celW φ v)], .pnil, .pnil]
  | .ref k => [.int .i64 6, .int .i64 0, .str [], .snil, .pnil, .adr (φ k) 0]
def encWs (φ : Nat → Nat) : List Vl → List V
  | [] => []
  | v :: l => .agg (celW φ v) :: encWs φ l
def encN (φ : Nat → Nat) : En → V
  | .nil => .pnil
  | .cons x v e => .box (some 8) (.agg (.str x :: (celW φ v ++ [encN φ e]))) 0
end
def encW (φ : Nat → Nat) (v : Vl) : V := .agg (celW φ v)
theorem encWs_eq {φ : Nat → Nat} : ∀ l, encWs φ l = l.map (encW φ)
  | [] => by simp [encWs]
  | v :: l => by simp [encWs, encWs_eq l, encW]
theorem celW_len {φ : Nat → Nat} (v : Vl) : (celW φ v).length = 6 := by cases v <;> simp [celW]
theorem celW_one {φ : Nat → Nat} (v : Vl) : ∀ c ∈ celW φ v, c.one = true := by cases v <;> simp [celW, V.one]
theorem encW_shape {φ : Nat → Nat} (v : Vl) : (encW φ v).shape = some 6 := by simp [encW, V.shape, celW_len]
mutual
theorem celW_ext {φ φ' : Nat → Nat} {n L : Nat} (h : ∀ k, k < n → φ' k = φ k) : ∀ {v : Vl}, okV n L v → celW φ' v = celW φ v
  | .int n, _ => by simp [celW]
  | .text s, _ => by simp [celW]
  | .fn rc self param part env, k => by simp [celW, encN_ext h k.2]
  | .tup l, k => by simp [celW, encWs_ext h k.2]
  | .tag n v, k => by simp only [celW]; rw [celW_ext (v := v) h k]
  | .ref i, k => by simp only [celW]; rw [h i k]
theorem encWs_ext {φ φ' : Nat → Nat} {n L : Nat} (h : ∀ k, k < n → φ' k = φ k) : ∀ {l : List Vl}, okVs n L l → encWs φ' l = encWs φ l
  | [], _ => by simp [encWs]
  | v :: l, k => by simp only [encWs]; rw [celW_ext h k.1, encWs_ext h k.2]
theorem encN_ext {φ φ' : Nat → Nat} {n L : Nat} (h : ∀ k, k < n → φ' k = φ k) : ∀ {e : En}, okE n L e → encN φ' e = encN φ e
  | .nil, _ => by simp [encN]
  | .cons x v e, k => by simp only [encN]; rw [celW_ext h k.1, encN_ext h k.2]
end
theorem encW_ext {φ φ' : Nat → Nat} {n L : Nat} {v : Vl} (h : ∀ k, k < n → φ' k = φ k) (k : okV n L v) : encW φ' v = encW φ v := by unfold encW; rw [celW_ext h k]
attribute [irreducible] celW encWs encN
def zW : V := .agg [.int .i64 0, .int .i64 0, .str [], .snil, .pnil, .pnil]
def resW (φ : Nat → Nat) : Option Vl → D
  | some v => .tup [.v (encW φ v), .v (.bool true)]
  | none => .tup [.v zW, .v (.bool false)]
/-- The machine. -/
def machOb (tt : Nat) (m : Ms) : Ob := .cells [.v (vS m.inp), .v (.int .i64 m.fuel), .v (.int .i64 m.err), .v (.int .i64 m.fault), .v (.str []), .tsl tt none (m.tr.map .str)]
structure Sto (mo tt : Nat) (φ ψ : Nat → Nat) (m : Ms) (σ : Sg) : Prop where
  mach : σ.objs[mo]? = some (machOb tt m)
  tok : σ.toks[tt]? = some m.tr.length
  st : ∀ (k : Nat) v, m.st[k]? = some v → ∃ rest, σ.objs[ψ k]? = some (.known (φ k) ((celW φ v).map .v ++ rest))
  inj : ∀ i j, i < m.st.length → j < m.st.length → ψ i = ψ j → i = j
theorem Sto.lt {mo tt : Nat} {φ ψ : Nat → Nat} {m : Ms} {σ : Sg} (h : Sto mo tt φ ψ m σ) {k : Nat} (hk : k < m.st.length) : ψ k < σ.objs.length := by
  obtain ⟨rest, hr⟩ := h.st k m.st[k] (List.getElem?_eq_getElem hk)
  exact (List.getElem?_eq_some_iff.1 hr).1
theorem Sto.mlt {mo tt : Nat} {φ ψ : Nat → Nat} {m : Ms} {σ : Sg} (h : Sto mo tt φ ψ m σ) : mo < σ.objs.length := (List.getElem?_eq_some_iff.1 h.mach).1
theorem Sto.ne {mo tt : Nat} {φ ψ : Nat → Nat} {m : Ms} {σ : Sg} (h : Sto mo tt φ ψ m σ) {k o : Nat} {cs : List D} (hk : k < m.st.length) (ho : σ.objs[o]? = some (.cells cs)) : ψ k ≠ o := by
  rintro rfl
  obtain ⟨rest, hr⟩ := h.st k m.st[k] (List.getElem?_eq_getElem hk)
  rw [ho] at hr
  cases hr
/-- The same in a greater memory. -/
theorem Sto.mono {mo tt : Nat} {φ ψ : Nat → Nat} {m : Ms} {σ τ : Sg} (h : Sto mo tt φ ψ m σ) (ho : ∀ i, i < σ.objs.length → τ.objs[i]? = σ.objs[i]?) (ht : τ.toks[tt]? = σ.toks[tt]?) : Sto mo tt φ ψ m τ := by
  refine ⟨(ho _ h.mlt).trans h.mach, ht.trans h.tok, fun k v hk => ?_, h.inj⟩
  obtain ⟨rest, hr⟩ := h.st k v hk
  exact ⟨rest, (ho _ (h.lt (List.getElem?_eq_some_iff.1 hk).1)).trans hr⟩
theorem Sto.add {mo tt : Nat} {φ ψ : Nat → Nat} {m : Ms} {σ : Sg} (h : Sto mo tt φ ψ m σ) (xs : List Ob) : Sto mo tt φ ψ m ⟨σ.objs ++ xs, σ.toks⟩ :=
  h.mono (fun i hi => List.getElem?_append_left hi) rfl
/-- What may have changed. -/
structure Aft (mo tt : Nat) (φ ψ : Nat → Nat) (m : Ms) (σ : Sg) (φ' ψ' : Nat → Nat) (m' : Ms) (σ' : Sg) : Prop where
  sto : Sto mo tt φ' ψ' m' σ'
  fe : ∀ k, k < m.st.length → φ' k = φ k
  pe : ∀ k, k < m.st.length → ψ' k = ψ k
  new : ∀ k, m.st.length ≤ k → k < m'.st.length → σ.objs.length ≤ ψ' k
  objs : σ.objs.length ≤ σ'.objs.length
  keep : ∀ i, i < σ.objs.length → i ≠ mo → (∀ k, k < m.st.length → ψ k ≠ i) → σ'.objs[i]? = σ.objs[i]?
  toks : σ.toks.length ≤ σ'.toks.length
  ktok : ∀ t, t < σ.toks.length → t ≠ tt → σ'.toks[t]? = σ.toks[t]?
section
variable {mo tt : Nat} {φ ψ φ' ψ' φ'' ψ'' : Nat → Nat} {m m' m'' : Ms} {σ σ' σ'' : Sg}
theorem Aft.refl (h : Sto mo tt φ ψ m σ) : Aft mo tt φ ψ m σ φ ψ m σ :=
  ⟨h, fun _ _ => rfl, fun _ _ => rfl, fun k h1 h2 => by omega, Nat.le_refl _, fun _ _ _ _ => rfl, Nat.le_refl _, fun _ _ _ => rfl⟩
theorem Aft.trans (h : Aft mo tt φ ψ m σ φ' ψ' m' σ') (g : Aft mo tt φ' ψ' m' σ' φ'' ψ'' m'' σ'') (hs : m.st.length ≤ m'.st.length) : Aft mo tt φ ψ m σ φ'' ψ'' m'' σ'' := by
  refine ⟨g.sto, fun k hk => (g.fe k (by omega)).trans (h.fe k hk), fun k hk => (g.pe k (by omega)).trans (h.pe k hk), fun k h1 h2 => ?_, Nat.le_trans h.objs g.objs, fun i hi hm hk => ?_, Nat.le_trans h.toks g.toks, fun t h1 h2 => (g.ktok t (Nat.lt_of_lt_of_le h1 h.toks) h2).trans (h.ktok t h1 h2)⟩
  · by_cases hk : k < m'.st.length
    · rw [g.pe k hk]; exact h.new k h1 hk
    · exact Nat.le_trans h.objs (g.new k (by omega) h2)
  · rw [g.keep i (Nat.lt_of_lt_of_le hi h.objs) hm fun k hk2 => ?_]
    · exact h.keep i hi hm hk
    · by_cases hk1 : k < m.st.length
      · rw [h.pe k hk1]; exact hk k hk1
      · have := h.new k (by omega) hk2
        omega
/-- More objects. -/
theorem Aft.add (h : Aft mo tt φ ψ m σ φ' ψ' m' σ') (xs : List Ob) : Aft mo tt φ ψ m σ φ' ψ' m' ⟨σ'.objs ++ xs, σ'.toks⟩ :=
  ⟨h.sto.add xs, h.fe, h.pe, h.new, by simp only [List.length_append]; exact Nat.le_trans h.objs (Nat.le_add_right _ _), fun i hi hm hk => by
    rw [List.getElem?_append_left (Nat.lt_of_lt_of_le hi h.objs)]; exact h.keep i hi hm hk, h.toks, h.ktok⟩
/-- From where own objects were not there. -/
theorem Aft.back {xs : List Ob} (h : Aft mo tt φ ψ m ⟨σ.objs ++ xs, σ.toks⟩ φ' ψ' m' σ') (hS : Sto mo tt φ ψ m σ) : Aft mo tt φ ψ m σ φ' ψ' m' σ' :=
  ⟨h.sto, h.fe, h.pe, fun k h1 h2 => Nat.le_trans (by simp) (h.new k h1 h2), Nat.le_trans (by simp) h.objs, fun i hi hm hk => by
    rw [h.keep i (by simp only [List.length_append]; omega) hm hk]; exact List.getElem?_append_left hi, h.toks, h.ktok⟩
/-- An own object is set. -/
theorem Aft.put (h : Aft mo tt φ ψ m σ φ' ψ' m' σ') {o : Nat} {cs : List D} (ob : Ob) (hb : σ.objs.length ≤ o) (ho : σ'.objs[o]? = some (.cells cs)) (hm : mo ≠ o) : Aft mo tt φ ψ m σ φ' ψ' m' ⟨σ'.objs.set o ob, σ'.toks⟩ := by
  refine ⟨⟨?_, h.sto.tok, fun k v hk => ?_, h.sto.inj⟩, h.fe, h.pe, h.new, by simpa using h.objs, fun i hi hmi hk => ?_, h.toks, h.ktok⟩
  · rw [List.getElem?_set_ne (Ne.symm hm)]; exact h.sto.mach
  · obtain ⟨rest, hr⟩ := h.sto.st k v hk
    exact ⟨rest, by rw [List.getElem?_set_ne (Ne.symm (h.sto.ne (List.getElem?_eq_some_iff.1 hk).1 ho))]; exact hr⟩
  · show (σ'.objs.set o ob)[i]? = _
    rw [List.getElem?_set_ne (by omega)]; exact h.keep i hi hmi hk
/-- An own object after a call. -/
theorem Aft.loc {xs : List Ob} (h : Aft mo tt φ ψ m ⟨σ.objs ++ xs, σ.toks⟩ φ' ψ' m' σ') (hS : Sto mo tt φ ψ m σ) {j : Nat} {ob : Ob} (hj : xs[j]? = some ob) : σ'.objs[σ.objs.length + j]? = some ob := by
  have hl := (List.getElem?_eq_some_iff.1 hj).1
  rw [h.keep _ (by simp only [List.length_append]; omega) (by have := hS.mlt; omega) fun k hk => by have := hS.lt hk; omega]
  rw [List.getElem?_append_right (by omega), Nat.add_sub_cancel_left, hj]
end
/-- What a part of the machine comes to. -/
def Outc (mo tt : Nat) (φ ψ : Nat → Nat) (m : Ms) (σ : Sg) (rs : Rs Vl) (r : D) (σ' : Sg) : Prop := ∃ φ' ψ', r = resW φ' rs.v ∧ Aft mo tt φ ψ m σ φ' ψ' rs.m σ'

/-- The machine's own cells are set. -/
theorem Sto.setM {mo tt : Nat} {φ ψ : Nat → Nat} {m m' : Ms} {σ : Sg} (h : Sto mo tt φ ψ m σ) (hst : m'.st = m.st) (htr : m'.tr = m.tr) : Aft mo tt φ ψ m σ φ ψ m' ⟨σ.objs.set mo (machOb tt m'), σ.toks⟩ := by
  refine ⟨⟨?_, by rw [htr]; exact h.tok, fun k v hk => ?_, by rw [hst]; exact h.inj⟩, fun _ _ => rfl, fun _ _ => rfl, fun k h1 h2 => by rw [hst] at h2; omega, by simp, fun i hi hm hk => ?_, Nat.le_refl _, fun _ _ _ => rfl⟩
  · rw [List.getElem?_set_self h.mlt]
  · rw [hst] at hk
    obtain ⟨rest, hr⟩ := h.st k v hk
    exact ⟨rest, by rw [List.getElem?_set_ne (Ne.symm (h.ne (List.getElem?_eq_some_iff.1 hk).1 h.mach))]; exact hr⟩
  · show (σ.objs.set mo _)[i]? = _
    rw [List.getElem?_set_ne (Ne.symm hm)]

theorem k_End {mo tt : Nat} {φ ψ : Nat → Nat} {m : Ms} {e f : Int} {σ : Sg} (h : Sto mo tt φ ψ m σ) : ACalls Tryd.prog 48 [.ptr mo 0, .v (.int .i64 e), .v (.int .i64 f)] σ (Outc mo tt φ ψ m σ (endM e f m)) := by
  have hm := h.mach
  have hl := h.mlt
  unfold machOb at hm
  refine acalls_fit Tryd.func48 (by kernel_rfl) c48 rfl (by simp [a48]) fun hf => ?_
  clear hf
  simp -implicitDefEqProofs (maxSteps := 2000000) (disch := omega) [-getElem?_pos, a48, List.getElem?_append_left, List.set_append_left, hm, hl]
  refine .mk (fun he => ?_) fun he => ?_
  · simp -implicitDefEqProofs (maxSteps := 2000000) (disch := omega) [-getElem?_pos, List.getElem?_append_left, List.set_append_left, hm, hl, List.getElem?_set_self, List.set_set]
    refine ⟨_, _, WeakR.refl _ _ _, φ, ψ, ?_, ?_⟩
    · simp [endM, he, resW, zW]
    · have := (h.setM (m' := (endM (α := Vl) e f m).m) (by simp [endM, he]) (by simp [endM, he])).add [Ob.cells [D.v (V.int IntKind.i64 0), D.v (V.int IntKind.i64 0), D.v (V.str []), D.v V.snil, D.v V.pnil, D.v V.pnil]]
      simpa [endM, he, machOb] using this
  · simp -implicitDefEqProofs (maxSteps := 2000000) (disch := omega) [-getElem?_pos, List.getElem?_append_left, List.set_append_left, hm, hl, List.getElem?_set_self, List.set_set]
    refine ⟨_, _, WeakR.refl _ _ _, φ, ψ, ?_, ?_⟩
    · simp [endM, he, resW, zW]
    · have := (Aft.refl h).add [Ob.cells [D.v (V.int IntKind.i64 0), D.v (V.int IntKind.i64 0), D.v (V.str []), D.v V.snil, D.v V.pnil, D.v V.pnil]]
      simpa [endM, he] using this
theorem endM_v {α : Type} {e f : Int} {m : Ms} : (endM (α := α) e f m).v = none := rfl
theorem k_Stuck {mo tt : Nat} {φ ψ : Nat → Nat} {m : Ms} {σ : Sg} (h : Sto mo tt φ ψ m σ) : ACalls Tryd.prog 50 [.ptr mo 0] σ (Outc mo tt φ ψ m σ (stuckM m)) := by
  refine acalls_fit Tryd.func50 (by kernel_rfl) c50 rfl (by simp [a50]) fun hf => ?_
  clear hf
  simp -implicitDefEqProofs (maxSteps := 2000000) (disch := omega) [-getElem?_pos, a50]
  refine (k_End (h.add _)).mono fun r σ2 ⟨φ2, ψ2, hr, hA⟩ => ?_
  rw [endM_v] at hr
  subst hr
  have h0 : σ2.objs[σ.objs.length]? = some _ := hA.loc h (j := 0) rfl
  have hl := (List.getElem?_eq_some_iff.1 h0).1
  have hml := h.mlt
  unfold resW zW
  simp -implicitDefEqProofs (maxSteps := 2000000) (disch := omega) [-getElem?_pos, h0, hl, List.getElem?_set_self]
  refine ⟨_, _, WeakR.refl _ _ _, φ2, ψ2, rfl, ?_⟩
  exact (hA.back h).put _ (by omega) h0 (by omega)
theorem k_PartsC {k n : Int} {s t : Str} {ns : List Str} {l : List Co} {σ : Sg} (hn : ns.length ≤ 4000001) : ACalls Tryd.prog 49 [.v (encC (.mk k n s t ns l))] σ fun r σ' => r = .v (.int .i64 (partsC k l.length ns.length (decide (t ≠ [])))) ∧ σ' = σ := by
  rw [encC_mk]
  refine acalls_fit Tryd.func49 (by kernel_rfl) c49 rfl (by simp [a49]) fun hf => ?_
  clear hf
  simp -implicitDefEqProofs (maxSteps := 2000000) (disch := omega) [-getElem?_pos, a49]
  refine .mk (fun h => ?_) fun h => ?_
  · subst h
    simp -implicitDefEqProofs (maxSteps := 2000000) (disch := omega) [-getElem?_pos]
    exact .fin _ ⟨by simp [partsC], rfl⟩ (.refl _)
  simp -implicitDefEqProofs (maxSteps := 2000000) (disch := omega) [-getElem?_pos]
  refine .mk (fun h => ?_) fun h => ?_
  · subst h
    simp -implicitDefEqProofs (maxSteps := 2000000) (disch := omega) [-getElem?_pos]
    exact .fin _ ⟨by simp [partsC], rfl⟩ (.refl _)
  simp -implicitDefEqProofs (maxSteps := 2000000) (disch := omega) [-getElem?_pos]
  refine .mk (fun h => ?_) fun h => ?_
  · subst h
    simp -implicitDefEqProofs (maxSteps := 2000000) (disch := omega) [-getElem?_pos]
    exact .fin _ ⟨by simp [partsC], rfl⟩ (.refl _)
  simp -implicitDefEqProofs (maxSteps := 2000000) (disch := omega) [-getElem?_pos]
  refine .mk (fun h => ?_) fun h => ?_
  · subst h
    simp -implicitDefEqProofs (maxSteps := 2000000) (disch := omega) [-getElem?_pos]
    exact .fin _ ⟨by simp [partsC], rfl⟩ (.refl _)
  simp -implicitDefEqProofs (maxSteps := 2000000) (disch := omega) [-getElem?_pos]
  refine .mk (fun h => ?_) fun h => ?_
  · subst h
    simp -implicitDefEqProofs (maxSteps := 2000000) (disch := omega) [-getElem?_pos]
    exact .fin _ ⟨by simp [partsC], rfl⟩ (.refl _)
  simp -implicitDefEqProofs (maxSteps := 2000000) (disch := omega) [-getElem?_pos]
  refine .mk (fun h => ?_) fun h => ?_
  · subst h
    simp -implicitDefEqProofs (maxSteps := 2000000) (disch := omega) [-getElem?_pos]
    exact .fin _ ⟨by simp [partsC], rfl⟩ (.refl _)
  simp -implicitDefEqProofs (maxSteps := 2000000) (disch := omega) [-getElem?_pos]
  refine .mk (fun h => ?_) fun h => ?_
  · subst h
    simp -implicitDefEqProofs (maxSteps := 2000000) (disch := omega) [-getElem?_pos]
    exact .fin _ ⟨by simp [partsC], rfl⟩ (.refl _)
  simp -implicitDefEqProofs (maxSteps := 2000000) (disch := omega) [-getElem?_pos]
  refine .mk (fun h => ?_) fun h => ?_
  · subst h
    simp -implicitDefEqProofs (maxSteps := 2000000) (disch := omega) [-getElem?_pos]
    exact .fin _ ⟨by simp [partsC], rfl⟩ (.refl _)
  simp -implicitDefEqProofs (maxSteps := 2000000) (disch := omega) [-getElem?_pos]
  refine .mk (fun h => ?_) fun h => ?_
  · subst h
    simp -implicitDefEqProofs (maxSteps := 2000000) (disch := omega) [-getElem?_pos]
    exact .fin _ ⟨by simp [partsC], rfl⟩ (.refl _)
  simp -implicitDefEqProofs (maxSteps := 2000000) (disch := omega) [-getElem?_pos]
  refine .mk (fun h => ?_) fun h => ?_
  · subst h
    simp -implicitDefEqProofs (maxSteps := 2000000) (disch := omega) [-getElem?_pos]
    exact .fin _ ⟨by simp [partsC], rfl⟩ (.refl _)
  simp -implicitDefEqProofs (maxSteps := 2000000) (disch := omega) [-getElem?_pos]
  refine .mk (fun h => ?_) fun h => ?_
  · subst h
    simp -implicitDefEqProofs (maxSteps := 2000000) (disch := omega) [-getElem?_pos]
    exact .fin _ ⟨by simp [partsC], rfl⟩ (.refl _)
  simp -implicitDefEqProofs (maxSteps := 2000000) (disch := omega) [-getElem?_pos]
  refine .mk (fun h => ?_) fun h => ?_
  · subst h
    simp -implicitDefEqProofs (maxSteps := 2000000) (disch := omega) [-getElem?_pos]
    exact .fin _ ⟨by simp [partsC], rfl⟩ (.refl _)
  simp -implicitDefEqProofs (maxSteps := 2000000) (disch := omega) [-getElem?_pos]
  refine .mk (fun h => ?_) fun h => ?_
  · subst h
    simp -implicitDefEqProofs (maxSteps := 2000000) (disch := omega) [-getElem?_pos]
    exact .fin _ ⟨by simp [partsC], rfl⟩ (.refl _)
  simp -implicitDefEqProofs (maxSteps := 2000000) (disch := omega) [-getElem?_pos]
  refine .mk (fun h => ?_) fun h => ?_
  · subst h
    simp -implicitDefEqProofs (maxSteps := 2000000) (disch := omega) [-getElem?_pos]
    exact .fin _ ⟨by simp [partsC], rfl⟩ (.refl _)
  simp -implicitDefEqProofs (maxSteps := 2000000) (disch := omega) [-getElem?_pos]
  refine .mk (fun h => ?_) fun h => ?_
  · subst h
    simp -implicitDefEqProofs (maxSteps := 2000000) (disch := omega) [-getElem?_pos]
    exact .fin _ ⟨by simp [partsC], rfl⟩ (.refl _)
  simp -implicitDefEqProofs (maxSteps := 2000000) (disch := omega) [-getElem?_pos]
  refine .mk (fun h => ?_) fun h => ?_
  · subst h
    simp -implicitDefEqProofs (maxSteps := 2000000) (disch := omega) [-getElem?_pos]
    exact .fin _ ⟨by simp [partsC], rfl⟩ (.refl _)
  simp -implicitDefEqProofs (maxSteps := 2000000) (disch := omega) [-getElem?_pos]
  refine .mk (fun h => ?_) fun h => ?_
  · subst h
    simp -implicitDefEqProofs (maxSteps := 2000000) (disch := omega) [-getElem?_pos]
    exact .fin _ ⟨by simp [partsC], rfl⟩ (.refl _)
  simp -implicitDefEqProofs (maxSteps := 2000000) (disch := omega) [-getElem?_pos]
  refine .mk (fun h => ?_) fun h => ?_
  · subst h
    simp -implicitDefEqProofs (maxSteps := 2000000) (disch := omega) [-getElem?_pos]
    exact .fin _ ⟨by simp [partsC], rfl⟩ (.refl _)
  simp -implicitDefEqProofs (maxSteps := 2000000) (disch := omega) [-getElem?_pos]
  refine .mk (fun h => ?_) fun h => ?_
  · subst h
    simp -implicitDefEqProofs (maxSteps := 2000000) (disch := omega) [-getElem?_pos]
    exact .fin _ ⟨by simp [partsC], rfl⟩ (.refl _)
  simp -implicitDefEqProofs (maxSteps := 2000000) (disch := omega) [-getElem?_pos]
  refine .mk (fun h => ?_) fun h => ?_
  · subst h
    simp -implicitDefEqProofs (maxSteps := 2000000) (disch := omega) [-getElem?_pos]
    exact .fin _ ⟨by simp [partsC], rfl⟩ (.refl _)
  simp -implicitDefEqProofs (maxSteps := 2000000) (disch := omega) [-getElem?_pos]
  refine .mk (fun h => ?_) fun h => ?_
  · subst h
    simp -implicitDefEqProofs (maxSteps := 2000000) (disch := omega) [-getElem?_pos]
    exact .fin _ ⟨by simp [partsC], rfl⟩ (.refl _)
  simp -implicitDefEqProofs (maxSteps := 2000000) (disch := omega) [-getElem?_pos]
  refine .mk (fun h => ?_) fun h => ?_
  · subst h
    simp -implicitDefEqProofs (maxSteps := 2000000) (disch := omega) [-getElem?_pos]
    refine .mk (fun h2 => ?_) fun h2 => ?_
    · subst h2
      simp -implicitDefEqProofs (maxSteps := 2000000) (disch := omega) [-getElem?_pos]
      exact .fin _ ⟨by simp [partsC], rfl⟩ (.refl _)
    · simp -implicitDefEqProofs (maxSteps := 2000000) (disch := omega) [-getElem?_pos]
      exact .fin _ ⟨by simp [partsC, h2], rfl⟩ (.refl _)
  simp -implicitDefEqProofs (maxSteps := 2000000) (disch := omega) [-getElem?_pos]
  refine .fin _ ⟨?_, rfl⟩ (.refl _)
  unfold partsC
  repeat rw [if_neg (by omega)]
theorem k_Flag {b : Bool} {σ : Sg} : ACalls Tryd.prog 103 [.v (.bool b)] σ fun r σ' => r = .v (.int .i64 (flagC b)) ∧ σ' = σ := by
  refine acalls_fit Tryd.func103 (by kernel_rfl) c103 rfl (by simp [a103]) fun hf => ?_
  clear hf
  cases b with
  | true =>
    simp -implicitDefEqProofs (maxSteps := 2000000) (disch := omega) [-getElem?_pos, a103]
    exact .fin _ ⟨rfl, rfl⟩ (.refl _)
  | false =>
    simp -implicitDefEqProofs (maxSteps := 2000000) (disch := omega) [-getElem?_pos, a103]
    exact .fin _ ⟨rfl, rfl⟩ (.refl _)
def kindW : Vl → Int
  | .int _ => 1
  | .text _ => 2
  | .fn .. => 3
  | .tup _ => 4
  | .tag .. => 5
  | .ref _ => 6
theorem celW_kind {φ : Nat → Nat} (v : Vl) : ∃ b c d e f, celW φ v = [.int .i64 (kindW v), b, c, d, e, f] := by
  cases v <;> (simp only [celW, kindW]; exact ⟨_, _, _, _, _, rfl⟩)
def areW : List Vl → List Int → Bool
  | v :: l, k :: ks => kindW v == k && areW l ks
  | _, [] => true
  | [], _ => false
theorem k_Are {φ : Nat → Nat} {l : List Vl} {ks : List Int} {f : Bool} {xs : List V} {σ : Sg} (hx : xs = l.map (encW φ)) (hl : ks.length ≤ l.length) (hk : ks.length ≤ 100) : ACalls Tryd.prog 83 [.v (.sl (some 6) f xs), .v (.sl none true (ks.map (.int .i64)))] σ fun r σ' => r = .v (.bool (areW l ks)) ∧ σ' = σ := by
  subst hx
  refine acalls_fit Tryd.func83 (by kernel_rfl) c83 rfl (by simp [a83]) fun hf => ?_
  clear hf
  simp -implicitDefEqProofs (maxSteps := 2000000) (disch := omega) [-getElem?_pos, a83]
  refine W_loop (α := Nat) 0 (fun i => ks.length - i) (fun i => ⟨[(0, .v (.sl (some 6) f (l.map (encW φ)))), (7, .v (.sl none true (ks.map (.int .i64)))), (8, .v (.int .i64 ks.length)), (9, .v (.int .i64 i))], σ⟩) (fun i => i ≤ ks.length ∧ areW l ks = areW (l.drop i) (ks.drop i)) (.eq (by simp)) ⟨by simp, by simp⟩ fun i ⟨hi, he⟩ => ?_
  simp -implicitDefEqProofs (maxSteps := 2000000) (disch := omega) [-getElem?_pos]
  refine .mk (fun h => ?_) fun h => ?_
  · simp -implicitDefEqProofs (maxSteps := 2000000) (disch := omega) [-getElem?_pos]
    refine ⟨by omega, fun k hk => ?_⟩
    refine ⟨by omega, fun x hx => ?_⟩
    obtain ⟨b, c, d, e, g, hw⟩ := celW_kind (φ := φ) x
    rw [drop_cons hk, drop_cons hx] at he
    have hx2 : encW φ x = .agg [.int .i64 (kindW x), b, c, d, e, g] := by unfold encW; rw [hw]
    rw [hx2]
    simp -implicitDefEqProofs (maxSteps := 2000000) (disch := omega) [-getElem?_pos]
    refine .mk (fun hq => ?_) fun hq => ?_
    · simp -implicitDefEqProofs (maxSteps := 2000000) (disch := omega) [-getElem?_pos]
      refine ⟨i + 1, ⟨by omega, ?_⟩, by show ks.length - (i + 1) < ks.length - i; omega, .eq (by simp)⟩
      rw [he]
      simp [areW, hq]
    · simp -implicitDefEqProofs (maxSteps := 2000000) (disch := omega) [-getElem?_pos]
      refine .fin _ ⟨?_, rfl⟩ (.refl _)
      rw [he]
      simp [areW, hq]
  · simp -implicitDefEqProofs (maxSteps := 2000000) (disch := omega) [-getElem?_pos]
    have hz : ks.drop i = [] := List.drop_eq_nil_of_le (by omega)
    rw [hz] at he
    refine .fin _ ⟨?_, rfl⟩ (.refl _)
    rw [he]
    cases l.drop i <;> rfl
end Go.Proofs.YtbifjffjibnjjaaDoor
