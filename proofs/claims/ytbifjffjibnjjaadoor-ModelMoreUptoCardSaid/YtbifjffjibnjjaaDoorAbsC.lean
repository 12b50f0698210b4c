/-
  The model's operations, turned into the small language; that each does what its weakest precondition says: part 1. (Own work; seat-independent.)
-/
import Derived.Test.YtbifjffjibnjjaaDoorAbsW
import Derived.Deep.MidRow
import Derived.Laws.StructEq
import Derived.Laws.Cover3
set_option linter.unusedVariables false
set_option linter.unusedSimpArgs false
namespace Go.Abs
open Go

def cV1 : Value → Option V
  | .bool b => some (.bool b)
  | .int k n => if inR k n then some (.int k n) else none
  | .string s => if s.data.toList.length ≤ maxLen then some (.str s.data.toList) else none
  | .pointer none => some .pnil
  | .slice none 0 0 => some .snil
  | .map none => some .mnil
  | .nilFunc => some .fnil
  | .nilIface => some .inil
  | _ => none

def cV1s : List Value → Option (List V)
  | [] => some []
  | v :: vs => match cV1 v, cV1s vs with
    | some x, some xs => some (x :: xs)
    | _, _ => none

def cV : Value → Option V
  | .agg cs => (cV1s cs.toList).map .agg
  | v => cV1 v

theorem cV1_rep {w : World} {F : Nat → Nat → Prop} {v : Value} {x : V} (h : cV1 v = some x) : RepV w F x v ∧ x.one = true := by
  unfold cV1 at h
  split at h <;> (try (split at h)) <;> (first | cases h) <;> first
    | exact ⟨.bool _, rfl⟩ | exact ⟨.int _ _ ‹_›, rfl⟩ | exact ⟨.pnil, rfl⟩ | exact ⟨.snil, rfl⟩ | exact ⟨.mnil, rfl⟩ | exact ⟨.fnil, rfl⟩ | exact ⟨.inil, rfl⟩
    | exact ⟨by have := RepV.str (w := w) (F := F) (‹ByteArray›).data.toList ‹_›; simpa using this, rfl⟩

theorem cV1s_rep {w : World} {F : Nat → Nat → Prop} : ∀ {vs : List Value} {xs : List V}, cV1s vs = some xs →
    xs.length = vs.length ∧ (∀ c ∈ xs, c.one = true) ∧ ∀ (i : Nat) c u, xs[i]? = some c → vs[i]? = some u → RepV w F c u
  | [], xs, h => by cases h; simp
  | v :: vs, xs, h => by
    simp only [cV1s] at h
    split at h
    · rename_i x ys hx hy
      cases h
      obtain ⟨h1, h2, h3⟩ := cV1s_rep (w := w) (F := F) hy
      obtain ⟨r, o⟩ := cV1_rep (w := w) (F := F) hx
      refine ⟨by simp [h1], fun c hc => ?_, fun i c u hc hu => ?_⟩
      · rcases List.mem_cons.1 hc with rfl | hc
        · exact o
        · exact h2 c hc
      · cases i with
        | zero => simp at hc hu; subst hc hu; exact r
        | succ i => simp at hc hu; exact h3 i c u hc hu
    · cases h

theorem cV_rep {w : World} {F : Nat → Nat → Prop} {v : Value} {x : V} (h : cV v = some x) : RepV w F x v := by
  unfold cV at h
  split at h
  · rename_i cs
    cases hx : cV1s cs.toList with
    | none => simp [hx] at h
    | some xs =>
      simp [hx] at h
      subst h
      obtain ⟨h1, h2, h3⟩ := cV1s_rep (w := w) (F := F) hx
      have := RepV.agg (w := w) (F := F) xs cs.toList h1 h2 h3
      simpa using this
  · exact (cV1_rep h).1

def cE : Operand → Option E
  | .tmp t => some (.t t)
  | .const v => (cV v).map .c
  | .func f => some (.c (.fn f))
  | .global _ => none

/-- The environment, as it is looked up. -/
def EnvR (m : Gh) (w : World) (s : List (Nat × D)) (tmps : Array Value) : Prop := ∀ n, RepD m w (look s n) (tmps.getD n undef)

theorem EnvR.mono {m m' : Gh} {w w' : World} {s : List (Nat × D)} {tmps : Array Value} (h : EnvR m w s tmps) (e : Ext m w m' w') : EnvR m' w' s tmps := fun n => (h n).mono e

theorem ev_rep {m : Gh} {w : World} {s : List (Nat × D)} {a : Act} (h : EnvR m w s a.tmps) {x : Operand} {e : E} (hc : cE x = some e) : RepD m w (ev s e) (a.eval x) := by
  cases x with
  | tmp t => cases hc; exact h t
  | const v =>
    simp only [cE] at hc
    cases hv : cV v with
    | none => simp [hv] at hc
    | some y => simp [hv] at hc; subst hc; exact .v y v (cV_rep hv)
  | func f => cases hc; exact .v _ _ (.fn f)
  | global g => cases hc

def cEs : List Operand → Option (List E)
  | [] => some []
  | x :: xs => match cE x, cEs xs with
    | some e, some es => some (e :: es)
    | _, _ => none

theorem evs_rep {m : Gh} {w : World} {s : List (Nat × D)} {a : Act} (h : EnvR m w s a.tmps) : ∀ {xs : List Operand} {es : List E}, cEs xs = some es →
    es.length = xs.length ∧ ∀ (i : Nat) d u, (es.map (ev s))[i]? = some d → (xs.map a.eval)[i]? = some u → RepD m w d u
  | [], es, hc => by cases hc; simp
  | x :: xs, es, hc => by
    simp only [cEs] at hc
    split at hc
    · rename_i e es' he hes
      cases hc
      obtain ⟨h1, h2⟩ := evs_rep h hes
      refine ⟨by simp [h1], fun i d u hd hu => ?_⟩
      cases i with
      | zero => simp at hd hu; subst hd hu; exact ev_rep h he
      | succ i => simp only [List.map_cons, List.getElem?_cons_succ] at hd hu; exact h2 i d u hd hu
    · cases hc

/-- What an operation must show. -/
def Runs1 (P : Program) (o : Oper) (σ : Sg) (m : Gh) (w : World) (a : Act) (K : D → Sg → Prop) : Prop :=
  ∃ (n : Next) (u : Value) (w' : World) (m' : Gh) (d : D) (σ' : Sg), (execOp a.eval o).run P w = .ok n w' ∧ (n = .value u ∨ (n = .skip ∧ u = undef)) ∧ K d σ' ∧ Inv σ' m' w' ∧ Ext m w m' w' ∧ RepD m' w' d u

def OpOk (P : Program) (o : Oper) (O : AOp) : Prop :=
  ∀ (σ : Sg) (m : Gh) (w : World) (a : Act) (s : List (Nat × D)) (K : D → Sg → Prop), Inv σ m w → EnvR m w s a.tmps → WOp P O s σ K →
    ∀ (next : Act → World → Prop) (Q : Exit → Act → World → Prop), (∀ d σ' m' w' u, K d σ' → Inv σ' m' w' → Ext m w m' w' → RepD m' w' d u → next (a.put o.dst u) w') →
      o.upon P a next Q ((execOp a.eval o).run P w)

theorem OpOk.of_runs {P : Program} {o : Oper} {O : AOp}
    (h : ∀ (σ : Sg) (m : Gh) (w : World) (a : Act) (s : List (Nat × D)) (K : D → Sg → Prop), Inv σ m w → EnvR m w s a.tmps → WOp P O s σ K → Runs1 P o σ m w a K) : OpOk P o O := by
  intro σ m w a s K hI hE hW next Q hn
  obtain ⟨n, u, w', m', d, σ', hr, hnn, hK, hI', hx, hd⟩ := h σ m w a s K hI hE hW
  rw [hr]
  rcases hnn with rfl | ⟨rfl, rfl⟩
  · exact hn d σ' m' w' u hK hI' hx hd
  · exact hn d σ' m' w' undef hK hI' hx hd

/-- A step that leaves the world as it is. -/
theorem Runs1.still {P : Program} {o : Oper} {σ : Sg} {m : Gh} {w : World} {a : Act} {K : D → Sg → Prop} (hI : Inv σ m w) {u : Value} {d : D}
    (hr : (execOp a.eval o).run P w = .ok (.value u) w) (hK : K d σ) (hd : RepD m w d u) : Runs1 P o σ m w a K :=
  ⟨_, u, w, m, d, σ, hr, .inl rfl, hK, hI, .refl m w, hd⟩

/-- The cells of a value. -/
theorem RepV.cellsR {w : World} {F : Nat → Nat → Prop} {x : V} {u : Value} (h : RepV w F x u) :
    x.cells.length = u.cells.size ∧ (∀ (i : Nat) c v, x.cells[i]? = some c → u.cells[i]? = some v → RepV w F c v) ∧ ∀ v ∈ u.cells.toList, v.oneCell' = true := by
  by_cases hx : x.one = true
  · have hu := h.one hx
    have hc : x.cells = [x] := by cases x <;> first | rfl | (simp [V.one] at hx)
    have hv : u.cells = #[u] := by cases u <;> first | rfl | (simp [Value.oneCell'] at hu)
    rw [hc, hv]
    refine ⟨rfl, fun i c v h1 h2 => ?_, fun v hv => ?_⟩
    · cases i with
      | zero => simp at h1 h2; subst h1 h2; exact h
      | succ i => simp at h1
    · simp at hv; subst hv; exact hu
  · cases h <;> first | (simp [V.one] at hx; done) | skip
    rename_i cs us hl h1 hr
    refine ⟨by simp [V.cells, Value.cells, hl], fun i c v hc hv => hr i c v hc (by simpa [Value.cells] using hv), fun v hv => ?_⟩
    simp only [Value.cells] at hv
    exact RepV.cells_one h1 hl hr v hv

theorem RepD.cellsR {m : Gh} {w : World} {d : D} {u : Value} (h : RepD m w d u) (hl : d.lies = true) :
    d.cells.length = u.cells.size ∧ (∀ (i : Nat) c v, d.cells[i]? = some c → u.cells[i]? = some v → RepD m w c v) ∧ ∀ v ∈ u.cells.toList, v.oneCell' = true := by
  have one : ∀ (d : D) (u : Value), d.cells = [d] → u.cells = #[u] → u.oneCell' = true → RepD m w d u →
      d.cells.length = u.cells.size ∧ (∀ (i : Nat) c v, d.cells[i]? = some c → u.cells[i]? = some v → RepD m w c v) ∧ ∀ v ∈ u.cells.toList, v.oneCell' = true := by
    intro d u h1 h2 h3 h4
    rw [h1, h2]
    refine ⟨rfl, fun i c v hc hv => ?_, fun v hv => ?_⟩
    · cases i with
      | zero => simp at hc hv; subst hc hv; exact h4
      | succ i => simp at hc
    · simp at hv; subst hv; exact h3
  cases h with
  | v x u hx =>
    obtain ⟨h1, h2, h3⟩ := hx.cellsR
    refine ⟨by simp [D.cells, h1], fun i c v hc hv => ?_, h3⟩
    simp only [D.cells, List.getElem?_map] at hc
    cases hc' : x.cells[i]? with
    | none => simp [hc'] at hc
    | some y => simp [hc'] at hc; subst hc; exact .v y v (h2 i y v hc' hv)
  | agg cs us hl' h1 hr =>
    exact ⟨by simp [D.cells, Value.cells, hl'], fun i c v hc hv => hr i c v hc (by simpa [Value.cells] using hv), fun v hv => h1 v (by simpa [Value.cells] using hv)⟩
  | junk u => simp [D.lies] at hl
  | tup ds us _ _ => simp [D.lies] at hl
  | ptr o off b hb => exact one _ _ rfl rfl rfl (.ptr o off b hb)
  | imm sh x off b base us h1 h2 h3 h4 => exact one _ _ rfl rfl rfl (.imm sh x off b base us h1 h2 h3 h4)
  | tsl t sh xs a len cap tk h1 h2 h3 h4 h5 => exact one _ _ rfl rfl rfl (.tsl t sh xs a len cap tk h1 h2 h3 h4 h5)
  | fn f caps us h1 h2 => exact one _ _ rfl rfl rfl (.fn f caps us h1 h2)
  | bfn f d u h1 => exact one _ _ rfl rfl rfl (.bfn f d u h1)
  | iface t d u h1 => exact one _ _ rfl rfl rfl (.iface t d u h1)
  | map o b hb => exact one _ _ rfl rfl rfl (.map o b hb)
  | msl o off len sh cp a cap h1 h2 h3 h4 h5 => exact one _ _ rfl rfl rfl (.msl o off len sh cp a cap h1 h2 h3 h4 h5)

/-- Plain cells stand for plain values. -/
theorem allV_map {ds : List D} {xs : List V} (h : allV ds = some xs) : ds = xs.map .v := by
  induction ds generalizing xs with
  | nil => cases h; rfl
  | cons d ds ih =>
    cases d <;> simp only [allV] at h <;> first | (cases h; done) | skip
    split at h
    · rename_i ys hy
      cases h
      simp [ih hy]
    · cases h

theorem RepD.v_inv {m : Gh} {w : World} {x : V} {u : Value} (h : RepD m w (.v x) u) : RepV w (Fz m w) x u := by cases h; assumption

/-- Cells, as a struct. -/
theorem mkAgg_rep {m : Gh} {w : World} {ds : List D} {us : List Value} (hl : ds.length = us.length) (h1 : ∀ u ∈ us, u.oneCell' = true)
    (hr : ∀ (i : Nat) d u, ds[i]? = some d → us[i]? = some u → RepD m w d u) : RepD m w (mkAgg ds) (.agg us.toArray) := by
  unfold mkAgg
  split
  · rename_i xs hx
    have hds := allV_map hx
    subst hds
    have hrv : ∀ (i : Nat) c u, xs[i]? = some c → us[i]? = some u → RepV w (Fz m w) c u := fun i c u hc hu => (hr i (.v c) u (by simp [hc]) hu).v_inv
    refine .v _ _ (.agg xs us (by simpa using hl) (fun c hc => ?_) hrv)
    obtain ⟨i, hi⟩ := List.mem_iff_getElem?.1 hc
    have hlt : i < us.length := by rw [← hl]; simpa using (List.getElem?_eq_some_iff.1 hi).1
    obtain ⟨u, hu⟩ : ∃ u, us[i]? = some u := ⟨_, List.getElem?_eq_getElem hlt⟩
    have hr' := hrv i c u hi hu
    have ho := h1 u (List.mem_of_getElem? hu)
    cases hr' with
    | agg cs us' _ _ _ => simp [Value.oneCell'] at ho
    | _ => rfl
  · exact .agg ds us hl h1 hr

end Go.Abs
