/-
  The model's operations, turned into the small language; that each does what its weakest precondition says: part 1. (Own work; seat-independent.)
-/
import Derived.Test.YtpdeaekmgljeaaaGreatDoorN01
import Derived.Deep.MidRow
import Derived.Laws.StructEq
import Derived.Laws.Cover3
import Derived.Laws.BytesString
set_option linter.unusedVariables false
set_option linter.unusedSimpArgs false
namespace Go.Abs
open Go
def cV1 : Value → Option V
 | .bool b => some (.bool b)
 | .int k n => if inR k n then some (.int k n) else none
 | .string s => if s.data.toList.length ≤ maxLen then some (.str s.data.toList) else none
 | .pointer none => some .pnil
 | .slice none 0 0 => some .snil
 | .map none => some .mnil
 | .nilFunc => some .fnil
 | .nilIface => some .inil
 | _ => none
def cV1s : List Value → Option (List V)
 | [] => some []
 | v :: vs => match cV1 v, cV1s vs with
  | some x, some xs => some (x :: xs)
  | _, _ => none
def cV : Value → Option V
 | .agg cs => (cV1s cs.toList).map .agg
 | v => cV1 v
theorem cV1_rep {w : World} {F : Nat → Nat → Prop} {v : Value} {x : V} (h : cV1 v = some x) : RepV w F x v ∧ x.one = true := by
 unfold cV1 at h
 split at h <;> (try (split at h)) <;> (first | cases h) <;> first
  | exact ⟨.bool _, rfl⟩ | exact ⟨.int _ _ ‹_›, rfl⟩ | exact ⟨.pnil, rfl⟩ | exact ⟨.snil, rfl⟩ | exact ⟨.mnil, rfl⟩ | exact ⟨.fnil, rfl⟩ | exact ⟨.inil, rfl⟩
  | exact ⟨by have := RepV.str (w := w) (F := F) (‹ByteArray›).data.toList ‹_›; simpa using this, rfl⟩
theorem cV1s_rep {w : World} {F : Nat → Nat → Prop} : ∀ {vs : List Value} {xs : List V}, cV1s vs = some xs →
  xs.length = vs.length ∧ (∀ c ∈ xs, c.one = true) ∧ ∀ (i : Nat) c u, xs[i]? = some c → vs[i]? = some u → RepV w F c u
 | [], xs, h => by cases h; simp
 | v :: vs, xs, h => by
  simp only [cV1s] at h
  split at h
  ·rename_i x ys hx hy
   cases h
   obtain ⟨h1, h2, h3⟩ := cV1s_rep (w := w) (F := F) hy
   obtain ⟨r, o⟩ := cV1_rep (w := w) (F := F) hx
   refine ⟨by simp [h1], fun c hc => ?_, fun i c u hc hu => ?_⟩
   ·rcases List.mem_cons.1 hc with rfl | hc
    ·exact o
    ·exact h2 c hc
   ·cases i with
    | zero => simp at hc hu; subst hc hu; exact r
    | succ i => simp at hc hu; exact h3 i c u hc hu
  ·cases h
theorem cV_rep {w : World} {F : Nat → Nat → Prop} {v : Value} {x : V} (h : cV v = some x) : RepV w F x v := by
 unfold cV at h
 split at h
 ·rename_i cs
  cases hx : cV1s cs.toList with
  | none => simp [hx] at h
  | some xs =>
   simp [hx] at h
   subst h
   obtain ⟨h1, h2, h3⟩ := cV1s_rep (w := w) (F := F) hx
   have := RepV.agg (w := w) (F := F) xs cs.toList h1 h2 h3
   simpa using this
 ·exact (cV1_rep h).1
def cE : Operand → Option E
 | .tmp t => some (.t t)
 | .const v => (cV v).map .c
 | .func f => some (.c (.fn f))
 | .global _ => none
def EnvR (m : Gh) (w : World) (s : List (Nat × D)) (tmps : Array Value) : Prop := ∀ n, RepD m w (look s n) (tmps.getD n undef)
theorem EnvR.mono {m m' : Gh} {w w' : World} {s : List (Nat × D)} {tmps : Array Value} (h : EnvR m w s tmps) (e : Ext m w m' w') : EnvR m' w' s tmps := fun n => (h n).mono e
theorem ev_rep {m : Gh} {w : World} {s : List (Nat × D)} {a : Act} (h : EnvR m w s a.tmps) {x : Operand} {e : E} (hc : cE x = some e) : RepD m w (ev s e) (a.eval x) := by
 cases x with
 | tmp t => cases hc; exact h t
 | const v =>
  simp only [cE] at hc
  cases hv : cV v with
  | none => simp [hv] at hc
  | some y => simp [hv] at hc; subst hc; exact .v y v (cV_rep hv)
 | func f => cases hc; exact .v _ _ (.fn f)
 | global g => cases hc
def cEs : List Operand → Option (List E)
 | [] => some []
 | x :: xs => match cE x, cEs xs with
  | some e, some es => some (e :: es)
  | _, _ => none
theorem evs_rep {m : Gh} {w : World} {s : List (Nat × D)} {a : Act} (h : EnvR m w s a.tmps) : ∀ {xs : List Operand} {es : List E}, cEs xs = some es →
  es.length = xs.length ∧ ∀ (i : Nat) d u, (es.map (ev s))[i]? = some d → (xs.map a.eval)[i]? = some u → RepD m w d u
 | [], es, hc => by cases hc; simp
 | x :: xs, es, hc => by
  simp only [cEs] at hc
  split at hc
  ·rename_i e es' he hes
   cases hc
   obtain ⟨h1, h2⟩ := evs_rep h hes
   refine ⟨by simp [h1], fun i d u hd hu => ?_⟩
   cases i with
   | zero => simp at hd hu; subst hd hu; exact ev_rep h he
   | succ i => simp only [List.map_cons, List.getElem?_cons_succ] at hd hu; exact h2 i d u hd hu
  ·cases hc
def Runs1 (P : Program) (o : Oper) (σ : Sg) (m : Gh) (w : World) (a : Act) (K : D → Sg → Prop) : Prop :=
 ∃ (n : Next) (u : Value) (w' : World) (m' : Gh) (d : D) (σ' : Sg), (execOp a.eval o).run P w = .ok n w' ∧ (n = .value u ∨ (n = .skip ∧ u = undef)) ∧ K d σ' ∧ Inv σ' m' w' ∧ Ext m w m' w' ∧ RepD m' w' d u
def OpOk (P : Program) (o : Oper) (O : AOp) : Prop :=
 ∀ (σ : Sg) (m : Gh) (w : World) (a : Act) (s : List (Nat × D)) (K : D → Sg → Prop), Inv σ m w → EnvR m w s a.tmps → WOp P O s σ K →
  ∀ (next : Act → World → Prop) (Q : Exit → Act → World → Prop), (∀ d σ' m' w' u, K d σ' → Inv σ' m' w' → Ext m w m' w' → RepD m' w' d u → next (a.put o.dst u) w') →
   o.upon P a next Q ((execOp a.eval o).run P w)
theorem OpOk.of_runs {P : Program} {o : Oper} {O : AOp}
  (h : ∀ (σ : Sg) (m : Gh) (w : World) (a : Act) (s : List (Nat × D)) (K : D → Sg → Prop), Inv σ m w → EnvR m w s a.tmps → WOp P O s σ K → Runs1 P o σ m w a K) : OpOk P o O := by
 intro σ m w a s K hI hE hW next Q hn
 obtain ⟨n, u, w', m', d, σ', hr, hnn, hK, hI', hx, hd⟩ := h σ m w a s K hI hE hW
 rw [hr]
 rcases hnn with rfl | ⟨rfl, rfl⟩
 ·exact hn d σ' m' w' u hK hI' hx hd
 ·exact hn d σ' m' w' undef hK hI' hx hd
theorem Runs1.still {P : Program} {o : Oper} {σ : Sg} {m : Gh} {w : World} {a : Act} {K : D → Sg → Prop} (hI : Inv σ m w) {u : Value} {d : D}
  (hr : (execOp a.eval o).run P w = .ok (.value u) w) (hK : K d σ) (hd : RepD m w d u) : Runs1 P o σ m w a K :=
 ⟨_, u, w, m, d, σ, hr, .inl rfl, hK, hI, .refl m w, hd⟩
theorem RepV.cellsR {w : World} {F : Nat → Nat → Prop} {x : V} {u : Value} (h : RepV w F x u) :
  x.cells.length = u.cells.size ∧ (∀ (i : Nat) c v, x.cells[i]? = some c → u.cells[i]? = some v → RepV w F c v) ∧ ∀ v ∈ u.cells.toList, v.oneCell' = true := by
 by_cases hx : x.one = true
 ·have hu := h.one hx
  have hc : x.cells = [x] := by cases x <;> first | rfl | (simp [V.one] at hx)
  have hv : u.cells = #[u] := by cases u <;> first | rfl | (simp [Value.oneCell'] at hu)
  rw [hc, hv]
  refine ⟨rfl, fun i c v h1 h2 => ?_, fun v hv => ?_⟩
  ·cases i with
   | zero => simp at h1 h2; subst h1 h2; exact h
   | succ i => simp at h1
  ·simp at hv; subst hv; exact hu
 ·cases h <;> first | (simp [V.one] at hx; done) | skip
  rename_i cs us hl h1 hr
  refine ⟨by simp [V.cells, Value.cells, hl], fun i c v hc hv => hr i c v hc (by simpa [Value.cells] using hv), fun v hv => ?_⟩
  simp only [Value.cells] at hv
  exact RepV.cells_one h1 hl hr v hv
theorem RepD.cellsR {m : Gh} {w : World} {d : D} {u : Value} (h : RepD m w d u) (hl : d.lies = true) :
  d.cells.length = u.cells.size ∧ (∀ (i : Nat) c v, d.cells[i]? = some c → u.cells[i]? = some v → RepD m w c v) ∧ ∀ v ∈ u.cells.toList, v.oneCell' = true := by
 have one : ∀ (d : D) (u : Value), d.cells = [d] → u.cells = #[u] → u.oneCell' = true → RepD m w d u →
   d.cells.length = u.cells.size ∧ (∀ (i : Nat) c v, d.cells[i]? = some c → u.cells[i]? = some v → RepD m w c v) ∧ ∀ v ∈ u.cells.toList, v.oneCell' = true := by
  intro d u h1 h2 h3 h4
  rw [h1, h2]
  refine ⟨rfl, fun i c v hc hv => ?_, fun v hv => ?_⟩
  ·cases i with
   | zero => simp at hc hv; subst hc hv; exact h4
   | succ i => simp at hc
  ·simp at hv; subst hv; exact h3
 cases h with
 | v x u hx =>
  obtain ⟨h1, h2, h3⟩ := hx.cellsR
  refine ⟨by simp [D.cells, h1], fun i c v hc hv => ?_, h3⟩
  simp only [D.cells, List.getElem?_map] at hc
  cases hc' : x.cells[i]? with
  | none => simp [hc'] at hc
  | some y => simp [hc'] at hc; subst hc; exact .v y v (h2 i y v hc' hv)
 | agg cs us hl' h1 hr =>
  exact ⟨by simp [D.cells, Value.cells, hl'], fun i c v hc hv => hr i c v hc (by simpa [Value.cells] using hv), fun v hv => h1 v (by simpa [Value.cells] using hv)⟩
 | junk u => simp [D.lies] at hl
 | tup ds us _ _ => simp [D.lies] at hl
 | ptr o off b hb => exact one _ _ rfl rfl rfl (.ptr o off b hb)
 | imm sh x off b base us h1 h2 h3 h4 => exact one _ _ rfl rfl rfl (.imm sh x off b base us h1 h2 h3 h4)
 | tsl t sh xs a len cap tk h1 h2 h3 h4 h5 => exact one _ _ rfl rfl rfl (.tsl t sh xs a len cap tk h1 h2 h3 h4 h5)
 | fn f caps us h1 h2 => exact one _ _ rfl rfl rfl (.fn f caps us h1 h2)
 | bfn f d u h1 => exact one _ _ rfl rfl rfl (.bfn f d u h1)
 | iface t d u h1 => exact one _ _ rfl rfl rfl (.iface t d u h1)
 | map o b hb => exact one _ _ rfl rfl rfl (.map o b hb)
 | msl o off len sh cp a cap h1 h2 h3 h4 h5 => exact one _ _ rfl rfl rfl (.msl o off len sh cp a cap h1 h2 h3 h4 h5)
theorem allV_map {ds : List D} {xs : List V} (h : allV ds = some xs) : ds = xs.map .v := by
 induction ds generalizing xs with
 | nil => cases h; rfl
 | cons d ds ih =>
  cases d <;> simp only [allV] at h <;> first | (cases h; done) | skip
  split at h
  ·rename_i ys hy
   cases h
   simp [ih hy]
  ·cases h
theorem RepD.v_inv {m : Gh} {w : World} {x : V} {u : Value} (h : RepD m w (.v x) u) : RepV w (Fz m w) x u := by cases h; assumption
theorem mkAgg_rep {m : Gh} {w : World} {ds : List D} {us : List Value} (hl : ds.length = us.length) (h1 : ∀ u ∈ us, u.oneCell' = true)
  (hr : ∀ (i : Nat) d u, ds[i]? = some d → us[i]? = some u → RepD m w d u) : RepD m w (mkAgg ds) (.agg us.toArray) := by
 unfold mkAgg
 split
 ·rename_i xs hx
  have hds := allV_map hx
  subst hds
  have hrv : ∀ (i : Nat) c u, xs[i]? = some c → us[i]? = some u → RepV w (Fz m w) c u := fun i c u hc hu => (hr i (.v c) u (by simp [hc]) hu).v_inv
  refine .v _ _ (.agg xs us (by simpa using hl) (fun c hc => ?_) hrv)
  obtain ⟨i, hi⟩ := List.mem_iff_getElem?.1 hc
  have hlt : i < us.length := by rw [← hl]; simpa using (List.getElem?_eq_some_iff.1 hi).1
  obtain ⟨u, hu⟩ : ∃ u, us[i]? = some u := ⟨_, List.getElem?_eq_getElem hlt⟩
  have hr' := hrv i c u hi hu
  have ho := h1 u (List.mem_of_getElem? hu)
  cases hr' with
  | agg cs us' _ _ _ => simp [Value.oneCell'] at ho
  | _ => rfl
 ·exact .agg ds us hl h1 hr
end Go.Abs
namespace Go.Abs
open Go
theorem RepD.bool_inv {m : Gh} {w : World} {p : Bool} {u : Value} (h : RepD m w (.v (.bool p)) u) : u = .bool p := by cases h with | v _ _ h => cases h; rfl
theorem RepD.int_inv {m : Gh} {w : World} {k : IntKind} {p : Int} {u : Value} (h : RepD m w (.v (.int k p)) u) : u = .int k p := by cases h with | v _ _ h => cases h; rfl
theorem RepD.str_inv {m : Gh} {w : World} {s : List UInt8} {u : Value} (h : RepD m w (.v (.str s)) u) : u = .string ⟨s.toArray⟩ := by cases h with | v _ _ h => cases h; rfl
theorem RepV.int_r {w : World} {F : Nat → Nat → Prop} {k : IntKind} {p : Int} {u : Value} (h : RepV w F (.int k p) u) : inR k p := by cases h; assumption
theorem RepV.str_r {w : World} {F : Nat → Nat → Prop} {s : List UInt8} {u : Value} (h : RepV w F (.str s) u) : s.length ≤ maxLen := by cases h; assumption
theorem RepD.int_r {m : Gh} {w : World} {k : IntKind} {p : Int} {u : Value} (h : RepD m w (.v (.int k p)) u) : inR k p := by cases h with | v _ _ h => exact h.int_r
theorem RepD.str_r {m : Gh} {w : World} {s : List UInt8} {u : Value} (h : RepD m w (.v (.str s)) u) : s.length ≤ maxLen := by cases h with | v _ _ h => exact h.str_r
theorem inR_wrap (k : IntKind) (n : Int) : inR k (k.wrap n) := by
 cases k <;> simp only [inR, IntKind.wrap, IntKind.min, IntKind.max, IntKind.bits, IntKind.signed] <;> simp <;> (try split) <;> omega
theorem inR_tmod {k : IntKind} {a b : Int} (h : inR k a) : inR k (a.tmod b) := by
 have key : (0 ≤ a → 0 ≤ a.tmod b ∧ a.tmod b ≤ a) ∧ (a ≤ 0 → a ≤ a.tmod b ∧ a.tmod b ≤ 0) := by
  refine ⟨fun ha => ?_, fun ha => ?_⟩
  ·obtain ⟨n, rfl⟩ := Int.eq_ofNat_of_zero_le ha
   refine ⟨Int.tmod_nonneg _ ha, ?_⟩
   have h1 : ((n : Int).tmod b).natAbs ≤ n := by rw [Int.natAbs_tmod]; exact Nat.mod_le _ _
   omega
  ·have h1 : (a.tmod b).natAbs ≤ a.natAbs := by rw [Int.natAbs_tmod]; exact Nat.mod_le _ _
   have h2 : (-a).tmod b = -(a.tmod b) := Int.neg_tmod _ _
   have h3 := Int.tmod_nonneg (a := -a) b (by omega)
   omega
 rcases Int.le_total 0 a with ha | ha
 ·have := key.1 ha
  unfold inR at *
  have : k.min ≤ 0 := by cases k <;> decide
  omega
 ·have := key.2 ha
  unfold inR at *
  have : 0 ≤ k.max := by cases k <;> decide
  omega
theorem inR_fdiv {k : IntKind} {a : Int} (n : Nat) (h : inR k a) : inR k (a.fdiv (2 ^ n)) := by
 have hp : (0 : Int) < 2 ^ n := Int.pow_pos (by omega)
 rw [Int.fdiv_eq_ediv_of_nonneg _ (by omega)]
 have key : (0 ≤ a → 0 ≤ a / 2 ^ n ∧ a / 2 ^ n ≤ a) ∧ (a ≤ 0 → a ≤ a / 2 ^ n ∧ a / 2 ^ n ≤ 0) := by
  refine ⟨fun ha => ⟨Int.ediv_nonneg ha (by omega), Int.ediv_le_self _ ha⟩, fun ha => ⟨?_, ?_⟩⟩
  ·rw [Int.le_ediv_iff_mul_le hp]
   have : a * 2 ^ n ≤ a * 1 := Int.mul_le_mul_of_nonpos_left ha (by omega)
   omega
  ·have := Int.ediv_le_ediv hp ha
   simpa using this
 unfold inR at *
 have h1 : k.min ≤ 0 := by cases k <;> decide
 have h2 : 0 ≤ k.max := by cases k <;> decide
 rcases Int.le_total 0 a with ha | ha
 ·have := key.1 ha; omega
 ·have := key.2 ha; omega
theorem inR_nat {n : Nat} (h : n ≤ maxLen) : inR .i64 n := by
 unfold maxLen at h
 simp only [inR, IntKind.min, IntKind.max, IntKind.bits, IntKind.signed]
 simp
 omega
theorem inR_byte (b : UInt8) : inR .u8 b.toNat := by
 have := b.toNat_lt
 simp only [inR, IntKind.min, IntKind.max, IntKind.bits, IntKind.signed]
 simp
 omega
section
variable {P : Program} {o : Oper}
theorem ok_mv {x : Operand} {e : E} (ho : o.op = .move x ∨ o.op = .assign x) (hx : cE x = some e) : OpOk P o (.mv e) :=
 .of_runs fun σ m w a s K hI hE hW => .still hI (by rcases ho with ho | ho <;> simp [execOp, ho]) hW (ev_rep hE hx)
theorem ok_pick {c x y : Operand} {ec ex ey : E} (ho : o.op = .pick c x y) (hc : cE c = some ec) (hx : cE x = some ex) (hy : cE y = some ey) : OpOk P o (.pick ec ex ey) := by
 refine .of_runs fun σ m w a s K hI hE hW => ?_
 simp only [WOp] at hW
 split at hW
 ·rename_i p hp
  have hcv := ev_rep hE hc
  rw [hp] at hcv
  have hcv := hcv.bool_inv
  cases p with
  | true => exact .still hI (by simp [execOp, ho, hcv, asBool]) (hW.1 rfl) (ev_rep hE hx)
  | false => exact .still hI (by simp [execOp, ho, hcv, asBool]) (hW.2 rfl) (ev_rep hE hy)
 ·exact hW.elim
theorem newObj_ok {σ : Sg} {m : Gh} {w : World} (hI : Inv σ m w) {cs : List D} {us : List Value} (ty : TypeId) (hl : cs.length = us.length) (h1 : ∀ u ∈ us, u.oneCell' = true)
  (hr : ∀ (i : Nat) d u, cs[i]? = some d → us[i]? = some u → RepD m w d u) :
  Inv (σ.add (.cells cs)) (m.add w.heap.size) (w.alloc (.cells us.toArray ty)) ∧ Ext m w (m.add w.heap.size) (w.alloc (.cells us.toArray ty)) ∧
   RepD (m.add w.heap.size) (w.alloc (.cells us.toArray ty)) (.ptr σ.objs.length 0) (.pointer (some ⟨w.heap.size, 0, none⟩)) :=
 ⟨hI.add _ _ (ObRep.new ty hl h1 hr), .add m w _, .ptr _ _ _ (.inl (by simp [Gh.add, ← hI.lobj]))⟩
theorem ok_alloc {e : TypeId} {i : TypeInfo} {z : Value} {x : V} (ho : o.op = .alloc e) (hi : P.info? e = some i) (hz : i.zero = some z) (hx : cV z = some x) : OpOk P o (.alloc x.cells) := by
 refine .of_runs fun σ m w a s K hI hE hW => ?_
 simp only [WOp] at hW
 obtain ⟨h1, h2, h3⟩ := (cV_rep (w := w) (F := Fz m w) hx).cellsR
 obtain ⟨hI', hX, hR⟩ := newObj_ok hI (cs := x.cells.map .v) (us := z.cells.toList) e (by simpa using h1) h3 fun j d u hd hu => by
  simp only [List.getElem?_map] at hd
  cases hc : x.cells[j]? with
  | none => simp [hc] at hd
  | some c => simp [hc] at hd; subst hd; exact .v _ _ (h2 j c u hc (by simpa using hu))
 refine ⟨_, _, _, _, _, _, ?_, .inl rfl, hW, hI', hX, hR⟩
 simp [execOp, ho, Instr.alloc, zeroValue, typeInfo, hi, hz, newVar, newRow]
theorem ok_box {e : TypeId} {x : Operand} {ex : E} (ho : o.op = .box e x) (hx : cE x = some ex) : OpOk P o (.box ex) := by
 refine .of_runs fun σ m w a s K hI hE hW => ?_
 simp only [WOp] at hW
 obtain ⟨h1, h2, h3⟩ := (ev_rep hE hx).cellsR hW.1
 obtain ⟨hI', hX, hR⟩ := newObj_ok hI (cs := (ev s ex).cells) (us := (a.eval x).cells.toList) e (by simpa using h1) h3 fun j d u hd hu => h2 j d u hd (by simpa using hu)
 refine ⟨_, _, _, _, _, _, ?_, .inl rfl, hW.2, hI', hX, hR⟩
 simp [execOp, ho, Instr.box, newVar, newRow]
theorem foldl_put (off : Nat) : ∀ (vs : List Value) (j : Nat) (cells : Array Value), off + j + vs.length ≤ cells.size →
  ((vs.zipIdx j).foldl (fun cs (p : Value × Nat) => cs.setIfInBounds (off + p.2) p.1) cells).toList = cells.toList.take (off + j) ++ (vs ++ cells.toList.drop (off + j + vs.length))
 | [], j, cells, h => by simp
 | v :: vs, j, cells, h => by
  have ih := foldl_put off vs (j + 1) (cells.setIfInBounds (off + j) v) (by simp at h ⊢; omega)
  simp only [List.zipIdx_cons, List.foldl_cons]
  rw [ih]
  have := list_seg_step cells.toList (off + j) v vs (by simp at h ⊢; omega)
  simp only [Array.toList_setIfInBounds, List.length_cons]
  simpa [Nat.add_assoc, List.append_assoc] using this
theorem putAt_length {cs : List D} {off : Nat} {xs : List D} (h : off + xs.length ≤ cs.length) : (putAt cs off xs).length = cs.length := by
 simp [putAt]; omega
theorem putAt_rep {m : Gh} {w : World} {cs : List D} {us : List Value} (hl : cs.length ≤ us.length) (hr : ∀ (i : Nat) d u, cs[i]? = some d → us[i]? = some u → RepD m w d u)
  {off : Nat} {xs : List D} {vs : List Value} (hx : xs.length = vs.length) (hxr : ∀ (i : Nat) d u, xs[i]? = some d → vs[i]? = some u → RepD m w d u) (hfit : off + xs.length ≤ cs.length) :
  ∀ (i : Nat) d u, (putAt cs off xs)[i]? = some d → (us.take off ++ (vs ++ us.drop (off + vs.length)))[i]? = some u → RepD m w d u := by
 intro i d u hd hu
 unfold putAt at hd
 rcases Nat.lt_or_ge i off with hi | hi
 ·rw [List.getElem?_append_left (by simp; omega), List.getElem?_take_of_lt hi] at hd
  rw [List.getElem?_append_left (by simp; omega), List.getElem?_take_of_lt hi] at hu
  exact hr i d u hd hu
 ·rw [List.getElem?_append_right (by simp; omega)] at hd
  rw [List.getElem?_append_right (by simp; omega)] at hu
  simp only [List.length_take] at hd hu
  rw [show min off cs.length = off by omega] at hd
  rw [show min off us.length = off by omega] at hu
  rcases Nat.lt_or_ge (i - off) xs.length with h2 | h2
  ·rw [List.getElem?_append_left h2] at hd
   rw [List.getElem?_append_left (by omega)] at hu
   exact hxr _ d u hd hu
  ·rw [List.getElem?_append_right h2, List.getElem?_drop] at hd
   rw [List.getElem?_append_right (by omega), List.getElem?_drop] at hu
   rw [hx] at hd
   exact hr _ d u hd hu
theorem fill_rep {m : Gh} {w : World} (place : Nat → Option (Nat × Nat)) : ∀ (ps : List (Nat × Value)) (ds : List (Nat × Nat × D)) (cells : Array Value) (cs cs' : List D),
  ps.length = ds.length → (∀ (i : Nat) p d, ps[i]? = some p → ds[i]? = some d → place p.1 = some (d.1, d.2.1) ∧ RepD m w d.2.2 p.2) →
  cs.length = cells.size → (∀ (i : Nat) d u, cs[i]? = some d → cells[i]? = some u → RepD m w d u) → (∀ u ∈ cells.toList, u.oneCell' = true) → fillD cs ds = some cs' →
  ∃ cells', Instr.fill place cells ps = some cells' ∧ cs'.length = cells'.size ∧ (∀ (i : Nat) d u, cs'[i]? = some d → cells'[i]? = some u → RepD m w d u) ∧ ∀ u ∈ cells'.toList, u.oneCell' = true
 | [], [], cells, cs, cs', _, _, hl, hr, h1, hf => by
  simp only [fillD, Option.some.injEq] at hf
  subst hf
  exact ⟨cells, by simp [Instr.fill], hl, hr, h1⟩
 | [], d :: ds, _, _, _, h, _, _, _, _, _ => by simp at h
 | p :: ps, [], _, _, _, h, _, _, _, _, _ => by simp at h
 | (i, v) :: ps, (off, n, d) :: ds, cells, cs, cs', h, hp, hl, hr, h1, hf => by
  simp only [fillD] at hf
  split at hf
  ·rename_i hc
   obtain ⟨hlies, hn, hfit⟩ := hc
   obtain ⟨hplace, hd⟩ := hp 0 (i, v) (off, n, d) rfl rfl
   have hd : RepD m w d v := hd
   obtain ⟨c1, c2, c3⟩ := hd.cellsR hlies
   have hsz : v.cells.size = n := by omega
   have hfold := foldl_put off v.cells.toList 0 cells (by simp; omega)
   have harr : v.cells.zipIdx.foldl (fun cs (c, j) => cs.setIfInBounds (off + j) c) cells = (cells.toList.take off ++ (v.cells.toList ++ cells.toList.drop (off + v.cells.toList.length))).toArray := by
    apply Array.ext'
    rw [← Array.foldl_toList, Array.toList_zipIdx]
    simpa using hfold
   obtain ⟨cells', e1, e2, e3, e4⟩ := fill_rep place ps ds (cells.toList.take off ++ (v.cells.toList ++ cells.toList.drop (off + v.cells.toList.length))).toArray (putAt cs off d.cells) cs'
    (by simpa using h) (fun j p d hj hd' => hp (j + 1) p d (by simpa using hj) (by simpa using hd'))
    (by
     rw [putAt_length (by omega)]
     simp only [List.size_toArray, List.length_append, List.length_take, List.length_drop, Array.length_toList]
     omega)
    (fun j d' u hj hu => by
     refine putAt_rep (us := cells.toList) (vs := v.cells.toList) (cs := cs) (Nat.le_of_eq (by simpa using hl)) (fun i d u h1 h2 => hr i d u h1 (by simpa using h2)) (by simpa using c1) (fun i d u h1 h2 => c2 i d u h1 (by simpa using h2)) (by omega) j d' u hj (by simpa using hu))
    (fun u hu => by
     simp only [List.mem_append] at hu
     rcases hu with hu | hu | hu
     ·exact h1 u (List.mem_of_mem_take hu)
     ·exact c3 u hu
     ·exact h1 u (List.mem_of_mem_drop hu))
    hf
   refine ⟨cells', ?_, e2, e3, e4⟩
   simp only [Instr.fill, hplace, hsz]
   rw [harr]
   have hno : ¬ (off + n > cells.size) := by omega
   simp only [hno, bne_self_eq_false, decide_false, Bool.or_self, Bool.false_eq_true, if_false, ne_eq, not_true_eq_false]
   exact e1
  ·cases hf
theorem ok_build {t : TypeId} {ps : Array (Nat × Operand)} {it : TypeInfo} {fields : Array Field} {z : Value} {x : V} {places : List (Nat × Nat)} {es : List E} (ho : o.op = .build t ps)
  (hit : P.info? t = some it) (hu : P.underlying t = some (.struct fields)) (hz : it.zero = some z) (hx : cV z = some x)
  (hpl : fields.toList.mapM (fun f => (P.info? f.type).map fun i => (f.offset, i.size)) = some places)
  (hes : cEs (ps.toList.map (·.2)) = some es) {ds : List (Nat × Nat × E)} (hds : ds.length = ps.size) (hd : ∀ (i : Nat) p e, ps.toList[i]? = some p → es[i]? = some e → ∃ q, places[p.1]? = some q ∧ ds[i]? = some (q.1, q.2, e)) :
  OpOk P o (.build x.cells ds) := by
 refine .of_runs fun σ m w a s K hI hE hW => ?_
 simp only [WOp] at hW
 split at hW
 ·rename_i cs hcs
  obtain ⟨h1, h2, h3⟩ := (cV_rep (w := w) (F := Fz m w) hx).cellsR
  obtain ⟨l1, l2⟩ := evs_rep hE hes
  obtain ⟨cells, e1, e2, e3, e4⟩ := fill_rep (m := m) (w := w) (places.toArray[·]?) ((ps.map fun (i, x) => (i, a.eval x)).toList) (ds.map fun p => (p.1, p.2.1, ev s p.2.2)) z.cells (x.cells.map .v) cs (by simp [hds])
   (fun i p d hp hd' => by
    simp only [Array.toList_map, List.getElem?_map] at hp hd'
    cases hpi : ps.toList[i]? with
    | none => simp [hpi] at hp
    | some q =>
     simp only [hpi, Option.map_some, Option.some.injEq] at hp
     subst hp
     have hlt : i < es.length := by rw [l1]; simpa using (List.getElem?_eq_some_iff.1 hpi).1
     obtain ⟨r, hr1, hr2⟩ := hd i q es[i] hpi (List.getElem?_eq_getElem hlt)
     rw [hr2] at hd'
     simp only [Option.map_some, Option.some.injEq] at hd'
     subst hd'
     refine ⟨by simpa using hr1, l2 i _ _ (by simp [List.getElem?_eq_getElem hlt]) ?_⟩
     simp [hpi])
   (by simpa using h1)
   (fun j d u hj hu => by
    simp only [List.getElem?_map] at hj
    cases hc : x.cells[j]? with
    | none => simp [hc] at hj
    | some c => simp [hc] at hj; subst hj; exact .v _ _ (h2 j c u hc hu))
   h3 hcs
  have hb : P.built t (ps.map fun (i, x) => (i, a.eval x)).toList = some cells := by
   simp only [Program.built, hit, hu, hz, hpl]
   exact e1
  refine .still hI ?_ hW (by have := mkAgg_rep (ds := cs) (us := cells.toList) (by simpa using e2) e4 (fun i d u h1 h2 => e3 i d u h1 (by simpa using h2)); simpa using this)
  simp [execOp, ho, run_build w t _ cells hb]
 ·exact hW.elim
end
end Go.Abs
namespace Go.Abs
open Go
theorem toV_rep {m : Gh} {w : World} {d : D} {u : Value} (h : RepD m w d u) : ∀ x, d.toV = some x → RepV w (Fz m w) x u := by
 have toVs_get : ∀ {ds : List D} {xs : List V}, D.toVs ds = some xs → ds.length = xs.length ∧ ∀ (i : Nat) d x, ds[i]? = some d → xs[i]? = some x → d.toV = some x := by
  intro ds
  induction ds with
  | nil => intro xs h; simp [D.toVs] at h; subst h; simp
  | cons d ds ih =>
   intro xs h
   simp only [D.toVs] at h
   split at h
   ·rename_i x ys hx hy
    cases h
    obtain ⟨l, g⟩ := ih hy
    refine ⟨by simp [l], fun i d' x' hd hx' => ?_⟩
    cases i with
    | zero => simp at hd hx'; subst hd hx'; exact hx
    | succ i => simp at hd hx'; exact g i d' x' hd hx'
   ·cases h
 induction h with
 | v x u hx => intro y hy; simp only [D.toV, Option.some.injEq] at hy; subst hy; exact hx
 | tsl t sh xs a len cap tk hv _ _ _ _ => intro y hy; simp only [D.toV, Option.some.injEq] at hy; subst hy; exact hv
 | agg cs us hl h1 hr ih =>
  intro y hy
  simp only [D.toV] at hy
  split at hy
  ·rename_i vs hvs
   split at hy
   ·rename_i hall
    cases hy
    obtain ⟨l, g⟩ := toVs_get hvs
    refine .agg vs us (by omega) (List.all_eq_true.1 hall) fun i c u hc hu => ?_
    have hlt : i < cs.length := by rw [l]; exact (List.getElem?_eq_some_iff.1 hc).1
    exact ih i cs[i] u (List.getElem?_eq_getElem hlt) hu c (g i _ c (List.getElem?_eq_getElem hlt) hc)
   ·cases hy
  ·cases hy
 | iface t d u _ ih =>
  intro y hy
  simp only [D.toV] at hy
  split at hy
  ·rename_i x hx
   cases hy
   exact .iface t x u (ih x hx)
  ·cases hy
 | _ => intro y hy; simp [D.toV] at hy
theorem toVs_get {ds : List D} {xs : List V} (h : D.toVs ds = some xs) : ds.length = xs.length ∧ ∀ (i : Nat) d x, ds[i]? = some d → xs[i]? = some x → d.toV = some x := by
 induction ds generalizing xs with
 | nil => simp [D.toVs] at h; subst h; simp
 | cons d ds ih =>
  simp only [D.toVs] at h
  split at h
  ·rename_i x ys hx hy
   cases h
   obtain ⟨l, g⟩ := ih hy
   refine ⟨by simp [l], fun i d' x' hd hx' => ?_⟩
   cases i with
   | zero => simp at hd hx'; subst hd hx'; exact hx
   | succ i => simp at hd hx'; exact g i d' x' hd hx'
  ·cases h
section
variable {P : Program} {o : Oper}
theorem fill_dense (sz : Nat) : ∀ (vs : List Value) (k : Nat) (cells : Array Value), (∀ v ∈ vs, v.cells.size = sz) → (k + vs.length) * sz ≤ cells.size →
  Instr.fill (fun i => some (i * sz, sz)) cells ((vs.zipIdx k).map fun p => (p.2, p.1)) =
   some (cells.toList.take (k * sz) ++ ((vs.flatMap fun v => v.cells.toList) ++ cells.toList.drop ((k + vs.length) * sz))).toArray
 | [], k, cells, _, _ => by simp [Instr.fill]
 | v :: vs, k, cells, h, hfit => by
  have hv := h v (by simp)
  have hsz : (k + 1) * sz ≤ cells.size := Nat.le_trans (Nat.mul_le_mul_right _ (by simp)) hfit
  rw [Nat.add_mul, Nat.one_mul] at hsz
  have hfold := foldl_put (k * sz) v.cells.toList 0 cells (by simp; omega)
  have harr : v.cells.zipIdx.foldl (fun cs (c, j) => cs.setIfInBounds (k * sz + j) c) cells = (cells.toList.take (k * sz) ++ (v.cells.toList ++ cells.toList.drop (k * sz + v.cells.toList.length))).toArray := by
   apply Array.ext'
   rw [← Array.foldl_toList, Array.toList_zipIdx]
   simpa using hfold
  have hsize : (cells.toList.take (k * sz) ++ (v.cells.toList ++ cells.toList.drop (k * sz + v.cells.toList.length))).toArray.size = cells.size := by
   simp only [List.size_toArray, List.length_append, List.length_take, List.length_drop, Array.length_toList]
   omega
  have ih := fill_dense sz vs (k + 1) (cells.toList.take (k * sz) ++ (v.cells.toList ++ cells.toList.drop (k * sz + v.cells.toList.length))).toArray (fun x hx => h x (by simp [hx]))
   (by rw [hsize]; simpa [Nat.add_assoc, Nat.add_comm 1] using hfit)
  simp only [List.zipIdx_cons, List.map_cons, Instr.fill, hv]
  rw [harr]
  have hno : ¬ (k * sz + sz > cells.size) := by omega
  simp only [hno, bne_self_eq_false, decide_false, Bool.or_self, Bool.false_eq_true, if_false, ne_eq, not_true_eq_false]
  rw [ih]
  congr 2
  have hlv : v.cells.toList.length = sz := by simpa using hv
  have e1 : (k + 1) * sz = k * sz + sz := by rw [Nat.add_mul, Nat.one_mul]
  have e2 : (k + (v :: vs).length) * sz = (k + 1 + vs.length) * sz := by congr 1; simp; omega
  rw [e2, hlv, List.flatMap_cons]
  have t1 : (cells.toList.take (k * sz) ++ (v.cells.toList ++ cells.toList.drop (k * sz + sz))).take ((k + 1) * sz) = cells.toList.take (k * sz) ++ v.cells.toList := by
   rw [← List.append_assoc, List.take_append_of_le_length (by simp; omega)]
   apply List.take_of_length_le
   simp; omega
  have t2 : (cells.toList.take (k * sz) ++ (v.cells.toList ++ cells.toList.drop (k * sz + sz))).drop ((k + 1 + vs.length) * sz) = cells.toList.drop ((k + 1 + vs.length) * sz) := by
   rw [← List.append_assoc, List.drop_append, List.drop_drop]
   have hle : (k + 1) * sz ≤ (k + 1 + vs.length) * sz := Nat.mul_le_mul_right _ (by omega)
   have hz : (cells.toList.take (k * sz) ++ v.cells.toList).length = (k + 1) * sz := by simp; omega
   rw [List.drop_eq_nil_of_le (by omega), List.nil_append, hz]
   congr 1
   omega
  rw [t1, t2]
  simp [List.append_assoc]
theorem mksl_core {t e : TypeId} {len : Nat} {ps : Array (Nat × Operand)} {ie : TypeInfo} {z : Value} {sh : Sh} {es : List E} (ho : o.op = .buildSlice t len ps)
  (hu : P.underlying t = some (.slice e)) (hie : P.info? e = some ie) (hz : ie.zero = some z) (hsz : ie.size = shn sh) (hpos : 0 < ie.size) (hzs : z.cells.size = ie.size)
  (hlen : len = ps.size) (hidx : ps.toList.map (·.1) = List.range ps.size) (hsmall : len * ie.size ≤ 2 ^ 24) (hes : cEs (ps.toList.map (·.2)) = some es)  {σ : Sg} {m : Gh} {w : World} {a : Act} {s : List (Nat × D)} {K : D → Sg → Prop} (hI : Inv σ m w) (hE : EnvR m w s a.tmps) (hW : WOp P (.mksl sh es) s σ K) :
  ∃ (C : Array Value) (x : V), (execOp a.eval o).run P w = .ok (.value (.slice (some ⟨w.heap.size, 0, none⟩) len len)) (w.alloc (.cells C e)) ∧ K (.v x) σ ∧ (∀ fr, RepD m (w.alloc (.cells C e fr)) (.v x) (.slice (some ⟨w.heap.size, 0, none⟩) len len)) ∧
   ∃ xs, x = .sl sh true xs ∧ (V.flat xs).length = C.size ∧ xs.length = len ∧ (∀ (i : Nat) c u, (V.flat xs)[i]? = some c → C[i]? = some u → RepV w (Fz m w) c u) ∧ ∀ c ∈ V.flat xs, c.one = true := by
 simp only [WOp, WMksl] at hW
 split at hW
 ·rename_i xs hxs
  obtain ⟨hall, hK⟩ := hW
  obtain ⟨l1, l2⟩ := evs_rep hE hes
  obtain ⟨l3, l4⟩ := toVs_get hxs
  have hvl : xs.length = ps.size := by rw [← l3]; simpa using l1
  have hrep : ∀ (i : Nat) x v, xs[i]? = some x → ((ps.toList.map (·.2)).map a.eval)[i]? = some v → RepV w (Fz m w) x v := by
   intro i x v hx hv
   have hlt : i < (es.map (ev s)).length := by rw [l3]; exact (List.getElem?_eq_some_iff.1 hx).1
   exact toV_rep (l2 i _ v (List.getElem?_eq_getElem hlt) hv) x (l4 i _ x (List.getElem?_eq_getElem hlt) hx)
  generalize hvs : (ps.toList.map (·.2)).map a.eval = vs at hrep
  have hvsl : vs.length = xs.length := by rw [← hvs, hvl]; simp
  have hsizes : ∀ v ∈ vs, v.cells.size = ie.size := by
   intro v hv
   obtain ⟨i, hi⟩ := List.mem_iff_getElem?.1 hv
   have hlt : i < xs.length := by rw [← hvsl]; exact (List.getElem?_eq_some_iff.1 hi).1
   have hr := hrep i xs[i] v (List.getElem?_eq_getElem hlt) hi
   have := (hall xs[i] (List.getElem_mem hlt)).1
   rw [← hr.cellsR.1, V.cells_length, this, hsz]
  have hparts : (ps.map fun (i, x) => (i, a.eval x)).toList = (vs.zipIdx 0).map fun p => (p.2, p.1) := by
   rw [← hvs]
   apply List.ext_getElem?
   intro i
   simp only [Array.toList_map, List.getElem?_map, List.getElem?_zipIdx]
   cases hpi : ps.toList[i]? with
   | none => simp
   | some q =>
    have hlt := (List.getElem?_eq_some_iff.1 hpi).1
    have hq : q.1 = i := by
     have := congrArg (·[i]?) hidx
     simp only [List.getElem?_map, hpi, Option.map_some] at this
     rw [List.getElem?_range (by simpa using hlt)] at this
     simpa using this
    simp [← hq]
  have hcells0 : ((Array.range (len * ie.size)).map (z.cells[· % z.cells.size]!)).size = len * ie.size := by simp
  have hfill := fill_dense ie.size vs 0 ((Array.range (len * ie.size)).map (z.cells[· % z.cells.size]!)) hsizes (by rw [hcells0, hlen]; simp [hvsl, hvl])
  rw [← hparts] at hfill
  have hdrop : ((Array.range (len * ie.size)).map (z.cells[· % z.cells.size]!)).toList.drop ((0 + vs.length) * ie.size) = [] := by
   apply List.drop_eq_nil_of_le
   rw [Array.length_toList, hcells0, hlen, Nat.zero_add, hvsl, hvl]
   exact Nat.le_refl _
  rw [hdrop, Nat.zero_mul, List.take_zero, List.nil_append, List.append_nil] at hfill
  have hrun : (execOp a.eval o).run P w = .ok (.value (.slice (some ⟨w.heap.size, 0, none⟩) len len)) (w.alloc (.cells (vs.flatMap fun v => v.cells.toList).toArray e)) := by
   by_cases h0 : len * ie.size = 0
   ·have hl0 : len = 0 := by
     rcases Nat.mul_eq_zero.1 h0 with h | h
     ·exact h
     ·omega
    have hps : ps = #[] := by apply Array.eq_empty_of_size_eq_zero; omega
    have hv0 : vs = [] := List.eq_nil_of_length_eq_zero (by omega)
    subst hps hv0 hl0
    simp [execOp, ho, Instr.buildSlice, run_underlying hu, sizeOf, typeInfo, hie, Instr.fill, newRow]
    congr 2
    apply Array.eq_empty_of_size_eq_zero
    simp
   ·have := hfill
    simp [execOp, ho, Instr.buildSlice, run_underlying hu, sizeOf, typeInfo, zeroValue, hie, hz, h0, show ¬ (len * ie.size > 16777216) by simpa using hsmall, newRow]
    simp only [Array.toList_map] at this
    simp [this]
  have hlenx : len = xs.length := by omega
  have hflat : ∀ (xs : List V) (vs : List Value), vs.length = xs.length → (∀ (i : Nat) x v, xs[i]? = some x → vs[i]? = some v → RepV w (Fz m w) x v) →
    (V.flat xs).length = (vs.flatMap fun v => v.cells.toList).length ∧ ∀ (i : Nat) c u, (V.flat xs)[i]? = some c → (vs.flatMap fun v => v.cells.toList)[i]? = some u → RepV w (Fz m w) c u := by
   intro xs
   induction xs with
   | nil => intro vs hl _; have : vs = [] := List.eq_nil_of_length_eq_zero (by simpa using hl); subst this; simp [V.flat]
   | cons x xs ih =>
    intro vs hl hr
    cases vs with
    | nil => simp at hl
    | cons v vs =>
     obtain ⟨i1, i2⟩ := ih vs (by simpa using hl) fun i x v hx hv => hr (i + 1) x v (by simpa using hx) (by simpa using hv)
     obtain ⟨c1, c2, _⟩ := (hr 0 x v rfl rfl).cellsR
     simp only [V.flat, List.flatMap_cons] at *
     refine ⟨by simp [c1, i1], fun i c u hc hu => ?_⟩
     rcases Nat.lt_or_ge i x.cells.length with hlt | hge
     ·rw [List.getElem?_append_left hlt] at hc
      rw [List.getElem?_append_left (by simp; omega)] at hu
      exact c2 i c u hc (by simpa using hu)
     ·rw [List.getElem?_append_right hge] at hc
      rw [List.getElem?_append_right (by simp; omega)] at hu
      simp only [Array.length_toList] at hu
      rw [← c1] at hu
      exact i2 _ c u hc hu
  obtain ⟨f1, f2⟩ := hflat xs vs hvsl hrep
  have hshape : ∀ x ∈ xs, x.shape = sh := fun x hx => (hall x hx).1
  have hone : ∀ c ∈ V.flat xs, c.one = true := fun c hc => by
   obtain ⟨x, hx, hcx⟩ := List.mem_flatMap.1 hc
   exact List.all_eq_true.1 (hall x hx).2 c hcx
  refine ⟨_, _, hrun, hK, fun fr => .v _ _ ?_, xs, rfl, by simpa using f1, hlenx.symm, fun i c u hc hu => f2 i c u hc (by simpa using hu), hone⟩
  have e := Ext.alloc m w (.cells (vs.flatMap fun v => v.cells.toList).toArray e fr)
  rw [hlenx]
  refine RepV.at_head (cs := vs.flatMap fun v => v.cells.toList) sh (heap_alloc_new w _) (by rw [← f1, V.flat_length hshape]) (fun i u hi => by simpa using hi)
   (fun i hi => ⟨by simp, fun hx => by have := hI.lt_block (Gh.mut_block hx); omega⟩) hshape (fun c hc => ?_) (Nat.le_refl _) ?_ (fun _ => rfl) (fun i c u hc hu => (f2 i c u hc hu).mono e.fz)
  ·obtain ⟨x, hx, hcx⟩ := List.mem_flatMap.1 hc
   exact List.all_eq_true.1 (hall x hx).2 c hcx
  ·have h2 : xs.length * 1 ≤ len * ie.size := by rw [hlenx]; exact Nat.mul_le_mul_left _ hpos
   simp only [maxLen]
   omega
 ·exact hW.elim
theorem ok_mksl {t e : TypeId} {len : Nat} {ps : Array (Nat × Operand)} {ie : TypeInfo} {z : Value} {sh : Sh} {es : List E} (ho : o.op = .buildSlice t len ps)
  (hu : P.underlying t = some (.slice e)) (hie : P.info? e = some ie) (hz : ie.zero = some z) (hsz : ie.size = shn sh) (hpos : 0 < ie.size) (hzs : z.cells.size = ie.size)
  (hlen : len = ps.size) (hidx : ps.toList.map (·.1) = List.range ps.size) (hsmall : len * ie.size ≤ 2 ^ 24) (hes : cEs (ps.toList.map (·.2)) = some es) : OpOk P o (.mksl sh es) := by
 refine .of_runs fun σ m w a s K hI hE hW => ?_
 obtain ⟨C, x, h1, h2, h3, _⟩ := mksl_core ho hu hie hz hsz hpos hzs hlen hidx hsmall hes hI hE hW
 exact ⟨_, _, _, _, _, _, h1, .inl rfl, h2, hI.alloc _, .alloc m w _, h3 (0, 0)⟩
theorem run_load_sh {w : World} {t : TypeId} {d : TypeDesc} {i : TypeInfo} (hu : P.underlying t = some d) (hi : P.info? t = some i) {b p : Nat} {us : Nat → Value} {sh : Sh}
  (hsh : match sh with | none => d.isRow = false | some n => d.isRow = true ∧ i.size = n) (hc : ∀ j, j < shn sh → w.cell? ⟨b, p + j, none⟩ = some (us j)) :
  (Instr.loadAt t (.pointer (some ⟨b, p, none⟩))).run P w = .ok (match sh with | none => us 0 | some n => .agg ((List.range n).map us).toArray) w := by
 cases sh with
 | none =>
  have h0 := hc 0 (by simp [shn])
  simp only [Nat.add_zero] at h0
  cases d <;> simp at hsh <;> simp [Instr.loadAt, Instr.sureAddr, loadVar, isAgg, run_underlying hu, h0]
 | some n =>
  have := run_loadAt_mid (P := P) w b p t ((List.range n).map us) d (fun j v hj => by
   simp only [List.getElem?_map] at hj
   rcases Nat.lt_or_ge j n with hlt | hge
   ·rw [List.getElem?_range hlt] at hj
    cases hj
    exact hc j hlt
   ·simp [hge] at hj) hu hsh.1 (by simp [hi, hsh.2])
  exact this
theorem shape_none {x : V} (h : x.shape = none) : x.cells = [x] ∧ x.one = true := by cases x <;> first | exact ⟨rfl, rfl⟩ | (simp [V.shape] at h)
theorem agg_of_shape {x : V} {n : Nat} (h : x.shape = some n) : ∃ cs, x = .agg cs ∧ cs.length = n := by cases x <;> simp [V.shape] at h; exact ⟨_, rfl, h⟩
theorem ok_load {t : TypeId} {x : Operand} {ex : E} {d : TypeDesc} {i : TypeInfo} {sh : Sh} (ho : o.op = .load t x) (hx : cE x = some ex) (hu : P.underlying t = some d) (hi : P.info? t = some i)
  (hsh : match sh with | none => d.isRow = false | some n => d.isRow = true ∧ i.size = n) : OpOk P o (.load sh ex) := by
 refine .of_runs fun σ m w a s K hI hE hW => ?_
 have hr := ev_rep hE hx
 simp only [WOp] at hW
 generalize ev s ex = dx at hW hr
 generalize hux : a.eval x = ux at hr
 unfold WLoad at hW
 cases hr with
 | imm sh' y off b base us hs h1 hc hrr =>
  dsimp only at hW
  split at hW
  ·rename_i hcond
   obtain ⟨rfl, rfl⟩ := hcond
   have hrun := run_load_sh (P := P) (w := w) hu hi (b := b) (p := base + 0) (us := us) hsh (fun j hj => (hc j hj).1)
   refine .still hI (by simp only [execOp, ho, Sem.run_bind, hux, hrun, Result.andThen_ok, Sem.run_pure] <;> rfl) hW (.v _ _ ?_)
   cases sh with
   | none =>
    obtain ⟨hcs, _⟩ := shape_none hs
    exact hrr 0 y (by rw [hcs]; rfl)
   | some n =>
    obtain ⟨cs, rfl, hn⟩ := agg_of_shape hs
    refine .agg cs _ (by simp [hn]) h1 fun j c u hcj huj => ?_
    have hlt : j < n := by rw [← hn]; exact (List.getElem?_eq_some_iff.1 hcj).1
    rw [List.getElem?_map, List.getElem?_range hlt] at huj
    cases huj
    exact hrr j c hcj
  ·split at hW
   ·split at hW
    ·rename_i c hcx
     have hlt : off < shn sh' := by rw [← hs, ← V.cells_length]; exact (List.getElem?_eq_some_iff.1 hcx).1
     have hcell0 : ∀ j, j < shn none → w.cell? ⟨b, base + off + j, none⟩ = some (us (off + j)) := by
      intro j hj
      have hj0 : j = 0 := by simp only [shn] at hj; omega
      subst hj0
      exact (hc off hlt).1
     have hrun := run_load_sh (P := P) (w := w) hu hi (b := b) (p := base + off) (us := fun j => us (off + j)) (sh := none) hsh hcell0
     refine .still hI (by simp only [execOp, ho, Sem.run_bind, hux, hrun, Result.andThen_ok, Sem.run_pure] <;> rfl) hW (.v _ _ ?_)
     exact hrr off c hcx
    ·exact hW.elim
   ·rename_i n _
    obtain ⟨hle, hK⟩ := hW
    have hrun := run_load_sh (P := P) (w := w) hu hi (b := b) (p := base + off) (us := fun j => us (off + j)) (sh := some n) hsh (fun j hj => by
     have := (hc (off + j) (by simp only [shn] at hj; omega)).1
     rw [← Nat.add_assoc] at this
     exact this)
    refine .still hI (by simp only [execOp, ho, Sem.run_bind, hux, hrun, Result.andThen_ok, Sem.run_pure] <;> rfl) hK (.v _ _ ?_)
    have hcl : y.cells.length = shn sh' := by rw [V.cells_length, hs]
    refine .agg _ _ (by simp; omega) (fun c hc => h1 c (List.mem_of_mem_drop (List.mem_of_mem_take hc))) fun j c u hcj huj => ?_
    rw [List.getElem?_take] at hcj
    split at hcj
    ·rename_i hlt
     rw [List.getElem?_drop] at hcj
     rw [List.getElem?_map, List.getElem?_range hlt] at huj
     cases huj
     exact hrr _ c hcj
    ·cases hcj
 | ptr oo off b hb =>
  dsimp only at hW
  split at hW
  ·rename_i cs hcs
   split at hW
   ·split at hW
    ·rename_i dd hdd
     have hb := hI.live hcs (ne_nil_of_get hdd) hb
     obtain ⟨us, ty, hh, hsz, hob, _⟩ := hI.ob oo _ b hcs hb
     have hcell : ∀ j u, us[j]? = some u → w.cell? ⟨b, j, none⟩ = some u := fun j u hj => by rw [cell_of_row w b j us ty (0, 0) hh]; exact hj
     have hlt : off < us.size := Nat.lt_of_lt_of_le (List.getElem?_eq_some_iff.1 hdd).1 hsz
     have hu0 : us[off]? = some us[off] := Array.getElem?_eq_getElem hlt
     have hcell0 : ∀ j, j < shn none → w.cell? ⟨b, off + j, none⟩ = some us[off] := by
      intro j hj
      have hj0 : j = 0 := by simp only [shn] at hj; omega
      subst hj0
      exact hcell off _ hu0
     have hrun := run_load_sh (P := P) (w := w) hu hi (b := b) (p := off) (us := fun j => us[off]) (sh := none) hsh hcell0
     exact .still hI (by simp only [execOp, ho, Sem.run_bind, hux, hrun, Result.andThen_ok, Sem.run_pure] <;> rfl) hW (hob off dd _ hdd hu0).1
    ·exact hW.elim
   ·rename_i n
    obtain ⟨hpos, hle, hK⟩ := hW
    have hb := hI.live hcs (ne_nil_of_lt (i := off) (by omega)) hb
    obtain ⟨us, ty, hh, hsz, hob, _⟩ := hI.ob oo _ b hcs hb
    have hcell : ∀ j u, us[j]? = some u → w.cell? ⟨b, j, none⟩ = some u := fun j u hj => by rw [cell_of_row w b j us ty (0, 0) hh]; exact hj
    have hrun := run_load_sh (P := P) (w := w) hu hi (b := b) (p := off) (us := fun j => us.getD (off + j) undef) (sh := some n) hsh (fun j hj => by
     have hlt : off + j < us.size := by simp only [shn] at hj; omega
     refine hcell _ _ ?_
     simp [Array.getD, hlt])
    refine .still hI (by simp only [execOp, ho, Sem.run_bind, hux, hrun, Result.andThen_ok, Sem.run_pure] <;> rfl) hK (mkAgg_rep (by simp; omega) (fun u huu => ?_) fun j d' u hd' huj => ?_)
    ·obtain ⟨j, hj, rfl⟩ := List.mem_map.1 huu
     have hjn : j < n := List.mem_range.1 hj
     have hlt : off + j < us.size := by omega
     have hlt2 : off + j < cs.length := by omega
     have := (hob (off + j) cs[off + j] us[off + j] (List.getElem?_eq_getElem hlt2) (Array.getElem?_eq_getElem hlt)).2
     simpa [Array.getD, hlt] using this
    ·rw [List.getElem?_take] at hd'
     split at hd'
     ·rename_i hlt
      rw [List.getElem?_drop] at hd'
      rw [List.getElem?_map, List.getElem?_range hlt] at huj
      cases huj
      have hlt2 : off + j < us.size := by omega
      refine (hob (off + j) d' _ hd' ?_).1
      simp [Array.getD, hlt2]
     ·cases hd'
  ·exact hW.elim
 | _ => exact hW.elim
end
end Go.Abs
namespace Go.Abs
open Go
section
variable {P : Program} {o : Oper}
theorem ok_store {t : TypeId} {x y : Operand} {ex ey : E} {i : TypeInfo} {n : Nat} (ho : o.op = .store t x y) (hx : cE x = some ex) (hy : cE y = some ey) (hi : P.info? t = some i) (hn : i.size = n) : OpOk P o (.store n ex ey) := by
 refine .of_runs fun σ m w a s K hI hE hW => ?_
 have hr := ev_rep hE hx
 have hry := ev_rep hE hy
 simp only [WOp] at hW
 generalize ev s ex = dx at hW hr
 generalize ev s ey = dy at hW hry
 generalize hux : a.eval x = ux at hr
 generalize huy : a.eval y = uy at hry
 unfold WStore at hW
 cases hr with
 | ptr oo off b hb =>
  dsimp only at hW
  split at hW
  ·rename_i cs hcs
   obtain ⟨hlies, hlen, hpos, hfit, hK⟩ := hW
   have hb := hI.live hcs (ne_nil_of_lt (i := off) (by omega)) hb
   obtain ⟨us, ty, hh, hsz, hob, hone⟩ := hI.ob oo _ b hcs hb
   obtain ⟨c1, c2, c3⟩ := hry.cellsR hlies
   have hst := run_storeCells_at P b off ty uy.cells.toList 0 us w hh (by simp; omega) c3
   simp only [Nat.add_zero] at hst
   have hmem : b ∈ m.objb := Gh.mem_objb.2 (List.mem_of_getElem? hb)
   have e := Ext.setRow (m := m) (w := w) (us.toList.take off ++ uy.cells.toList ++ us.toList.drop (off + uy.cells.toList.length)).toArray hmem
   have hI' := hI.setRow hb (us.toList.take off ++ uy.cells.toList ++ us.toList.drop (off + uy.cells.toList.length)).toArray (.cells (putAt cs off dy.cells))
    (have hall := row_one (us := us.toList) (vs := uy.cells.toList) (off := off) (R := fun d u => RepD m w d u) (fun i d u h1 h2 => hob i d u h1 (by simpa using h2)) c3 (by simp; omega) (by simpa using hsz)
    ⟨_, ty, setRow_heap w b us _ ty (0, 0) hh, by
     rw [putAt_length (by omega)]
     simp only [List.size_toArray, List.length_append, List.length_take, List.length_drop, Array.length_toList]
     omega, fun j d u hd hu => by
     rw [List.getElem?_toArray] at hu
     have hjl : j < cs.length := by
      have := (List.getElem?_eq_some_iff.1 hd).1
      rwa [putAt_length (by omega)] at this
     have h1 := hall j u hu hjl
     rw [List.append_assoc] at hu
     exact ⟨(putAt_rep (us := us.toList) (vs := uy.cells.toList) (by simp; omega) (fun i d u h1 h2 => (hob i d u h1 (by simpa using h2)).1) (by simpa using c1)
      (fun i d u h1 h2 => c2 i d u h1 (by simpa using h2)) (by omega) j d u hd hu).mono e, h1⟩, trivial⟩)
   refine ⟨.skip, undef, _, m, .undef, _, ?_, .inr ⟨rfl, rfl⟩, hK, hI', e, .tup [] [] rfl (by simp)⟩
   have hsize : uy.cells.size = i.size := by omega
   have hq : (sizeOf t).run P w = .ok i.size w := by simp [sizeOf, typeInfo, hi]
   have hsv : (storeVar t ⟨b, off, none⟩ uy).run P w = .ok () (w.setRow b (us.toList.take off ++ uy.cells.toList ++ us.toList.drop (off + uy.cells.toList.length)).toArray) := by
    simp only [storeVar, Sem.run_bind, hq, Result.andThen_ok, hsize, ne_eq, not_true_eq_false, if_false, Sem.run_ite, hst]
   simp only [execOp, ho, hux, huy, Instr.storeAt, Instr.sureAddr, Sem.run_bind, Sem.run_pure, Result.andThen_ok, hsv]
  ·exact hW.elim
 | _ => exact hW.elim
theorem ok_nilck {x : Operand} {ex : E} (ho : o.op = .nilCheck x) (hx : cE x = some ex) : OpOk P o (.nilck ex) := by
 refine .of_runs fun σ m w a s K hI hE hW => ?_
 have hr := ev_rep hE hx
 simp only [WOp] at hW
 generalize ev s ex = dx at hW hr
 generalize hux : a.eval x = ux at hr
 unfold WNil at hW
 cases hr with
 | ptr oo off b hb => exact .still hI (by simp [execOp, ho, hux]) hW (.ptr oo off b hb)
 | imm sh y off b base us h1 h2 h3 h4 => exact .still hI (by simp [execOp, ho, hux]) hW (.imm sh y off b base us h1 h2 h3 h4)
 | fn f caps us h1 h2 => exact .still hI (by simp [execOp, ho, hux]) hW (.fn f caps us h1 h2)
 | bfn f d u h1 => exact .still hI (by simp [execOp, ho, hux]) hW (.bfn f d u h1)
 | iface t d u h1 => exact .still hI (by simp [execOp, ho, hux]) hW (.iface t d u h1)
 | v y u hy =>
  cases hy with
  | iface t v u hv => exact .still (u := .iface t u) hI (by simp [execOp, ho, hux]) hW (.v _ _ (.iface t v u hv))
  | fn f => exact .still (u := .func (.func f) #[] #[]) hI (by simp [execOp, ho, hux]) hW (.v _ _ (.fn f))
  | _ => exact hW.elim
 | _ => exact hW.elim
theorem ok_un {op : UnOp} {t : TypeId} {x : Operand} {ex : E} (ho : o.op = .unOp op t x) (hx : cE x = some ex) : OpOk P o (.un op ex) := by
 refine .of_runs fun σ m w a s K hI hE hW => ?_
 have hr := ev_rep hE hx
 simp only [WOp] at hW
 generalize ev s ex = dx at hW hr
 unfold WUn at hW
 split at hW
 ·have hu := hr.bool_inv
  exact .still hI (by simp [execOp, ho, hu, Op.unary]) hW (.v _ _ (.bool _))
 ·have hu := hr.int_inv
  exact .still hI (by simp [execOp, ho, hu, Op.unary, Op.intArith]) hW (.v _ _ (.int _ _ (inR_wrap _ _)))
 ·have hu := hr.int_inv
  exact .still hI (by simp [execOp, ho, hu, Op.unary, Op.intBits]) hW (.v _ _ (.int _ _ (inR_wrap _ _)))
 ·exact hW.elim
theorem ok_mkif {t : TypeId} {x : Operand} {ex : E} {d : TypeDesc} (ho : o.op = .makeInterface t x) (hx : cE x = some ex) (hu : P.underlying t = some d) (hd : ∀ ms, d ≠ .interface ms) : OpOk P o (.mkif t ex) := by
 refine .of_runs fun σ m w a s K hI hE hW => ?_
 have hr := ev_rep hE hx
 simp only [WOp] at hW
 refine .still (u := .iface t (a.eval x)) hI ?_ hW ?_
 ·cases d <;> first | exact absurd rfl (hd _) | simp [execOp, ho, Instr.makeInterface, run_underlying hu]
 ·generalize ev s ex = dx at hr
  unfold mkIface
  split
  ·exact .v _ _ (.iface t _ _ hr.v_inv)
  ·exact .iface t _ _ hr
theorem ok_mkfn {f : Nat} {caps : Array Operand} {es : List E} (ho : o.op = .makeFunc (.func f) #[] caps) (hx : cEs caps.toList = some es) : OpOk P o (.mkfn f es) := by
 refine .of_runs fun σ m w a s K hI hE hW => ?_
 obtain ⟨h1, h2⟩ := evs_rep hE hx
 simp only [WOp] at hW
 have hrun : (execOp a.eval o).run P w = .ok (.value (.func (.func f) #[] (caps.toList.map a.eval).toArray)) w := by
  simp [execOp, ho, Instr.makeFunc]
  apply Array.ext'
  simp
 cases es with
 | nil =>
  have h0 : caps.toList = [] := List.eq_nil_of_length_eq_zero (by simpa using h1.symm)
  rw [h0] at hrun
  exact .still hI hrun hW (.v _ _ (.fn f))
 | cons e es => exact .still hI hrun hW (.fn f _ _ (by simpa using h1) h2)
theorem ok_bind {f : Nat} {x : Operand} {ex : E} (ho : o.op = .makeFunc (.func f) #[x] #[]) (hx : cE x = some ex) : OpOk P o (.ext (.bind f) [ex]) := by
 refine .of_runs fun σ m w a s K hI hE hW => ?_
 have hr := ev_rep hE hx
 simp only [WOp, WX, List.map_cons, List.map_nil] at hW
 exact .still (u := .func (.func f) #[a.eval x] #[]) hI (by simp [execOp, ho, Instr.makeFunc]) hW (.bfn f _ _ hr)
theorem ok_faddr {t : TypeId} {x : Operand} {ex : E} {fi : Nat} {fields : Array Field} {f : Field} {i : TypeInfo} (ho : o.op = .fieldAddr t x fi) (hx : cE x = some ex) (hu : P.underlying t = some (.struct fields)) (hf : fields[fi]? = some f)
  (hi : P.info? f.type = some i) (hpos : i.size ≠ 0) : OpOk P o (.faddr f.offset ex) := by
 refine .of_runs fun σ m w a s K hI hE hW => ?_
 have hr := ev_rep hE hx
 simp only [WOp] at hW
 generalize ev s ex = dx at hW hr
 generalize hux : a.eval x = ux at hr
 unfold WFaddr at hW
 have hrun : ∀ b p, a.eval x = .pointer (some ⟨b, p, none⟩) → (execOp a.eval o).run P w = .ok (.value (.pointer (some ⟨b, p + f.offset, none⟩))) w := by
  intro b p h
  simp [execOp, ho, h, Instr.fieldAt, run_underlying hu, hf, Instr.sureAddr, fieldPlace, sizeOf, typeInfo, hi, hpos, Addr.add_lit]
 cases hr with
 | ptr oo off b hb => exact .still hI (hrun b off hux) hW (.ptr oo _ b hb)
 | imm sh y off b base us h1 h2 h3 h4 =>
  refine .still hI (hrun b _ hux) hW ?_
  rw [Nat.add_assoc]
  exact .imm sh y _ b base us h1 h2 h3 h4
 | _ => exact hW.elim
theorem run_part_sh {w : World} {t : TypeId} {d : TypeDesc} {i : TypeInfo} {sh : Sh} (hu : P.underlying t = some d) (hi : P.info? t = some i)
  (hsh : match sh with | none => d.isRow = false | some n => d.isRow = true ∧ i.size = n) (cs : Array Value) (off : Nat) :
  match sh with
  | none => ∀ v, cs[off]? = some v → (part t cs off).run P w = .ok v w
  | some n => (part t cs off).run P w = .ok (.agg (cs.extract off (off + n))) w := by
 cases sh with
 | none =>
  intro v hv
  cases d <;> simp at hsh <;> simp [part, isAgg, run_underlying hu, hv]
 | some n =>
  obtain ⟨h1, h2⟩ := hsh
  cases d <;> simp at h1 <;> simp [part, isAgg, run_underlying hu, sizeOf, typeInfo, hi, h2]
theorem ok_field {t : TypeId} {x : Operand} {ex : E} {fi : Nat} {fields : Array Field} {f : Field} {d : TypeDesc} {i : TypeInfo} {sh : Sh} (ho : o.op = .field t x fi) (hx : cE x = some ex) (hu : P.underlying t = some (.struct fields)) (hf : fields[fi]? = some f)
  (hud : P.underlying f.type = some d) (hi : P.info? f.type = some i) (hsh : match sh with | none => d.isRow = false | some n => d.isRow = true ∧ i.size = n) : OpOk P o (.field sh f.offset ex) := by
 refine .of_runs fun σ m w a s K hI hE hW => ?_
 have hr := ev_rep hE hx
 simp only [WOp] at hW
 generalize ev s ex = dx at hW hr
 generalize hux : a.eval x = ux at hr
 unfold WField at hW
 have key : ∀ (ds : List D) (us : List Value), ux = .agg us.toArray → ds.length = us.length → (∀ u ∈ us, u.oneCell' = true) → (∀ (i : Nat) d u, ds[i]? = some d → us[i]? = some u → RepD m w d u) →
   (match (generalizing := false) sh with
   | none => (match ds[f.offset]? with | some c => K c σ | none => False)
   | some n => f.offset + n ≤ ds.length ∧ K (mkAgg ((ds.drop f.offset).take n)) σ) → Runs1 P o σ m w a K := by
  intro ds us hus hl h1 hrr hk
  have hp := run_part_sh (P := P) (w := w) hud hi hsh us.toArray f.offset
  cases sh with
  | none =>
   dsimp only at hk hp
   split at hk
   ·rename_i c hc
    have hlt : f.offset < us.length := by rw [← hl]; exact (List.getElem?_eq_some_iff.1 hc).1
    have hv := hp us[f.offset] (by simp)
    exact .still hI (by simp [execOp, ho, hux, hus, Instr.field, run_underlying hu, hf, asAgg, hv]) hk (hrr _ c _ hc (List.getElem?_eq_getElem hlt))
   ·exact hk.elim
  | some n =>
   dsimp only at hk hp
   have hex : us.toArray.extract f.offset (f.offset + n) = ((us.drop f.offset).take n).toArray := by
    apply Array.ext'
    simp [List.extract_eq_take_drop]
   rw [hex] at hp
   refine .still hI (by simp [execOp, ho, hux, hus, Instr.field, run_underlying hu, hf, asAgg, hp]; rfl) hk.2 (mkAgg_rep (by simp; omega) (fun u huu => h1 u (List.mem_of_mem_drop (List.mem_of_mem_take huu))) fun j d u hd hu => ?_)
   rw [List.getElem?_take] at hd hu
   split at hd
   ·rename_i hlt
    rw [if_pos hlt] at hu
    rw [List.getElem?_drop] at hd hu
    exact hrr _ d u hd hu
   ·cases hd
 cases hr with
 | agg ds us hl h1 hrr =>
  dsimp only at hW
  exact key ds us rfl hl h1 hrr hW
 | v y u hy =>
  cases hy with
  | agg cs us hl h1 hrr =>
   dsimp only at hW
   refine key (cs.map .v) us rfl (by simpa using hl) (RepV.cells_one h1 hl hrr) (fun i d u hd hu => ?_) ?_
   ·simp only [List.getElem?_map] at hd
    cases hc : cs[i]? with
    | none => simp [hc] at hd
    | some c => simp [hc] at hd; subst hd; exact .v _ _ (hrr i c u hc hu)
   ·cases sh with
    | none =>
     dsimp only at hW ⊢
     rw [List.getElem?_map]
     split at hW
     ·rename_i c hc; rw [hc]; exact hW
     ·exact hW.elim
    | some n =>
     dsimp only at hW ⊢
     refine ⟨by simpa using hW.1, ?_⟩
     have hall : ∀ l : List V, allV (l.map .v) = some l := by
      intro l
      induction l with
      | nil => rfl
      | cons x l ih => simp [allV, ih]
     rw [← List.map_drop, ← List.map_take]
     simp only [mkAgg, hall]
     exact hW.2
  | _ => exact hW.elim
 | _ => exact hW.elim
theorem flat_at {sh : Sh} : ∀ {xs : List V}, (∀ x ∈ xs, x.shape = sh) → ∀ (i : Nat) (y : V), xs[i]? = some y → ∀ (j : Nat) (c : V), y.cells[j]? = some c → (V.flat xs)[i * shn sh + j]? = some c
 | [], _, i, y, h, _, _, _ => by simp at h
 | x :: xs, hs, 0, y, h, j, c, hc => by
  simp at h
  subst h
  simp only [V.flat, List.flatMap_cons, Nat.zero_mul, Nat.zero_add]
  rw [List.getElem?_append_left (List.getElem?_eq_some_iff.1 hc).1]
  exact hc
 | x :: xs, hs, i + 1, y, h, j, c, hc => by
  have ih := flat_at (xs := xs) (fun z hz => hs z (by simp [hz])) i y (by simpa using h) j c hc
  simp only [V.flat, List.flatMap_cons] at *
  have hx : x.cells.length = shn sh := by rw [V.cells_length, hs x (by simp)]
  rw [List.getElem?_append_right (by rw [hx, Nat.add_mul]; omega), hx]
  rw [show (i + 1) * shn sh + j - shn sh = i * shn sh + j by rw [Nat.add_mul]; omega]
  exact ih
theorem ok_iaddr {t e : TypeId} {x y : Operand} {ex ey : E} {i : TypeInfo} {sh : Sh} (ho : o.op = .indexAddr t x y) (hx : cE x = some ex) (hy : cE y = some ey) (hu : P.underlying t = some (.slice e)) (hi : P.info? e = some i) (hsz : i.size = shn sh) : OpOk P o (.iaddr sh ex ey) := by
 refine .of_runs fun σ m w a s K hI hE hW => ?_
 have hr := ev_rep hE hx
 have hry := ev_rep hE hy
 simp only [WOp] at hW
 generalize ev s ex = dx at hW hr
 generalize ev s ey = dy at hW hry
 generalize hux : a.eval x = ux at hr
 have key : ∀ (full : Bool) (xs : List V) (k : IntKind) (n : Int), RepV w (Fz m w) (.sl sh full xs) ux → a.eval y = .int k n → 0 ≤ n → n < xs.length → (∀ y, xs[n.toNat]? = some y → K (.imm sh y 0) σ) → Runs1 P o σ m w a K := by
  intro full xs k n hv hyv h0 hlt hk
  obtain ⟨aa, cap, rfl, hl, hm, hf, hs, h1, hh⟩ := hv.sl_inv
  have hnl : n.toNat < xs.length := by omega
  obtain ⟨z, hz⟩ : ∃ z, xs[n.toNat]? = some z := ⟨_, List.getElem?_eq_getElem hnl⟩
  rcases hh with ⟨hnil, _⟩ | ⟨b, off, us, rfl, hc, hrr⟩
  ·subst hnil; simp at hnl
  ·have hrun : (execOp a.eval o).run P w = .ok (.value (.pointer (some ⟨b, off + n.toNat * shn sh + 0, none⟩))) w := by
    simp [execOp, ho, hux, hyv, Instr.indexAt, run_underlying hu, asIntOf, h0, hlt, sizeOf, typeInfo, hi, hsz, Addr.add_lit]
   refine .still hI hrun (hk z hz) (.imm sh z 0 b (off + n.toNat * shn sh) (fun j => us (n.toNat * shn sh + j)) (hs z (List.mem_of_getElem? hz)) (fun c hcz => ?_) (fun j hj => ?_) (fun j c hcz => ?_))
   ·exact h1 c (List.mem_flatMap.2 ⟨z, List.mem_of_getElem? hz, hcz⟩)
   ·have hle : n.toNat * shn sh + j < xs.length * shn sh := by
     have : (n.toNat + 1) * shn sh ≤ xs.length * shn sh := Nat.mul_le_mul_right _ hnl
     rw [Nat.add_mul, Nat.one_mul] at this
     omega
    have := hc _ hle
    rw [← Nat.add_assoc] at this
    exact this
   ·exact hrr _ c (flat_at hs n.toNat z hz j c hcz)
 unfold WIaddr at hW
 split at hW
 ·obtain ⟨rfl, h0, hlt, hk⟩ := hW
  exact key _ _ _ _ hr.v_inv hry.int_inv h0 hlt hk
 ·obtain ⟨rfl, h0, hlt, hk⟩ := hW
  cases hr with
  | tsl t sh xs aa len cap tk hv _ _ _ _ => exact key _ _ _ _ hv hry.int_inv h0 hlt hk
 ·rename_i oo off len sh' cp k n
  obtain ⟨rfl, h0, hlt, hk⟩ := hW
  have hyv := hry.int_inv
  cases hr with
  | msl _ _ _ _ _ aa cap hol hbb hlc hcm hcc =>
  rcases hbb with ⟨b, rfl, hb⟩ | ⟨hl0, _⟩
  ·have hnl : n.toNat < len := by omega
   have hrun : (execOp a.eval o).run P w = .ok (.value (.pointer (some ⟨b, off + n.toNat * shn sh, none⟩))) w := by
    simp [execOp, ho, hux, hyv, Instr.indexAt, run_underlying hu, asIntOf, h0, hlt, sizeOf, typeInfo, hi, hsz, Addr.add_lit]
   exact .still hI hrun hk (.ptr _ _ b hb)
  ·omega
 ·exact hW.elim
theorem ok_index {t : TypeId} {x y : Operand} {ex ey : E} (ho : o.op = .index t x y) (hx : cE x = some ex) (hy : cE y = some ey) (hu : P.underlying t = some .string) : OpOk P o (.index ex ey) := by
 refine .of_runs fun σ m w a s K hI hE hW => ?_
 have hr := ev_rep hE hx
 have hry := ev_rep hE hy
 simp only [WOp] at hW
 generalize ev s ex = dx at hW hr
 generalize ev s ey = dy at hW hry
 unfold WIndex at hW
 split at hW
 ·rename_i l k n
  obtain ⟨h0, hlt, hk⟩ := hW
  have hnl : n.toNat < l.length := by omega
  obtain ⟨b, hb⟩ : ∃ b, l[n.toNat]? = some b := ⟨_, List.getElem?_eq_getElem hnl⟩
  have hba : (⟨l.toArray⟩ : ByteArray)[n.toNat]? = some b := by
   have hlt' : n.toNat < (⟨l.toArray⟩ : ByteArray).size := by simpa [ByteArray.size] using hnl
   rw [getElem?_pos (⟨l.toArray⟩ : ByteArray) n.toNat hlt']
   have : (⟨l.toArray⟩ : ByteArray)[n.toNat] = l[n.toNat] := rfl
   rw [this]
   exact (List.getElem?_eq_getElem hnl).symm.trans hb
  exact .still hI (by simp [execOp, ho, hr.str_inv, hry.int_inv, Instr.index, run_underlying hu, asIntOf, h0, hba]) (hk b hb) (.v _ _ (.int _ _ (inR_byte b)))
 ·exact hW.elim
theorem ok_extract {x : Operand} {ex : E} {n : Nat} (ho : o.op = .extract x n) (hx : cE x = some ex) : OpOk P o (.extract ex n) := by
 refine .of_runs fun σ m w a s K hI hE hW => ?_
 have hr := ev_rep hE hx
 simp only [WOp] at hW
 generalize ev s ex = dx at hW hr
 generalize hux : a.eval x = ux at hr
 unfold WExtract at hW
 cases hr with
 | tup ds us hl hrr =>
  dsimp only at hW
  split at hW
  ·rename_i d hd
   have hlt : n < us.length := by rw [← hl]; exact (List.getElem?_eq_some_iff.1 hd).1
   exact .still hI (by simp [execOp, ho, hux, Instr.extract, hlt] <;> rfl) hW (hrr n d us[n] hd (List.getElem?_eq_getElem hlt))
  ·exact hW.elim
 | _ => exact hW.elim
theorem ok_len {t : TypeId} {x : Operand} {ex : E} {d : TypeDesc} {k : LenK} (ho : o.op = .call { callee := .builtin .len, args := #[x], argTypes := #[t] }) (hx : cE x = some ex) (hu : P.underlying t = some d)
  (hd : match k with | .str => d = .string | .sl => ∃ e, d = .slice e | .mp => ∃ p q, d = .map p q) : OpOk P o (.len k ex) := by
 refine .of_runs fun σ m w a s K hI hE hW => ?_
 have hr := ev_rep hE hx
 simp only [WOp] at hW
 generalize ev s ex = dx at hW hr
 generalize hux : a.eval x = ux at hr
 have hsl : ∀ (aa : Option Addr) (n c : Nat), ux = .slice aa n c → (∃ e, d = .slice e) → (execOp a.eval o).run P w = .ok (.value (.int .i64 n)) w := by
  rintro aa n c rfl ⟨e, rfl⟩
  simp [execOp, ho, hux, resolve, invoke, builtin, Builtin.len_, run_underlying hu, goInt]
 unfold WLen at hW
 split at hW
 ·rename_i l
  have hu' := hr.str_inv
  subst hu'
  have hd' : d = .string := hd
  subst hd'
  exact .still (u := .int .i64 (⟨l.toArray⟩ : ByteArray).size) hI (by simp [execOp, ho, hux, resolve, invoke, builtin, Builtin.len_, run_underlying hu, goInt]) hW (.v _ _ (.int _ _ (inR_nat hr.str_r)))
 ·have hv := hr.v_inv
  cases hv
  exact .still hI (hsl none 0 0 rfl hd) hW (.v _ _ (.int _ _ (by decide)))
 ·obtain ⟨aa, cap, rfl, hlc, hmc, _⟩ := hr.v_inv.sl_inv
  exact .still hI (hsl _ _ _ rfl hd) hW (.v _ _ (.int _ _ (inR_nat (Nat.le_trans hlc hmc))))
 ·cases hr with
  | tsl t sh xs aa len cap tk hv _ _ _ _ =>
   obtain ⟨aa', cap', he, hlc, hmc, _⟩ := hv.sl_inv
   cases he
   exact .still hI (hsl _ _ _ rfl hd) hW (.v _ _ (.int _ _ (inR_nat (Nat.le_trans hlc hmc))))
 ·cases hr with
  | msl _ _ _ _ _ aa cap hol hbb hlc hcm hcc =>
   exact .still hI (hsl _ _ _ rfl hd) hW (.v _ _ (.int _ _ (inR_nat (Nat.le_trans hlc hcm))))
 ·have hv := hr.v_inv
  cases hv
  obtain ⟨p, q, rfl⟩ := hd
  exact .still hI (by simp [execOp, ho, hux, resolve, invoke, builtin, Builtin.len_, run_underlying hu, goInt] <;> rfl) hW (.v _ _ (.int _ _ (by decide)))
 ·cases hr with
  | map _ b hb =>
   obtain ⟨p, q, rfl⟩ := hd
   split at hW
   ·rename_i es hes
    have hb := hI.live hes (by simp) hb
    obtain ⟨ms, clock, hh, hsz, _⟩ := hI.ob _ _ b hes hb
    exact .still hI (by simp [execOp, ho, hux, resolve, invoke, builtin, Builtin.len_, run_underlying hu, goInt, getObj, Sem.run, hh, hsz] <;> rfl) hW.2 (.v _ _ (.int _ _ (inR_nat hW.1)))
   ·exact hW.elim
 ·exact hW.elim
theorem toList_eq_data (s : ByteArray) : s.toList = s.data.toList := by rw [ByteArray.toList_eq]
end
end Go.Abs
namespace Go.Abs
open Go
section
variable {P : Program} {o : Oper}
theorem flat_bytes (s : List UInt8) : V.flat (bytesV s) = bytesV s := by
 induction s with
 | nil => rfl
 | cons b s ih => simp only [bytesV, V.flat, List.map_cons, List.flatMap_cons] at *; rw [ih]; rfl
theorem bytes_shape (s : List UInt8) : ∀ x ∈ bytesV s, x.shape = none := by
 intro x hx
 obtain ⟨b, _, rfl⟩ := List.mem_map.1 hx
 rfl
theorem bytes_one (s : List UInt8) : ∀ x ∈ bytesV s, x.one = true := by
 intro x hx
 obtain ⟨b, _, rfl⟩ := List.mem_map.1 hx
 rfl
def bytesU (s : List UInt8) : List Value := s.map fun b => .int .u8 b.toNat
theorem bytes_rep {w : World} {F : Nat → Nat → Prop} (s : List UInt8) (i : Nat) (c : V) (u : Value) (hc : (bytesV s)[i]? = some c) (hu : (bytesU s)[i]? = some u) : RepV w F c u := by
 simp only [bytesV, bytesU, List.getElem?_map] at hc hu
 cases hs : s[i]? with
 | none => simp [hs] at hc
 | some b => simp [hs] at hc hu; subst hc hu; exact .int _ _ (inR_byte b)
theorem bytes_rep_eq {w : World} {F : Nat → Nat → Prop} (s : List UInt8) {us : List Value} (hl : us.length = s.length) (h : ∀ (i : Nat) c u, (bytesV s)[i]? = some c → us[i]? = some u → RepV w F c u) : us = bytesU s := by
 apply List.ext_getElem?
 intro i
 simp only [bytesU, List.getElem?_map]
 rcases Nat.lt_or_ge i s.length with hlt | hge
 ·have hu : us[i]? = some us[i] := List.getElem?_eq_getElem (by omega)
  have hb : s[i]? = some s[i] := List.getElem?_eq_getElem hlt
  have hr := h i (.int .u8 s[i].toNat) us[i] (by simp [bytesV, hb]) hu
  rw [hu, hb]
  generalize us[i] = u at hr
  cases hr
  rfl
 ·rw [List.getElem?_eq_none (by omega), List.getElem?_eq_none hge]
  rfl
theorem foldl_bytes (s : List UInt8) : ∀ (r : ByteArray), (s.map fun b : UInt8 => (b.toNat : Int)).foldl (fun r n => r.push (UInt8.ofNat n.toNat)) r = ⟨(r.data.toList ++ s).toArray⟩ := by
 induction s with
 | nil => intro r; simp
 | cons b s ih =>
  intro r
  simp only [List.map_cons, List.foldl_cons]
  rw [ih]
  simp [ByteArray.push]
theorem ok_conv_int {src dst : TypeId} {x : Operand} {ex : E} {d : TypeDesc} {k : IntKind} (ho : o.op = .convert src dst x) (hx : cE x = some ex) (hs : P.underlying src = some d) (hd : P.underlying dst = some (.int k)) : OpOk P o (.conv (.toInt k) ex) := by
 refine .of_runs fun σ m w a s K hI hE hW => ?_
 have hr := ev_rep hE hx
 simp only [WOp] at hW
 generalize ev s ex = dx at hW hr
 unfold WConv at hW
 cases dx with
 | v y =>
  cases y with
  | int l n => exact .still hI (by simp [execOp, ho, hr.int_inv, convert, run_underlying hs, run_underlying hd, Conv.intToInt] <;> rfl) hW (.v _ _ (.int _ _ (inR_wrap _ _)))
  | _ => exact hW.elim
 | _ => exact hW.elim
theorem ok_conv_str {src dst : TypeId} {x : Operand} {ex : E} {d : TypeDesc} (ho : o.op = .convert src dst x) (hx : cE x = some ex) (hs : P.underlying src = some d) (hd : P.underlying dst = some .string) : OpOk P o (.conv .strs ex) := by
 refine .of_runs fun σ m w a s K hI hE hW => ?_
 have hr := ev_rep hE hx
 simp only [WOp] at hW
 generalize ev s ex = dx at hW hr
 unfold WConv at hW
 cases dx with
 | v y =>
  cases y with
  | str l => exact .still hI (by simp [execOp, ho, hr.str_inv, convert, run_underlying hs, run_underlying hd] <;> rfl) hW (.v _ _ (.str _ hr.str_r))
  | _ => exact hW.elim
 | _ => exact hW.elim
theorem ok_conv_of {src dst e : TypeId} {x : Operand} {ex : E} (ho : o.op = .convert src dst x) (hx : cE x = some ex) (hs : P.underlying src = some (.slice e)) (he : P.underlying e = some (.int .u8)) (hd : P.underlying dst = some .string) : OpOk P o (.conv .ofBytes ex) := by
 refine .of_runs fun σ m w a s K hI hE hW => ?_
 have hr := ev_rep hE hx
 simp only [WOp] at hW
 generalize ev s ex = dx at hW hr
 generalize hux : a.eval x = ux at hr
 have key : ∀ (sh : Sh) (full : Bool) (l : List UInt8), RepV w (Fz m w) (.sl sh full (bytesV l)) ux → K (.v (.str l)) σ → Runs1 P o σ m w a K := by
  intro sh full l hv hk
  obtain ⟨aa, cap, rfl, hl, hm, hf, hsh, h1, hh⟩ := hv.sl_inv
  rcases hh with ⟨hnil, rfl⟩ | ⟨b, off, us, rfl, hc, hrr⟩
  ·have hl0 : l = [] := by simpa [bytesV] using hnil
   subst hl0
   exact .still (u := .string ⟨#[]⟩) hI (by cases aa <;> simp [execOp, ho, hux, run_convert_bytes_string w src dst e _ _ _ hs he hd, Conv.bytesToString, bytesV] <;> rfl) hk (.v _ _ (.str [] (by decide)))
  ·have hn1 : l.length * shn sh = l.length := by
    cases l with
    | nil => simp
    | cons b l =>
     have := hsh (.int .u8 b.toNat) (by simp [bytesV])
     have hnn : sh = none := this.symm
     subst hnn
     simp [shn]
   have hbl : (bytesV l).length = l.length := by simp [bytesV]
   rw [hbl, hn1] at hc
   have hus : (List.range l.length).map us = bytesU l := by
    refine bytes_rep_eq (w := w) (F := Fz m w) l (by simp) fun i c u hci hui => ?_
    have hlt : i < l.length := by have := (List.getElem?_eq_some_iff.1 hci).1; simpa [bytesV] using this
    rw [List.getElem?_map, List.getElem?_range hlt] at hui
    cases hui
    exact hrr i c (by rw [flat_bytes]; exact hci)
   have hload := run_loadCells_list (P := P) w ⟨b, off, none⟩ ((List.range l.length).map us) fun j v hj => by
    simp only [List.getElem?_map] at hj
    rcases Nat.lt_or_ge j l.length with hlt | hge
    ·rw [List.getElem?_range hlt] at hj
     cases hj
     rw [Addr.add_lit]
     exact (hc j hlt).1
    ·simp [hge] at hj
   rw [hus] at hload
   have hbu : bytesU l = (l.map fun b : UInt8 => (b.toNat : Int)).map (Value.int .u8) := by simp [bytesU]
   rw [hbu] at hload
   have hlen : ((l.map fun b : UInt8 => (b.toNat : Int)).map (Value.int .u8)).length = (bytesV l).length := by simp [bytesV]
   rw [hlen] at hload
   have hrun := run_bytesToString (P := P) w ⟨b, off, none⟩ (bytesV l).length cap (l.map fun b : UInt8 => (b.toNat : Int)) hload
   rw [foldl_bytes] at hrun
   refine .still (u := .string ⟨l.toArray⟩) hI ?_ hk (.v _ _ (.str l (by rw [hbl] at hl; exact Nat.le_trans hl hm)))
   simp only [execOp, ho, hux, Sem.run_bind, run_convert_bytes_string w src dst e _ _ _ hs he hd, hrun, Result.andThen_ok, Sem.run_pure]
   rfl
 unfold WConv at hW
 split at hW
 ·cases ‹ConvK.ofBytes = _›
 ·cases ‹ConvK.ofBytes = _›
 ·cases ‹ConvK.ofBytes = _›
 ·exact key none false [] (by have := hr.v_inv; cases this; exact .slNil _ _ _) hW
 ·obtain ⟨l, rfl, hk⟩ := hW
  exact key _ _ l hr.v_inv hk
 ·obtain ⟨l, rfl, hk⟩ := hW
  cases hr with
  | tsl t sh xs aa len cap tk hv _ _ _ _ => exact key _ _ l hv hk
 ·exact hW.elim
end
end Go.Abs
namespace Go.Abs
open Go
section
variable {P : Program} {o : Oper}
theorem ok_conv_to {src dst e : TypeId} {x : Operand} {ex : E} (ho : o.op = .convert src dst x) (hx : cE x = some ex) (hs : P.underlying src = some .string) (hd : P.underlying dst = some (.slice e)) (he : P.underlying e = some (.int .u8)) : OpOk P o (.conv .toBytes ex) := by
 refine .of_runs fun σ m w a s K hI hE hW => ?_
 have hr := ev_rep hE hx
 simp only [WOp] at hW
 generalize ev s ex = dx at hW hr
 obtain ⟨l, rfl, hml, hk⟩ : ∃ l, dx = .v (.str l) ∧ l.length ≤ maxLen ∧ K (.v (.sl none false (bytesV l))) σ := by
  unfold WConv at hW
  cases dx with
  | v y =>
   cases y with
   | str l => exact ⟨l, rfl, hW⟩
   | _ => exact hW.elim
  | _ => exact hW.elim
 ·have hus := hr.str_inv
  generalize hC : (Question.appendCap l.length 0 e).cut (w.tape w.drawn (.appendCap l.length 0 e)) = C
  have hCge : l.length ≤ C := by rw [← hC]; simp [Question.cut]
  have hCle : C ≤ maxLen := by
   rw [← hC]
   have hlt := Nat.mod_lt (w.tape w.drawn (.appendCap l.length 0 e)) (show 0 < 2 ^ 63 - l.length by simp only [maxLen] at hml; omega)
   simp only [Question.cut, maxLen] at hml ⊢
   omega
  generalize hA : (bytesU l).toArray ++ Array.replicate (C - l.length) (Value.int .u8 0) = arr
  have hsz : arr.size = C := by rw [← hA]; simp [bytesU]; omega
  have hbytes : Array.map (fun b : UInt8 => Value.int .u8 (b.toNat : Int)) l.toArray = (bytesU l).toArray := by simp [bytesU]
  have hshape : (w.drew.alloc (.cells arr e)).shape? w.heap.size = some (e, C) := by
   have := heap_alloc_new w.drew (.cells arr e)
   simp only [World.shape?]
   rw [show w.heap.size = w.drew.heap.size from rfl, this]
   simp [hsz]
  have hrun : (execOp a.eval o).run P w = .ok (.value (.slice (some ⟨w.heap.size, 0, none⟩) l.length C)) ((w.drew.alloc (.cells arr e)).freeze ⟨w.heap.size, C, none⟩ 1) := by
   simp only [execOp, ho, hus, Sem.run_bind, convert, run_underlying hs, run_underlying hd, run_underlying he, Result.andThen_ok, Conv.stringToBytes, run_choose, Question.forced]
   have hs0 : (⟨l.toArray⟩ : ByteArray).size = l.length := by simp [ByteArray.size]
   simp only [hs0, hC, Bool.false_eq_true, if_false, Result.andThen_ok, newRow, Sem.run_bind, run_newObj, Sem.run_pure, hbytes, hA, markStringish, run_shape]
   have hsh : World.shape? { os := w.os, tape := w.tape, drawn := w.drawn + 1, output := w.output, heap := w.heap.push (Obj.cells arr e) } w.heap.size = some (e, C) := hshape
   simp only [hsh, run_freeze, Result.andThen_ok]
   rfl
  have hold : ∀ b, b < w.heap.size → ((w.drew.alloc (.cells arr e)).freeze ⟨w.heap.size, C, none⟩ 1).heap[b]? = w.heap[b]? := by
   intro b hb
   have h1 := heap_alloc_lt w.drew (.cells arr e) hb
   simp only [World.freeze, Nat.one_ne_zero, if_false, Array.getElem?_modify]
   rw [if_neg (by omega)]
   exact h1
  have hsize : w.heap.size < ((w.drew.alloc (.cells arr e)).freeze ⟨w.heap.size, C, none⟩ 1).heap.size := by
   simp [World.freeze]
  have hcell : ∀ j, ((w.drew.alloc (.cells arr e)).freeze ⟨w.heap.size, C, none⟩ 1).cell? ⟨w.heap.size, j, none⟩ = arr[j]? := by
   intro j
   have h1 : (w.drew.alloc (.cells arr e)).heap[w.heap.size]? = some (.cells arr e (0, 0)) := heap_alloc_new w.drew _
   simp only [World.cell?, World.freeze, Nat.one_ne_zero, if_false, Array.getElem?_modify, if_true, h1, Option.map_some]
   rfl
  have e1 : Ext m w m ((w.drew.alloc (.cells arr e)).freeze ⟨w.heap.size, C, none⟩ 1) := by
   refine .of_old ?_ ?_ ?_ (by omega) hold <;> simp [World.freeze] <;> rfl
  refine ⟨_, _, _, m, _, _, hrun, .inl rfl, hk, hI.of_old e1 hold, e1, .v _ _ ?_⟩
  have hbl : (bytesV l).length = l.length := by simp [bytesV]
  have := RepV.sl (w := (w.drew.alloc (.cells arr e)).freeze ⟨w.heap.size, C, none⟩ 1) (F := Fz m ((w.drew.alloc (.cells arr e)).freeze ⟨w.heap.size, C, none⟩ 1)) none false (bytesV l) w.heap.size 0 C (fun j => (bytesU l).getD j undef)
   (bytes_shape l) (by rw [flat_bytes]; exact bytes_one l) (by rw [hbl]; exact hCge) hCle (by simp)
   (fun j hj => by
    rw [hbl] at hj
    simp only [shn, Nat.mul_one] at hj
    refine ⟨?_, hsize, fun hx => by have := hI.lt_block (Gh.mut_block hx); omega⟩
    rw [Nat.zero_add, hcell j, ← hA]
    have hju : j < (bytesU l).length := by simpa [bytesU] using hj
    rw [Array.getElem?_append_left (by simpa using hju)]
    simp [List.getD, hju])
   (fun j c hj => by
    rw [flat_bytes] at hj
    have hju : j < (bytesU l).length := by have := (List.getElem?_eq_some_iff.1 hj).1; simpa [bytesU, bytesV] using this
    refine bytes_rep l j c _ hj ?_
    simp [List.getD, hju])
  rw [hbl] at this
  exact this
theorem run_sliceBound (k : IntKind) (i : Int) (y : Nat) (code : BoundsCode) (w : World) (h0 : 0 ≤ i) (h : i ≤ y) : (Instr.sliceBound (.int k i) y code).run P w = .ok i.toNat w := by
 simp [Instr.sliceBound, asIntOf, h0, h]
theorem asI_inv {m : Gh} {w : World} {d : D} {n : Int} {u : Value} (h : asI d = some n) (r : RepD m w d u) : ∃ k, u = .int k n := by
 unfold asI at h
 split at h
 ·cases h; exact ⟨_, r.int_inv⟩
 ·cases h
def OptRep (m : Gh) (w : World) : Option D → Option Value → Prop
 | none, none => True
 | some d, some u => RepD m w d u
 | _, _ => False
def roomOf (cap : Nat) : Option Int → Nat
 | none => cap
 | some v => v.toNat
theorem run_sliceBounds' {m : Gh} {w : World} (isSlice : Bool) (len cap : Nat) (hlc : len ≤ cap) {lo hi mx : Option D} {ul uh um : Option Value} (rl : OptRep m w lo ul) (rh : OptRep m w hi uh) (rm : OptRep m w mx um)
  {l h : Int} {q : Option Int} (hb : bounds len lo hi mx = some (l, h, q)) (hmh : mx.isSome = true → hi.isSome = true) (h0 : 0 ≤ l) (hl : l ≤ h) (hh : h ≤ cap) (hq : ∀ v, q = some v → h ≤ v ∧ v ≤ cap) :
  (Instr.sliceBounds isSlice len cap ul uh um).run P w = .ok (l.toNat, h.toNat, roomOf cap q) w := by
 obtain ⟨b1, b2, b3⟩ : loI lo = some l ∧ hiI len hi = some h ∧ mxI mx = some q := by
  unfold bounds at hb
  split at hb
  ·cases hb
   exact ⟨‹_›, ‹_›, ‹_›⟩
  ·cases hb
 have lov : (ul = none ∧ l = 0) ∨ ∃ k, ul = some (.int k l) := by
  cases lo with
  | none => cases ul with
   | none => simp only [loI, Option.some.injEq] at b1; exact .inl ⟨rfl, b1.symm⟩
   | some u => exact rl.elim
  | some d => cases ul with
   | none => exact rl.elim
   | some u =>
    obtain ⟨k, hk⟩ := asI_inv b1 rl
    exact .inr ⟨k, by rw [hk]⟩
 have hiv : (uh = none ∧ h = len ∧ hi = none) ∨ ∃ k, uh = some (.int k h) := by
  cases hi with
  | none => cases uh with
   | none => simp only [hiI, Option.some.injEq] at b2; exact .inl ⟨rfl, b2.symm, rfl⟩
   | some u => exact rh.elim
  | some d => cases uh with
   | none => exact rh.elim
   | some u =>
    obtain ⟨k, hk⟩ := asI_inv b2 rh
    exact .inr ⟨k, by rw [hk]⟩
 have mxv : (um = none ∧ q = none) ∨ ∃ k v, um = some (.int k v) ∧ q = some v ∧ hi.isSome = true := by
  cases mx with
  | none => cases um with
   | none => simp only [mxI, Option.some.injEq] at b3; exact .inl ⟨rfl, b3.symm⟩
   | some u => exact rm.elim
  | some d => cases um with
   | none => exact rm.elim
   | some u =>
    simp only [mxI] at b3
    split at b3
    ·rename_i v hv
     cases b3
     obtain ⟨k, hk⟩ := asI_inv hv rm
     exact .inr ⟨k, v, by rw [hk], rfl, hmh rfl⟩
    ·cases b3
 rcases mxv with ⟨rfl, rfl⟩ | ⟨km, v, rfl, rfl, his⟩
 ·rcases hiv with ⟨rfl, rfl, _⟩ | ⟨kh, rfl⟩ <;> rcases lov with ⟨rfl, rfl⟩ | ⟨kl, rfl⟩
  ·simp [Instr.sliceBounds, roomOf]
  ·simp [Instr.sliceBounds, roomOf, run_sliceBound (P := P) kl l len _ w h0 hl]
  ·simp [Instr.sliceBounds, roomOf, run_sliceBound (P := P) kh h cap _ w (by omega) (by omega)]
  ·simp [Instr.sliceBounds, roomOf, run_sliceBound (P := P) kh h cap _ w (by omega) (by omega), run_sliceBound (P := P) kl l h.toNat _ w h0 (by omega)]
 ·obtain ⟨hv1, hv2⟩ := hq v rfl
  rcases hiv with ⟨_, _, hn⟩ | ⟨kh, rfl⟩
  ·rw [hn] at his; cases his
  ·rcases lov with ⟨rfl, rfl⟩ | ⟨kl, rfl⟩
   ·simp [Instr.sliceBounds, roomOf, run_sliceBound (P := P) km v cap _ w (by omega) (by omega), run_sliceBound (P := P) kh h v.toNat _ w (by omega) (by omega)]
   ·simp [Instr.sliceBounds, roomOf, run_sliceBound (P := P) km v cap _ w (by omega) (by omega), run_sliceBound (P := P) kh h v.toNat _ w (by omega) (by omega), run_sliceBound (P := P) kl l h.toNat _ w h0 (by omega)]
theorem run_sliceBounds {m : Gh} {w : World} (isSlice : Bool) (len cap : Nat) (hlc : len ≤ cap) {lo hi mx : Option D} {ul uh um : Option Value} (rl : OptRep m w lo ul) (rh : OptRep m w hi uh) (rm : OptRep m w mx um)
  {l h : Int} {q : Option Int} (hb : bounds len lo hi mx = some (l, h, q)) (hmh : mx.isSome = true → hi.isSome = true) (h0 : 0 ≤ l) (hl : l ≤ h) (hh : h ≤ len) (hq : ∀ v, q = some v → h ≤ v ∧ v ≤ len) :
  (Instr.sliceBounds isSlice len cap ul uh um).run P w = .ok (l.toNat, h.toNat, roomOf cap q) w :=
 run_sliceBounds' isSlice len cap hlc rl rh rm hb hmh h0 hl (by omega) fun v hv => by have := hq v hv; omega
end
end Go.Abs
namespace Go.Abs
open Go
section
variable {P : Program} {o : Oper}
def cEo : Option Operand → Option (Option E)
 | none => some none
 | some x => match cE x with
  | some e => some (some e)
  | none => none
theorem evo_rep {m : Gh} {w : World} {s : List (Nat × D)} {a : Act} (h : EnvR m w s a.tmps) {x : Option Operand} {e : Option E} (hc : cEo x = some e) : OptRep m w (e.map (ev s)) (x.map a.eval) ∧ (e.isSome = x.isSome) := by
 cases x with
 | none => cases hc; exact ⟨trivial, rfl⟩
 | some x =>
  simp only [cEo] at hc
  split at hc
  ·rename_i e' he
   cases hc
   exact ⟨ev_rep h he, rfl⟩
  ·cases hc
theorem flat_take_drop {sh : Sh} {xs : List V} (hs : ∀ x ∈ xs, x.shape = sh) (l h : Nat) (i : Nat) (c : V) (hc : (V.flat ((xs.take h).drop l))[i]? = some c) : (V.flat xs)[l * shn sh + i]? = some c := by
 have hs' : ∀ x ∈ (xs.take h).drop l, x.shape = sh := fun x hx => hs x (List.mem_of_mem_take (List.mem_of_mem_drop hx))
 have hlt := (List.getElem?_eq_some_iff.1 hc).1
 have hflen := V.flat_length hs'
 by_cases hsz : shn sh = 0
 ·rw [hflen, hsz] at hlt; omega
 have e1 : xs = xs.take l ++ xs.drop l := (List.take_append_drop l xs).symm
 have e2 : (xs.take h).drop l = (xs.drop l).take (h - l) := by rw [List.drop_take]
 rw [e2] at hc hlt
 have e3 : xs.drop l = (xs.drop l).take (h - l) ++ (xs.drop l).drop (h - l) := (List.take_append_drop _ _).symm
 have hl : l ≤ xs.length := by
  rcases Nat.lt_or_ge xs.length l with hx | hx
  ·rw [List.drop_eq_nil_of_le (Nat.le_of_lt hx)] at hlt; simp [V.flat] at hlt
  ·exact hx
 have hfl : (V.flat (xs.take l)).length = l * shn sh := by
  rw [V.flat_length (sh := sh) fun x hx => hs x (List.mem_of_mem_take hx), List.length_take, Nat.min_eq_left hl]
 rw [e1, V.flat_append, List.getElem?_append_right (by omega), hfl, show l * shn sh + i - l * shn sh = i by omega, e3, V.flat_append, List.getElem?_append_left hlt]
 exact hc
theorem RepV.piece {w : World} {F : Nat → Nat → Prop} {sh : Sh} {full : Bool} {xs : List V} {a : Option Addr} {len cap : Nat} (hv : RepV w F (.sl sh full xs) (.slice a len cap)) (l h mm : Nat) (hl : l ≤ h) (hh : h ≤ xs.length) (hm : h ≤ mm) (hmc : mm ≤ cap) {f : Bool} (hf : f = true → mm = h) :
  RepV w F (.sl sh f ((xs.take h).drop l)) (.slice (if mm = l then a else a.map (·.add (l * shn sh))) (h - l) (mm - l)) := by
 obtain ⟨a', cap', he, hlc, hcm, _, hs, h1, hx⟩ := hv.sl_inv
 cases he
 have hlen : ((xs.take h).drop l).length = h - l := by simp; omega
 have hs' : ∀ x ∈ (xs.take h).drop l, x.shape = sh := fun x hx => hs x (List.mem_of_mem_take (List.mem_of_mem_drop hx))
 have h1' : ∀ c ∈ V.flat ((xs.take h).drop l), c.one = true := by
  intro c hc
  obtain ⟨x, hx, hcx⟩ := List.mem_flatMap.1 hc
  exact h1 c (List.mem_flatMap.2 ⟨x, List.mem_of_mem_take (List.mem_of_mem_drop hx), hcx⟩)
 rcases hx with ⟨rfl, rfl⟩ | ⟨b, off, us, rfl, hc, hr⟩
 ·have hh0 : h = 0 := by simpa using hh
  have hl0 : l = 0 := by omega
  have hm0 : mm = 0 := by omega
  subst hh0 hl0 hm0
  exact .slNil sh f a
 ·rw [← hlen]
  by_cases hml : mm = l
  ·rw [if_pos hml]
   have hlh : h = l := by omega
   have hnil : (xs.take h).drop l = [] := by apply List.eq_nil_of_length_eq_zero; omega
   rw [hnil]
   exact .sl sh f [] b off (mm - l) us (by simp) (by simp [V.flat]) (by simp) (by simp only [maxLen] at *; omega) (fun _ => by simp; omega) (by simp) (by simp [V.flat])
  ·rw [if_neg hml]
   simp only [Option.map_some, Addr.add_lit]
   refine .sl sh f _ b (off + l * shn sh) (mm - l) (fun j => us (l * shn sh + j)) hs' h1' (by omega) (by simp only [maxLen] at *; omega) (fun hft => by have := hf hft; omega) (fun j hj => ?_) (fun j c hj => hr _ c (flat_take_drop hs l h j c hj))
   have hle : l * shn sh + j < xs.length * shn sh := by
    rw [hlen] at hj
    have h2 : (l + (h - l)) * shn sh ≤ xs.length * shn sh := Nat.mul_le_mul_right _ (by omega)
    rw [Nat.add_mul] at h2
    omega
   have := hc _ hle
   rw [← Nat.add_assoc] at this
   exact this
theorem ok_slice_str {t : TypeId} {x : Operand} {lo hi : Option Operand} {ex : E} {el eh : Option E} (ho : o.op = .slice t x lo hi none) (hx : cE x = some ex) (hlo : cEo lo = some el) (hhi : cEo hi = some eh) (hu : P.underlying t = some .string) : OpOk P o (.slice .str ex el eh none) := by
 refine .of_runs fun σ m w a s K hI hE hW => ?_
 have hr := ev_rep hE hx
 simp only [WOp, WSl] at hW
 generalize ev s ex = dx at hW hr
 obtain ⟨ll, h0⟩ : ∃ ll, dx = .v (.str ll) ∧ WSlice .str (.v (.str ll)) (el.map (ev s)) (eh.map (ev s)) none (fun v => K (.v v) σ) := by
  cases dx with
  | v y =>
   cases y with
   | str l => exact ⟨l, rfl, hW⟩
   | _ => exact hW.elim
  | _ => exact hW.elim
 obtain ⟨rfl, h0⟩ := h0
 simp only [WSlice] at h0
 split at h0
 ·rename_i l h hb
  obtain ⟨q0, q1, q2, hk⟩ := h0
  have hsz : (⟨ll.toArray⟩ : ByteArray).size = ll.length := by simp [ByteArray.size]
  have hrun := run_sliceBounds (P := P) (w := w) false ll.length ll.length (Nat.le_refl _) (evo_rep hE hlo).1 (evo_rep hE hhi).1 (show OptRep m w none none from trivial) hb (by simp) q0 q1 q2 (by simp)
  refine .still (u := .string ((⟨ll.toArray⟩ : ByteArray).extract l.toNat h.toNat)) hI ?_ hk (.v _ _ ?_)
  ·simp only [execOp, ho, hr.str_inv, Sem.run_bind, Instr.sliceAt, Instr.slice, run_underlying hu, Result.andThen_ok, Option.map_none, Option.isSome_none, Bool.false_eq_true, if_false, hsz, hrun, Sem.run_pure]
  ·have : (⟨ll.toArray⟩ : ByteArray).extract l.toNat h.toNat = ⟨((ll.take h.toNat).drop l.toNat).toArray⟩ := by
    apply ByteArray.ext
    rw [ByteArray.data_extract]
    apply Array.ext'
    simp [List.extract_eq_take_drop, List.drop_take]
   rw [this]
   exact .str _ (by have := hr.str_r; simp; omega)
 ·exact h0.elim
theorem ok_slice_sl {t e : TypeId} {x : Operand} {lo hi mx : Option Operand} {ex : E} {el eh em : Option E} {i : TypeInfo} {sh : Sh} (ho : o.op = .slice t x lo hi mx) (hx : cE x = some ex) (hlo : cEo lo = some el) (hhi : cEo hi = some eh) (hmx : cEo mx = some em)
  (hmh : mx.isSome = true → hi.isSome = true) (hu : P.underlying t = some (.slice e)) (hi' : P.info? e = some i) (hsz : i.size = shn sh) : OpOk P o (.slice (.sl sh) ex el eh em) := by
 refine .of_runs fun σ m w a s K hI hE hW => ?_
 have hr := ev_rep hE hx
 simp only [WOp] at hW
 generalize ev s ex = dx at hW hr
 generalize hux : a.eval x = ux at hr
 by_cases hmsl : ∃ o off len sh' cp, dx = .msl o off len sh' cp
 ·obtain ⟨oo, off, len, sh', cp, rfl⟩ := hmsl
  obtain ⟨rl, _⟩ := evo_rep hE hlo
  obtain ⟨rh, sh1⟩ := evo_rep hE hhi
  obtain ⟨rm, sm1⟩ := evo_rep hE hmx
  have hmh' : (em.map (ev s)).isSome = true → (eh.map (ev s)).isSome = true := fun hh => by
   rw [Option.isSome_map] at hh ⊢
   rw [sm1] at hh
   rw [sh1]
   exact hmh hh
  simp only [WSl, WSlM] at hW
  obtain ⟨rfl, hW⟩ := hW
  cases hr with
  | msl _ _ _ _ _ aa cap hol hbb hlc hcm hcc =>
  split at hW
  ·rename_i c
   have hc := hcc c rfl
   subst hc
   have fin : ∀ (l h mm : Nat), (Instr.sliceBounds true len cap (lo.map a.eval) (hi.map a.eval) (mx.map a.eval)).run P w = .ok (l, h, mm) w → l ≤ h → h ≤ mm → mm ≤ cap → K (.msl oo (off + l * shn sh) (h - l) sh (some (mm - l))) σ → Runs1 P o σ m w a K := by
    intro l h mm hrun q1 q2 q3 hk
    refine .still (u := .slice (if mm = l then aa else aa.map (·.add (l * shn sh))) (h - l) (mm - l)) hI ?_ hk ?_
    ·simp only [execOp, ho, hux, Sem.run_bind, Instr.sliceAt, Instr.slice, run_underlying hu, Result.andThen_ok, hrun, sizeOf, typeInfo, run_program, hi', Sem.run_pure, hsz]
    ·refine .msl oo _ _ sh _ _ _ hol ?_ (by omega) (by simp only [maxLen] at *; omega) fun c hc => (Option.some.inj hc)
     by_cases hml : mm = l
     ·right; omega
     ·rw [if_neg hml]
      rcases hbb with ⟨b, rfl, hb⟩ | ⟨h0, h1⟩
      ·left
       exact ⟨b, by simp only [Option.map_some, Addr.add_lit], hb⟩
      ·omega
   split at hW
   ·rename_i l h hb
    obtain ⟨q0, q1, q2, hk⟩ := hW
    have hrun := run_sliceBounds' (P := P) (w := w) true len cap hlc rl rh rm hb hmh' q0 q1 q2 (fun v hv => by cases hv)
    refine fin l.toNat h.toNat cap hrun (by omega) (by omega) (Nat.le_refl _) ?_
    rw [show h.toNat - l.toNat = (h - l).toNat by omega]
    exact hk
   ·rename_i l h v hb
    obtain ⟨q0, q1, q2, q3, hk⟩ := hW
    have hrun := run_sliceBounds' (P := P) (w := w) true len cap hlc rl rh rm hb hmh' q0 q1 (by omega) (fun v' hv => by cases hv; exact ⟨q2, q3⟩)
    refine fin l.toNat h.toNat v.toNat hrun (by omega) (by omega) (by omega) ?_
    rw [show h.toNat - l.toNat = (h - l).toNat by omega, show v.toNat - l.toNat = (v - l).toNat by omega]
    exact hk
   ·exact hW.elim
  ·exact hW.elim
 replace hW : WSlice (.sl sh) dx (el.map (ev s)) (eh.map (ev s)) (em.map (ev s)) (fun v => K (.v v) σ) := by
  unfold WSl at hW
  split at hW
  ·exact (hmsl ⟨_, _, _, _, _, rfl⟩).elim
  ·exact hW
 obtain ⟨rl, _⟩ := evo_rep hE hlo
 obtain ⟨rh, sh1⟩ := evo_rep hE hhi
 obtain ⟨rm, sm1⟩ := evo_rep hE hmx
 have key : ∀ (full : Bool) (xs : List V) (l h : Int) (q : Option Int) (f : Bool), RepV w (Fz m w) (.sl sh full xs) ux → bounds xs.length (el.map (ev s)) (eh.map (ev s)) (em.map (ev s)) = some (l, h, q) → 0 ≤ l → l ≤ h → h ≤ xs.length →
   (∀ v, q = some v → h = v) → (f = true → q = some h) → K (.v (.sl sh f ((xs.take h.toNat).drop l.toNat))) σ → Runs1 P o σ m w a K := by
  intro full xs l h q f hv hb q0 q1 q2 hq hf hk
  obtain ⟨aa, cap, rfl, hlc, _⟩ := hv.sl_inv
  have hrun := run_sliceBounds (P := P) (w := w) true xs.length cap hlc rl rh rm hb (fun hh => by
   rw [Option.isSome_map] at hh ⊢
   rw [sm1] at hh
   rw [sh1]
   exact hmh hh) q0 q1 q2 (fun v hv' => by have := hq v hv'; omega)
  generalize hmm : roomOf cap q = mm at hrun
  have hpiece := hv.piece l.toNat h.toNat mm (by omega) (by omega) (by
   rw [← hmm]
   cases q with
   | none => simp only [roomOf]; omega
   | some v => have := hq v rfl; simp only [roomOf]; omega) (by
   rw [← hmm]
   cases q with
   | none => exact Nat.le_refl _
   | some v => have := hq v rfl; simp only [roomOf]; omega) (f := f) (fun hft => by
   have := hf hft
   rw [← hmm, this]
   rfl)
  refine .still hI ?_ hk (.v _ _ hpiece)
  simp only [execOp, ho, hux, Sem.run_bind, Instr.sliceAt, Instr.slice, run_underlying hu, Result.andThen_ok, hrun, sizeOf, typeInfo, run_program, hi', Sem.run_pure, hsz]
 unfold WSlice at hW
 split at hW
 ·cases ‹SlK.sl sh = _›
 ·rename_i sh1' sh2 full xs heq
  cases heq
  obtain ⟨rfl, hW⟩ := hW
  split at hW
  ·rename_i l h hb; exact key _ _ l h none false hr.v_inv hb hW.1 hW.2.1 hW.2.2.1 (by simp) (by simp) hW.2.2.2
  ·rename_i l h v hb; exact key _ _ l h (some v) true hr.v_inv hb hW.1 hW.2.1 (by omega) (fun v' hv' => by cases hv'; exact hW.2.2.1) (fun _ => by rw [hW.2.2.1]) hW.2.2.2.2
  ·exact hW.elim
 ·rename_i sh1' tt sh2 xs heq
  cases heq
  obtain ⟨rfl, hW⟩ := hW
  cases hr with
  | tsl t sh xs aa len cap tk hv _ _ _ _ =>
  split at hW
  ·rename_i l h hb; exact key _ _ l h none false hv hb hW.1 hW.2.1 hW.2.2.1 (by simp) (by simp) hW.2.2.2
  ·rename_i l h v hb; exact key _ _ l h (some v) true hv hb hW.1 hW.2.1 (by omega) (fun v' hv' => by cases hv'; exact hW.2.2.1) (fun _ => by rw [hW.2.2.1]) hW.2.2.2.2
  ·exact hW.elim
 ·rename_i sh1' heq
  cases heq
  have hux0 := hr.v_inv
  generalize hq0 : ux = uq at hux0
  cases hux0
  split at hW
  ·rename_i l h q hb
   obtain ⟨rfl, rfl, hq, hk⟩ := hW
   have hrun := run_sliceBounds (P := P) (w := w) true 0 0 (Nat.le_refl _) rl rh rm hb (fun hh => by
    rw [Option.isSome_map] at hh ⊢
    rw [sm1] at hh
    rw [sh1]
    exact hmh hh) (by simp) (by simp) (by simp) (fun v hv' => by rcases hq with rfl | rfl <;> cases hv'; simp)
   have hroom : roomOf 0 q = 0 := by rcases hq with rfl | rfl <;> rfl
   rw [hroom] at hrun
   refine .still (u := .slice none 0 0) hI ?_ hk (.v _ _ (.slNil sh true none))
   simp only [execOp, ho, hux, hq0, Sem.run_bind, Instr.sliceAt, Instr.slice, run_underlying hu, Result.andThen_ok, hrun, sizeOf, typeInfo, run_program, hi', Sem.run_pure, hsz]
   rfl
  ·exact hW.elim
 ·exact hW.elim
end
end Go.Abs
