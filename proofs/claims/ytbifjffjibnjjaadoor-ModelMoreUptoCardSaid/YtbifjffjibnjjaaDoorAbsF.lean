/-
  The model's operations, turned into the small language; that each does what its weakest precondition says: part 4. (Own work; seat-independent.)
-/
import Derived.Test.YtbifjffjibnjjaaDoorAbsE
set_option linter.unusedVariables false
set_option linter.unusedSimpArgs false
namespace Go.Abs
open Go

section
variable {P : Program} {o : Oper}

theorem ok_store {t : TypeId} {x y : Operand} {ex ey : E} {i : TypeInfo} {n : Nat} (ho : o.op = .store t x y) (hx : cE x = some ex) (hy : cE y = some ey) (hi : P.info? t = some i) (hn : i.size = n) : OpOk P o (.store n ex ey) := by
  refine .of_runs fun σ m w a s K hI hE hW => ?_
  have hr := ev_rep hE hx
  have hry := ev_rep hE hy
  simp only [WOp] at hW
  generalize ev s ex = dx at hW hr
  generalize ev s ey = dy at hW hry
  generalize hux : a.eval x = ux at hr
  generalize huy : a.eval y = uy at hry
  have core : ∀ (oo off b : Nat) (cs : List D) (us : Array Value) (ty : TypeId) (X : Ob), ux = .pointer (some ⟨b, off, none⟩) → m.objs[oo]? = some (some b) → w.heap[b]? = some (.cells us ty (0, 0)) → cs.length ≤ us.size →
      (∀ (i : Nat) d u, cs[i]? = some d → us[i]? = some u → RepD m w d u ∧ u.oneCell' = true) → dy.lies = true → dy.cells.length = n → 0 < n → off + n ≤ cs.length →
      (∀ w', ObRep m w' (.cells (putAt cs off dy.cells)) b → ObRep m w' X b) → K .undef (σ.put oo X) → Runs1 P o σ m w a K := by
    intro oo off b cs us ty X hptr hb hh hsz hob hlies hlen hpos hfit hX hK
    subst hptr
    obtain ⟨c1, c2, c3⟩ := hry.cellsR hlies
    have hst := run_storeCells_at P b off ty uy.cells.toList 0 us w hh (by simp; omega) c3
    simp only [Nat.add_zero] at hst
    have hmem : b ∈ m.objb := Gh.mem_objb.2 (List.mem_of_getElem? hb)
    have e := Ext.setRow (m := m) (w := w) (us.toList.take off ++ uy.cells.toList ++ us.toList.drop (off + uy.cells.toList.length)).toArray hmem
    have hI' := hI.setRow hb (us.toList.take off ++ uy.cells.toList ++ us.toList.drop (off + uy.cells.toList.length)).toArray X (hX _
      (have hall := row_one (us := us.toList) (vs := uy.cells.toList) (off := off) (R := fun d u => RepD m w d u) (fun i d u h1 h2 => hob i d u h1 (by simpa using h2)) c3 (by simp; omega) (by simpa using hsz)
      ⟨_, ty, setRow_heap w b us _ ty (0, 0) hh, by
        rw [putAt_length (by omega)]
        simp only [List.size_toArray, List.length_append, List.length_take, List.length_drop, Array.length_toList]
        omega, fun j d u hd hu => by
        rw [List.getElem?_toArray] at hu
        have hjl : j < cs.length := by
          have := (List.getElem?_eq_some_iff.1 hd).1
          rwa [putAt_length (by omega)] at this
        have h1 := hall j u hu hjl
        rw [List.append_assoc] at hu
        exact ⟨(putAt_rep (us := us.toList) (vs := uy.cells.toList) (by simp; omega) (fun i d u h1 h2 => (hob i d u h1 (by simpa using h2)).1) (by simpa using c1)
          (fun i d u h1 h2 => c2 i d u h1 (by simpa using h2)) (by omega) j d u hd hu).mono e, h1⟩, trivial⟩))
    refine ⟨.skip, undef, _, m, .undef, _, ?_, .inr ⟨rfl, rfl⟩, hK, hI', e, .tup [] [] rfl (by simp)⟩
    have hsize : uy.cells.size = i.size := by omega
    have hq : (sizeOf t).run P w = .ok i.size w := by simp [sizeOf, typeInfo, hi]
    have hsv : (storeVar t ⟨b, off, none⟩ uy).run P w = .ok () (w.setRow b (us.toList.take off ++ uy.cells.toList ++ us.toList.drop (off + uy.cells.toList.length)).toArray) := by
      simp only [storeVar, Sem.run_bind, hq, Result.andThen_ok, hsize, ne_eq, not_true_eq_false, if_false, Sem.run_ite, hst]
    simp only [execOp, ho, hux, huy, Instr.storeAt, Instr.sureAddr, Sem.run_bind, Sem.run_pure, Result.andThen_ok, hsv]
  unfold WStore at hW
  cases hr with
  | ptr oo off b hb =>
    dsimp only at hW
    split at hW
    · rename_i cs hcs
      obtain ⟨hlies, hlen, hpos, hfit, hK⟩ := hW
      have hb := hI.live hcs (ne_nil_of_lt (i := off) (by omega)) hb
      obtain ⟨us, ty, hh, hsz, hob, hone⟩ := hI.ob oo _ b hcs hb
      exact core oo off b cs us ty _ rfl hb hh hsz hob hlies hlen hpos hfit (fun _ h => h) hK
    · exact hW.elim
  | v y _ hy =>
    cases hy with
    | adr b off =>
      obtain ⟨oo, cs, hcs, hlies, hlen, hpos, hfit, hK⟩ := hW
      obtain ⟨hb, us, ty, hh, hsz, hob⟩ := hI.known hcs
      exact core oo off b cs us ty (.known b (putAt cs off dy.cells)) rfl hb hh hsz hob hlies hlen hpos hfit (fun _ h => ⟨rfl, h⟩) hK
    | _ => exact hW.elim
  | _ => exact hW.elim

theorem ok_nilck {x : Operand} {ex : E} (ho : o.op = .nilCheck x) (hx : cE x = some ex) : OpOk P o (.nilck ex) := by
  refine .of_runs fun σ m w a s K hI hE hW => ?_
  have hr := ev_rep hE hx
  simp only [WOp] at hW
  generalize ev s ex = dx at hW hr
  generalize hux : a.eval x = ux at hr
  unfold WNil at hW
  cases hr with
  | ptr oo off b hb => exact .still hI (by simp [execOp, ho, hux]) hW (.ptr oo off b hb)
  | imm sh y off b base us h1 h2 h3 h4 => exact .still hI (by simp [execOp, ho, hux]) hW (.imm sh y off b base us h1 h2 h3 h4)
  | fn f caps us h1 h2 => exact .still hI (by simp [execOp, ho, hux]) hW (.fn f caps us h1 h2)
  | bfn f d u h1 => exact .still hI (by simp [execOp, ho, hux]) hW (.bfn f d u h1)
  | iface t d u h1 => exact .still hI (by simp [execOp, ho, hux]) hW (.iface t d u h1)
  | v y u hy =>
    cases hy with
    | iface t v u hv => exact .still (u := .iface t u) hI (by simp [execOp, ho, hux]) hW (.v _ _ (.iface t v u hv))
    | fn f => exact .still (u := .func (.func f) #[] #[]) hI (by simp [execOp, ho, hux]) hW (.v _ _ (.fn f))
    | box sh y off b base us h1 h2 h3 h4 => exact .still (u := .pointer (some ⟨b, base + off, none⟩)) hI (by simp [execOp, ho, hux]) hW (.v _ _ (.box sh y off b base us h1 h2 h3 h4))
    | adr b off => exact .still (u := .pointer (some ⟨b, off, none⟩)) hI (by simp [execOp, ho, hux]) hW (.v _ _ (.adr b off))
    | _ => exact hW.elim
  | _ => exact hW.elim

theorem ok_un {op : UnOp} {t : TypeId} {x : Operand} {ex : E} (ho : o.op = .unOp op t x) (hx : cE x = some ex) : OpOk P o (.un op ex) := by
  refine .of_runs fun σ m w a s K hI hE hW => ?_
  have hr := ev_rep hE hx
  simp only [WOp] at hW
  generalize ev s ex = dx at hW hr
  unfold WUn at hW
  split at hW
  · have hu := hr.bool_inv
    exact .still hI (by simp [execOp, ho, hu, Op.unary]) hW (.v _ _ (.bool _))
  · have hu := hr.int_inv
    exact .still hI (by simp [execOp, ho, hu, Op.unary, Op.intArith]) hW (.v _ _ (.int _ _ (inR_wrap _ _)))
  · have hu := hr.int_inv
    exact .still hI (by simp [execOp, ho, hu, Op.unary, Op.intBits]) hW (.v _ _ (.int _ _ (inR_wrap _ _)))
  · exact hW.elim

theorem ok_mkif {t : TypeId} {x : Operand} {ex : E} {d : TypeDesc} (ho : o.op = .makeInterface t x) (hx : cE x = some ex) (hu : P.underlying t = some d) (hd : ∀ ms, d ≠ .interface ms) : OpOk P o (.mkif t ex) := by
  refine .of_runs fun σ m w a s K hI hE hW => ?_
  have hr := ev_rep hE hx
  simp only [WOp] at hW
  refine .still (u := .iface t (a.eval x)) hI ?_ hW ?_
  · cases d <;> first | exact absurd rfl (hd _) | simp [execOp, ho, Instr.makeInterface, run_underlying hu]
  · generalize ev s ex = dx at hr
    unfold mkIface
    split
    · exact .v _ _ (.iface t _ _ hr.v_inv)
    · exact .iface t _ _ hr

theorem ok_mkfn {f : Nat} {caps : Array Operand} {es : List E} (ho : o.op = .makeFunc (.func f) #[] caps) (hx : cEs caps.toList = some es) : OpOk P o (.mkfn f es) := by
  refine .of_runs fun σ m w a s K hI hE hW => ?_
  obtain ⟨h1, h2⟩ := evs_rep hE hx
  simp only [WOp] at hW
  have hrun : (execOp a.eval o).run P w = .ok (.value (.func (.func f) #[] (caps.toList.map a.eval).toArray)) w := by
    simp [execOp, ho, Instr.makeFunc]
    apply Array.ext'
    simp
  cases es with
  | nil =>
    have h0 : caps.toList = [] := List.eq_nil_of_length_eq_zero (by simpa using h1.symm)
    rw [h0] at hrun
    exact .still hI hrun hW (.v _ _ (.fn f))
  | cons e es => exact .still hI hrun hW (.fn f _ _ (by simpa using h1) h2)

theorem ok_bind {f : Nat} {x : Operand} {ex : E} (ho : o.op = .makeFunc (.func f) #[x] #[]) (hx : cE x = some ex) : OpOk P o (.ext (.bind f) [ex]) := by
  refine .of_runs fun σ m w a s K hI hE hW => ?_
  have hr := ev_rep hE hx
  simp only [WOp, WX, List.map_cons, List.map_nil] at hW
  exact .still (u := .func (.func f) #[a.eval x] #[]) hI (by simp [execOp, ho, Instr.makeFunc]) hW (.bfn f _ _ hr)

theorem ok_faddr {t : TypeId} {x : Operand} {ex : E} {fi : Nat} {fields : Array Field} {f : Field} {i : TypeInfo} (ho : o.op = .fieldAddr t x fi) (hx : cE x = some ex) (hu : P.underlying t = some (.struct fields)) (hf : fields[fi]? = some f)
    (hi : P.info? f.type = some i) (hpos : i.size ≠ 0) : OpOk P o (.faddr f.offset ex) := by
  refine .of_runs fun σ m w a s K hI hE hW => ?_
  have hr := ev_rep hE hx
  simp only [WOp] at hW
  generalize ev s ex = dx at hW hr
  generalize hux : a.eval x = ux at hr
  unfold WFaddr at hW
  have hrun : ∀ b p, a.eval x = .pointer (some ⟨b, p, none⟩) → (execOp a.eval o).run P w = .ok (.value (.pointer (some ⟨b, p + f.offset, none⟩))) w := by
    intro b p h
    simp [execOp, ho, h, Instr.fieldAt, run_underlying hu, hf, Instr.sureAddr, fieldPlace, sizeOf, typeInfo, hi, hpos, Addr.add_lit]
  cases hr with
  | ptr oo off b hb => exact .still hI (hrun b off hux) hW (.ptr oo _ b hb)
  | imm sh y off b base us h1 h2 h3 h4 =>
    refine .still hI (hrun b _ hux) hW ?_
    rw [Nat.add_assoc]
    exact .imm sh y _ b base us h1 h2 h3 h4
  | v y _ hy =>
    cases hy with
    | box sh y off b base us h1 h2 h3 h4 =>
      refine .still hI (hrun b _ hux) hW ?_
      rw [Nat.add_assoc]
      exact .v _ _ (.box sh y _ b base us h1 h2 h3 h4)
    | adr b off => exact .still hI (hrun b off hux) hW (.v _ _ (.adr b _))
    | _ => exact hW.elim
  | _ => exact hW.elim

theorem run_part_sh {w : World} {t : TypeId} {d : TypeDesc} {i : TypeInfo} {sh : Sh} (hu : P.underlying t = some d) (hi : P.info? t = some i)
    (hsh : match sh with | none => d.isRow = false | some n => d.isRow = true ∧ i.size = n) (cs : Array Value) (off : Nat) :
    match sh with
    | none => ∀ v, cs[off]? = some v → (part t cs off).run P w = .ok v w
    | some n => (part t cs off).run P w = .ok (.agg (cs.extract off (off + n))) w := by
  cases sh with
  | none =>
    intro v hv
    cases d <;> simp at hsh <;> simp [part, isAgg, run_underlying hu, hv]
  | some n =>
    obtain ⟨h1, h2⟩ := hsh
    cases d <;> simp at h1 <;> simp [part, isAgg, run_underlying hu, sizeOf, typeInfo, hi, h2]

theorem ok_field {t : TypeId} {x : Operand} {ex : E} {fi : Nat} {fields : Array Field} {f : Field} {d : TypeDesc} {i : TypeInfo} {sh : Sh} (ho : o.op = .field t x fi) (hx : cE x = some ex) (hu : P.underlying t = some (.struct fields)) (hf : fields[fi]? = some f)
    (hud : P.underlying f.type = some d) (hi : P.info? f.type = some i) (hsh : match sh with | none => d.isRow = false | some n => d.isRow = true ∧ i.size = n) : OpOk P o (.field sh f.offset ex) := by
  refine .of_runs fun σ m w a s K hI hE hW => ?_
  have hr := ev_rep hE hx
  simp only [WOp] at hW
  generalize ev s ex = dx at hW hr
  generalize hux : a.eval x = ux at hr
  unfold WField at hW
  have key : ∀ (ds : List D) (us : List Value), ux = .agg us.toArray → ds.length = us.length → (∀ u ∈ us, u.oneCell' = true) → (∀ (i : Nat) d u, ds[i]? = some d → us[i]? = some u → RepD m w d u) →
      (match (generalizing := false) sh with
      | none => (match ds[f.offset]? with | some c => K c σ | none => False)
      | some n => f.offset + n ≤ ds.length ∧ K (mkAgg ((ds.drop f.offset).take n)) σ) → Runs1 P o σ m w a K := by
    intro ds us hus hl h1 hrr hk
    have hp := run_part_sh (P := P) (w := w) hud hi hsh us.toArray f.offset
    cases sh with
    | none =>
      dsimp only at hk hp
      split at hk
      · rename_i c hc
        have hlt : f.offset < us.length := by rw [← hl]; exact (List.getElem?_eq_some_iff.1 hc).1
        have hv := hp us[f.offset] (by simp)
        exact .still hI (by simp [execOp, ho, hux, hus, Instr.field, run_underlying hu, hf, asAgg, hv]) hk (hrr _ c _ hc (List.getElem?_eq_getElem hlt))
      · exact hk.elim
    | some n =>
      dsimp only at hk hp
      have hex : us.toArray.extract f.offset (f.offset + n) = ((us.drop f.offset).take n).toArray := by
        apply Array.ext'
        simp [List.extract_eq_take_drop]
      rw [hex] at hp
      refine .still hI (by simp [execOp, ho, hux, hus, Instr.field, run_underlying hu, hf, asAgg, hp]; rfl) hk.2 (mkAgg_rep (by simp; omega) (fun u huu => h1 u (List.mem_of_mem_drop (List.mem_of_mem_take huu))) fun j d u hd hu => ?_)
      rw [List.getElem?_take] at hd hu
      split at hd
      · rename_i hlt
        rw [if_pos hlt] at hu
        rw [List.getElem?_drop] at hd hu
        exact hrr _ d u hd hu
      · cases hd
  cases hr with
  | agg ds us hl h1 hrr =>
    dsimp only at hW
    exact key ds us rfl hl h1 hrr hW
  | v y u hy =>
    cases hy with
    | agg cs us hl h1 hrr =>
      dsimp only at hW
      refine key (cs.map .v) us rfl (by simpa using hl) (RepV.cells_one h1 hl hrr) (fun i d u hd hu => ?_) ?_
      · simp only [List.getElem?_map] at hd
        cases hc : cs[i]? with
        | none => simp [hc] at hd
        | some c => simp [hc] at hd; subst hd; exact .v _ _ (hrr i c u hc hu)
      · cases sh with
        | none =>
          dsimp only at hW ⊢
          rw [List.getElem?_map]
          split at hW
          · rename_i c hc; rw [hc]; exact hW
          · exact hW.elim
        | some n =>
          dsimp only at hW ⊢
          refine ⟨by simpa using hW.1, ?_⟩
          have hall : ∀ l : List V, allV (l.map .v) = some l := by
            intro l
            induction l with
            | nil => rfl
            | cons x l ih => simp [allV, ih]
          rw [← List.map_drop, ← List.map_take]
          simp only [mkAgg, hall]
          exact hW.2
    | _ => exact hW.elim
  | _ => exact hW.elim

theorem flat_at {sh : Sh} : ∀ {xs : List V}, (∀ x ∈ xs, x.shape = sh) → ∀ (i : Nat) (y : V), xs[i]? = some y → ∀ (j : Nat) (c : V), y.cells[j]? = some c → (V.flat xs)[i * shn sh + j]? = some c
  | [], _, i, y, h, _, _, _ => by simp at h
  | x :: xs, hs, 0, y, h, j, c, hc => by
    simp at h
    subst h
    simp only [V.flat, List.flatMap_cons, Nat.zero_mul, Nat.zero_add]
    rw [List.getElem?_append_left (List.getElem?_eq_some_iff.1 hc).1]
    exact hc
  | x :: xs, hs, i + 1, y, h, j, c, hc => by
    have ih := flat_at (xs := xs) (fun z hz => hs z (by simp [hz])) i y (by simpa using h) j c hc
    simp only [V.flat, List.flatMap_cons] at *
    have hx : x.cells.length = shn sh := by rw [V.cells_length, hs x (by simp)]
    rw [List.getElem?_append_right (by rw [hx, Nat.add_mul]; omega), hx]
    rw [show (i + 1) * shn sh + j - shn sh = i * shn sh + j by rw [Nat.add_mul]; omega]
    exact ih

theorem ok_iaddr {t e : TypeId} {x y : Operand} {ex ey : E} {i : TypeInfo} {sh : Sh} (ho : o.op = .indexAddr t x y) (hx : cE x = some ex) (hy : cE y = some ey) (hu : P.underlying t = some (.slice e)) (hi : P.info? e = some i) (hsz : i.size = shn sh) : OpOk P o (.iaddr sh ex ey) := by
  refine .of_runs fun σ m w a s K hI hE hW => ?_
  have hr := ev_rep hE hx
  have hry := ev_rep hE hy
  simp only [WOp] at hW
  generalize ev s ex = dx at hW hr
  generalize ev s ey = dy at hW hry
  generalize hux : a.eval x = ux at hr
  have key : ∀ (full : Bool) (xs : List V) (k : IntKind) (n : Int), RepV w (Fz m w) (.sl sh full xs) ux → a.eval y = .int k n → 0 ≤ n → n < xs.length → (∀ y, xs[n.toNat]? = some y → K (.imm sh y 0) σ) → Runs1 P o σ m w a K := by
    intro full xs k n hv hyv h0 hlt hk
    obtain ⟨aa, cap, rfl, hl, hm, hf, hs, h1, hh⟩ := hv.sl_inv
    have hnl : n.toNat < xs.length := by omega
    obtain ⟨z, hz⟩ : ∃ z, xs[n.toNat]? = some z := ⟨_, List.getElem?_eq_getElem hnl⟩
    rcases hh with ⟨hnil, _⟩ | ⟨b, off, us, rfl, hc, hrr⟩
    · subst hnil; simp at hnl
    · have hrun : (execOp a.eval o).run P w = .ok (.value (.pointer (some ⟨b, off + n.toNat * shn sh + 0, none⟩))) w := by
        simp [execOp, ho, hux, hyv, Instr.indexAt, run_underlying hu, asIntOf, h0, hlt, sizeOf, typeInfo, hi, hsz, Addr.add_lit]
      refine .still hI hrun (hk z hz) (.imm sh z 0 b (off + n.toNat * shn sh) (fun j => us (n.toNat * shn sh + j)) (hs z (List.mem_of_getElem? hz)) (fun c hcz => ?_) (fun j hj => ?_) (fun j c hcz => ?_))
      · exact h1 c (List.mem_flatMap.2 ⟨z, List.mem_of_getElem? hz, hcz⟩)
      · have hle : n.toNat * shn sh + j < xs.length * shn sh := by
          have : (n.toNat + 1) * shn sh ≤ xs.length * shn sh := Nat.mul_le_mul_right _ hnl
          rw [Nat.add_mul, Nat.one_mul] at this
          omega
        have := hc _ hle
        rw [← Nat.add_assoc] at this
        exact this
      · exact hrr _ c (flat_at hs n.toNat z hz j c hcz)
  unfold WIaddr at hW
  split at hW
  · obtain ⟨rfl, h0, hlt, hk⟩ := hW
    exact key _ _ _ _ hr.v_inv hry.int_inv h0 hlt hk
  · obtain ⟨rfl, h0, hlt, hk⟩ := hW
    cases hr with
    | tsl t sh xs aa len cap tk hv _ _ _ _ => exact key _ _ _ _ hv hry.int_inv h0 hlt hk
  · rename_i oo off len sh' cp k n
    obtain ⟨rfl, h0, hlt, hk⟩ := hW
    have hyv := hry.int_inv
    cases hr with
    | msl _ _ _ _ _ aa cap hol hbb hlc hcm hcc =>
    rcases hbb with ⟨b, rfl, hb⟩ | ⟨hl0, _⟩
    · have hnl : n.toNat < len := by omega
      have hrun : (execOp a.eval o).run P w = .ok (.value (.pointer (some ⟨b, off + n.toNat * shn sh, none⟩))) w := by
        simp [execOp, ho, hux, hyv, Instr.indexAt, run_underlying hu, asIntOf, h0, hlt, sizeOf, typeInfo, hi, hsz, Addr.add_lit]
      exact .still hI hrun hk (.ptr _ _ b hb)
    · omega
  · exact hW.elim

theorem ok_index {t : TypeId} {x y : Operand} {ex ey : E} (ho : o.op = .index t x y) (hx : cE x = some ex) (hy : cE y = some ey) (hu : P.underlying t = some .string) : OpOk P o (.index ex ey) := by
  refine .of_runs fun σ m w a s K hI hE hW => ?_
  have hr := ev_rep hE hx
  have hry := ev_rep hE hy
  simp only [WOp] at hW
  generalize ev s ex = dx at hW hr
  generalize ev s ey = dy at hW hry
  unfold WIndex at hW
  split at hW
  · rename_i l k n
    obtain ⟨h0, hlt, hk⟩ := hW
    have hnl : n.toNat < l.length := by omega
    obtain ⟨b, hb⟩ : ∃ b, l[n.toNat]? = some b := ⟨_, List.getElem?_eq_getElem hnl⟩
    have hba : (⟨l.toArray⟩ : ByteArray)[n.toNat]? = some b := by
      have hlt' : n.toNat < (⟨l.toArray⟩ : ByteArray).size := by simpa [ByteArray.size] using hnl
      rw [getElem?_pos (⟨l.toArray⟩ : ByteArray) n.toNat hlt']
      have : (⟨l.toArray⟩ : ByteArray)[n.toNat] = l[n.toNat] := rfl
      rw [this]
      exact (List.getElem?_eq_getElem hnl).symm.trans hb
    exact .still hI (by simp [execOp, ho, hr.str_inv, hry.int_inv, Instr.index, run_underlying hu, asIntOf, h0, hba]) (hk b hb) (.v _ _ (.int _ _ (inR_byte b)))
  · exact hW.elim

theorem ok_extract {x : Operand} {ex : E} {n : Nat} (ho : o.op = .extract x n) (hx : cE x = some ex) : OpOk P o (.extract ex n) := by
  refine .of_runs fun σ m w a s K hI hE hW => ?_
  have hr := ev_rep hE hx
  simp only [WOp] at hW
  generalize ev s ex = dx at hW hr
  generalize hux : a.eval x = ux at hr
  unfold WExtract at hW
  cases hr with
  | tup ds us hl hrr =>
    dsimp only at hW
    split at hW
    · rename_i d hd
      have hlt : n < us.length := by rw [← hl]; exact (List.getElem?_eq_some_iff.1 hd).1
      exact .still hI (by simp [execOp, ho, hux, Instr.extract, hlt] <;> rfl) hW (hrr n d us[n] hd (List.getElem?_eq_getElem hlt))
    · exact hW.elim
  | _ => exact hW.elim

theorem ok_len {t : TypeId} {x : Operand} {ex : E} {d : TypeDesc} {k : LenK} (ho : o.op = .call { callee := .builtin .len, args := #[x], argTypes := #[t] }) (hx : cE x = some ex) (hu : P.underlying t = some d)
    (hd : match k with | .str => d = .string | .sl => ∃ e, d = .slice e | .mp => ∃ p q, d = .map p q) : OpOk P o (.len k ex) := by
  refine .of_runs fun σ m w a s K hI hE hW => ?_
  have hr := ev_rep hE hx
  simp only [WOp] at hW
  generalize ev s ex = dx at hW hr
  generalize hux : a.eval x = ux at hr
  have hsl : ∀ (aa : Option Addr) (n c : Nat), ux = .slice aa n c → (∃ e, d = .slice e) → (execOp a.eval o).run P w = .ok (.value (.int .i64 n)) w := by
    rintro aa n c rfl ⟨e, rfl⟩
    simp [execOp, ho, hux, resolve, invoke, builtin, Builtin.len_, run_underlying hu, goInt]
  unfold WLen at hW
  split at hW
  · rename_i l
    have hu' := hr.str_inv
    subst hu'
    have hd' : d = .string := hd
    subst hd'
    exact .still (u := .int .i64 (⟨l.toArray⟩ : ByteArray).size) hI (by simp [execOp, ho, hux, resolve, invoke, builtin, Builtin.len_, run_underlying hu, goInt]) hW (.v _ _ (.int _ _ (inR_nat hr.str_r)))
  · have hv := hr.v_inv
    cases hv
    exact .still hI (hsl none 0 0 rfl hd) hW (.v _ _ (.int _ _ (by decide)))
  · obtain ⟨aa, cap, rfl, hlc, hmc, _⟩ := hr.v_inv.sl_inv
    exact .still hI (hsl _ _ _ rfl hd) hW (.v _ _ (.int _ _ (inR_nat (Nat.le_trans hlc hmc))))
  · cases hr with
    | tsl t sh xs aa len cap tk hv _ _ _ _ =>
      obtain ⟨aa', cap', he, hlc, hmc, _⟩ := hv.sl_inv
      cases he
      exact .still hI (hsl _ _ _ rfl hd) hW (.v _ _ (.int _ _ (inR_nat (Nat.le_trans hlc hmc))))
  · cases hr with
    | msl _ _ _ _ _ aa cap hol hbb hlc hcm hcc =>
      exact .still hI (hsl _ _ _ rfl hd) hW (.v _ _ (.int _ _ (inR_nat (Nat.le_trans hlc hcm))))
  · have hv := hr.v_inv
    cases hv
    obtain ⟨p, q, rfl⟩ := hd
    exact .still hI (by simp [execOp, ho, hux, resolve, invoke, builtin, Builtin.len_, run_underlying hu, goInt] <;> rfl) hW (.v _ _ (.int _ _ (by decide)))
  · cases hr with
    | map _ b hb =>
      obtain ⟨p, q, rfl⟩ := hd
      split at hW
      · rename_i es hes
        have hb := hI.live hes (by simp) hb
        obtain ⟨ms, clock, hh, hsz, _⟩ := hI.ob _ _ b hes hb
        exact .still hI (by simp [execOp, ho, hux, resolve, invoke, builtin, Builtin.len_, run_underlying hu, goInt, getObj, Sem.run, hh, hsz] <;> rfl) hW.2 (.v _ _ (.int _ _ (inR_nat hW.1)))
      · exact hW.elim
  · exact hW.elim

/-! Conversions -/

theorem toList_eq_data (s : ByteArray) : s.toList = s.data.toList := by rw [ByteArray.toList_eq]

end
end Go.Abs
