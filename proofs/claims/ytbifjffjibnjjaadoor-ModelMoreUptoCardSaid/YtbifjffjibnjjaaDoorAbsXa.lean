/-
  The model's operations, turned into the small language; that each does what its weakest precondition says: part 12, structs given out at once; objects whose block is known. (Own work; seat-independent.)
-/
import Derived.Test.YtbifjffjibnjjaaDoorAbsX
set_option linter.unusedVariables false
set_option linter.unusedSimpArgs false
namespace Go.Abs
open Go

/-- An object's block is told. -/
theorem Inv.tell {σ : Sg} {m : Gh} {w : World} (h : Inv σ m w) {o b : Nat} {cs : List D} (ho : σ.objs[o]? = some (.cells cs)) (hb : m.objs[o]? = some (some b)) : Inv (σ.put o (.known b cs)) m w := by
  refine ⟨by simp [Sg.put, h.lobj], h.ltok, h.nodup, fun i ob c hi hc => ?_, fun i hi => ?_, h.tk, h.glob⟩
  · simp only [Sg.put, List.getElem?_set] at hi
    by_cases hio : o = i
    · subst hio
      have hcb : c = b := Option.some.inj (Option.some.inj (hc.symm.trans hb))
      subst hcb
      rw [if_pos rfl] at hi
      split at hi
      · cases hi
        obtain ⟨us, ty, h1, h2, h3, h4⟩ := h.ob o _ c ho hc
        exact ⟨rfl, us, ty, h1, h2, h3, h4⟩
      · cases hi
    · rw [if_neg hio] at hi
      exact h.ob i ob c hi hc
  · have hio : o ≠ i := by
      rintro rfl
      rw [hb] at hi
      cases hi
    simp only [Sg.put, List.getElem?_set]
    rw [if_neg hio]
    exact h.gone i hi

section
variable {P : Program} {o : Oper}

theorem ok_ibox {e : TypeId} {x : Operand} {ex : E} (ho : o.op = .box e x) (hx : cE x = some ex) : OpOk P o (.ext .ibox [ex]) := by
  refine .of_runs fun σ m w a s K hI hE hW => ?_
  simp only [WOp, WX, List.map_cons, List.map_nil] at hW
  split at hW
  · rename_i v hv
    obtain ⟨h1, hK⟩ := hW
    have hr := toV_rep (ev_rep hE hx) v hv
    obtain ⟨c1, c2, c3⟩ := hr.cellsR
    have e1 := Ext.alloc m w (.cells (a.eval x).cells e)
    have hrow := heap_alloc_new w (.cells (a.eval x).cells e)
    refine ⟨_, .pointer (some ⟨w.heap.size, 0 + 0, none⟩), _, _, _, _, ?_, .inl rfl, hK, hI.alloc _, e1, .v _ _ (.box _ _ 0 w.heap.size 0 (fun i => (a.eval x).cells.getD i undef) rfl (List.all_eq_true.1 h1) (fun i hi => ⟨?_, ?_, ?_⟩) fun i c hc => ?_)⟩
    · simp [execOp, ho, Instr.box, newVar, newRow]
    · have hlt : i < (a.eval x).cells.size := by rw [← c1, V.cells_length]; exact hi
      rw [cell_of_row _ w.heap.size (0 + i) _ e (0, 0) hrow, Nat.zero_add]
      simp [Array.getD, hlt]
    · simp
    · intro hm
      have := hI.lt_block (Gh.mut_block hm)
      omega
    · have hlt : i < (a.eval x).cells.size := by rw [← c1]; exact (List.getElem?_eq_some_iff.1 hc).1
      have hu : (a.eval x).cells[i]? = some ((a.eval x).cells.getD i undef) := by simp [Array.getD, hlt]
      exact (c2 i c _ hc hu).mono e1.fz
  · exact hW.elim

theorem ok_xbox {e : TypeId} {x : Operand} {ex : E} (ho : o.op = .box e x) (hx : cE x = some ex) : OpOk P o (.ext .xbox [ex]) := by
  refine .of_runs fun σ m w a s K hI hE hW => ?_
  simp only [WOp, WX, List.map_cons, List.map_nil] at hW
  obtain ⟨h1, h2, h3⟩ := (ev_rep hE hx).cellsR hW.1
  have hob := ObRep.new (m := m) (w := w) (cs := (ev s ex).cells) (us := (a.eval x).cells.toList) e (by simpa using h1) h3 fun j d u hd hu => h2 j d u hd (by simpa using hu)
  refine ⟨_, .pointer (some ⟨w.heap.size, 0, none⟩), _, _, _, _, ?_, .inl rfl, hW.2 w.heap.size, hI.add _ (.known w.heap.size (ev s ex).cells) ⟨rfl, hob⟩, .add m w _, .v _ _ (.adr _ _)⟩
  simp [execOp, ho, Instr.box, newVar, newRow]

theorem ok_iexp {t e : TypeId} {x y : Operand} {ex ey : E} {i : TypeInfo} {sh : Sh} (ho : o.op = .indexAddr t x y) (hx : cE x = some ex) (hy : cE y = some ey) (hu : P.underlying t = some (.slice e)) (hi : P.info? e = some i) (hsz : i.size = shn sh) : OpOk P o (.ext (.iexp sh) [ex, ey]) := by
  refine .of_runs fun σ m w a s K hI hE hW => ?_
  have hr := ev_rep hE hx
  have hry := ev_rep hE hy
  simp only [WOp, WX, List.map_cons, List.map_nil] at hW
  generalize ev s ex = dx at hW hr
  generalize ev s ey = dy at hW hry
  generalize hux : a.eval x = ux at hr
  split at hW
  · rename_i oo off len sh' cp k n heq
    simp only [List.cons.injEq, and_true] at heq
    obtain ⟨rfl, rfl⟩ := heq
    obtain ⟨rfl, h0, hlt, hk⟩ := hW
    have hyv := hry.int_inv
    split at hk
    · rename_i cs hcs
      obtain ⟨hne, hk⟩ := hk
      cases hr with
      | msl _ _ _ _ _ aa cap hol hbb hlc hcm hcc =>
      rcases hbb with ⟨b, rfl, hb⟩ | ⟨hl0, _⟩
      · have hb' := hI.live hcs (fun e => hne (by injection e)) hb
        have hrun : (execOp a.eval o).run P w = .ok (.value (.pointer (some ⟨b, off + n.toNat * shn sh, none⟩))) w := by
          simp [execOp, ho, hux, hyv, Instr.indexAt, run_underlying hu, asIntOf, h0, hlt, sizeOf, typeInfo, hi, hsz, Addr.add_lit]
        exact ⟨_, _, _, m, _, _, hrun, .inl rfl, hk b, hI.tell hcs hb', .refl m w, .v _ _ (.adr _ _)⟩
      · omega
    · exact hk.elim
  · exact hW.elim

theorem ok_ldk {t : TypeId} {x : Operand} {ex : E} {d : TypeDesc} {i : TypeInfo} {sh : Sh} (ho : o.op = .load t x) (hx : cE x = some ex) (hu : P.underlying t = some d) (hi : P.info? t = some i)
    (hsh : match sh with | none => d.isRow = false | some n => d.isRow = true ∧ i.size = n) : OpOk P o (.ext (.ldk sh) [ex]) := by
  intro σ m w a s K hI hE hW next Q hn
  simp only [WOp, WX, List.map_cons, List.map_nil] at hW
  by_cases had : ∃ b off, ev s ex = .v (.adr b off)
  · obtain ⟨b, off, hev⟩ := had
    have hr := ev_rep hE hx
    rw [hev] at hW hr
    obtain ⟨oo, cs, hcs, hW⟩ := hW
    obtain ⟨hb, us, ty, hh, hsz, hob⟩ := hI.known hcs
    have hux : a.eval x = .pointer (some ⟨b, off, none⟩) := by
      generalize a.eval x = ux at hr
      cases hr with
      | v _ _ h => cases h; rfl
    have hcell : ∀ j u, us[j]? = some u → w.cell? ⟨b, j, none⟩ = some u := fun j u hj => by rw [cell_of_row w b j us ty (0, 0) hh]; exact hj
    have key : Runs1 P o σ m w a K := by
      cases sh with
      | none =>
        dsimp only at hW
        split at hW
        · rename_i dd hdd
          have hlt : off < us.size := Nat.lt_of_lt_of_le (List.getElem?_eq_some_iff.1 hdd).1 hsz
          have hu0 : us[off]? = some us[off] := Array.getElem?_eq_getElem hlt
          have hcell0 : ∀ j, j < shn none → w.cell? ⟨b, off + j, none⟩ = some us[off] := by
            intro j hj
            have hj0 : j = 0 := by simp only [shn] at hj; omega
            subst hj0
            exact hcell off _ hu0
          have hrun := run_load_sh (P := P) (w := w) hu hi (b := b) (p := off) (us := fun j => us[off]) (sh := none) hsh hcell0
          exact .still hI (by simp only [execOp, ho, Sem.run_bind, hux, hrun, Result.andThen_ok, Sem.run_pure] <;> rfl) hW (hob off dd _ hdd hu0).1
        · exact hW.elim
      | some n =>
        obtain ⟨hpos, hle, hK⟩ := hW
        have hrun := run_load_sh (P := P) (w := w) hu hi (b := b) (p := off) (us := fun j => us.getD (off + j) undef) (sh := some n) hsh (fun j hj => by
          have hlt : off + j < us.size := by simp only [shn] at hj; omega
          refine hcell _ _ ?_
          simp [Array.getD, hlt])
        refine .still hI (by simp only [execOp, ho, Sem.run_bind, hux, hrun, Result.andThen_ok, Sem.run_pure] <;> rfl) hK (mkAgg_rep (by simp; omega) (fun u huu => ?_) fun j d' u hd' huj => ?_)
        · obtain ⟨j, hj, rfl⟩ := List.mem_map.1 huu
          have hjn : j < n := List.mem_range.1 hj
          have hlt : off + j < us.size := by omega
          have hlt2 : off + j < cs.length := by omega
          have := (hob (off + j) cs[off + j] us[off + j] (List.getElem?_eq_getElem hlt2) (Array.getElem?_eq_getElem hlt)).2
          simpa [Array.getD, hlt] using this
        · rw [List.getElem?_take] at hd'
          split at hd'
          · rename_i hlt
            rw [List.getElem?_drop] at hd'
            rw [List.getElem?_map, List.getElem?_range hlt] at huj
            cases huj
            have hlt2 : off + j < us.size := by omega
            refine (hob (off + j) d' _ hd' ?_).1
            simp [Array.getD, hlt2]
          · cases hd'
    obtain ⟨n, u, w', m', d', σ', hr', hnn, hK, hI', hx', hd⟩ := key
    rw [hr']
    rcases hnn with rfl | ⟨rfl, rfl⟩
    · exact hn d' σ' m' w' u hK hI' hx' hd
    · exact hn d' σ' m' w' undef hK hI' hx' hd
  · have hW2 : WOp P (.load sh ex) s σ K := by
      simp only [WOp]
      generalize ev s ex = dx at hW had
      cases dx with
      | v y => cases y with
        | adr b off => exact absurd ⟨b, off, rfl⟩ had
        | _ => exact hW
      | _ => exact hW
    exact ok_load ho hx hu hi hsh σ m w a s K hI hE hW2 next Q hn
end
end Go.Abs
