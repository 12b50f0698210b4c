/-
  The model's operations, turned into the small language; that each does what its weakest precondition says: part 7. (Own work; seat-independent.)
-/
import Derived.Test.YtbifjffjibnjjaaDoorAbsH
set_option linter.unusedVariables false
set_option linter.unusedSimpArgs false
namespace Go.Abs
open Go

section
variable {P : Program} {o : Oper}

def cEo : Option Operand → Option (Option E)
  | none => some none
  | some x => match cE x with
    | some e => some (some e)
    | none => none

theorem evo_rep {m : Gh} {w : World} {s : List (Nat × D)} {a : Act} (h : EnvR m w s a.tmps) {x : Option Operand} {e : Option E} (hc : cEo x = some e) : OptRep m w (e.map (ev s)) (x.map a.eval) ∧ (e.isSome = x.isSome) := by
  cases x with
  | none => cases hc; exact ⟨trivial, rfl⟩
  | some x =>
    simp only [cEo] at hc
    split at hc
    · rename_i e' he
      cases hc
      exact ⟨ev_rep h he, rfl⟩
    · cases hc

theorem flat_take_drop {sh : Sh} {xs : List V} (hs : ∀ x ∈ xs, x.shape = sh) (l h : Nat) (i : Nat) (c : V) (hc : (V.flat ((xs.take h).drop l))[i]? = some c) : (V.flat xs)[l * shn sh + i]? = some c := by
  have hs' : ∀ x ∈ (xs.take h).drop l, x.shape = sh := fun x hx => hs x (List.mem_of_mem_take (List.mem_of_mem_drop hx))
  have hlt := (List.getElem?_eq_some_iff.1 hc).1
  have hflen := V.flat_length hs'
  by_cases hsz : shn sh = 0
  · rw [hflen, hsz] at hlt; omega
  have e1 : xs = xs.take l ++ xs.drop l := (List.take_append_drop l xs).symm
  have e2 : (xs.take h).drop l = (xs.drop l).take (h - l) := by rw [List.drop_take]
  rw [e2] at hc hlt
  have e3 : xs.drop l = (xs.drop l).take (h - l) ++ (xs.drop l).drop (h - l) := (List.take_append_drop _ _).symm
  have hl : l ≤ xs.length := by
    rcases Nat.lt_or_ge xs.length l with hx | hx
    · rw [List.drop_eq_nil_of_le (Nat.le_of_lt hx)] at hlt; simp [V.flat] at hlt
    · exact hx
  have hfl : (V.flat (xs.take l)).length = l * shn sh := by
    rw [V.flat_length (sh := sh) fun x hx => hs x (List.mem_of_mem_take hx), List.length_take, Nat.min_eq_left hl]
  rw [e1, V.flat_append, List.getElem?_append_right (by omega), hfl, show l * shn sh + i - l * shn sh = i by omega, e3, V.flat_append, List.getElem?_append_left hlt]
  exact hc

/-- A piece of a slice. -/
theorem RepV.piece {w : World} {F : Nat → Nat → Prop} {sh : Sh} {full : Bool} {xs : List V} {a : Option Addr} {len cap : Nat} (hv : RepV w F (.sl sh full xs) (.slice a len cap)) (l h mm : Nat) (hl : l ≤ h) (hh : h ≤ xs.length) (hm : h ≤ mm) (hmc : mm ≤ cap) {f : Bool} (hf : f = true → mm = h) :
    RepV w F (.sl sh f ((xs.take h).drop l)) (.slice (if mm = l then a else a.map (·.add (l * shn sh))) (h - l) (mm - l)) := by
  obtain ⟨a', cap', he, hlc, hcm, _, hs, h1, hx⟩ := hv.sl_inv
  cases he
  have hlen : ((xs.take h).drop l).length = h - l := by simp; omega
  have hs' : ∀ x ∈ (xs.take h).drop l, x.shape = sh := fun x hx => hs x (List.mem_of_mem_take (List.mem_of_mem_drop hx))
  have h1' : ∀ c ∈ V.flat ((xs.take h).drop l), c.one = true := by
    intro c hc
    obtain ⟨x, hx, hcx⟩ := List.mem_flatMap.1 hc
    exact h1 c (List.mem_flatMap.2 ⟨x, List.mem_of_mem_take (List.mem_of_mem_drop hx), hcx⟩)
  rcases hx with ⟨rfl, rfl⟩ | ⟨b, off, us, rfl, hc, hr⟩
  · have hh0 : h = 0 := by simpa using hh
    have hl0 : l = 0 := by omega
    have hm0 : mm = 0 := by omega
    subst hh0 hl0 hm0
    exact .slNil sh f a
  · rw [← hlen]
    by_cases hml : mm = l
    · rw [if_pos hml]
      have hlh : h = l := by omega
      have hnil : (xs.take h).drop l = [] := by apply List.eq_nil_of_length_eq_zero; omega
      rw [hnil]
      exact .sl sh f [] b off (mm - l) us (by simp) (by simp [V.flat]) (by simp) (by simp only [maxLen] at *; omega) (fun _ => by simp; omega) (by simp) (by simp [V.flat])
    · rw [if_neg hml]
      simp only [Option.map_some, Addr.add_lit]
      refine .sl sh f _ b (off + l * shn sh) (mm - l) (fun j => us (l * shn sh + j)) hs' h1' (by omega) (by simp only [maxLen] at *; omega) (fun hft => by have := hf hft; omega) (fun j hj => ?_) (fun j c hj => hr _ c (flat_take_drop hs l h j c hj))
      have hle : l * shn sh + j < xs.length * shn sh := by
        rw [hlen] at hj
        have h2 : (l + (h - l)) * shn sh ≤ xs.length * shn sh := Nat.mul_le_mul_right _ (by omega)
        rw [Nat.add_mul] at h2
        omega
      have := hc _ hle
      rw [← Nat.add_assoc] at this
      exact this

theorem ok_slice_str {t : TypeId} {x : Operand} {lo hi : Option Operand} {ex : E} {el eh : Option E} (ho : o.op = .slice t x lo hi none) (hx : cE x = some ex) (hlo : cEo lo = some el) (hhi : cEo hi = some eh) (hu : P.underlying t = some .string) : OpOk P o (.slice .str ex el eh none) := by
  refine .of_runs fun σ m w a s K hI hE hW => ?_
  have hr := ev_rep hE hx
  simp only [WOp, WSl] at hW
  generalize ev s ex = dx at hW hr
  obtain ⟨ll, h0⟩ : ∃ ll, dx = .v (.str ll) ∧ WSlice .str (.v (.str ll)) (el.map (ev s)) (eh.map (ev s)) none (fun v => K (.v v) σ) := by
    cases dx with
    | v y =>
      cases y with
      | str l => exact ⟨l, rfl, hW⟩
      | _ => exact hW.elim
    | _ => exact hW.elim
  obtain ⟨rfl, h0⟩ := h0
  simp only [WSlice] at h0
  split at h0
  · rename_i l h hb
    obtain ⟨q0, q1, q2, hk⟩ := h0
    have hsz : (⟨ll.toArray⟩ : ByteArray).size = ll.length := by simp [ByteArray.size]
    have hrun := run_sliceBounds (P := P) (w := w) false ll.length ll.length (Nat.le_refl _) (evo_rep hE hlo).1 (evo_rep hE hhi).1 (show OptRep m w none none from trivial) hb (by simp) q0 q1 q2 (by simp)
    refine .still (u := .string ((⟨ll.toArray⟩ : ByteArray).extract l.toNat h.toNat)) hI ?_ hk (.v _ _ ?_)
    · simp only [execOp, ho, hr.str_inv, Sem.run_bind, Instr.sliceAt, Instr.slice, run_underlying hu, Result.andThen_ok, Option.map_none, Option.isSome_none, Bool.false_eq_true, if_false, hsz, hrun, Sem.run_pure]
    · have : (⟨ll.toArray⟩ : ByteArray).extract l.toNat h.toNat = ⟨((ll.take h.toNat).drop l.toNat).toArray⟩ := by
        apply ByteArray.ext
        rw [ByteArray.data_extract]
        apply Array.ext'
        simp [List.extract_eq_take_drop, List.drop_take]
      rw [this]
      exact .str _ (by have := hr.str_r; simp; omega)
  · exact h0.elim

theorem ok_slice_sl {t e : TypeId} {x : Operand} {lo hi mx : Option Operand} {ex : E} {el eh em : Option E} {i : TypeInfo} {sh : Sh} (ho : o.op = .slice t x lo hi mx) (hx : cE x = some ex) (hlo : cEo lo = some el) (hhi : cEo hi = some eh) (hmx : cEo mx = some em)
    (hmh : mx.isSome = true → hi.isSome = true) (hu : P.underlying t = some (.slice e)) (hi' : P.info? e = some i) (hsz : i.size = shn sh) : OpOk P o (.slice (.sl sh) ex el eh em) := by
  refine .of_runs fun σ m w a s K hI hE hW => ?_
  have hr := ev_rep hE hx
  simp only [WOp] at hW
  generalize ev s ex = dx at hW hr
  generalize hux : a.eval x = ux at hr
  by_cases hmsl : ∃ o off len sh' cp, dx = .msl o off len sh' cp
  · obtain ⟨oo, off, len, sh', cp, rfl⟩ := hmsl
    obtain ⟨rl, _⟩ := evo_rep hE hlo
    obtain ⟨rh, sh1⟩ := evo_rep hE hhi
    obtain ⟨rm, sm1⟩ := evo_rep hE hmx
    have hmh' : (em.map (ev s)).isSome = true → (eh.map (ev s)).isSome = true := fun hh => by
      rw [Option.isSome_map] at hh ⊢
      rw [sm1] at hh
      rw [sh1]
      exact hmh hh
    simp only [WSl, WSlM] at hW
    obtain ⟨rfl, hW⟩ := hW
    cases hr with
    | msl _ _ _ _ _ aa cap hol hbb hlc hcm hcc =>
    split at hW
    · rename_i c
      have hc := hcc c rfl
      subst hc
      have fin : ∀ (l h mm : Nat), (Instr.sliceBounds true len cap (lo.map a.eval) (hi.map a.eval) (mx.map a.eval)).run P w = .ok (l, h, mm) w → l ≤ h → h ≤ mm → mm ≤ cap → K (.msl oo (off + l * shn sh) (h - l) sh (some (mm - l))) σ → Runs1 P o σ m w a K := by
        intro l h mm hrun q1 q2 q3 hk
        refine .still (u := .slice (if mm = l then aa else aa.map (·.add (l * shn sh))) (h - l) (mm - l)) hI ?_ hk ?_
        · simp only [execOp, ho, hux, Sem.run_bind, Instr.sliceAt, Instr.slice, run_underlying hu, Result.andThen_ok, hrun, sizeOf, typeInfo, run_program, hi', Sem.run_pure, hsz]
        · refine .msl oo _ _ sh _ _ _ hol ?_ (by omega) (by simp only [maxLen] at *; omega) fun c hc => (Option.some.inj hc)
          by_cases hml : mm = l
          · right; omega
          · rw [if_neg hml]
            rcases hbb with ⟨b, rfl, hb⟩ | ⟨h0, h1⟩
            · left
              exact ⟨b, by simp only [Option.map_some, Addr.add_lit], hb⟩
            · omega
      split at hW
      · rename_i l h hb
        obtain ⟨q0, q1, q2, hk⟩ := hW
        have hrun := run_sliceBounds' (P := P) (w := w) true len cap hlc rl rh rm hb hmh' q0 q1 q2 (fun v hv => by cases hv)
        refine fin l.toNat h.toNat cap hrun (by omega) (by omega) (Nat.le_refl _) ?_
        rw [show h.toNat - l.toNat = (h - l).toNat by omega]
        exact hk
      · rename_i l h v hb
        obtain ⟨q0, q1, q2, q3, hk⟩ := hW
        have hrun := run_sliceBounds' (P := P) (w := w) true len cap hlc rl rh rm hb hmh' q0 q1 (by omega) (fun v' hv => by cases hv; exact ⟨q2, q3⟩)
        refine fin l.toNat h.toNat v.toNat hrun (by omega) (by omega) (by omega) ?_
        rw [show h.toNat - l.toNat = (h - l).toNat by omega, show v.toNat - l.toNat = (v - l).toNat by omega]
        exact hk
      · exact hW.elim
    · exact hW.elim
  replace hW : WSlice (.sl sh) dx (el.map (ev s)) (eh.map (ev s)) (em.map (ev s)) (fun v => K (.v v) σ) := by
    unfold WSl at hW
    split at hW
    · exact (hmsl ⟨_, _, _, _, _, rfl⟩).elim
    · exact hW
  obtain ⟨rl, _⟩ := evo_rep hE hlo
  obtain ⟨rh, sh1⟩ := evo_rep hE hhi
  obtain ⟨rm, sm1⟩ := evo_rep hE hmx
  have key : ∀ (full : Bool) (xs : List V) (l h : Int) (q : Option Int) (f : Bool), RepV w (Fz m w) (.sl sh full xs) ux → bounds xs.length (el.map (ev s)) (eh.map (ev s)) (em.map (ev s)) = some (l, h, q) → 0 ≤ l → l ≤ h → h ≤ xs.length →
      (∀ v, q = some v → h = v) → (f = true → q = some h) → K (.v (.sl sh f ((xs.take h.toNat).drop l.toNat))) σ → Runs1 P o σ m w a K := by
    intro full xs l h q f hv hb q0 q1 q2 hq hf hk
    obtain ⟨aa, cap, rfl, hlc, _⟩ := hv.sl_inv
    have hrun := run_sliceBounds (P := P) (w := w) true xs.length cap hlc rl rh rm hb (fun hh => by
      rw [Option.isSome_map] at hh ⊢
      rw [sm1] at hh
      rw [sh1]
      exact hmh hh) q0 q1 q2 (fun v hv' => by have := hq v hv'; omega)
    generalize hmm : roomOf cap q = mm at hrun
    have hpiece := hv.piece l.toNat h.toNat mm (by omega) (by omega) (by
      rw [← hmm]
      cases q with
      | none => simp only [roomOf]; omega
      | some v => have := hq v rfl; simp only [roomOf]; omega) (by
      rw [← hmm]
      cases q with
      | none => exact Nat.le_refl _
      | some v => have := hq v rfl; simp only [roomOf]; omega) (f := f) (fun hft => by
      have := hf hft
      rw [← hmm, this]
      rfl)
    refine .still hI ?_ hk (.v _ _ hpiece)
    simp only [execOp, ho, hux, Sem.run_bind, Instr.sliceAt, Instr.slice, run_underlying hu, Result.andThen_ok, hrun, sizeOf, typeInfo, run_program, hi', Sem.run_pure, hsz]
  unfold WSlice at hW
  split at hW
  · cases ‹SlK.sl sh = _›
  · rename_i sh1' sh2 full xs heq
    cases heq
    obtain ⟨rfl, hW⟩ := hW
    split at hW
    · rename_i l h hb; exact key _ _ l h none false hr.v_inv hb hW.1 hW.2.1 hW.2.2.1 (by simp) (by simp) hW.2.2.2
    · rename_i l h v hb; exact key _ _ l h (some v) true hr.v_inv hb hW.1 hW.2.1 (by omega) (fun v' hv' => by cases hv'; exact hW.2.2.1) (fun _ => by rw [hW.2.2.1]) hW.2.2.2.2
    · exact hW.elim
  · rename_i sh1' tt sh2 xs heq
    cases heq
    obtain ⟨rfl, hW⟩ := hW
    cases hr with
    | tsl t sh xs aa len cap tk hv _ _ _ _ =>
    split at hW
    · rename_i l h hb; exact key _ _ l h none false hv hb hW.1 hW.2.1 hW.2.2.1 (by simp) (by simp) hW.2.2.2
    · rename_i l h v hb; exact key _ _ l h (some v) true hv hb hW.1 hW.2.1 (by omega) (fun v' hv' => by cases hv'; exact hW.2.2.1) (fun _ => by rw [hW.2.2.1]) hW.2.2.2.2
    · exact hW.elim
  · rename_i sh1' heq
    cases heq
    have hux0 := hr.v_inv
    generalize hq0 : ux = uq at hux0
    cases hux0
    split at hW
    · rename_i l h q hb
      obtain ⟨rfl, rfl, hq, hk⟩ := hW
      have hrun := run_sliceBounds (P := P) (w := w) true 0 0 (Nat.le_refl _) rl rh rm hb (fun hh => by
        rw [Option.isSome_map] at hh ⊢
        rw [sm1] at hh
        rw [sh1]
        exact hmh hh) (by simp) (by simp) (by simp) (fun v hv' => by rcases hq with rfl | rfl <;> cases hv'; simp)
      have hroom : roomOf 0 q = 0 := by rcases hq with rfl | rfl <;> rfl
      rw [hroom] at hrun
      refine .still (u := .slice none 0 0) hI ?_ hk (.v _ _ (.slNil sh true none))
      simp only [execOp, ho, hux, hq0, Sem.run_bind, Instr.sliceAt, Instr.slice, run_underlying hu, Result.andThen_ok, hrun, sizeOf, typeInfo, run_program, hi', Sem.run_pure, hsz]
      rfl
    · exact hW.elim
  · exact hW.elim

end
end Go.Abs
