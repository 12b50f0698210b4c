/-
  The model's operations, turned into the small language; that each does what its weakest precondition says: part 5. (Own work; seat-independent.)
-/
import Derived.Test.YtbifjffjibnjjaaDoorAbsF
set_option linter.unusedVariables false
set_option linter.unusedSimpArgs false
namespace Go.Abs
open Go

section
variable {P : Program} {o : Oper}

/-! Conversions -/

theorem flat_bytes (s : List UInt8) : V.flat (bytesV s) = bytesV s := by
  induction s with
  | nil => rfl
  | cons b s ih => simp only [bytesV, V.flat, List.map_cons, List.flatMap_cons] at *; rw [ih]; rfl

theorem bytes_shape (s : List UInt8) : ∀ x ∈ bytesV s, x.shape = none := by
  intro x hx
  obtain ⟨b, _, rfl⟩ := List.mem_map.1 hx
  rfl

theorem bytes_one (s : List UInt8) : ∀ x ∈ bytesV s, x.one = true := by
  intro x hx
  obtain ⟨b, _, rfl⟩ := List.mem_map.1 hx
  rfl

def bytesU (s : List UInt8) : List Value := s.map fun b => .int .u8 b.toNat

theorem bytes_rep {w : World} {F : Nat → Nat → Prop} (s : List UInt8) (i : Nat) (c : V) (u : Value) (hc : (bytesV s)[i]? = some c) (hu : (bytesU s)[i]? = some u) : RepV w F c u := by
  simp only [bytesV, bytesU, List.getElem?_map] at hc hu
  cases hs : s[i]? with
  | none => simp [hs] at hc
  | some b => simp [hs] at hc hu; subst hc hu; exact .int _ _ (inR_byte b)

theorem bytes_rep_eq {w : World} {F : Nat → Nat → Prop} (s : List UInt8) {us : List Value} (hl : us.length = s.length) (h : ∀ (i : Nat) c u, (bytesV s)[i]? = some c → us[i]? = some u → RepV w F c u) : us = bytesU s := by
  apply List.ext_getElem?
  intro i
  simp only [bytesU, List.getElem?_map]
  rcases Nat.lt_or_ge i s.length with hlt | hge
  · have hu : us[i]? = some us[i] := List.getElem?_eq_getElem (by omega)
    have hb : s[i]? = some s[i] := List.getElem?_eq_getElem hlt
    have hr := h i (.int .u8 s[i].toNat) us[i] (by simp [bytesV, hb]) hu
    rw [hu, hb]
    generalize us[i] = u at hr
    cases hr
    rfl
  · rw [List.getElem?_eq_none (by omega), List.getElem?_eq_none hge]
    rfl

theorem foldl_bytes (s : List UInt8) : ∀ (r : ByteArray), (s.map fun b : UInt8 => (b.toNat : Int)).foldl (fun r n => r.push (UInt8.ofNat n.toNat)) r = ⟨(r.data.toList ++ s).toArray⟩ := by
  induction s with
  | nil => intro r; simp
  | cons b s ih =>
    intro r
    simp only [List.map_cons, List.foldl_cons]
    rw [ih]
    simp [ByteArray.push]

theorem ok_conv_int {src dst : TypeId} {x : Operand} {ex : E} {d : TypeDesc} {k : IntKind} (ho : o.op = .convert src dst x) (hx : cE x = some ex) (hs : P.underlying src = some d) (hd : P.underlying dst = some (.int k)) : OpOk P o (.conv (.toInt k) ex) := by
  refine .of_runs fun σ m w a s K hI hE hW => ?_
  have hr := ev_rep hE hx
  simp only [WOp] at hW
  generalize ev s ex = dx at hW hr
  unfold WConv at hW
  cases dx with
  | v y =>
    cases y with
    | int l n => exact .still hI (by simp [execOp, ho, hr.int_inv, convert, run_underlying hs, run_underlying hd, Conv.intToInt] <;> rfl) hW (.v _ _ (.int _ _ (inR_wrap _ _)))
    | _ => exact hW.elim
  | _ => exact hW.elim

theorem utf8_one {n : Int} (h0 : 0 ≤ n) (h1 : n < 128) : Utf8.encode n = ⟨#[UInt8.ofNat n.toNat]⟩ := by
  have hv : Utf8.valid n = true := by simp [Utf8.valid]; omega
  unfold Utf8.encode
  simp only [hv, if_true]
  rw [if_pos (by omega)]
theorem ok_conv_rune {src dst : TypeId} {x : Operand} {ex : E} {k : IntKind} (ho : o.op = .convert src dst x) (hx : cE x = some ex) (hs : P.underlying src = some (.int k)) (hd : P.underlying dst = some .string) : OpOk P o (.conv .rune ex) := by
  refine .of_runs fun σ m w a s K hI hE hW => ?_
  have hr := ev_rep hE hx
  simp only [WOp] at hW
  generalize ev s ex = dx at hW hr
  unfold WConv at hW
  cases dx with
  | v y =>
    cases y with
    | int l n =>
      obtain ⟨⟨h0, h1⟩, hK⟩ := hW
      refine .still (u := .string ⟨#[UInt8.ofNat n.toNat]⟩) hI ?_ hK (.v _ _ (.str _ (by simp [maxLen])))
      simp [execOp, ho, hr.int_inv, convert, run_underlying hs, run_underlying hd, Conv.intToString, utf8_one h0 h1]
    | _ => exact hW.elim
  | _ => exact hW.elim

theorem ok_conv_str {src dst : TypeId} {x : Operand} {ex : E} {d : TypeDesc} (ho : o.op = .convert src dst x) (hx : cE x = some ex) (hs : P.underlying src = some d) (hd : P.underlying dst = some .string) : OpOk P o (.conv .strs ex) := by
  refine .of_runs fun σ m w a s K hI hE hW => ?_
  have hr := ev_rep hE hx
  simp only [WOp] at hW
  generalize ev s ex = dx at hW hr
  unfold WConv at hW
  cases dx with
  | v y =>
    cases y with
    | str l => exact .still hI (by simp [execOp, ho, hr.str_inv, convert, run_underlying hs, run_underlying hd] <;> rfl) hW (.v _ _ (.str _ hr.str_r))
    | _ => exact hW.elim
  | _ => exact hW.elim

theorem ok_conv_of {src dst e : TypeId} {x : Operand} {ex : E} (ho : o.op = .convert src dst x) (hx : cE x = some ex) (hs : P.underlying src = some (.slice e)) (he : P.underlying e = some (.int .u8)) (hd : P.underlying dst = some .string) : OpOk P o (.conv .ofBytes ex) := by
  refine .of_runs fun σ m w a s K hI hE hW => ?_
  have hr := ev_rep hE hx
  simp only [WOp] at hW
  generalize ev s ex = dx at hW hr
  generalize hux : a.eval x = ux at hr
  have key : ∀ (sh : Sh) (full : Bool) (l : List UInt8), RepV w (Fz m w) (.sl sh full (bytesV l)) ux → K (.v (.str l)) σ → Runs1 P o σ m w a K := by
    intro sh full l hv hk
    obtain ⟨aa, cap, rfl, hl, hm, hf, hsh, h1, hh⟩ := hv.sl_inv
    rcases hh with ⟨hnil, rfl⟩ | ⟨b, off, us, rfl, hc, hrr⟩
    · have hl0 : l = [] := by simpa [bytesV] using hnil
      subst hl0
      exact .still (u := .string ⟨#[]⟩) hI (by cases aa <;> simp [execOp, ho, hux, run_convert_bytes_string w src dst e _ _ _ hs he hd, Conv.bytesToString, bytesV] <;> rfl) hk (.v _ _ (.str [] (by decide)))
    · have hn1 : l.length * shn sh = l.length := by
        cases l with
        | nil => simp
        | cons b l =>
          have := hsh (.int .u8 b.toNat) (by simp [bytesV])
          have hnn : sh = none := this.symm
          subst hnn
          simp [shn]
      have hbl : (bytesV l).length = l.length := by simp [bytesV]
      rw [hbl, hn1] at hc
      have hus : (List.range l.length).map us = bytesU l := by
        refine bytes_rep_eq (w := w) (F := Fz m w) l (by simp) fun i c u hci hui => ?_
        have hlt : i < l.length := by have := (List.getElem?_eq_some_iff.1 hci).1; simpa [bytesV] using this
        rw [List.getElem?_map, List.getElem?_range hlt] at hui
        cases hui
        exact hrr i c (by rw [flat_bytes]; exact hci)
      have hload := run_loadCells_list (P := P) w ⟨b, off, none⟩ ((List.range l.length).map us) fun j v hj => by
        simp only [List.getElem?_map] at hj
        rcases Nat.lt_or_ge j l.length with hlt | hge
        · rw [List.getElem?_range hlt] at hj
          cases hj
          rw [Addr.add_lit]
          exact (hc j hlt).1
        · simp [hge] at hj
      rw [hus] at hload
      have hbu : bytesU l = (l.map fun b : UInt8 => (b.toNat : Int)).map (Value.int .u8) := by simp [bytesU]
      rw [hbu] at hload
      have hlen : ((l.map fun b : UInt8 => (b.toNat : Int)).map (Value.int .u8)).length = (bytesV l).length := by simp [bytesV]
      rw [hlen] at hload
      have hrun := run_bytesToString (P := P) w ⟨b, off, none⟩ (bytesV l).length cap (l.map fun b : UInt8 => (b.toNat : Int)) hload
      rw [foldl_bytes] at hrun
      refine .still (u := .string ⟨l.toArray⟩) hI ?_ hk (.v _ _ (.str l (by rw [hbl] at hl; exact Nat.le_trans hl hm)))
      simp only [execOp, ho, hux, Sem.run_bind, run_convert_bytes_string w src dst e _ _ _ hs he hd, hrun, Result.andThen_ok, Sem.run_pure]
      rfl
  unfold WConv at hW
  split at hW
  · cases ‹ConvK.ofBytes = _›
  · cases ‹ConvK.ofBytes = _›
  · cases ‹ConvK.ofBytes = _›
  · exact key none false [] (by have := hr.v_inv; cases this; exact .slNil _ _ _) hW
  · obtain ⟨l, rfl, hk⟩ := hW
    exact key _ _ l hr.v_inv hk
  · obtain ⟨l, rfl, hk⟩ := hW
    cases hr with
    | tsl t sh xs aa len cap tk hv _ _ _ _ => exact key _ _ l hv hk
  · cases ‹ConvK.ofBytes = _›
  · exact hW.elim

end
end Go.Abs
