/-
  A record's labels, sorted. (Own work, over the kit's contracts.)
-/
import Derived.Test.YtbifjffjibnjjaaDoorO12
import Derived.Test.YtbifjffjibnjjaaDoorIter
import Derived.Test.YtbifjffjibnjjaaDoorF7
import Derived.Sort.KeysCollected
set_option linter.unusedVariables false
set_option linter.unusedSimpArgs false
namespace Go.Proofs.YtbifjffjibnjjaaDoor
open Go Go.Abs Go.Maps Go.Sort Go.RowKit Go.Shelf Go.WideElems

theorem fresh_fz {σ : Sg} {m : Gh} {w w' : World} (h : Inv σ m w) {g off : Nat} (hg : w.heap.size ≤ g) (hg' : g < w'.heap.size) : Fz m w' g off := by
  refine ⟨hg', fun hm => ?_⟩
  rcases hm with hm | ⟨tk, htk, hb, _⟩
  · have := h.lt_obj hm; omega
  · obtain ⟨us, ty, h5, _⟩ := (h.tk tk htk).2.2.2 g hb
    have := (Array.getElem?_eq_some_iff.1 h5).1
    omega

theorem Inv.below {σ : Sg} {m : Gh} {w w' : World} (h : Inv σ m w) (b : Below w.heap.size w w') : Inv σ m w' ∧ Ext m w m w' := by
  have e : Ext m w m w' := by
    refine ⟨b.os, b.tape, b.output, b.size, fun _ _ h => .inl h, fun _ tk h => ⟨tk, h, rfl, Nat.le_refl _, fun _ => rfl⟩, fun c off f => ⟨cell?_of_heap (b.block c f.1), f.2⟩, fun c hc hn => ⟨b.block c hc, hn⟩⟩
  refine ⟨⟨h.lobj, h.ltok, h.nodup, fun o ob c ho hc => (h.ob o ob c ho hc).mono e (b.block c (h.lt_obj (Gh.mem_objb.2 (List.mem_of_getElem? hc)))), h.gone, fun tk htk => ?_, h.glob.mono e⟩, e⟩
  obtain ⟨h1, h2, h3, h4⟩ := h.tk tk htk
  refine ⟨h1, h2, h3, fun c hc => ?_⟩
  obtain ⟨us, ty, h5, h6⟩ := h4 c hc
  exact ⟨us, ty, (b.block c (Array.getElem?_eq_some_iff.1 h5).1).trans h5, h6⟩

theorem keyOf_s {s : Str} (h : s.length ≤ maxLen) : keyOf Tryd.prog 9 (encStr s) = some (.string s) := by
  have hk : Tryd.prog.underlying 9 = some .string := by kernel_rfl
  unfold maxLen at h
  simp [keyOf, hk, mapKey, encStr, ByteArray.size, maxLen, h]


/-- Any value reads as the same. -/
def RU : Value → Option (DataW Unit × List MemPlace) := fun _ => some (.lit (.bool true), [])
theorem names_len : ∀ l, (namesE l).length = lenE l
  | .nil => rfl
  | .cons x v e => by simp [namesE, lenE, names_len e]
theorem encF_len {φ : Nat → Nat} : ∀ l, (encF φ l).length = (namesE l).length
  | .nil => by simp [namesE, encF]
  | .cons x v e => by simp [namesE, encF, encF_len e]
theorem encF_get {φ : Nat → Nat} : ∀ {l : En} {i : Nat} {s : Str}, (namesE l)[i]? = some s → ∃ v, (encF φ l)[i]? = some (.str s, v)
  | .nil, i, s, h => by simp [namesE] at h
  | .cons x v e, 0, s, h => by
    simp [namesE] at h
    subst h
    exact ⟨encP φ v, by simp [encF]⟩
  | .cons x v e, i + 1, s, h => by
    simp only [namesE, List.getElem?_cons_succ] at h
    obtain ⟨v2, h2⟩ := encF_get (φ := φ) h
    exact ⟨v2, by simpa [encF] using h2⟩
theorem own_F {φ : Nat → Nat} {w : World} {F : Nat → Nat → Prop} {l : En} {b : Nat} {ms : Array MapEntry} {clock : Nat} (hl : (namesE l).length ≤ maxLen) (hh : w.heap[b]? = some (.map ms clock)) (hst : Dense ms clock) (hsz : ms.size = (encF φ l).length)
    (hrep : ∀ (i : Nat) x e, (encF φ l)[i]? = some x → ms[i]? = some e → RepV w F x.1 e.key) :
    ∃ D0 : DataW Unit, w.ownsMap Tryd.prog 9 RU b (namesE l).length D0 ∧ (strKeys D0).Perm (namesE l) ∧ Maps.size D0 = (namesE l).length := by
  rw [encF_len] at hsz
  have hent : ∀ (i : Nat) e, ms[i]? = some e → ∃ s, (namesE l)[i]? = some s ∧ e.key = encStr s ∧ s.length ≤ maxLen := by
    intro i e he
    have hlt : i < (namesE l).length := by rw [← hsz]; exact (Array.getElem?_eq_some_iff.1 he).1
    obtain ⟨v, hv⟩ := encF_get (φ := φ) (List.getElem?_eq_getElem hlt)
    have h1 := hrep i _ e hv he
    refine ⟨_, List.getElem?_eq_getElem hlt, ?_, ?_⟩
    · dsimp only at h1
      generalize e.key = u at h1
      cases h1
      rfl
    · dsimp only at h1
      generalize e.key = u at h1
      cases h1
      assumption
  have hrd : ∀ (i : Nat) e, ms[i]? = some e → ∃ s, (namesE l)[i]? = some s ∧ WideElems.rd Tryd.prog 9 RU e = some (.string s, .lit (.bool true)) := by
    intro i e he
    obtain ⟨s, h1, h2, h4⟩ := hent i e he
    refine ⟨s, h1, ?_⟩
    unfold WideElems.rd
    rw [h2, keyOf_s h4]
    rfl
  have hmap : ms.toList.map (rg Tryd.prog 9 RU) = (namesE l).map fun s => ((Lit.string s, DataW.lit (.bool true)) : Lit × DataW Unit) := by
    apply List.ext_getElem?
    intro i
    rw [List.getElem?_map, List.getElem?_map]
    by_cases hi : i < (namesE l).length
    · have hms : ms[i]? = some ms[i] := Array.getElem?_eq_getElem (by omega)
      obtain ⟨s, h1, h2⟩ := hrd i _ hms
      rw [h1, show ms.toList[i]? = some ms[i] by simp [hi, hsz]]
      simp only [Option.map_some, rg_of h2]
    · rw [List.getElem?_eq_none (by simp; omega), List.getElem?_eq_none (by omega)]
      rfl
  have hp : ((ms.toList.map (rg Tryd.prog 9 RU)).foldr DataW.insert []).Perm ((namesE l).map fun s => ((Lit.string s, DataW.lit (.bool true)) : Lit × DataW Unit)) := by
    have := WideShapes.sorted_perm (ms.toList.map (rg Tryd.prog 9 RU))
    rwa [hmap] at this ⊢
  refine ⟨.map ((ms.toList.map (rg Tryd.prog 9 RU)).foldr DataW.insert []), ⟨ms, clock, hh, ⟨by omega, hst.1, fun x hx => ?_⟩, by omega, rfl⟩, ?_, ?_⟩
  · obtain ⟨i, hi⟩ := List.mem_iff_getElem?.1 hx
    obtain ⟨s, _, h⟩ := hrd i x (by simpa using hi)
    exact ⟨_, h⟩
  · have := hp.map fun p => strOf p.1
    simpa [strKeys, Function.comp_def, strOf] using this
  · have := hp.length_eq
    simpa [Maps.size] using this

theorem k_Keys {es : List (V × V)} {σ : Sg} : ACalls Tryd.prog 92 [.v (.fmap es)] σ fun r σ' => r = .fn 110 [.ptr σ.objs.length 0] ∧ σ' = ⟨σ.objs ++ [.cells [.v (.fmap es)]], σ.toks⟩ := by
  refine acalls_fit Tryd.func92 (by kernel_rfl) c92 rfl (by simp [a92]) fun hf => ?_
  clear hf
  simp -implicitDefEqProofs (maxSteps := 2000000) (disch := omega) [-getElem?_pos, a92]
  exact ⟨_, _, WeakR.refl _ _ _, rfl, rfl⟩

theorem flat_str : ∀ l : List Str, V.flat (l.map V.str) = l.map V.str
  | [] => rfl
  | a :: l => by
    have := flat_str l
    simp only [V.flat, List.map_cons, List.flatMap_cons] at *
    rw [this]
    rfl
theorem sorts (m : Nat) : Go.Proofs.AnyZ.SortsIn Tryd.prog sortedLays_ren Fence.wide m :=
  ⟨fun blk off cap ss W hH hblk hsz => callsIn_wide.2 (Go.Proofs.AnyM.slices_Sort_string sortMLays blk off cap ss W hH hblk hsz),
   fun p cap W => callsIn_wide.2 (Go.Proofs.AnyM.slices_Sort_string_none sortMLays p cap W)⟩

set_option maxHeartbeats 1000000 in
theorem k_Sorted {φ : Nat → Nat} {l : En} {p : Nat} {σ : Sg} (hp : σ.objs[p]? = some (.cells [.v (.fmap (encF φ l))])) (hl : lenE l ≤ 4000000) :
    ACalls Tryd.prog 37 [.fn 110 [.ptr p 0]] σ fun r σ' => r = .v (vS (sortS (namesE l))) ∧ σ' = σ := by
  refine ⟨⟨_, Tryd.func37, by kernel_rfl, by kernel_rfl⟩, fun m w us hI hlen hr => ?_⟩
  obtain ⟨u, rfl⟩ : ∃ u, us = [u] := by
    match us, hlen with
    | [u], _ => exact ⟨u, rfl⟩
  have h0 := hr 0 _ u rfl rfl
  cases h0 with
  | fn _ _ cus hcl hcr =>
  obtain ⟨u1, rfl⟩ : ∃ u1, cus = [u1] := by
    match cus, hcl with
    | [u], _ => exact ⟨u, rfl⟩
  have h1 := hcr 0 _ u1 rfl rfl
  cases h1 with
  | ptr _ _ bp hbp =>
  have hbp := hI.live hp (by simp) hbp
  obtain ⟨pus, pty, hph, hpsz, hpr, _⟩ := hI.ob p _ bp hp hbp
  obtain ⟨u2, hu2⟩ : ∃ u2, pus[0]? = some u2 := ⟨_, Array.getElem?_eq_getElem (Nat.lt_of_lt_of_le (by simp) hpsz)⟩
  have h2 := (hpr 0 _ u2 rfl hu2).1
  have h2 := h2.v_inv
  cases h2 with
  | fmap _ b ms clock hh hF hd hsz hk hv =>
  have hmx : (namesE l).length ≤ maxLen := by rw [names_len]; simp only [maxLen]; omega
  obtain ⟨D0, hown, hperm, hsize⟩ := own_F hmx hh hd hsz hk
  have hcell : w.cell? ⟨bp, 0, none⟩ = some (.map (some b)) := by rw [cell_of_row w bp 0 pus pty (0, 0) hph]; exact hu2
  have hlt : bp < w.heap.size := (Array.getElem?_eq_some_iff.1 hph).1
  have hseq : SeqGives Fence.wide 2 Tryd.prog 110 #[.pointer (some ⟨bp, 0, none⟩)] encStr (fun ss => ss.Perm (strKeys D0)) (Maps.size D0) w :=
    Go.Proofs.AnyZ.keys_gives (ρ := keysLaysV_ren) { keysLaysV with } Fence.wide 2 trivial rfl (by omega) bp b (namesE l).length D0 w hlt hcell hown
  have hC := Go.Proofs.AnyZ.sorted_in sortedLays Fence.wide 5 trivial trivial trivial trivial rfl (by omega) (sorts _) (enters_of Tryd.func68 (by kernel_rfl) rfl) 110 #[.pointer (some ⟨bp, 0, none⟩)] trivial (enters_of Tryd.func110 (by kernel_rfl) rfl) _ _ (by rw [hsize]; exact hmx) (by rw [hsize, names_len]; omega) _ hseq
  refine (callsIn_wide.1 hC).mono fun e w' ⟨v, ss, he, hS, hrow, hnil, hbl⟩ => ?_
  obtain ⟨hI', hX⟩ := Inv.below hI hbl
  have hss : ss.Perm (namesE l) := hS.trans hperm
  have hsort : ss.mergeSort (fun x y => decide (x ≤ y)) = sortS (namesE l) := mergeSort_of_perm hss
  rw [hsort] at hrow
  refine ⟨v, _, σ, m, he, ⟨rfl, rfl⟩, hI', hX, .v _ _ ?_⟩
  obtain ⟨hn, hrow⟩ := hrow
  have hlen2 := hss.length_eq
  rcases hrow with ⟨rfl, h0⟩ | ⟨g, cap, cur, rfl, hg, hgh, hnc, hcm, hcs, htk⟩
  · have : sortS (namesE l) = [] := List.eq_nil_of_length_eq_zero (by rw [sortS_len]; omega)
    rw [this]
    exact .slNil none false none
  · have hxl : ((sortS (namesE l)).map V.str).length = ss.length := by simp [sortS_len, hlen2]
    have hmem : ∀ s ∈ sortS (namesE l), s.length ≤ maxLen := fun s hs => by
      have hs' : s ∈ namesE l := (List.mergeSort_perm (namesE l) _).mem_iff.1 hs
      exact strKeys_le hown (by kernel_rfl) s (hperm.mem_iff.2 hs')
    have hfl : V.flat ((sortS (namesE l)).map V.str) = (sortS (namesE l)).map V.str := flat_str _
    have := RepV.at_head (w := w') (F := Fz m w') none (xs := (sortS (namesE l)).map V.str) (cs := (sortS (namesE l)).map encStr) (cap := cap) (full := false) hgh (by simp [shn]) (fun i u hi => by
        rw [← htk, List.getElem?_take] at hi
        split at hi
        · simpa using hi
        · cases hi) (fun i hi => fresh_fz hI hg (Array.getElem?_eq_some_iff.1 hgh).1) (by simp [V.shape]) (by rw [hfl]; simp [V.one]) (by rw [hxl]; exact hnc) hcm (by simp) (fun i c u hc hu => by
        rw [hfl, List.getElem?_map] at hc
        rw [List.getElem?_map] at hu
        cases hs : (sortS (namesE l))[i]? with
        | none => rw [hs] at hc; cases hc
        | some s =>
          rw [hs] at hc hu
          cases hc
          cases hu
          exact .str s (hmem s (List.mem_of_getElem? hs)))
    rw [hxl] at this
    exact this

end Go.Proofs.YtbifjffjibnjjaaDoor

set_option linter.unusedVariables false
set_option linter.unusedSimpArgs false
set_option maxHeartbeats 1000000
namespace Go.Proofs.YtbifjffjibnjjaaDoor
open Go Go.Abs

/-- What the text's writer does, with so much room. -/
def TxG (B : Sg) (φ : Nat → Nat) (m : Ms) (L g : Nat) : Prop := ∀ (wo : Nat) (b : Str) (v : Vl) (σ : Sg), Wr B wo σ b → okV m.st.length L v → 2000 - b.length < g → ACalls Tryd.prog 35 [.ptr wo 0, .v (encP φ v)] σ (OutT B wo (textT m.st g b v))
theorem look_mem {x : Str} : ∀ {l : En}, x ∈ namesE l → ∃ v, lookE l x = some v
  | .nil, h => by simp [namesE] at h
  | .cons y v e, h => by
    simp only [lookE]
    by_cases hy : y = x
    · exact ⟨v, if_pos hy⟩
    · rw [if_neg hy]
      simp only [namesE, List.mem_cons] at h
      exact look_mem (h.resolve_left fun e => hy e.symm)
theorem names_ok {n L : Nat} {x : Str} : ∀ {l : En}, okE n L l → x ∈ namesE l → x.length ≤ L
  | .nil, h, hx => by simp [namesE] at hx
  | .cons y v e, h, hx => by
    simp only [namesE, List.mem_cons] at hx
    rcases hx with rfl | hx
    · exact h.1
    · exact names_ok h.2.2 hx
section
variable {mo tt : Nat} {φ ψ : Nat → Nat} {m : Ms} {L g : Nat} {B : Sg} (hS : Sto mo tt φ ψ m B) (hok : okM L m) (hL : L ≤ 4000000) (hT : TxG B φ m L g)
include hS hT
theorem k_Inner {ks : List Int} {wo : Nat} {b : Str} {v : Vl} {σ : Sg} (hks : ks.length ≤ 1000) (h : Wr B wo σ b) (hv : okV m.st.length L v) (hg : 2000 - b.length < g) :
    ACalls Tryd.prog 66 [.ptr wo 0, .v (encP φ v), .v (.sl none true (ks.map (.int .i64)))] σ (OutT B wo (innerT (textT m.st g) ks b v)) := by
  refine acalls_fit Tryd.func66 (by kernel_rfl) c66m rfl (by simp [a66m]) fun hfit => ?_
  clear hfit
  simp -implicitDefEqProofs (maxSteps := 2000000) (disch := omega) [-getElem?_pos, a66m]

  refine P_kind (h.sto hS) hv ?_
  simp -implicitDefEqProofs (maxSteps := 2000000) (disch := omega) [-getElem?_pos]
  refine (k_ContI hks).then fun r hr => ?_
  subst hr
  simp -implicitDefEqProofs (maxSteps := 2000000) (disch := omega) [-getElem?_pos]
  unfold innerT
  refine .mk (fun hk => ?_) fun hk => ?_
  · rw [if_pos hk]
    simp -implicitDefEqProofs (maxSteps := 2000000) (disch := omega) [-getElem?_pos]
    refine (k_Put h (by simp)).mono fun r σ1 ⟨hr, h1⟩ => ?_
    subst hr
    have hp := (put_len b [40]).1
    simp -implicitDefEqProofs (maxSteps := 2000000) (disch := omega) [-getElem?_pos]
    refine (hT wo _ v σ1 h1 hv (by omega)).mono fun r σ2 ⟨hr, h2⟩ => ?_
    subst hr
    simp -implicitDefEqProofs (maxSteps := 2000000) (disch := omega) [-getElem?_pos, hk]
    refine (k_Put h2 (by simp)).mono fun r σ3 ⟨hr, h3⟩ => ?_
    subst hr
    simp -implicitDefEqProofs (maxSteps := 2000000) (disch := omega) [-getElem?_pos]
    exact ⟨_, _, WeakR.refl _ _ _, rfl, h3⟩
  · rw [if_neg hk]
    simp -implicitDefEqProofs (maxSteps := 2000000) (disch := omega) [-getElem?_pos]
    refine (hT wo _ v σ h hv hg).mono fun r σ2 ⟨hr, h2⟩ => ?_
    subst hr
    simp -implicitDefEqProofs (maxSteps := 2000000) (disch := omega) [-getElem?_pos, hk]
    exact ⟨_, _, WeakR.refl _ _ _, rfl, h2⟩
include hL
omit hS in
theorem k_Record {l : En} {wo : Nat} {b : Str} {σ : Sg} (h : Wr B wo σ b) (hl : lenE l ≤ L) (hv : okE m.st.length L l) (hg : 2000 - b.length ≤ g) (hb : b.length < 2000) :
    ACalls Tryd.prog 65 [.ptr wo 0, .v (encP φ (.rcd l))] σ (OutT B wo (rcdT (textT m.st g) l b)) := by
  have hp := put_lt (s := [123]) hb (by simp)
  simp only [encP, boxP]
  refine acalls_fit Tryd.func65 (by kernel_rfl) c65 rfl (by simp [a65]) fun hf => ?_
  clear hf
  simp -implicitDefEqProofs (maxSteps := 2000000) (disch := omega) [-getElem?_pos, a65]
  refine (k_Put h (by simp)).mono fun r σ1 ⟨hr, h1⟩ => ?_
  subst hr
  simp -implicitDefEqProofs (maxSteps := 2000000) (disch := omega) [-getElem?_pos]
  refine k_Keys.mono fun r σ2 ⟨hr, hs⟩ => ?_
  subst hr hs
  simp -implicitDefEqProofs (maxSteps := 2000000) (disch := omega) [-getElem?_pos]
  refine (k_Sorted (φ := φ) (l := l) (by simp) (by omega)).then fun r hr => ?_
  subst hr
  unfold rcdT
  obtain ⟨ks, hks⟩ : ∃ ks, ks = sortS (namesE l) := ⟨_, rfl⟩
  have hkm : ∀ x ∈ ks, x ∈ namesE l := fun x hx => by rw [hks] at hx; exact (List.mergeSort_perm (namesE l) _).mem_iff.1 hx
  have hkl : ks.length ≤ L := by rw [hks, sortS_len, names_len]; exact hl
  rw [← hks]
  simp -implicitDefEqProofs (maxSteps := 2000000) (disch := omega) [-getElem?_pos]
  refine W_loop (α := QS) ⟨0, putT b [123], ⟨σ1.objs ++ [.cells [.v (.fmap (encF φ l))]], σ1.toks⟩⟩ (fun x => ks.length - x.i) (fun x => ⟨[(0, .ptr wo 0), (1, .v (.box (some 6) (.agg [.int .i64 4, .int .i64 0, .str [], .fmap (encF φ l), .pnil, .pnil]) 0)), (13, .v (vS ks)), (14, .v (.int .i64 ks.length)), (15, .v (.int .i64 x.i))], x.τ⟩)
    (fun x => x.i ≤ ks.length ∧ Wr B wo x.τ x.b ∧ 2000 - x.b.length < g ∧ fldsT (textT m.st g) l ks 0 (putT b [123]) = fldsT (textT m.st g) l (ks.drop x.i) x.i x.b) (.eq (by simp)) ⟨by simp, h1.add _, by dsimp only; omega, by simp⟩ fun ⟨i, b1, τ⟩ ⟨hi, hw, hg1, he⟩ => ?_
  dsimp only at hi hw hg1 he ⊢
  simp -implicitDefEqProofs (maxSteps := 2000000) (disch := omega) [-getElem?_pos]
  refine .mk (fun hlt => ?_) fun hlt => ?_
  · simp -implicitDefEqProofs (maxSteps := 2000000) (disch := omega) [-getElem?_pos]
    refine ⟨by omega, fun x hx => ?_⟩
    have hxn := hkm x (List.mem_of_getElem? hx)
    have hxl := names_ok hv hxn
    obtain ⟨v, hv2⟩ := look_mem hxn
    have hvo := look_ok hv hv2
    rw [drop_cons hx, fldsT, hv2] at he
    simp only [Option.getD_some] at he
    refine .mk (fun h0 => ?_) fun h0 => ?_
    · rw [if_pos h0] at he
      have hq := (put_len b1 [44, 32]).1
      simp -implicitDefEqProofs (maxSteps := 2000000) (disch := omega) [-getElem?_pos]
      refine (k_Put hw (by simp)).mono fun r σ3 ⟨hr, h3⟩ => ?_
      subst hr
      simp -implicitDefEqProofs (maxSteps := 2000000) (disch := omega) [-getElem?_pos]
      refine ⟨by omega, ?_⟩
      refine (k_Put h3 (by simp; omega)).mono fun r σ4 ⟨hr4, h4⟩ => ?_
      subst hr4
      have hq4 := (put_len (putT b1 [44, 32]) (x ++ [32, 61, 32])).1
      simp -implicitDefEqProofs (maxSteps := 2000000) (disch := omega) [-getElem?_pos, keyOk, keys_F, find_F, hv2, mgot]
      refine (hT wo _ v σ4 h4 hvo (by omega)).mono fun r σ5 ⟨hr5, h5⟩ => ?_
      subst hr5
      have hq5 := text_len m.st g (putT (putT b1 [44, 32]) (x ++ [32, 61, 32])) v
      simp -implicitDefEqProofs (maxSteps := 2000000) (disch := omega) [-getElem?_pos]
      exact ⟨⟨i + 1, _, σ5⟩, ⟨by dsimp only; omega, h5, by dsimp only; omega, he⟩, by dsimp only; omega, .eq (by simp)⟩

    · rw [if_neg h0] at he
      simp -implicitDefEqProofs (maxSteps := 2000000) (disch := omega) [-getElem?_pos]
      refine ⟨by omega, ?_⟩
      refine (k_Put hw (by simp; omega)).mono fun r σ4 ⟨hr4, h4⟩ => ?_
      subst hr4
      have hq4 := (put_len b1 (x ++ [32, 61, 32])).1
      simp -implicitDefEqProofs (maxSteps := 2000000) (disch := omega) [-getElem?_pos, keyOk, keys_F, find_F, hv2, mgot]
      refine (hT wo _ v σ4 h4 hvo (by omega)).mono fun r σ5 ⟨hr5, h5⟩ => ?_
      subst hr5
      have hq5 := text_len m.st g (putT b1 (x ++ [32, 61, 32])) v
      simp -implicitDefEqProofs (maxSteps := 2000000) (disch := omega) [-getElem?_pos]
      exact ⟨⟨i + 1, _, σ5⟩, ⟨by dsimp only; omega, h5, by dsimp only; omega, he⟩, by dsimp only; omega, .eq (by simp)⟩

  · rw [List.drop_eq_nil_of_le (by omega), fldsT] at he
    rw [he]
    simp -implicitDefEqProofs (maxSteps := 2000000) (disch := omega) [-getElem?_pos]
    refine (k_Put hw (by simp)).mono fun r σ3 ⟨hr, h3⟩ => ?_
    subst hr
    simp -implicitDefEqProofs (maxSteps := 2000000) (disch := omega) [-getElem?_pos]
    exact ⟨_, _, WeakR.refl _ _ _, rfl, h3⟩
include hok
theorem k_TextS : TxG B φ m L (g + 1) := by
  intro wo b v σ h hv hg
  have hsto := h.sto hS
  refine acalls_fit Tryd.func35 (by kernel_rfl) c35n rfl (by simp [a35n]) fun hfit => ?_
  clear hfit
  simp -implicitDefEqProofs (maxSteps := 2000000) (disch := omega) [-getElem?_pos, a35n]

  refine (k_Full h).then fun r hr => ?_
  subst hr
  simp -implicitDefEqProofs (maxSteps := 2000000) (disch := omega) [-getElem?_pos]
  refine .mk (fun hfull => ?_) fun hfull => ?_
  · rw [show textT m.st (g + 1) b v = b by cases v <;> rw [textT, if_pos hfull]]
    simp -implicitDefEqProofs (maxSteps := 2000000) (disch := omega) [-getElem?_pos]
    exact ⟨_, _, WeakR.refl _ _ _, rfl, h⟩
  have hb : b.length < 2000 := by omega
  simp -implicitDefEqProofs (maxSteps := 2000000) (disch := omega) [-getElem?_pos]
  refine P_kind hsto hv ?_
  cases v with
  | int n =>
    simp only [encP, boxP, kindV]
    simp -implicitDefEqProofs (maxSteps := 2000000) (disch := omega) [-getElem?_pos]
    refine k_Fmt.then fun r hr => ?_
    obtain ⟨rfl, hil⟩ := hr
    simp -implicitDefEqProofs (maxSteps := 2000000) (disch := omega) [-getElem?_pos]
    refine (k_Put h (by omega)).mono fun r σ1 ⟨hr, h1⟩ => ?_
    subst hr
    simp -implicitDefEqProofs (maxSteps := 2000000) (disch := omega) [-getElem?_pos]
    rw [textT, if_neg hfull]
    exact ⟨_, _, WeakR.refl _ _ _, rfl, h1⟩
  | text s =>
    have hs : s.length ≤ L := hv
    simp only [encP, boxP, kindV]
    simp -implicitDefEqProofs (maxSteps := 2000000) (disch := omega) [-getElem?_pos]
    refine (k_Quoted h (by omega)).mono fun r σ1 ⟨hr, h1⟩ => ?_
    subst hr
    simp -implicitDefEqProofs (maxSteps := 2000000) (disch := omega) [-getElem?_pos]
    rw [textT, if_neg hfull]
    exact ⟨_, _, WeakR.refl _ _ _, rfl, h1⟩
  | fn rc self param part env =>
    simp only [encP, boxP, kindV]
    simp -implicitDefEqProofs (maxSteps := 2000000) (disch := omega) [-getElem?_pos]
    refine (k_Put h (by simp)).mono fun r σ1 ⟨hr, h1⟩ => ?_
    subst hr
    simp -implicitDefEqProofs (maxSteps := 2000000) (disch := omega) [-getElem?_pos]
    rw [textT, if_neg hfull]
    exact ⟨_, _, WeakR.refl _ _ _, rfl, h1⟩
  | rcd l =>
    have hrec := k_Record hL hT h hv.1 hv.2 (by omega) hb
    simp only [encP, boxP, kindV] at hrec ⊢
    simp -implicitDefEqProofs (maxSteps := 2000000) (disch := omega) [-getElem?_pos]
    refine hrec.mono fun r σ1 ⟨hr, h1⟩ => ?_
    subst hr
    simp -implicitDefEqProofs (maxSteps := 2000000) (disch := omega) [-getElem?_pos]
    rw [textT, if_neg hfull]
    exact ⟨_, _, WeakR.refl _ _ _, rfl, h1⟩
  | tag s w =>
    have hs : s.length ≤ L := hv.1
    have hp := put_lt (s := s ++ [32]) hb (by simp)
    simp only [encP, boxP, kindV]
    simp -implicitDefEqProofs (maxSteps := 2000000) (disch := omega) [-getElem?_pos]
    refine ⟨by omega, ?_⟩
    refine (k_Put h (by simp; omega)).mono fun r σ1 ⟨hr, h1⟩ => ?_
    subst hr
    simp -implicitDefEqProofs (maxSteps := 2000000) (disch := omega) [-getElem?_pos]
    refine (k_Inner hS hT (ks := [5]) (by simp) h1 hv.2 (by omega)).mono fun r σ2 ⟨hr, h2⟩ => ?_
    subst hr
    simp -implicitDefEqProofs (maxSteps := 2000000) (disch := omega) [-getElem?_pos]
    rw [textT, if_neg hfull]
    exact ⟨_, _, WeakR.refl _ _ _, rfl, h2⟩
  | ref k =>
    obtain ⟨w, hw⟩ : ∃ w, m.st[k]? = some w := ⟨_, List.getElem?_eq_getElem hv⟩
    have hwo := hok.st w (List.mem_of_getElem? hw)
    have hp := put_lt (s := [114, 101, 102, 32]) hb (by simp)
    simp only [encP, kindV]
    simp -implicitDefEqProofs (maxSteps := 2000000) (disch := omega) [-getElem?_pos]
    refine (k_Put h (by simp)).mono fun r σ1 ⟨hr, h1⟩ => ?_
    subst hr
    obtain ⟨rest, hrest⟩ := (h1.sto hS).st k w hw
    simp -implicitDefEqProofs (maxSteps := 2000000) (disch := omega) [-getElem?_pos]
    refine .mk (o := ψ k) hrest ?_
    simp -implicitDefEqProofs (maxSteps := 2000000) (disch := omega) [-getElem?_pos, refC]
    refine (k_Inner hS hT (ks := [5, 6]) (by simp) h1 hwo (by omega)).mono fun r σ2 ⟨hr, h2⟩ => ?_
    subst hr
    simp -implicitDefEqProofs (maxSteps := 2000000) (disch := omega) [-getElem?_pos]
    rw [textT, if_neg hfull, hw]
    exact ⟨_, _, WeakR.refl _ _ _, rfl, h2⟩
end
theorem k_Text {mo tt : Nat} {φ ψ : Nat → Nat} {m : Ms} {L : Nat} {B : Sg} (hS : Sto mo tt φ ψ m B) (hok : okM L m) (hL : L ≤ 4000000) : ∀ g, TxG B φ m L g
  | 0 => fun wo b v σ h hv hg => absurd hg (Nat.not_lt_zero _)
  | g + 1 => k_TextS hS hok hL (k_Text hS hok hL g)
end Go.Proofs.YtbifjffjibnjjaaDoor

