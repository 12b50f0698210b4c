/-
  Maps that are sets of names: their keys, sorted; one laid into another. (Own work, over the kit's contracts.)
-/
import Derived.Test.YtpdeaekmgljeaaaGreatDoorY4
import Derived.Test.YtpdeaekmgljeaaaGreatDoorIter
import Derived.Sort.KeysCollected
import Derived.Lib.SlMapMerge
set_option linter.unusedVariables false
set_option linter.unusedSimpArgs false
namespace Go.Proofs.YtpdeaekmgljeaaaGreatDoor
open Go Go.Abs Go.Maps Go.Sort Go.RowKit Go.Shelf Go.WideElems

def sortS (l : List Str) : List Str := l.mergeSort fun x y => decide (x ≤ y)
theorem sortS_len (l : List Str) : (sortS l).length = l.length := by simp [sortS]
/-- A set of names. -/
def mS (l : List Str) : Ob := .map (l.map fun s => (V.str s, D.v (.bool true)))

theorem fresh_fz {σ : Sg} {m : Gh} {w w' : World} (h : Inv σ m w) {g off : Nat} (hg : w.heap.size ≤ g) (hg' : g < w'.heap.size) : Fz m w' g off := by
  refine ⟨hg', fun hm => ?_⟩
  rcases hm with hm | ⟨tk, htk, hb, _⟩
  · have := h.lt_obj hm; omega
  · obtain ⟨us, ty, h5, _⟩ := (h.tk tk htk).2.2.2 g hb
    have := (Array.getElem?_eq_some_iff.1 h5).1
    omega

/-- A true value reads. -/
def RT : Value → Option (DataW Unit × List MemPlace)
  | .bool true => some (.lit (.bool true), [])
  | _ => none
theorem RT_some {v : Value} {z : DataW Unit × List MemPlace} (h : RT v = some z) : v = .bool true ∧ z = (.lit (.bool true), []) := by
  unfold RT at h
  split at h
  · cases h; exact ⟨rfl, rfl⟩
  · cases h
theorem keyOf_s {s : Str} (h : s.length ≤ maxLen) : keyOf Tryz.prog 9 (encStr s) = some (.string s) := by
  have hk : Tryz.prog.underlying 9 = some .string := by kernel_rfl
  unfold maxLen at h
  simp [keyOf, hk, mapKey, encStr, ByteArray.size, maxLen, h]

theorem own_of {w : World} {m : Gh} {l : List Str} {b : Nat} (hl : l.length ≤ maxLen) (r : ObRep m w (mS l) b) :
    ∃ D0 : DataW Unit, w.ownsMap Tryz.prog 9 RT b l.length D0 ∧ (strKeys D0).Perm l ∧ Maps.size D0 = l.length ∧ IsMap D0 ∧ ∀ x, has D0 (.string x) = true ↔ x ∈ l := by
  obtain ⟨ms, clock, hh, hsz, hrep, hst⟩ := r
  rw [List.length_map] at hsz
  have hent : ∀ (i : Nat) e, ms[i]? = some e → ∃ s, l[i]? = some s ∧ e.key = encStr s ∧ e.val = .bool true ∧ s.length ≤ maxLen := by
    intro i e he
    have hlt : i < l.length := by rw [← hsz]; exact (Array.getElem?_eq_some_iff.1 he).1
    obtain ⟨h1, h2⟩ := hrep i (V.str l[i], D.v (.bool true)) e (by simp [hlt]) he
    refine ⟨l[i], List.getElem?_eq_getElem hlt, ?_, ?_, ?_⟩
    · dsimp only at h1
      generalize e.key = u at h1
      cases h1
      rfl
    · dsimp only at h2
      generalize e.val = u at h2
      have h3 := h2.v_inv
      cases h3
      rfl
    · dsimp only at h1
      generalize e.key = u at h1
      cases h1
      assumption
  have hrd : ∀ (i : Nat) e, ms[i]? = some e → ∃ s, l[i]? = some s ∧ WideElems.rd Tryz.prog 9 RT e = some (.string s, .lit (.bool true)) := by
    intro i e he
    obtain ⟨s, h1, h2, h3, h4⟩ := hent i e he
    refine ⟨s, h1, ?_⟩
    unfold WideElems.rd
    rw [h2, h3, keyOf_s h4]
    rfl
  have hmap : ms.toList.map (rg Tryz.prog 9 RT) = l.map fun s => ((Lit.string s, DataW.lit (.bool true)) : Lit × DataW Unit) := by
    apply List.ext_getElem?
    intro i
    rw [List.getElem?_map, List.getElem?_map]
    by_cases hi : i < l.length
    · have hms : ms[i]? = some ms[i] := Array.getElem?_eq_getElem (by omega)
      obtain ⟨s, h1, h2⟩ := hrd i _ hms
      rw [h1, show ms.toList[i]? = some ms[i] by simp [hi, hsz]]
      simp only [Option.map_some, rg_of h2]
    · rw [List.getElem?_eq_none (by simp; omega), List.getElem?_eq_none (by omega)]
      rfl
  have hp : ((ms.toList.map (rg Tryz.prog 9 RT)).foldr DataW.insert []).Perm (l.map fun s => ((Lit.string s, DataW.lit (.bool true)) : Lit × DataW Unit)) := by
    have := WideShapes.sorted_perm (ms.toList.map (rg Tryz.prog 9 RT))
    rwa [hmap] at this ⊢
  refine ⟨.map ((ms.toList.map (rg Tryz.prog 9 RT)).foldr DataW.insert []), ⟨ms, clock, hh, ⟨by omega, hst.1, fun x hx => ?_⟩, by omega, rfl⟩, ?_, ?_, ⟨_, rfl⟩, fun x => ?_⟩
  · obtain ⟨i, hi⟩ := List.mem_iff_getElem?.1 hx
    obtain ⟨s, _, h⟩ := hrd i x (by simpa using hi)
    exact ⟨_, h⟩
  · have := hp.map fun p => strOf p.1
    simpa [strKeys, Function.comp_def, strOf] using this
  · have := hp.length_eq
    simpa [Maps.size] using this
  · rw [has_eq, List.any_eq_true]
    constructor
    · rintro ⟨p, hp1, hp2⟩
      have h3 := hp.mem_iff.1 hp1
      obtain ⟨s, hs, rfl⟩ := List.mem_map.1 h3
      have := WideAt.sameKey_eq hp2
      cases this
      exact hs
    · intro hx
      exact ⟨(Lit.string x, DataW.lit (.bool true)), hp.mem_iff.2 (List.mem_map.2 ⟨x, hx, rfl⟩), WideAt.sameKey_self (by trivial)⟩

theorem k_Keys {o : Nat} {σ : Sg} : ACalls Tryz.prog 49 [.map o] σ fun r σ' => r = .fn 77 [.ptr σ.objs.length 0] ∧ σ' = ⟨σ.objs ++ [.cells [.map o]], σ.toks⟩ := by
  refine acalls_fit Tryz.func49 (by kernel_rfl) c49 rfl (by simp [a49]) fun hf => ?_
  clear hf
  simp -implicitDefEqProofs (maxSteps := 2000000) (disch := omega) [-getElem?_pos, a49]
  exact ⟨_, _, WeakR.refl _ _ _, rfl, rfl⟩

theorem flat_str : ∀ l : List Str, V.flat (l.map V.str) = l.map V.str
  | [] => rfl
  | a :: l => by
    have := flat_str l
    simp only [V.flat, List.map_cons, List.flatMap_cons] at *
    rw [this]
    rfl
theorem sorts (m : Nat) : Go.Proofs.AnyZ.SortsIn Tryz.prog sortedLays_ren Fence.wide m :=
  ⟨fun blk off cap ss W hH hblk hsz => callsIn_wide.2 (Go.Proofs.AnyM.slices_Sort_string sortMLays blk off cap ss W hH hblk hsz),
   fun p cap W => callsIn_wide.2 (Go.Proofs.AnyM.slices_Sort_string_none sortMLays p cap W)⟩

set_option maxHeartbeats 1000000 in
theorem k_Sorted {l : List Str} {o p : Nat} {σ : Sg} (hp : σ.objs[p]? = some (.cells [.map o])) (ho : σ.objs[o]? = some (mS l)) (hl : l.length ≤ 1000000) :
    ACalls Tryz.prog 48 [.fn 77 [.ptr p 0]] σ fun r σ' => r = .v (vS (sortS l)) ∧ σ' = σ := by
  refine ⟨⟨_, Tryz.func48, by kernel_rfl, by kernel_rfl⟩, fun m w us hI hlen hr => ?_⟩
  obtain ⟨u, rfl⟩ : ∃ u, us = [u] := by
    match us, hlen with
    | [u], _ => exact ⟨u, rfl⟩
  have h0 := hr 0 _ u rfl rfl
  cases h0 with
  | fn _ _ cus hcl hcr =>
  obtain ⟨u1, rfl⟩ : ∃ u1, cus = [u1] := by
    match cus, hcl with
    | [u], _ => exact ⟨u, rfl⟩
  have h1 := hcr 0 _ u1 rfl rfl
  cases h1 with
  | ptr _ _ bp hbp =>
  have hbp := hI.live hp (by simp) hbp
  obtain ⟨pus, pty, hph, hpsz, hpr, _⟩ := hI.ob p _ bp hp hbp
  obtain ⟨u2, hu2⟩ : ∃ u2, pus[0]? = some u2 := ⟨_, Array.getElem?_eq_getElem (Nat.lt_of_lt_of_le (by simp) hpsz)⟩
  have h2 := (hpr 0 _ u2 rfl hu2).1
  cases h2 with
  | map _ b hb =>
  have hb := hI.live ho (by simp [mS]) hb
  have hmx : l.length ≤ maxLen := by simp only [maxLen]; omega
  obtain ⟨D0, hown, hperm, hsize, _, _⟩ := own_of hmx (hI.ob o _ b ho hb)
  have hcell : w.cell? ⟨bp, 0, none⟩ = some (.map (some b)) := by rw [cell_of_row w bp 0 pus pty (0, 0) hph]; exact hu2
  have hlt : bp < w.heap.size := (Array.getElem?_eq_some_iff.1 hph).1
  have hseq : SeqGives Fence.wide 2 Tryz.prog 77 #[.pointer (some ⟨bp, 0, none⟩)] encStr (fun ss => ss.Perm (strKeys D0)) (Maps.size D0) w :=
    Go.Proofs.AnyZ.keys_gives (ρ := keysLays_ren) { keysLays with } Fence.wide 2 trivial rfl (by omega) bp b l.length D0 w hlt hcell hown
  have hC := Go.Proofs.AnyZ.sorted_in sortedLays Fence.wide 5 trivial trivial trivial trivial rfl (by omega) (sorts _) (enters_of Tryz.func76 (by kernel_rfl) rfl) 77 #[.pointer (some ⟨bp, 0, none⟩)] trivial (enters_of Tryz.func77 (by kernel_rfl) rfl) _ _ (by rw [hsize]; exact hmx) (by rw [hsize]; omega) _ hseq
  refine (callsIn_wide.1 hC).mono fun e w' ⟨v, ss, he, hS, hrow, hnil, hbl⟩ => ?_
  obtain ⟨hI', hX⟩ := Inv.below hI hbl
  have hss : ss.Perm l := hS.trans hperm
  have hsort : ss.mergeSort (fun x y => decide (x ≤ y)) = sortS l := mergeSort_of_perm hss
  rw [hsort] at hrow
  refine ⟨v, _, σ, m, he, ⟨rfl, rfl⟩, hI', hX, .v _ _ ?_⟩
  obtain ⟨hn, hrow⟩ := hrow
  have hlen2 := hss.length_eq
  rcases hrow with ⟨rfl, h0⟩ | ⟨g, cap, cur, rfl, hg, hgh, hnc, hcm, hcs, htk⟩
  · have : sortS l = [] := List.eq_nil_of_length_eq_zero (by rw [sortS_len]; omega)
    rw [this]
    exact .slNil none false none
  · have hxl : ((sortS l).map V.str).length = ss.length := by simp [sortS_len, hlen2]
    have hmem : ∀ s ∈ sortS l, s.length ≤ maxLen := fun s hs => by
      have hs' : s ∈ l := (List.mergeSort_perm l _).mem_iff.1 hs
      exact strKeys_le hown (by kernel_rfl) s (hperm.mem_iff.2 hs')
    have hfl : V.flat ((sortS l).map V.str) = (sortS l).map V.str := flat_str _
    have := RepV.at_head (w := w') (F := Fz m w') none (xs := (sortS l).map V.str) (cs := (sortS l).map encStr) (cap := cap) (full := false) hgh (by simp [shn]) (fun i u hi => by
        rw [← htk, List.getElem?_take] at hi
        split at hi
        · simpa using hi
        · cases hi) (fun i hi => fresh_fz hI hg (Array.getElem?_eq_some_iff.1 hgh).1) (by simp [V.shape]) (by rw [hfl]; simp [V.one]) (by rw [hxl]; exact hnc) hcm (by simp) (fun i c u hc hu => by
        rw [hfl, List.getElem?_map] at hc
        rw [List.getElem?_map] at hu
        cases hs : (sortS l)[i]? with
        | none => rw [hs] at hc; cases hc
        | some s =>
          rw [hs] at hc hu
          cases hc
          cases hu
          exact .str s (hmem s (List.mem_of_getElem? hs)))
    rw [hxl] at this
    exact this

/-- One set laid into another. -/
theorem k_Copy {ld ls : List Str} {d s : Nat} {σ : Sg} (hds : d ≠ s) (hd : σ.objs[d]? = some (mS ld)) (hs : σ.objs[s]? = some (mS ls)) (hld : ld.length ≤ 1000000) (hls : ls.length ≤ 1000000) :
    ACalls Tryz.prog 79 [.map d, .map s] σ fun r σ' => r = .tup [] ∧ ∃ l', l'.Nodup ∧ (∀ x, x ∈ l' ↔ x ∈ ld ∨ x ∈ ls) ∧ l'.length ≤ ld.length + ls.length ∧ σ' = σ.put d (mS l') := by
  refine ⟨⟨_, Tryz.func79, by kernel_rfl, by kernel_rfl⟩, fun m w us hI hlen hr => ?_⟩
  obtain ⟨u1, u2, rfl⟩ : ∃ u1 u2, us = [u1, u2] := by
    match us, hlen with
    | [u, v], _ => exact ⟨u, v, rfl⟩
  have h1 := hr 0 _ u1 rfl rfl
  have h2 := hr 1 _ u2 rfl rfl
  cases h1 with
  | map _ bd hbd =>
  cases h2 with
  | map _ bs hbs =>
  have hbd := hI.live hd (by simp [mS]) hbd
  have hbs := hI.live hs (by simp [mS]) hbs
  have nd : m.objb.Nodup := (List.nodup_append.1 hI.nodup).1
  have hne : bd ≠ bs := by
    rintro rfl
    exact hds (objb_inj nd hbd hbs)
  have hm1 : ld.length ≤ maxLen := by simp only [maxLen]; omega
  have hm2 : ls.length ≤ maxLen := by simp only [maxLen]; omega
  obtain ⟨Dd, hownd, _, _, hMd, hmd⟩ := own_of hm1 (hI.ob d _ bd hd hbd)
  obtain ⟨Ds, howns, hps, hsz, ⟨es, rfl⟩, hms⟩ := own_of hm2 (hI.ob s _ bs hs hbs)
  have hC := Go.Proofs.AnyX.maps_Copy copyLays (string_keyed (by kernel_rfl)) RT bd bs ld.length ls.length Dd (.map es) w hownd howns hne (by rw [hsz]; simp only [maxLen]; omega)
  rw [show copyLays_ren.t 26 = 9 from rfl] at hC
  refine hC.mono fun e w' ⟨he, hown', _, hgr⟩ => ?_
  obtain ⟨ms', clock', hh', hF, hsz', hD'⟩ := hown'
  have hmem : bd ∈ m.objb := Gh.mem_objb.2 (List.mem_of_getElem? hbd)
  have old : ∀ k, k < w.heap.size → k ≠ bd → w'.heap[k]? = w.heap[k]? := fun k hk hne => hgr.block k hk (by simpa using hne)
  have hX : Ext m w m w' := .turned hmem hgr.os hgr.tape hgr.output hgr.size old
  have hent : ∀ x ∈ ms'.toList, ∃ t : Str, x.key = encStr t ∧ x.val = .bool true ∧ t.length ≤ maxLen ∧ rg Tryz.prog 9 RT x = (.string t, .lit (.bool true)) := by
    intro x hx
    obtain ⟨y, hy⟩ := hF.reads x hx
    obtain ⟨t, h3, h4, h5⟩ := Maps.keyOf_str (by kernel_rfl) (rd_key hy)
    obtain ⟨z, h6, h7⟩ := rd_val hy
    obtain ⟨h8, h9⟩ := RT_some h6
    refine ⟨t, h3, h8, h5, ?_⟩
    rw [rg_of hy]
    rw [h9] at h7
    exact Prod.ext h4 h7
  obtain ⟨l', hl'⟩ : ∃ l' : List Str, ms'.toList.map (·.key) = l'.map encStr := by
    refine ⟨ms'.toList.map fun x => (match x.key with | .string b => b.data.toList | _ => []), ?_⟩
    rw [List.map_map]
    apply List.map_congr_left
    intro x hx
    obtain ⟨t, h3, _⟩ := hent x hx
    simp [h3]
  have hlen' : l'.length = ms'.size := by
    have := congrArg List.length hl'
    simpa using this.symm
  have hat : ∀ (i : Nat) x, ms'[i]? = some x → ∃ t, l'[i]? = some t ∧ x.key = encStr t ∧ x.val = .bool true ∧ t.length ≤ maxLen := by
    intro i x hx
    obtain ⟨t, h3, h4, h5, _⟩ := hent x (by simpa using Array.mem_of_getElem? hx)
    have h6 := congrArg (·[i]?) hl'
    simp only [List.getElem?_map] at h6
    rw [show ms'.toList[i]? = some x by simpa using hx] at h6
    cases h7 : l'[i]? with
    | none => rw [h7] at h6; cases h6
    | some t' =>
      rw [h7] at h6
      simp only [Option.map_some, Option.some.injEq] at h6
      rw [h3] at h6
      exact ⟨t, by rw [encStr_inj h6], h3, h4, h5⟩
  have hnd : l'.Nodup := by
    have h3 := hF.stamped.2.2
    rw [hl'] at h3
    exact (List.pairwise_map.1 h3).imp fun {a b} hab e => hab (by rw [e])
  have hrgs : ms'.toList.map (rg Tryz.prog 9 RT) = l'.map fun t => ((Lit.string t, DataW.lit (.bool true)) : Lit × DataW Unit) := by
    apply List.ext_getElem?
    intro i
    rw [List.getElem?_map, List.getElem?_map]
    cases hx : ms'[i]? with
    | none =>
      have : ms'.size ≤ i := by simpa using hx
      rw [List.getElem?_eq_none (by simpa using this), List.getElem?_eq_none (by omega)]
      rfl
    | some x =>
      obtain ⟨t, h3, h4, _⟩ := hat i x hx
      obtain ⟨t', h5, _, _, h6⟩ := hent x (by simpa using Array.mem_of_getElem? hx)
      rw [h3, show ms'.toList[i]? = some x by simpa using hx, Option.map_some, Option.map_some, h6]
      rw [h4] at h5
      rw [encStr_inj h5]
  have hhas : ∀ x, has (Lib.mergeD Dd (.map es)) (.string x) = true ↔ x ∈ l' := by
    intro x
    rw [hD', has_eq, List.any_eq_true]
    constructor
    · rintro ⟨p, hp1, hp2⟩
      have h3 := (WideShapes.sorted_perm _).mem_iff.1 hp1
      rw [hrgs] at h3
      obtain ⟨t, ht, rfl⟩ := List.mem_map.1 h3
      have := WideAt.sameKey_eq hp2
      cases this
      exact ht
    · intro hx
      refine ⟨(Lit.string x, DataW.lit (.bool true)), (WideShapes.sorted_perm _).mem_iff.2 ?_, WideAt.sameKey_self (by trivial)⟩
      rw [hrgs]
      exact List.mem_map.2 ⟨x, hx, rfl⟩
  have hmerge : ∀ (es : List (Lit × DataW Unit)) (D : DataW Unit), IsMap D → (∀ p ∈ es, WideAt.IsKeyLit p.1) → ∀ k, has (es.foldl (fun D p => D.put p.1 p.2) D) k = true ↔ has D k = true ∨ ∃ p ∈ es, p.1 = k := by
    intro es
    induction es with
    | nil => intro D _ _ k; simp
    | cons p es ih =>
      intro D hD hk k
      rw [List.foldl_cons, ih _ (hD.put _ _) (fun q hq => hk q (by simp [hq])) k]
      by_cases e : k = p.1
      · subst e
        rw [has_put_same hD (hk p (by simp))]
        simp
      · rw [has_put_other e]
        constructor
        · rintro (h | ⟨q, hq, rfl⟩)
          · exact .inl h
          · exact .inr ⟨q, by simp [hq], rfl⟩
        · rintro (h | ⟨q, hq, rfl⟩)
          · exact .inl h
          · rcases List.mem_cons.1 hq with rfl | hq
            · exact absurd rfl e
            · exact .inr ⟨q, hq, rfl⟩
  have hI' := hI.turned hbd hX old (mS l') ⟨ms', clock', hh', by simp [hlen'], fun i x e hx he => ?_, hF.stamped, fun h => nomatch h⟩
  · refine ⟨_, _, _, m, he, ⟨rfl, l', hnd, fun x => ?_, by rw [hlen']; rw [hsz] at hsz'; exact hsz', rfl⟩, hI', hX, .tup [] [] rfl (by simp)⟩
    rw [← hhas, ← hmd, ← hms]
    have hkl : ∀ p ∈ es, WideAt.IsKeyLit p.1 := fun p hp => by
      obtain ⟨es0, he0, hk0⟩ := howns.keysOf
      cases he0
      obtain ⟨v, hv⟩ := hk0 p hp
      obtain ⟨t, _, h4, _⟩ := Maps.keyOf_str (by kernel_rfl) hv
      rw [h4]
      trivial
    show has (es.foldl (fun D p => D.put p.1 p.2) Dd) (.string x) = true ↔ _
    rw [hmerge es Dd hMd hkl]
    refine or_congr Iff.rfl ?_
    rw [has_eq, List.any_eq_true]
    constructor
    · rintro ⟨p, hp, e⟩
      exact ⟨p, hp, by rw [e]; exact WideAt.sameKey_self (by trivial)⟩
    · rintro ⟨p, hp, e⟩
      exact ⟨p, hp, WideAt.sameKey_eq e⟩
  · rw [List.getElem?_map] at hx
    obtain ⟨t, h3, h4, h5, h6⟩ := hat i e he
    rw [h3] at hx
    cases hx
    exact ⟨by rw [h4]; exact .str t h6, by rw [h5]; exact .v _ _ (.bool true)⟩
end Go.Proofs.YtpdeaekmgljeaaaGreatDoor
