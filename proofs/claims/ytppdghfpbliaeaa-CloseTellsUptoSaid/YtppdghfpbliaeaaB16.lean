/-
  Closed functions: what is noted of one. (Own work.)
-/
import Derived.Test.YtppdghfpbliaeaaB15
set_option linter.unusedVariables false
set_option linter.unusedSimpArgs false
namespace Go.Proofs.Ytppdghfpbliaeaa
open Go Go.Abs

/-- A function by itself; its part may not be known yet. -/
structure Fu where
  s : Str
  t : Str
  caps : Option (List Str)
  part : Option Co
def coV : Co → List V
  | .mk k n s t ns l => [.int .i64 k, .int .i64 n, .str s, .str t, .sl none false (ns.map .str), .sl (some 6) false (l.map encC)]
theorem coV_mk {k n : Int} {s t : Str} {ns : List Str} {l : List Co} : coV (.mk k n s t ns l) = [.int .i64 k, .int .i64 n, .str s, .str t, .sl none false (ns.map .str), .sl (some 6) false (l.map encC)] := rfl
theorem encC_coV (e : Co) : encC e = .agg (coV e) := by cases e; rw [encC_mk]; rfl
theorem coV_len (e : Co) : (coV e).length = 6 := by cases e; rfl
def partV : Option Co → List V
  | none => [.int .i64 0, .int .i64 0, .str [], .str [], .snil, .snil]
  | some e => coV e
theorem partV_len (e : Option Co) : (partV e).length = 6 := by cases e <;> simp [partV, coV_len]
def capV : Option (List Str) → V
  | none => .snil
  | some l => vS l
def fuV (f : Fu) : List V := .str f.s :: .str f.t :: capV f.caps :: partV f.part
theorem fuV_len (f : Fu) : (fuV f).length = 9 := by simp [fuV, partV_len]
def funD (fs : List Fu) : List D := (fs.flatMap fuV).map .v
theorem funD_len (fs : List Fu) : (funD fs).length = fs.length * 9 := by
  unfold funD
  rw [List.length_map]
  induction fs with
  | nil => rfl
  | cons f l ih => rw [List.flatMap_cons, List.length_append, ih, fuV_len, List.length_cons]; omega
theorem funD_app (a b : List Fu) : funD (a ++ b) = funD a ++ funD b := by simp [funD]

theorem funD1 (f : Fu) : funD [f] = (fuV f).map .v := by simp [funD]
theorem drop_fun (fs : List Fu) (rest : List D) : (funD fs ++ rest).drop (fs.length * 9 + 9) = rest.drop 9 := by
  rw [List.drop_append, List.drop_eq_nil_of_le (by rw [funD_len]; omega), funD_len]
  simp
theorem k_Function1 {k n : Int} {x s t : Str} {p : Nat} {a b : V} {σ : Sg} (ho : σ.objs[p]? = some (.cells [.v (.int .i64 k), .v (.int .i64 n), .v (.str s), .v (.str t), .v a, .v b])) :
    ACalls Try.prog 68 [.v (.str x), .ptr p 0] σ fun r σ' => r = .v (.bool (decide (x = s))) ∧ σ' = σ := by
  refine acalls_fit Try.func68 (by kernel_rfl) c68 rfl (by simp [a68]) fun hf => ?_
  clear hf
  simp -implicitDefEqProofs (maxSteps := 2000000) (disch := omega) [-getElem?_pos, a68, ho]
  exact .fin _ ⟨by simp [beq_dec], rfl⟩ (.refl _)
/-- The closer, and where its functions lie. -/
structure Clo (σ : Sg) (c o cap : Nat) (rest : List D) (fs : List Fu) (bad : Bool) : Prop where
  hc : σ.objs[c]? = some (.cells [.msl o 0 fs.length (some 9) (some cap), .v (.bool bad)])
  ho : σ.objs[o]? = some (.cells (funD fs ++ rest))
  ne : o ≠ c
  fit : fs.length ≤ cap
  room : fs.length * 9 + rest.length = cap * 9
/-- What is left as it was. -/
structure Frm (σ σ' : Sg) (c o : Nat) : Prop where
  len : σ.objs.length ≤ σ'.objs.length
  objs : ∀ i, i < σ.objs.length → i ≠ c → i ≠ o → σ'.objs[i]? = σ.objs[i]?
  toks : ∃ ts, σ'.toks = σ.toks ++ ts

/-- What a function takes along. -/
def capsOf : Co → List Str
  | .mk k n s t ns l => if k = 7 then (ofS (fvs (.mk 4 0 t [] [] (l.take 1)))).filter (fun x => !decide (x = s)) else ofS (fvs (.mk k n s t ns l))
def fuOf : Co → Fu
  | .mk k n s t ns l => ⟨if k = 7 then s else [], if k = 7 then t else s, some (capsOf (.mk k n s t ns l)), none⟩
def badOf : Co → Bool
  | .mk k n s t ns l => k = 7 ∧ s = []

/-- A function is noted. -/
def FunPost (σ : Sg) (c o : Nat) (fs : List Fu) (f : Fu) (bad : Bool) (r : D) (σ' : Sg) : Prop :=
  r = .v (.int .i64 fs.length) ∧ ∃ o' cap' rest', Clo σ' c o' cap' rest' (fs ++ [f]) bad ∧ Frm σ σ' c o ∧ (o' = o ∨ σ.objs.length ≤ o')
theorem post_in {σ : Sg} {c o cap : Nat} {rest rest' : List D} {fs : List Fu} {bad bad' : Bool} {f : Fu} {X : Ob} {xs : List Ob} (hC : Clo σ c o cap rest fs bad) (h : fs.length + 1 ≤ cap) (hX : X = .cells (funD (fs ++ [f]) ++ rest')) (hl : rest'.length + 9 = rest.length) :
    FunPost σ c o fs f bad' (.v (.int .i64 fs.length)) ⟨(σ.objs.set o X).set c (.cells [.msl o 0 (fs.length + 1) (some 9) (some cap), .v (.bool bad')]) ++ xs, σ.toks⟩ := by
  obtain ⟨hc, ho, hne, hfit, hroom⟩ := hC
  have hcl := (List.getElem?_eq_some_iff.1 hc).1
  have hol := (List.getElem?_eq_some_iff.1 ho).1
  refine ⟨rfl, o, cap, rest', ⟨?_, ?_, hne, by simpa using h, by simp; omega⟩, ⟨by simp, fun i hi h1 h2 => ?_, [], by simp⟩, .inl rfl⟩
  · rw [List.getElem?_append_left (by simpa using hcl), List.getElem?_set_self (by simpa using hcl)]
    simp
  · rw [List.getElem?_append_left (by simpa using hol), List.getElem?_set_ne (Ne.symm hne), List.getElem?_set_self hol, hX]
  · rw [List.getElem?_append_left (by simpa using hi), List.getElem?_set_ne (Ne.symm h1), List.getElem?_set_ne (Ne.symm h2)]
theorem post_new {σ : Sg} {c o cap c' j : Nat} {rest rest' : List D} {fs : List Fu} {bad bad' : Bool} {f : Fu} {X : Ob} {xs : List Ob} (hC : Clo σ c o cap rest fs bad) (h : fs.length + 1 ≤ c') (hj : xs[j]? = some X) (hX : X = .cells (funD (fs ++ [f]) ++ rest')) (hl : rest'.length = (c' - (fs.length + 1)) * 9) :
    FunPost σ c o fs f bad' (.v (.int .i64 fs.length)) ⟨σ.objs.set c (.cells [.msl (σ.objs.length + j) 0 (fs.length + 1) (some 9) (some c'), .v (.bool bad')]) ++ xs, σ.toks⟩ := by
  obtain ⟨hc, ho, hne, hfit, hroom⟩ := hC
  have hcl := (List.getElem?_eq_some_iff.1 hc).1
  refine ⟨rfl, σ.objs.length + j, c', rest', ⟨?_, ?_, by omega, by simpa using h, by simp; omega⟩, ⟨by simp, fun i hi h1 h2 => ?_, [], by simp⟩, .inr (by omega)⟩
  · rw [List.getElem?_append_left (by simpa using hcl), List.getElem?_set_self (by simpa using hcl)]
    simp
  · rw [List.getElem?_append_right (by simp)]
    simp [hj, hX]
  · rw [List.getElem?_append_left (by simpa using hi), List.getElem?_set_ne (Ne.symm h1)]
theorem FunPost.of {σ : Sg} {T : List Ob} {c o : Nat} {fs : List Fu} {f : Fu} {b : Bool} {r : D} {σ' : Sg} (h : FunPost ⟨T, σ.toks⟩ c o fs f b r σ') (hl : T.length = σ.objs.length) (hT : ∀ i, i ≠ c → T[i]? = σ.objs[i]?) : FunPost σ c o fs f b r σ' := by
  obtain ⟨h1, o', cap', rest', h2, ⟨h3, h4, h5⟩, h6⟩ := h
  exact ⟨h1, o', cap', rest', h2, ⟨by rw [← hl]; exact h3, fun i hi h7 h8 => by rw [h4 i (by rw [hl]; exact hi) h7 h8]; exact hT i h7, h5⟩, by rw [← hl]; exact h6⟩
theorem k_Function {k n : Int} {s t : Str} {ns : List Str} {l : List Co} {c o cap : Nat} {rest : List D} {fs : List Fu} {bad : Bool} {σ : Sg} (hk : k = 4 ∨ k = 7) (he : csz (.mk k n s t ns l) ≤ 1048576) (hC : Clo σ c o cap rest fs bad) (hfl : fs.length ≤ 1048576) :
    ACalls Try.prog 54 [.ptr c 0, .v (encC (.mk k n s t ns l))] σ (FunPost σ c o fs (fuOf (.mk k n s t ns l)) (bad || badOf (.mk k n s t ns l))) := by
  have hC0 := hC
  obtain ⟨hc, ho, hne, hfit, hroom⟩ := hC
  have hcl := (List.getElem?_eq_some_iff.1 hc).1
  have hol := (List.getElem?_eq_some_iff.1 ho).1
  have hfd := funD_len fs
  have hfr := fun σ => k_Free (.mk k n s t ns l) (σ := σ) he
  rw [encC_mk] at hfr ⊢
  refine acalls_fit Try.func54 (by kernel_rfl) c54m rfl (by simp [a54m]) fun hf => ?_
  clear hf
  have hg : ∀ X r, (σ.objs.set o X ++ r)[c]? = some (.cells [.msl o 0 fs.length (some 9) (some cap), .v (.bool bad)]) := fun X r => by
    rw [List.getElem?_append_left (by simpa using hcl), List.getElem?_set_ne hne, hc]
  have hs2 : ∀ X Y r, (σ.objs.set o X ++ r).set c Y = (σ.objs.set o X).set c Y ++ r := fun X Y r => List.set_append_left _ _ (by simpa using hcl)
  have hg2 : ∀ X Y r, ((σ.objs.set o X).set c Y ++ r)[c]? = some Y := fun X Y r => by
    rw [List.getElem?_append_left (by simpa using hcl), List.getElem?_set_self (by simpa using hcl)]
  rcases hk with rfl | rfl
  · simp -implicitDefEqProofs (maxSteps := 2000000) (disch := omega) [-getElem?_pos, a54m]
    refine (hfr _).then fun r hr => ?_
    subst hr
    obtain ⟨cs, hcs⟩ : ∃ cs, cs = ofS (fvs (.mk 4 n s t ns l)) := ⟨_, rfl⟩
    rw [← hcs]
    simp -implicitDefEqProofs (maxSteps := 2000000) (disch := omega) [-getElem?_pos, List.getElem?_append_left, List.set_append_left, hc, ho]
    refine .mk (fun h => ?_) fun h => ?_
    · simp -implicitDefEqProofs (maxSteps := 2000000) (disch := omega) [-getElem?_pos, List.getElem?_append_left, List.set_append_left, hc, ho]
      refine ⟨by omega, ?_⟩
      refine ⟨.inr (hg _ _), ?_⟩
      simp -implicitDefEqProofs (maxSteps := 2000000) (disch := omega) [-getElem?_pos, hg, hg2, hs2]
      refine ⟨_, _, WeakR.refl _ _ _, ?_⟩
      have hbad : (bad || badOf (.mk 4 n s t ns l)) = bad := by simp [badOf]
      rw [hbad]
      refine post_in (rest' := rest.drop 9) hC0 h ?_ (by simp; omega)
      rw [funD_app, funD1]
      simp [fuOf, capsOf, ← hcs, fuV, partV, capV, V.flat, drop_fun]
    · simp -implicitDefEqProofs (maxSteps := 2000000) (disch := omega) [-getElem?_pos, List.getElem?_append_left, List.set_append_left, hc, ho]
      refine ⟨by omega, by omega, ?_⟩
      intro c' h1 h2
      refine ⟨_, _, WeakR.refl _ _ _, ?_⟩
      have hbad : (bad || badOf (.mk 4 n s t ns l)) = bad := by simp [badOf]
      rw [hbad]
      refine post_new (j := 2) (rest' := List.replicate ((c' - (fs.length + 1)) * 9) .junk) hC0 h1 rfl ?_ (by simp)
      simp [fuOf, capsOf, ← hcs, funD_app, fuV, partV, capV, funD, V.flat]
  · have he2 : csz (.mk 4 0 t [] [] (l.take 1)) ≤ 1048576 := by
      have := cszL_take l 1
      simp only [csz, nsz, List.length_nil] at he ⊢
      omega
    have hfm := fun σ => k_FreeM (.mk 4 0 t [] [] (l.take 1)) (σ := σ) he2
    have hf0 := fun σ => k_Free (.mk 4 0 t [] [] (l.take 1)) (σ := σ) he2
    rw [encC_mk] at hfm hf0
    simp -implicitDefEqProofs (maxSteps := 2000000) (disch := omega) [-getElem?_pos, a54m]
    refine (hfr _).then fun r hr => ?_
    subst hr
    simp -implicitDefEqProofs (maxSteps := 2000000) (disch := omega) [-getElem?_pos, List.getElem?_append_left, List.set_append_left, hc, ho]
    obtain ⟨bad2, hb2⟩ : ∃ bad2, bad2 = (bad || badOf (.mk 7 n s t ns l)) := ⟨_, rfl⟩
    rw [← hb2]
    have hb3 : bad2 = (bad || (s == [])) := by rw [hb2]; cases bad <;> cases s <;> simp [badOf]
    have le1 : D.Le (.v (.agg [.int .i64 4, .int .i64 0, .str t, .str [], .snil, .sl (some 6) false ((l.take 1).map encC)])) (.v (.agg [.int .i64 4, .int .i64 0, .str t, .str [], .sl none false (([] : List Str).map .str), .sl (some 6) false ((l.take 1).map encC)])) :=
      VLe.d (.agg ⟨.refl _, .refl _, .refl _, .refl _, .snil, .refl _, trivial⟩ (by simp))
    have hM : (l.map encC).take (if 1 < (l.length : Int) then 1 else (l.length : Int)).toNat = (l.take 1).map encC := by
      rw [List.map_take]
      split
      · rfl
      · rw [List.take_of_length_le (by simp), List.take_of_length_le (by simp; omega)]
    have hY1 : ∀ b, bad2 = b → Ob.cells [D.msl o 0 fs.length (some 9) (some cap), .v (.bool b)] = Ob.cells [D.msl o 0 fs.length (some 9) (some cap), .v (.bool bad2)] := fun b e => by rw [e]
    refine .mk (fun h => ?_) fun h => ?_
    · subst h
      have hb4 : bad2 = true := by rw [hb3]; rfl
      simp -implicitDefEqProofs (maxSteps := 2000000) (disch := omega) [-getElem?_pos, List.getElem?_append_left, List.set_append_left, hc, ho]
      refine ⟨by split <;> omega, by split <;> omega, ?_⟩
      rw [hM, hY1 true hb4]
      obtain ⟨T, hT⟩ : ∃ T, T = σ.objs.set c (Ob.cells [D.msl o 0 fs.length (some 9) (some cap), .v (.bool bad2)]) := ⟨_, rfl⟩
      rw [← hT]
      have hTl : T.length = σ.objs.length := by rw [hT]; simp
      have hTf : ∀ i, i ≠ c → T[i]? = σ.objs[i]? := fun i hi => by rw [hT, List.getElem?_set_ne (Ne.symm hi)]
      have hcT : T[c]? = some (.cells [.msl o 0 fs.length (some 9) (some cap), .v (.bool bad2)]) := by rw [hT, List.getElem?_set_self hcl]
      have hoT : T[o]? = some (.cells (funD fs ++ rest)) := by rw [hTf o hne, ho]
      have hcT' : ∀ r, (T ++ r)[c]? = some (.cells [.msl o 0 fs.length (some 9) (some cap), .v (.bool bad2)]) := fun r => by rw [List.getElem?_append_left (by omega), hcT]
      have hoT' : ∀ r, (T ++ r)[o]? = some (.cells (funD fs ++ rest)) := fun r => by rw [List.getElem?_append_left (by omega), hoT]
      have hsT : ∀ X r, (T ++ r).set o X = T.set o X ++ r := fun X r => List.set_append_left _ _ (by omega)
      have hscT : ∀ X r, (T ++ r).set c X = T.set c X ++ r := fun X r => List.set_append_left _ _ (by omega)
      have hgT : ∀ X r, (T.set o X ++ r)[c]? = some (.cells [.msl o 0 fs.length (some 9) (some cap), .v (.bool bad2)]) := fun X r => by
        rw [List.getElem?_append_left (by simp; omega), List.getElem?_set_ne hne, hcT]
      have hs2T : ∀ X Y r, (T.set o X ++ r).set c Y = (T.set o X).set c Y ++ r := fun X Y r => List.set_append_left _ _ (by simp; omega)
      have hg2T : ∀ X Y r, ((T.set o X).set c Y ++ r)[c]? = some Y := fun X Y r => by
        rw [List.getElem?_append_left (by simp; omega), List.getElem?_set_self (by simp; omega)]
      have hg3T : ∀ Y r, (T.set c Y ++ r)[c]? = some Y := fun Y r => by
        rw [List.getElem?_append_left (by simp; omega), List.getElem?_set_self (by omega)]
      have hCT : Clo ⟨T, σ.toks⟩ c o cap rest fs bad2 := ⟨hcT, hoT, hne, hfit, hroom⟩
      by_cases he0 : ofS (fvs (.mk 4 0 t [] [] (l.take 1))) = []
      · refine ((hf0 _).arg1 le1).then fun r hr => ?_
        subst hr
        rw [he0]
        simp only [← hTl]
        simp -implicitDefEqProofs (maxSteps := 2000000) (disch := omega) [-getElem?_pos, hcT', hoT', hsT, hscT]
        refine (k_DeleteFunc0 (f := false)).then fun r hr => ?_
        subst hr
        simp -implicitDefEqProofs (maxSteps := 2000000) (disch := omega) [-getElem?_pos, hcT', hoT', hsT, hscT]
        refine .mk (fun h => ?_) fun h => ?_
        · simp -implicitDefEqProofs (maxSteps := 2000000) (disch := omega) [-getElem?_pos, hcT', hoT', hsT, hscT]
          refine ⟨by omega, ?_⟩
          refine ⟨.inr (hgT _ _), ?_⟩
          simp -implicitDefEqProofs (maxSteps := 2000000) (disch := omega) [-getElem?_pos, hgT, hs2T, hg2T]
          refine ⟨_, _, WeakR.refl _ _ _, FunPost.of (T := T) ?_ hTl hTf⟩
          refine post_in (rest' := rest.drop 9) hCT h ?_ (by simp; omega)
          rw [funD_app, funD1]
          simp [fuOf, capsOf, he0, fuV, partV, capV, V.flat, drop_fun]
        · simp -implicitDefEqProofs (maxSteps := 2000000) (disch := omega) [-getElem?_pos, hcT', hoT', hsT, hscT, hg3T]
          refine ⟨by omega, by omega, ?_⟩
          intro c' h1 h2
          refine ⟨_, _, WeakR.refl _ _ _, FunPost.of (T := T) ?_ hTl hTf⟩
          refine post_new (j := 2) (rest' := List.replicate ((c' - (fs.length + 1)) * 9) .junk) hCT h1 rfl ?_ (by simp)
          rw [funD_app, funD1]
          simp [fuOf, capsOf, he0, fuV, partV, capV, V.flat]
      · refine ((hfm _ he0).arg1 le1).mono fun r σ' hr => ?_
        obtain ⟨cp, os, hcp, hos, rfl, rfl⟩ := hr
        have hol2 := ofS_len (fvs (.mk 4 0 t [] [] (l.take 1)))
        have hfl2 := fvs_len (.mk 4 0 t [] [] (l.take 1))
        obtain ⟨F, hF⟩ : ∃ F, F = ofS (fvs (.mk 4 0 t [] [] (l.take 1))) := ⟨_, rfl⟩
        rw [← hF] at he0 hcp hol2 ⊢
        match os, hos with
        | [o1, o2, o3, o4], _ =>
        simp only [← hTl]
        simp -implicitDefEqProofs (maxSteps := 2000000) (disch := omega) [-getElem?_pos, hcT', hoT', hsT, hscT]
        refine (k_DeleteFuncV (l := F) (c := cp) (rest := []) (p := fun x => decide (x = s)) (by simp [Nat.add_assoc]) hcp (by omega) he0 (fun x _ ob => WCall_caps.symm ▸ k_Function1 (p := T.length) (k := 7) (n := n) (s := s) (t := t) (a := .sl none false (ns.map .str)) (b := .sl (some 6) false (l.map encC)) (by dsimp only; rw [List.getElem?_set_ne (by omega)]; simp))).mono fun r σ' hr => ?_
        obtain ⟨rfl, rfl⟩ := hr
        simp -implicitDefEqProofs (maxSteps := 2000000) (disch := omega) [-getElem?_pos, hcT', hoT', hsT, hscT, Nat.add_assoc]
        refine .mk (fun h => ?_) fun h => ?_
        · simp -implicitDefEqProofs (maxSteps := 2000000) (disch := omega) [-getElem?_pos, hcT', hoT', hsT, hscT]
          refine ⟨by omega, ?_⟩
          refine ⟨.inr (hgT _ _), ?_⟩
          simp -implicitDefEqProofs (maxSteps := 2000000) (disch := omega) [-getElem?_pos, hgT, hs2T, hg2T]
          refine ⟨_, _, WeakR.refl _ _ _, FunPost.of (T := T) ?_ hTl hTf⟩
          refine post_in (rest' := rest.drop 9) hCT h ?_ (by simp; omega)
          rw [funD_app, funD1]
          simp [fuOf, capsOf, ← hF, fuV, partV, capV, V.flat, drop_fun]
        · simp -implicitDefEqProofs (maxSteps := 2000000) (disch := omega) [-getElem?_pos, hcT', hoT', hsT, hscT, hg3T]
          refine ⟨by omega, by omega, ?_⟩
          intro c' h1 h2
          refine ⟨_, _, WeakR.refl _ _ _, FunPost.of (T := T) ?_ hTl hTf⟩
          refine post_new (j := 7) (rest' := List.replicate ((c' - (fs.length + 1)) * 9) .junk) hCT h1 rfl ?_ (by simp)
          rw [funD_app, funD1]
          simp [fuOf, capsOf, ← hF, fuV, partV, capV, V.flat]

    · have h' : bad = false := by simpa using h
      subst h'
      simp -implicitDefEqProofs (maxSteps := 2000000) (disch := omega) [-getElem?_pos, List.getElem?_append_left, List.set_append_left, hc, ho]
      refine ⟨by split <;> omega, by split <;> omega, ?_⟩
      rw [hM, hY1 s.isEmpty (by rw [hb2]; cases s <;> simp [badOf])]
      obtain ⟨T, hT⟩ : ∃ T, T = σ.objs.set c (Ob.cells [D.msl o 0 fs.length (some 9) (some cap), .v (.bool bad2)]) := ⟨_, rfl⟩
      rw [← hT]
      have hTl : T.length = σ.objs.length := by rw [hT]; simp
      have hTf : ∀ i, i ≠ c → T[i]? = σ.objs[i]? := fun i hi => by rw [hT, List.getElem?_set_ne (Ne.symm hi)]
      have hcT : T[c]? = some (.cells [.msl o 0 fs.length (some 9) (some cap), .v (.bool bad2)]) := by rw [hT, List.getElem?_set_self hcl]
      have hoT : T[o]? = some (.cells (funD fs ++ rest)) := by rw [hTf o hne, ho]
      have hcT' : ∀ r, (T ++ r)[c]? = some (.cells [.msl o 0 fs.length (some 9) (some cap), .v (.bool bad2)]) := fun r => by rw [List.getElem?_append_left (by omega), hcT]
      have hoT' : ∀ r, (T ++ r)[o]? = some (.cells (funD fs ++ rest)) := fun r => by rw [List.getElem?_append_left (by omega), hoT]
      have hsT : ∀ X r, (T ++ r).set o X = T.set o X ++ r := fun X r => List.set_append_left _ _ (by omega)
      have hscT : ∀ X r, (T ++ r).set c X = T.set c X ++ r := fun X r => List.set_append_left _ _ (by omega)
      have hgT : ∀ X r, (T.set o X ++ r)[c]? = some (.cells [.msl o 0 fs.length (some 9) (some cap), .v (.bool bad2)]) := fun X r => by
        rw [List.getElem?_append_left (by simp; omega), List.getElem?_set_ne hne, hcT]
      have hs2T : ∀ X Y r, (T.set o X ++ r).set c Y = (T.set o X).set c Y ++ r := fun X Y r => List.set_append_left _ _ (by simp; omega)
      have hg2T : ∀ X Y r, ((T.set o X).set c Y ++ r)[c]? = some Y := fun X Y r => by
        rw [List.getElem?_append_left (by simp; omega), List.getElem?_set_self (by simp; omega)]
      have hg3T : ∀ Y r, (T.set c Y ++ r)[c]? = some Y := fun Y r => by
        rw [List.getElem?_append_left (by simp; omega), List.getElem?_set_self (by omega)]
      have hCT : Clo ⟨T, σ.toks⟩ c o cap rest fs bad2 := ⟨hcT, hoT, hne, hfit, hroom⟩
      by_cases he0 : ofS (fvs (.mk 4 0 t [] [] (l.take 1))) = []
      · refine ((hf0 _).arg1 le1).then fun r hr => ?_
        subst hr
        rw [he0]
        simp only [← hTl]
        simp -implicitDefEqProofs (maxSteps := 2000000) (disch := omega) [-getElem?_pos, hcT', hoT', hsT, hscT]
        refine (k_DeleteFunc0 (f := false)).then fun r hr => ?_
        subst hr
        simp -implicitDefEqProofs (maxSteps := 2000000) (disch := omega) [-getElem?_pos, hcT', hoT', hsT, hscT]
        refine .mk (fun h => ?_) fun h => ?_
        · simp -implicitDefEqProofs (maxSteps := 2000000) (disch := omega) [-getElem?_pos, hcT', hoT', hsT, hscT]
          refine ⟨by omega, ?_⟩
          refine ⟨.inr (hgT _ _), ?_⟩
          simp -implicitDefEqProofs (maxSteps := 2000000) (disch := omega) [-getElem?_pos, hgT, hs2T, hg2T]
          refine ⟨_, _, WeakR.refl _ _ _, FunPost.of (T := T) ?_ hTl hTf⟩
          refine post_in (rest' := rest.drop 9) hCT h ?_ (by simp; omega)
          rw [funD_app, funD1]
          simp [fuOf, capsOf, he0, fuV, partV, capV, V.flat, drop_fun]
        · simp -implicitDefEqProofs (maxSteps := 2000000) (disch := omega) [-getElem?_pos, hcT', hoT', hsT, hscT, hg3T]
          refine ⟨by omega, by omega, ?_⟩
          intro c' h1 h2
          refine ⟨_, _, WeakR.refl _ _ _, FunPost.of (T := T) ?_ hTl hTf⟩
          refine post_new (j := 2) (rest' := List.replicate ((c' - (fs.length + 1)) * 9) .junk) hCT h1 rfl ?_ (by simp)
          rw [funD_app, funD1]
          simp [fuOf, capsOf, he0, fuV, partV, capV, V.flat]
      · refine ((hfm _ he0).arg1 le1).mono fun r σ' hr => ?_
        obtain ⟨cp, os, hcp, hos, rfl, rfl⟩ := hr
        have hol2 := ofS_len (fvs (.mk 4 0 t [] [] (l.take 1)))
        have hfl2 := fvs_len (.mk 4 0 t [] [] (l.take 1))
        obtain ⟨F, hF⟩ : ∃ F, F = ofS (fvs (.mk 4 0 t [] [] (l.take 1))) := ⟨_, rfl⟩
        rw [← hF] at he0 hcp hol2 ⊢
        match os, hos with
        | [o1, o2, o3, o4], _ =>
        simp only [← hTl]
        simp -implicitDefEqProofs (maxSteps := 2000000) (disch := omega) [-getElem?_pos, hcT', hoT', hsT, hscT]
        refine (k_DeleteFuncV (l := F) (c := cp) (rest := []) (p := fun x => decide (x = s)) (by simp [Nat.add_assoc]) hcp (by omega) he0 (fun x _ ob => WCall_caps.symm ▸ k_Function1 (p := T.length) (k := 7) (n := n) (s := s) (t := t) (a := .sl none false (ns.map .str)) (b := .sl (some 6) false (l.map encC)) (by dsimp only; rw [List.getElem?_set_ne (by omega)]; simp))).mono fun r σ' hr => ?_
        obtain ⟨rfl, rfl⟩ := hr
        simp -implicitDefEqProofs (maxSteps := 2000000) (disch := omega) [-getElem?_pos, hcT', hoT', hsT, hscT, Nat.add_assoc]
        refine .mk (fun h => ?_) fun h => ?_
        · simp -implicitDefEqProofs (maxSteps := 2000000) (disch := omega) [-getElem?_pos, hcT', hoT', hsT, hscT]
          refine ⟨by omega, ?_⟩
          refine ⟨.inr (hgT _ _), ?_⟩
          simp -implicitDefEqProofs (maxSteps := 2000000) (disch := omega) [-getElem?_pos, hgT, hs2T, hg2T]
          refine ⟨_, _, WeakR.refl _ _ _, FunPost.of (T := T) ?_ hTl hTf⟩
          refine post_in (rest' := rest.drop 9) hCT h ?_ (by simp; omega)
          rw [funD_app, funD1]
          simp [fuOf, capsOf, ← hF, fuV, partV, capV, V.flat, drop_fun]
        · simp -implicitDefEqProofs (maxSteps := 2000000) (disch := omega) [-getElem?_pos, hcT', hoT', hsT, hscT, hg3T]
          refine ⟨by omega, by omega, ?_⟩
          intro c' h1 h2
          refine ⟨_, _, WeakR.refl _ _ _, FunPost.of (T := T) ?_ hTl hTf⟩
          refine post_new (j := 7) (rest' := List.replicate ((c' - (fs.length + 1)) * 9) .junk) hCT h1 rfl ?_ (by simp)
          rw [funD_app, funD1]
          simp [fuOf, capsOf, ← hF, fuV, partV, capV, V.flat]

end Go.Proofs.Ytppdghfpbliaeaa
