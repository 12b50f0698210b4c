/-
  Expressions, walked: numbers as text; what a function, a choice comes to. (Own work.)
-/
import Derived.Test.YtbifjffjibnjjaaDoorO6
import Derived.Test.YtbifjffjibnjjaaDoorShelf
set_option linter.unusedVariables false
set_option linter.unusedSimpArgs false
set_option maxHeartbeats 1000000
namespace Go.Proofs.YtbifjffjibnjjaaDoor
open Go Go.Abs

theorem grown_inv {σ : Sg} {m : Gh} {w : World} (h : Go.Abs.Inv σ m w) (k : Nat) (os : Array Obj) : Go.Abs.Inv σ m (Go.Sort.grow (w.drewN k) os) ∧ Ext m w m (Go.Sort.grow (w.drewN k) os) := by
  have hb : ∀ c, c < w.heap.size → (Go.Sort.grow (w.drewN k) os).heap[c]? = w.heap[c]? := fun c hc => Array.getElem?_append_left hc
  have e : Ext m w m (Go.Sort.grow (w.drewN k) os) :=
    ⟨rfl, rfl, rfl, by show w.heap.size ≤ (w.heap ++ os).size; simp, fun _ _ h => .inl h, fun _ tk h => ⟨tk, h, rfl, Nat.le_refl _, fun _ => rfl⟩, fun c off f => ⟨cell?_of_heap (hb c f.1), f.2⟩, fun c hc hn => ⟨hb c hc, hn⟩⟩
  refine ⟨⟨h.lobj, h.ltok, h.nodup, fun o ob c ho hc => (h.ob o ob c ho hc).mono e (hb c (h.lt_obj (Gh.mem_objb.2 (List.mem_of_getElem? hc)))), h.gone, fun tk htk => ?_, h.glob.mono e⟩, e⟩
  obtain ⟨h1, h2, h3, h4⟩ := h.tk tk htk
  refine ⟨h1, h2, h3, fun c hc => ?_⟩
  obtain ⟨us, ty, h5, h6⟩ := h4 c hc
  exact ⟨us, ty, (hb c (Array.getElem?_eq_some_iff.1 h5).1).trans h5, h6⟩
theorem tab_is {σ : Sg} {m : Gh} {w : World} (h : Inv σ m w) : Lib.TabIs Tryd.prog w "internal/strconv.uint64pow10" .u64 Lib.pow10Tab := by
  obtain ⟨⟨cs, ty, fr, hh, rfl⟩, _⟩ := h.glob _ List.mem_cons_self
  unfold Lib.TabIs World.var?
  rw [show Tryd.prog.globalNamed "internal/strconv.uint64pow10" = some 0 by kernel_rfl]
  simp only [Option.bind_some]
  rw [hh]
  rfl
theorem k_Fmt {n : Int} {σ : Sg} : ACalls Tryd.prog 63 [.v (.int .i64 n), .v (.int .i64 10)] σ fun r σ' => (r = .v (.str (Lib.itoa n)) ∧ (Lib.itoa n).length ≤ 21) ∧ σ' = σ := by
  refine ⟨⟨_, Tryd.func63, by kernel_rfl, by kernel_rfl⟩, fun m w us hI hl hr => ?_⟩
  match us, hl with
  | [u, u2], _ =>
    have h0 := (hr 0 _ _ rfl rfl).v_inv
    have h2 := (hr 1 _ _ rfl rfl).v_inv
    cases h2
    cases h0 with
    | int _ _ hn =>
        have hn1 : -9223372036854775808 ≤ n := hn.1
        have hn2 : n ≤ 9223372036854775807 := hn.2
        refine (Go.Proofs.Any.strconv_FormatInt_10 fmtLays n hn1 hn2 w (tab_is hI)).mono fun e w' ⟨he, k, os, hw⟩ => ?_
        subst hw
        obtain ⟨hI', hX⟩ := grown_inv hI k os
        have hlen := Lib.itoa_length_le n hn1 hn2
        exact ⟨_, _, σ, m, he, ⟨⟨rfl, hlen⟩, rfl⟩, hI', hX, .v _ _ (.str _ (by unfold maxLen; omega))⟩

theorem allM_app (R : Rec) (env : En) : ∀ (a b : List Ex) (m : Ms), allM R env (a ++ b) m = (allM R env a m).bind fun vs m1 => (allM R env b m1).bind fun ws m2 => done (vs ++ ws) m2
  | [], b, m => by
    simp only [List.nil_append, allM, done, Rs.bind]
    rcases allM R env b m with ⟨_ | ws, m2⟩ <;> rfl
  | x :: a, b, m => by
    simp only [List.cons_append, allM]
    rcases R x env m with ⟨_ | v, m1⟩
    · rfl
    · simp only [Rs.bind]
      rw [allM_app R env a b m1]
      rcases allM R env a m1 with ⟨_ | vs, m2⟩
      · rfl
      · simp only [Rs.bind, done]
        rcases allM R env b m2 with ⟨_ | ws, m3⟩ <;> rfl
/-- What is known of a machine, and of what stands for it. -/
structure Okm (mo tt : Nat) (φ ψ : Nat → Nat) (m : Ms) (L : Nat) (σ : Sg) : Prop where
  sto : Sto mo tt φ ψ m σ
  ok : okM L m
  lo : 2000 ≤ L
  hi : L + m.fuel ≤ 4000000
/-- What evaluators do. -/
def EvCt (mo tt g : Nat) : Prop := ∀ (e : Ex) (env : En) (m : Ms) (φ ψ : Nat → Nat) (σ : Sg) (L : Nat), Okm mo tt φ ψ m L σ → okC L e → okE m.st.length L env → m.fuel < g →
    ACalls Tryd.prog 34 [.ptr mo 0, .v (encE e), .v (encN φ env)] σ (Outc mo tt φ ψ m σ (evM g e env m))
theorem Aft.tadd {mo tt : Nat} {φ ψ φ' ψ' : Nat → Nat} {m m' : Ms} {σ σ' : Sg} (h : Aft mo tt φ ψ m σ φ' ψ' m' σ') (n : Nat) : Aft mo tt φ ψ m σ φ' ψ' m' (σ'.tadd n) := by
  have htl := (List.getElem?_eq_some_iff.1 h.sto.tok).1
  refine ⟨h.sto.mono (fun _ _ => rfl) (List.getElem?_append_left htl), h.fe, h.pe, h.new, h.objs, h.keep, ?_, fun t ht hne => ?_⟩
  · simp only [Sg.tadd, List.length_append]
    exact Nat.le_trans h.toks (Nat.le_add_right _ _)
  · exact (List.getElem?_append_left (Nat.lt_of_lt_of_le ht h.toks)).trans (h.ktok t ht hne)
theorem Aft.tset {mo tt : Nat} {φ ψ φ' ψ' : Nat → Nat} {m m' : Ms} {σ σ' : Sg} (h : Aft mo tt φ ψ m σ φ' ψ' m' σ') {T : Nat} (n : Nat) (hT : σ.toks.length ≤ T) (hne : tt ≠ T) : Aft mo tt φ ψ m σ φ' ψ' m' ⟨σ'.objs, σ'.toks.set T n⟩ := by
  refine ⟨h.sto.mono (fun _ _ => rfl) (List.getElem?_set_ne (Ne.symm hne)), h.fe, h.pe, h.new, h.objs, h.keep, ?_, fun t ht hn => ?_⟩
  · simp only [List.length_set]
    exact h.toks
  · exact (List.getElem?_set_ne (by omega)).trans (h.ktok t ht hn)
/-- After a part: what is known of the machine. -/
theorem Okm.after {mo tt g : Nat} {φ ψ φ2 ψ2 : Nat → Nat} {m : Ms} {L : Nat} {env : En} {e : Ex} {σ σ2 : Sg} (h : Okm mo tt φ ψ m L σ) (he : okC L e) (hen : okE m.st.length L env) (hA : Aft mo tt φ ψ m σ φ2 ψ2 (evM g e env m).m σ2) :
    (evM g e env m).m.fuel ≤ m.fuel ∧ m.st.length ≤ (evM g e env m).m.st.length ∧ (∀ v, (evM g e env m).v = some v → okV (evM g e env m).m.st.length (L + (m.fuel - (evM g e env m).m.fuel)) v) ∧
    okE (evM g e env m).m.st.length (L + (m.fuel - (evM g e env m).m.fuel)) env ∧ Okm mo tt φ2 ψ2 (evM g e env m).m (L + (m.fuel - (evM g e env m).m.fuel)) σ2 := by
  have hok := ok_ev 2000 (Nat.le_refl _) g m.fuel e env m L h.lo he hen h.ok (Nat.le_refl _)
  have h1 := hok.fuel
  have h2 := h.hi
  have h3 := h.lo
  exact ⟨hok.fuel, hok.st, hok.v, hen.mono hok.st (by omega), hA.sto, hok.ok, by omega, by omega⟩
theorem Aft.kept {mo tt i : Nat} {φ ψ φ' ψ' : Nat → Nat} {m m' : Ms} {σ σ' : Sg} {cs : List D} (h : Aft mo tt φ ψ m σ φ' ψ' m' σ') (hS : Sto mo tt φ ψ m σ) (hi : σ.objs[i]? = some (.cells cs)) (hm : i ≠ mo) : σ'.objs[i]? = some (.cells cs) :=
  (h.keep i (List.getElem?_eq_some_iff.1 hi).1 hm fun k hk => hS.ne hk hi).trans hi

theorem list8 {α : Type} : ∀ {l : List α}, l.length = 8 → ∃ a b c d e f g h, l = [a, b, c, d, e, f, g, h]
  | [a, b, c, d, e, f, g, h], _ => ⟨a, b, c, d, e, f, g, h, rfl⟩
theorem kind3 {v : Vl} (h : kindV v = 3) : ∃ rc self param part env, v = .fn rc self param part env := by cases v <;> simp [kindV] at h; exact ⟨_, _, _, _, _, rfl⟩
theorem apply_stuck {R : Rec} {f v : Vl} {m : Ms} (h : ¬ kindV f = 3) : applyM R [f, v] m = stuckM m := by
  unfold applyM
  split
  · rename_i heq
    cases heq
    exact absurd rfl h
  · rfl
theorem k_Apply {mo tt g : Nat} {φ ψ : Nat → Nat} {m : Ms} {L : Nat} {f v : Vl} {b : Bool} {σ : Sg} (hR : EvCt mo tt g) (h : Okm mo tt φ ψ m L σ) (hf : okV m.st.length L f) (hv : okV m.st.length L v) (hf0 : m.fuel < g) :
    ACalls Tryd.prog 86 [.ptr mo 0, .v (.sl none b ([f, v].map (encP φ)))] σ (Outc mo tt φ ψ m σ (applyM (evM g) [f, v] m)) := by
  have hS := h.sto
  have hml := hS.mlt
  have k1 := k_Are (ks := [3]) (f := b) (l := [f, v]) hS ⟨hf, hv, trivial⟩ (by simp) (by simp)
  simp only [areW, Bool.and_true, List.map_cons, List.map_nil] at k1 ⊢
  refine acalls_fit Tryd.func86 (by kernel_rfl) c86m rfl (by simp [a86m]) fun hfit => ?_
  clear hfit
  simp -implicitDefEqProofs (maxSteps := 2000000) (disch := omega) [-getElem?_pos, a86m]

  refine k1.then fun r hr => ?_
  subst hr
  by_cases hk : kindV f = 3
  · obtain ⟨rc, self, param, part, env, rfl⟩ := kind3 hk
    obtain ⟨pk, pp, pn, ps, pt, pls, pns, pl⟩ := part
    have hev := fun (env' : En) (he : okE m.st.length L env') => hR (.mk pk pp pn ps pt pls pns pl) env' m φ ψ σ L h hf.1 he hf0
    rw [encE_mk] at hev
    have hnc := fun e => encN_cells (φ := φ) e
    have hno := fun e => encN_one (φ := φ) e
    have hpc := fun v => encP_cells (φ := φ) v
    have hpo := fun v => encP_one (φ := φ) v
    simp only [V.cells] at hnc hpc
    simp only [V.one] at hno hpo
    simp only [encP, boxP, exV]
    cases rc with
    | true =>
      have e2 := hev (.cons param v (.cons self (.fn true self param (.mk pk pp pn ps pt pls pns pl) env) env)) ⟨hf.2.2.1, hv, hf.2.1, hf, hf.2.2.2⟩
      simp only [encN, encP, boxP, exV] at e2
      rw [show applyM (evM g) [.fn true self param (.mk pk pp pn ps pt pls pns pl) env, v] m = evM g (.mk pk pp pn ps pt pls pns pl) (.cons param v (.cons self (.fn true self param (.mk pk pp pn ps pt pls pns pl) env) env)) m from rfl]
      simp -implicitDefEqProofs (maxSteps := 2000000) (disch := omega) [-getElem?_pos, hk, hnc, hno, hpc, hpo]
      refine (e2).mono fun r σ2 ⟨φ2, ψ2, hr, hA⟩ => ?_
      subst hr
      simp -implicitDefEqProofs (maxSteps := 2000000) (disch := omega) [-getElem?_pos]
      exact ⟨_, _, WeakR.refl _ _ _, φ2, ψ2, rfl, hA⟩

    | false =>
      have e2 := hev (.cons param v env) ⟨hf.2.2.1, hv, hf.2.2.2⟩
      simp only [encN, encP, boxP, exV] at e2
      rw [show applyM (evM g) [.fn false self param (.mk pk pp pn ps pt pls pns pl) env, v] m = evM g (.mk pk pp pn ps pt pls pns pl) (.cons param v env) m from rfl]
      simp -implicitDefEqProofs (maxSteps := 2000000) (disch := omega) [-getElem?_pos, hk, hnc, hno, hpc, hpo]
      refine (e2).mono fun r σ2 ⟨φ2, ψ2, hr, hA⟩ => ?_
      subst hr
      simp -implicitDefEqProofs (maxSteps := 2000000) (disch := omega) [-getElem?_pos]
      exact ⟨_, _, WeakR.refl _ _ _, φ2, ψ2, rfl, hA⟩

  · rw [apply_stuck hk]
    simp -implicitDefEqProofs (maxSteps := 2000000) (disch := omega) [-getElem?_pos, hk]
    refine (k_Stuck hS).mono fun r σ2 ⟨φ2, ψ2, hr, hA⟩ => ?_
    subst hr
    simp -implicitDefEqProofs (maxSteps := 2000000) (disch := omega) [-getElem?_pos]
    exact ⟨_, _, WeakR.refl _ _ _, φ2, ψ2, rfl, hA⟩

theorem choose_stuck {R : Rec} {env : En} {a b c : Ex} {m : Ms} {v : Vl} {m2 : Ms} (h : R a env m = ⟨some v, m2⟩) (hk : ¬ kindV v = 1) : chooseM R env a b c m = stuckM m2 := by
  unfold chooseM
  rw [h]
  simp only [Rs.bind]
  cases v <;> first | rfl | exact absurd rfl hk
theorem k_Choose {mo tt g : Nat} {φ ψ : Nat → Nat} {m : Ms} {L : Nat} {env : En} {p n : Int} {s t : Str} {ls ns : List Str} {a b c : Ex} {σ : Sg} (hR : EvCt mo tt g) (h : Okm mo tt φ ψ m L σ) (ha : okC L a) (hb : okC L b) (hc : okC L c) (hen : okE m.st.length L env) (hf0 : m.fuel < g) :
    ACalls Tryd.prog 58 [.ptr mo 0, .v (encE (.mk 15 p n s t ls ns [a, b, c])), .v (encN φ env)] σ (Outc mo tt φ ψ m σ (chooseM (evM g) env a b c m)) := by
  have hS := h.sto
  have hml := hS.mlt
  obtain ⟨a0, a1, a2, a3, a4, a5, a6, a7, hca⟩ := list8 (show (exV a).length = 8 by cases a; rfl)
  obtain ⟨b0, b1, b2, b3, b4, b5, b6, b7, hcb⟩ := list8 (show (exV b).length = 8 by cases b; rfl)
  obtain ⟨c0, c1, c2, c3, c4, c5, c6, c7, hcc⟩ := list8 (show (exV c).length = 8 by cases c; rfl)
  have hea : encE a = .agg [a0, a1, a2, a3, a4, a5, a6, a7] := by rw [encE_exV, hca]
  have heb : encE b = .agg [b0, b1, b2, b3, b4, b5, b6, b7] := by rw [encE_exV, hcb]
  have hec : encE c = .agg [c0, c1, c2, c3, c4, c5, c6, c7] := by rw [encE_exV, hcc]
  have hev := fun xs : List Ob => hR a env m φ ψ ⟨σ.objs ++ xs, σ.toks⟩ L ⟨hS.add _, h.ok, h.lo, h.hi⟩ ha hen hf0
  rw [encE_mk]
  simp only [List.map_cons, List.map_nil]
  rw [hea] at hev ⊢
  rw [heb, hec]
  refine acalls_fit Tryd.func58 (by kernel_rfl) c58m rfl (by simp [a58m]) fun hfit => ?_
  clear hfit
  simp -implicitDefEqProofs (maxSteps := 2000000) (disch := omega) [-getElem?_pos, a58m]

  refine (hev _).mono fun r σ2 ⟨φ2, ψ2, hr, hA⟩ => ?_
  have hA2 := hA.back hS
  obtain ⟨hf2, hs2, hv2, he2, hO2⟩ := h.after ha hen hA2
  generalize hrs : evM g a env m = rs at hr hA hA2 hf2 hs2 hv2 he2 hO2
  obtain ⟨v, m2⟩ := rs
  dsimp only at hr hA hA2 hf2 hs2 hv2 he2 hO2
  have h0 : σ2.objs[σ.objs.length]? = some _ := hA.loc hS (j := 0) rfl
  have hl0 := (List.getElem?_eq_some_iff.1 h0).1
  cases v with
  | none =>
    subst hr
    unfold resW
    rw [show chooseM (evM g) env a b c m = ⟨none, m2⟩ by unfold chooseM; rw [hrs]; rfl]
    simp -implicitDefEqProofs (maxSteps := 2000000) (disch := omega) [-getElem?_pos, h0]
    exact ⟨_, _, WeakR.refl _ _ _, φ2, ψ2, rfl, hA2⟩
  | some v =>
    subst hr
    have hvo := hv2 v rfl
    rw [show resW φ2 (some v) = .v (encP φ2 v) from rfl]
    have hen2 := encN_ext (fun k hk => hA2.fe k hk) hen
    simp -implicitDefEqProofs (maxSteps := 2000000) (disch := omega) [-getElem?_pos, h0]
    refine P_kind hO2.sto hvo ?_
    simp -implicitDefEqProofs (maxSteps := 2000000) (disch := omega) [-getElem?_pos, h0]
    refine .mk (fun hk => ?_) fun hk => ?_
    · obtain ⟨x, rfl⟩ := kind1 hk
      simp only [encP, boxP]
      simp -implicitDefEqProofs (maxSteps := 2000000) (disch := omega) [-getElem?_pos, h0]
      refine .mk (fun hx => ?_) fun hx => ?_
      · have hc2 := hR c env m2 φ2 ψ2 σ2 _ hO2 (hc.mono (by omega)) he2 (by omega)
        rw [hec, hen2] at hc2
        rw [show chooseM (evM g) env a b c m = evM g c env m2 by unfold chooseM; rw [hrs]; simp [Rs.bind, hx]]
        simp -implicitDefEqProofs (maxSteps := 2000000) (disch := omega) [-getElem?_pos, h0]
        refine (hc2).mono fun r σ3 ⟨φ3, ψ3, hr3, hA3⟩ => ?_
        subst hr3
        simp -implicitDefEqProofs (maxSteps := 2000000) (disch := omega) [-getElem?_pos]
        exact ⟨_, _, WeakR.refl _ _ _, φ3, ψ3, rfl, hA2.trans hA3 hs2⟩

      · have hc2 := hR b env m2 φ2 ψ2 σ2 _ hO2 (hb.mono (by omega)) he2 (by omega)
        rw [heb, hen2] at hc2
        rw [show chooseM (evM g) env a b c m = evM g b env m2 by unfold chooseM; rw [hrs]; simp [Rs.bind, hx]]
        simp -implicitDefEqProofs (maxSteps := 2000000) (disch := omega) [-getElem?_pos, h0]
        refine (hc2).mono fun r σ3 ⟨φ3, ψ3, hr3, hA3⟩ => ?_
        subst hr3
        simp -implicitDefEqProofs (maxSteps := 2000000) (disch := omega) [-getElem?_pos]
        exact ⟨_, _, WeakR.refl _ _ _, φ3, ψ3, rfl, hA2.trans hA3 hs2⟩

    · rw [choose_stuck hrs hk]
      simp -implicitDefEqProofs (maxSteps := 2000000) (disch := omega) [-getElem?_pos]
      refine (k_Stuck hO2.sto).mono fun r σ3 ⟨φ3, ψ3, hr3, hA3⟩ => ?_
      subst hr3
      simp -implicitDefEqProofs (maxSteps := 2000000) (disch := omega) [-getElem?_pos]
      exact ⟨_, _, WeakR.refl _ _ _, φ3, ψ3, rfl, hA2.trans hA3 hs2⟩

end Go.Proofs.YtbifjffjibnjjaaDoor
