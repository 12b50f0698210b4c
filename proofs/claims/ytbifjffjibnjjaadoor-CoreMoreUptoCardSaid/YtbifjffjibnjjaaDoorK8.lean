/-
  Core expressions, walked: numbers as text; what parts come to, in order. (Own work.)
-/
import Derived.Test.YtbifjffjibnjjaaDoorK7
import Derived.Test.YtbifjffjibnjjaaDoorShelf
set_option linter.unusedVariables false
set_option linter.unusedSimpArgs false
set_option maxHeartbeats 1000000
namespace Go.Proofs.YtbifjffjibnjjaaDoor
open Go Go.Abs

theorem grown_inv {σ : Sg} {m : Gh} {w : World} (h : Go.Abs.Inv σ m w) (k : Nat) (os : Array Obj) : Go.Abs.Inv σ m (Go.Sort.grow (w.drewN k) os) ∧ Ext m w m (Go.Sort.grow (w.drewN k) os) := by
  have hb : ∀ c, c < w.heap.size → (Go.Sort.grow (w.drewN k) os).heap[c]? = w.heap[c]? := fun c hc => Array.getElem?_append_left hc
  have e : Ext m w m (Go.Sort.grow (w.drewN k) os) :=
    ⟨rfl, rfl, rfl, by show w.heap.size ≤ (w.heap ++ os).size; simp, fun _ _ h => .inl h, fun _ tk h => ⟨tk, h, rfl, Nat.le_refl _, fun _ => rfl⟩, fun c off f => ⟨cell?_of_heap (hb c f.1), f.2⟩, fun c hc hn => ⟨hb c hc, hn⟩⟩
  refine ⟨⟨h.lobj, h.ltok, h.nodup, fun o ob c ho hc => (h.ob o ob c ho hc).mono e (hb c (h.lt_obj (Gh.mem_objb.2 (List.mem_of_getElem? hc)))), h.gone, fun tk htk => ?_, h.glob.mono e⟩, e⟩
  obtain ⟨h1, h2, h3, h4⟩ := h.tk tk htk
  refine ⟨h1, h2, h3, fun c hc => ?_⟩
  obtain ⟨us, ty, h5, h6⟩ := h4 c hc
  exact ⟨us, ty, (hb c (Array.getElem?_eq_some_iff.1 h5).1).trans h5, h6⟩
theorem tab_is {σ : Sg} {m : Gh} {w : World} (h : Inv σ m w) : Lib.TabIs Tryd.prog w "internal/strconv.uint64pow10" .u64 Lib.pow10Tab := by
  obtain ⟨⟨cs, ty, fr, hh, rfl⟩, _⟩ := h.glob _ List.mem_cons_self
  unfold Lib.TabIs World.var?
  rw [show Tryd.prog.globalNamed "internal/strconv.uint64pow10" = some 0 by kernel_rfl]
  simp only [Option.bind_some]
  rw [hh]
  rfl
theorem k_Fmt {n : Int} {σ : Sg} : ACalls Tryd.prog 63 [.v (.int .i64 n), .v (.int .i64 10)] σ fun r σ' => (r = .v (.str (Lib.itoa n)) ∧ (Lib.itoa n).length ≤ 21) ∧ σ' = σ := by
  refine ⟨⟨_, Tryd.func63, by kernel_rfl, by kernel_rfl⟩, fun m w us hI hl hr => ?_⟩
  match us, hl with
  | [u, u2], _ =>
    have h0 := (hr 0 _ _ rfl rfl).v_inv
    have h2 := (hr 1 _ _ rfl rfl).v_inv
    cases h2
    cases h0 with
    | int _ _ hn =>
        have hn1 : -9223372036854775808 ≤ n := hn.1
        have hn2 : n ≤ 9223372036854775807 := hn.2
        refine (Go.Proofs.Any.strconv_FormatInt_10 fmtLays n hn1 hn2 w (tab_is hI)).mono fun e w' ⟨he, k, os, hw⟩ => ?_
        subst hw
        obtain ⟨hI', hX⟩ := grown_inv hI k os
        have hlen := Lib.itoa_length_le n hn1 hn2
        exact ⟨_, _, σ, m, he, ⟨⟨rfl, hlen⟩, rfl⟩, hI', hX, .v _ _ (.str _ (by unfold maxLen; omega))⟩

theorem allM_app (R : Rec) (env : En) : ∀ (a b : List Co) (m : Ms), allM R env (a ++ b) m = (allM R env a m).bind fun vs m1 => (allM R env b m1).bind fun ws m2 => done (vs ++ ws) m2
  | [], b, m => by
    simp only [List.nil_append, allM, done, Rs.bind]
    rcases allM R env b m with ⟨_ | ws, m2⟩ <;> rfl
  | x :: a, b, m => by
    simp only [List.cons_append, allM]
    rcases R x env m with ⟨_ | v, m1⟩
    · rfl
    · simp only [Rs.bind]
      rw [allM_app R env a b m1]
      rcases allM R env a m1 with ⟨_ | vs, m2⟩
      · rfl
      · simp only [Rs.bind, done]
        rcases allM R env b m2 with ⟨_ | ws, m3⟩ <;> rfl
/-- What is known of a machine, and of what stands for it. -/
structure Okm (mo tt : Nat) (φ ψ : Nat → Nat) (m : Ms) (L : Nat) (σ : Sg) : Prop where
  sto : Sto mo tt φ ψ m σ
  ok : okM L m
  lo : 2000 ≤ L
  hi : L + m.fuel ≤ 4000000
/-- What evaluators do. -/
def EvCt (mo tt g : Nat) : Prop := ∀ (e : Co) (env : En) (m : Ms) (φ ψ : Nat → Nat) (σ : Sg) (L : Nat), Okm mo tt φ ψ m L σ → okC L e → okE m.st.length L env → m.fuel < g →
    ACalls Tryd.prog 31 [.ptr mo 0, .v (encC e), .v (encN φ env)] σ (Outc mo tt φ ψ m σ (evM g e env m))
/-- What parts come to. -/
def resA (φ : Nat → Nat) : Option (List Vl) → D
  | some vs => .tup [.v (.sl (some 6) false (vs.map (encW φ))), .v (.bool true)]
  | none => .tup [.v .snil, .v (.bool false)]
def Outa (mo tt : Nat) (φ ψ : Nat → Nat) (m : Ms) (σ : Sg) (rs : Rs (List Vl)) (r : D) (σ' : Sg) : Prop := ∃ φ' ψ', r = resA φ' rs.v ∧ Aft mo tt φ ψ m σ φ' ψ' rs.m σ'
theorem Aft.tadd {mo tt : Nat} {φ ψ φ' ψ' : Nat → Nat} {m m' : Ms} {σ σ' : Sg} (h : Aft mo tt φ ψ m σ φ' ψ' m' σ') (n : Nat) : Aft mo tt φ ψ m σ φ' ψ' m' (σ'.tadd n) := by
  have htl := (List.getElem?_eq_some_iff.1 h.sto.tok).1
  refine ⟨h.sto.mono (fun _ _ => rfl) (List.getElem?_append_left htl), h.fe, h.pe, h.new, h.objs, h.keep, ?_, fun t ht hne => ?_⟩
  · simp only [Sg.tadd, List.length_append]
    exact Nat.le_trans h.toks (Nat.le_add_right _ _)
  · exact (List.getElem?_append_left (Nat.lt_of_lt_of_le ht h.toks)).trans (h.ktok t ht hne)
theorem Aft.tset {mo tt : Nat} {φ ψ φ' ψ' : Nat → Nat} {m m' : Ms} {σ σ' : Sg} (h : Aft mo tt φ ψ m σ φ' ψ' m' σ') {T : Nat} (n : Nat) (hT : σ.toks.length ≤ T) (hne : tt ≠ T) : Aft mo tt φ ψ m σ φ' ψ' m' ⟨σ'.objs, σ'.toks.set T n⟩ := by
  refine ⟨h.sto.mono (fun _ _ => rfl) (List.getElem?_set_ne (Ne.symm hne)), h.fe, h.pe, h.new, h.objs, h.keep, ?_, fun t ht hn => ?_⟩
  · simp only [List.length_set]
    exact h.toks
  · exact (List.getElem?_set_ne (by omega)).trans (h.ktok t ht hn)
structure AllS where
  i : Nat
  vs : List Vl
  m : Ms
  φ : Nat → Nat
  ψ : Nat → Nat
  τ : Sg
structure AllI (mo tt g : Nat) (φ ψ : Nat → Nat) (m : Ms) (L : Nat) (env : En) (l : List Co) (σ : Sg) (x : AllS) : Prop where
  i : x.i ≤ l.length
  eq : allM (evM g) env (l.take x.i) m = ⟨some x.vs, x.m⟩
  aft : Aft mo tt φ ψ m σ x.φ x.ψ x.m x.τ
  tok : x.τ.toks[σ.toks.length]? = some x.vs.length
  fuel : x.m.fuel ≤ m.fuel
  st : m.st.length ≤ x.m.st.length
  ok : okM (L + (m.fuel - x.m.fuel)) x.m
  vs : okVs x.m.st.length (L + (m.fuel - x.m.fuel)) x.vs
theorem weakR_le {B : Sg} {r r' : D} {σ : Sg} (h : D.Le r r') : WeakR B r σ r' σ := fun m0 m w0 w u _ hX hI hR => ⟨m, hI, h m w u hR, hX⟩
theorem k_All {mo tt g : Nat} {φ ψ : Nat → Nat} {m : Ms} {L : Nat} {env : En} {l : List Co} {σ : Sg} (hR : EvCt mo tt g) (h : Okm mo tt φ ψ m L σ) (hl : ∀ x ∈ l, okC L x) (hll : l.length ≤ L) (he : okE m.st.length L env) (hf0 : m.fuel < g) :
    ACalls Tryd.prog 53 [.ptr mo 0, .v (.sl (some 6) false (l.map encC)), .v (encN φ env)] σ (Outa mo tt φ ψ m σ (allM (evM g) env l m)) := by
  have hml := h.sto.mlt
  have htl := (List.getElem?_eq_some_iff.1 h.sto.tok).1
  have hhi := h.hi
  have hlo := h.lo
  refine acalls_fit Tryd.func53 (by kernel_rfl) c53 rfl (by simp [a53]) fun hf => ?_
  clear hf
  simp -implicitDefEqProofs (maxSteps := 2000000) (disch := omega) [-getElem?_pos, a53]
  refine W_loop (α := AllS) ⟨0, [], m, φ, ψ, σ.tadd 0⟩ (fun x => l.length - x.i) (fun x => ⟨[(0, .ptr mo 0), (2, .v (encN φ env)), (8, .tsl σ.toks.length (some 6) (x.vs.map (encW x.φ))), (13, .v (.sl (some 6) false (l.map encC))), (14, .v (.int .i64 l.length)), (15, .v (.int .i64 x.i))], x.τ⟩) (fun x => AllI mo tt g φ ψ m L env l σ x)
    (.tok (i := 8) (sh := some 6) (by simp) (by simp)) ⟨by simp, rfl, (Aft.refl h.sto).tadd 0, by simp [Sg.tadd], Nat.le_refl _, Nat.le_refl _, h.ok.mono (by omega), trivial⟩ fun x hx => ?_
  have hxi := hx.i
  simp -implicitDefEqProofs (maxSteps := 2000000) (disch := omega) [-getElem?_pos]
  refine .mk (fun hi => ?_) fun hi => ?_
  · obtain ⟨e, hie⟩ : ∃ e, l[x.i]? = some e := ⟨_, List.getElem?_eq_getElem hi⟩
    have heo := hl e (List.mem_of_getElem? hie)
    obtain ⟨c0, c1, c2, c3, c4, c5, hco⟩ := list6 (show (coV e).length = 6 by cases e; rfl)
    have hec : encC e = .agg [c0, c1, c2, c3, c4, c5] := by rw [encC_coV, hco]
    have hfu := hx.fuel
    have hxs := hx.aft.sto
    have hev := hR e env x.m x.φ x.ψ ⟨x.τ.objs ++ [.cells [.v c0, .v c1, .v c2, .v c3, .v c4, .v c5]], x.τ.toks⟩ (L + (m.fuel - x.m.fuel)) ⟨hxs.add _, hx.ok, by omega, by omega⟩ (heo.mono (by omega)) (he.mono hx.st (by omega)) (by omega)
    have hok := ok_ev 2000 (Nat.le_refl _) g x.m.fuel e env x.m (L + (m.fuel - x.m.fuel)) (by omega) (heo.mono (by omega)) (he.mono hx.st (by omega)) hx.ok (Nat.le_refl _)
    have happ := allM_app (evM g) env (l.take x.i) [e] m
    have hl2 : l = l.take x.i ++ e :: l.drop (x.i + 1) := by rw [← drop_cons hie, List.take_append_drop]
    have hall : allM (evM g) env l m = (allM (evM g) env (l.take x.i) m).bind fun vs m1 => (allM (evM g) env (e :: l.drop (x.i + 1)) m1).bind fun ws m2 => done (vs ++ ws) m2 := by
      conv => lhs; rw [hl2]
      exact allM_app _ _ _ _ _
    rw [hx.eq] at hall
    rw [← show l.take (x.i + 1) = l.take x.i ++ [e] by rw [List.take_add_one, hie]; rfl, hx.eq] at happ
    rw [encN_ext hx.aft.fe he, hec] at hev
    simp -implicitDefEqProofs (maxSteps := 2000000) (disch := omega) [-getElem?_pos, hie, hec]
    refine ⟨hi, hev.mono fun r σ2 ⟨φ2, ψ2, hr, hA⟩ => ?_⟩
    have hA2 := hA.back hxs
    generalize hrs : evM g e env x.m = rs at hev hok hr hA hA2
    obtain ⟨v, m2⟩ := rs
    have hof := hok.fuel
    have hos := hok.st
    have hoo := hok.ok
    have hov := hok.v
    dsimp only at hr hA hA2 hof hos hoo hov
    cases v with
    | none =>
      subst hr
      unfold resW zW
      simp -implicitDefEqProofs (maxSteps := 2000000) (disch := omega) [-getElem?_pos]
      refine ⟨_, _, WeakR.refl _ _ _, φ2, ψ2, ?_, ?_⟩
      · rw [hall]
        simp [allM, Rs.bind, hrs, resA]
      · rw [hall]
        simp only [allM, Rs.bind, hrs]
        exact (hx.aft.trans hA2 hx.st).add _
    | some v =>
      subst hr
      obtain ⟨d0, d1, d2, d3, d4, d5, hcv⟩ := list6 (celW_len (φ := φ2) v)
      have hvv : encW φ2 v = .agg [d0, d1, d2, d3, d4, d5] := by unfold encW; rw [hcv]
      have ht2 : σ2.toks[σ.toks.length]? = some x.vs.length := (hA.ktok _ (List.getElem?_eq_some_iff.1 hx.tok).1 (by omega)).trans hx.tok
      rw [show resW φ2 (some v) = .tup [.v (encW φ2 v), .v (.bool true)] from rfl, hvv]
      simp -implicitDefEqProofs (maxSteps := 2000000) (disch := omega) [-getElem?_pos, ht2]
      have hvl : x.vs.length = x.i := by
        have := (ok_all (ok_ev 2000 (Nat.le_refl _) g m.fuel) env (l.take x.i) m L hlo (fun y hy => hl y (List.mem_of_mem_take hy)) he h.ok (Nat.le_refl _)).v x.vs (by rw [hx.eq])
        rw [this.2, List.length_take]
        omega
      refine ⟨one6 (hcv ▸ celW_one (φ := φ2) v), by omega, ?_⟩
      refine ⟨⟨x.i + 1, x.vs ++ [v], m2, φ2, ψ2, ⟨σ2.objs ++ [.cells [.v d0, .v d1, .v d2, .v d3, .v d4, .v d5]], σ2.toks.set σ.toks.length (x.vs.length + 1)⟩⟩, ⟨by dsimp only; omega, ?_, ?_, ?_, by dsimp only; omega, by have := hx.st; dsimp only; omega, ?_, ?_⟩, by dsimp only; omega, .eq (by simp [hvv]; exact fun a ha => (encW_ext hA2.fe (okVs_iff.1 hx.vs a ha)).symm)⟩
      · rw [happ]
        simp [allM, Rs.bind, hrs, done]
      · exact ((hx.aft.trans hA2 hx.st).add _).tset _ (Nat.le_refl _) (by omega)
      · have := (List.getElem?_eq_some_iff.1 ht2).1
        dsimp only
        rw [List.getElem?_set_self this]
        simp
      · dsimp only
        exact hoo.mono (by omega)
      · dsimp only
        refine okVs_iff.2 fun w hw => ?_
        rcases List.mem_append.1 hw with hw | hw
        · exact (okVs_iff.1 hx.vs w hw).mono hos (by omega)
        · simp only [List.mem_singleton] at hw
          subst hw
          exact (hov _ rfl).mono (Nat.le_refl _) (by omega)
  · simp -implicitDefEqProofs (maxSteps := 2000000) (disch := omega) [-getElem?_pos]
    have hxe := hx.eq
    rw [List.take_of_length_le (l := l) (by omega)] at hxe
    rw [hxe]
    exact ⟨_, _, weakR_le (.tup2 .tsl (.refl _)), x.φ, x.ψ, rfl, hx.aft⟩
end Go.Proofs.YtbifjffjibnjjaaDoor
