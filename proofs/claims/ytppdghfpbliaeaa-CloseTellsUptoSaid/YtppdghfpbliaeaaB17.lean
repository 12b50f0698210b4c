/-
  Closed functions: all of an expression's, by definition. (Own work.)
-/
import Derived.Test.YtppdghfpbliaeaaB16
set_option linter.unusedVariables false
set_option linter.unusedSimpArgs false
namespace Go.Proofs.Ytppdghfpbliaeaa
open Go Go.Abs

theorem coV_one (e : Co) : ∀ y ∈ coV e, y.one = true := by
  cases e
  simp [coV]
/-- A part becomes known. -/
def setPart : List Fu → Nat → Co → List Fu
  | [], _, _ => []
  | f :: l, 0, x => { f with part := some x } :: l
  | f :: l, i + 1, x => f :: setPart l i x
theorem setPart_len : ∀ (l : List Fu) (i : Nat) (x : Co), (setPart l i x).length = l.length
  | [], _, _ => rfl
  | f :: l, 0, x => rfl
  | f :: l, i + 1, x => by simp [setPart, setPart_len l i x]
theorem putAt_cons9 {d0 d1 d2 d3 d4 d5 d6 d7 d8 : D} {r : List D} {n : Nat} {xs : List D} : putAt (d0 :: d1 :: d2 :: d3 :: d4 :: d5 :: d6 :: d7 :: d8 :: r) (n + 9) xs = d0 :: d1 :: d2 :: d3 :: d4 :: d5 :: d6 :: d7 :: d8 :: putAt r n xs := by
  simp [putAt, show n + 9 + xs.length = n + xs.length + 9 by omega]
theorem list6 {α : Type} : ∀ {l : List α}, l.length = 6 → ∃ a b c d e f, l = [a, b, c, d, e, f]
  | [a, b, c, d, e, f], _ => ⟨a, b, c, d, e, f, rfl⟩
theorem putPart : ∀ (fs : List Fu) (i : Nat) (x : Co) (rest : List D), i < fs.length → putAt (funD fs ++ rest) (i * 9 + 3) ((coV x).map .v) = funD (setPart fs i x) ++ rest
  | [], i, x, rest, h => by simp at h
  | f :: l, 0, x, rest, _ => by
    obtain ⟨a, b, c, d, e, g, h1⟩ := list6 (partV_len f.part)
    obtain ⟨a', b', c', d', e', g', h2⟩ := list6 (coV_len x)
    have e1 : funD (f :: l) = [.v (.str f.s), .v (.str f.t), .v (capV f.caps), .v a, .v b, .v c, .v d, .v e, .v g] ++ funD l := by simp [funD, fuV, h1]
    have e2 : funD (setPart (f :: l) 0 x) = [.v (.str f.s), .v (.str f.t), .v (capV f.caps), .v a', .v b', .v c', .v d', .v e', .v g'] ++ funD l := by simp [setPart, funD, fuV, partV, h2]
    rw [e1, e2, h2]
    simp [putAt]
  | f :: l, i + 1, x, rest, h => by
    have ih := putPart l i x rest (by simpa using h)
    obtain ⟨a, b, c, d, e, g, h1⟩ := list6 (partV_len f.part)
    have e1 : funD (f :: l) = [.v (.str f.s), .v (.str f.t), .v (capV f.caps), .v a, .v b, .v c, .v d, .v e, .v g] ++ funD l := by simp [funD, fuV, h1]
    have e2 : funD (setPart (f :: l) (i + 1) x) = [.v (.str f.s), .v (.str f.t), .v (capV f.caps), .v a, .v b, .v c, .v d, .v e, .v g] ++ funD (setPart l i x) := by simp [setPart, funD, fuV, h1]
    rw [e1, e2, show (i + 1) * 9 + 3 = i * 9 + 3 + 9 by omega]
    simp only [List.cons_append, List.nil_append]
    rw [putAt_cons9, ih]

/-- The functions so far, and whether something was amiss. -/
structure Ws where
  fs : List Fu
  bad : Bool
def isFun (k : Int) : Bool := k = 4 ∨ k = 7
mutual
def wk : Co → Ws → Co × Ws
  | .mk k n s t ns l, w =>
    let r := wkL l (if isFun k then ⟨w.fs ++ [fuOf (.mk k n s t ns l)], w.bad || badOf (.mk k n s t ns l)⟩ else w)
    (.mk k (if isFun k then w.fs.length else n) s t ns r.1, match isFun k, r.1 with
      | true, x :: _ => ⟨setPart r.2.fs w.fs.length x, r.2.bad⟩
      | _, _ => r.2)
def wkL : List Co → Ws → List Co × Ws
  | [], w => ([], w)
  | x :: l, w => ((wk x w).1 :: (wkL l (wk x w).2).1, (wkL l (wk x w).2).2)
end
theorem wkL_get : ∀ {l : List Co} {i : Nat} {x : Co} {w : Ws}, l[i]? = some x → wkL (l.take (i + 1)) w = ((wkL (l.take i) w).1 ++ [(wk x (wkL (l.take i) w).2).1], (wk x (wkL (l.take i) w).2).2)
  | [], i, x, w, h => by simp at h
  | y :: l, 0, x, w, h => by simp at h; subst h; simp [wkL]
  | y :: l, i + 1, x, w, h => by
    have := wkL_get (l := l) (i := i) (x := x) (w := (wk y w).2) (by simpa using h)
    simp only [List.take_succ_cons, wkL]
    rw [this]
    simp
theorem wk_len (e : Co) : ∀ w, w.fs.length ≤ (wk e w).2.fs.length ∧ 6 * (wk e w).2.fs.length ≤ 6 * w.fs.length + csz e := by
  refine Co.ind (P := fun e => ∀ w, w.fs.length ≤ (wk e w).2.fs.length ∧ 6 * (wk e w).2.fs.length ≤ 6 * w.fs.length + csz e) (fun k n s t ns l ih w => ?_) e
  have hl : ∀ (l : List Co) (w : Ws), (∀ x ∈ l, ∀ w, w.fs.length ≤ (wk x w).2.fs.length ∧ 6 * (wk x w).2.fs.length ≤ 6 * w.fs.length + csz x) → w.fs.length ≤ (wkL l w).2.fs.length ∧ 6 * (wkL l w).2.fs.length ≤ 6 * w.fs.length + cszL l := by
    intro l
    induction l with
    | nil => intro w _; simp [wkL]
    | cons x l ih2 =>
      intro w h
      have h1 := h x (by simp) w
      have h2 := ih2 (wk x w).2 fun y hy => h y (by simp [hy])
      simp only [wkL, cszL]
      omega
  have h1 := hl l (if isFun k then ⟨w.fs ++ [fuOf (.mk k n s t ns l)], w.bad || badOf (.mk k n s t ns l)⟩ else w) ih
  simp only [wk, csz]
  cases hk : isFun k with
  | false =>
    simp only [hk, Bool.false_eq_true, if_false] at h1 ⊢
    omega
  | true =>
    simp only [hk, if_true, List.length_append, List.length_cons, List.length_nil] at h1 ⊢
    cases hr : (wkL l ⟨w.fs ++ [fuOf (.mk k n s t ns l)], w.bad || badOf (.mk k n s t ns l)⟩).1 with
    | nil => dsimp only; omega
    | cons x r => dsimp only; rw [setPart_len]; omega
theorem wkL_len (l : List Co) : ∀ w, w.fs.length ≤ (wkL l w).2.fs.length ∧ 6 * (wkL l w).2.fs.length ≤ 6 * w.fs.length + cszL l ∧ (wkL l w).1.length = l.length := by
  induction l with
  | nil => intro w; simp [wkL]
  | cons x l ih =>
    intro w
    have h1 := wk_len x w
    have h2 := ih (wk x w).2
    simp only [wkL, cszL, List.length_cons]
    omega

theorem k_CloneV {l : List Str} {σ : Sg} (hl : l.length ≤ 1048576) : ACalls Try.prog 45 [.v (vS l)] σ fun r σ' => r = .v (vS l) ∧ σ' = σ := by
  refine acalls_fit Try.func45 (by kernel_rfl) c45 rfl (by simp [a45]) fun hf => ?_
  clear hf
  simp -implicitDefEqProofs (maxSteps := 2000000) (disch := omega) [-getElem?_pos, a45]
  exact ⟨⟨by omega, .fin _ ⟨rfl, rfl⟩ .tsl⟩, fun h => by subst h; exact .fin (.v (vS [])) ⟨rfl, rfl⟩ .snil⟩

theorem Frm.trans {a b d : Sg} {c o o1 : Nat} (h : Frm a b c o) (k : Frm b d c o1) (ho : o1 = o ∨ a.objs.length ≤ o1) : Frm a d c o := by
  obtain ⟨ts, h3⟩ := h.toks
  obtain ⟨us, h4⟩ := k.toks
  refine ⟨Nat.le_trans h.len k.len, fun i hi h1 h2 => ?_, ts ++ us, by rw [h4, h3, List.append_assoc]⟩
  rw [k.objs i (Nat.lt_of_lt_of_le hi h.len) h1 (by rintro rfl; rcases ho with rfl | ho; exact h2 rfl; omega)]
  exact h.objs i hi h1 h2
theorem weakR_le {B : Sg} {r r' : D} {σ : Sg} (h : D.Le r r') : WeakR B r σ r' σ := fun m0 m w0 w u _ hX hI hR => ⟨m, hI, h m w u hR, hX⟩

/-- An expression is walked. -/
def WalkPost (σ : Sg) (c o : Nat) (e : Co) (w : Ws) (r : D) (σ' : Sg) : Prop :=
  r = .v (encC (wk e w).1) ∧ ∃ o' cap' rest', Clo σ' c o' cap' rest' (wk e w).2.fs (wk e w).2.bad ∧ Frm σ σ' c o ∧ (o' = o ∨ σ.objs.length ≤ o')

theorem Clo.mono {σ τ : Sg} {c o cap : Nat} {rest : List D} {fs : List Fu} {bad : Bool} (h : Clo σ c o cap rest fs bad) (hc : τ.objs[c]? = σ.objs[c]?) (ho : τ.objs[o]? = σ.objs[o]?) : Clo τ c o cap rest fs bad :=
  ⟨hc.trans h.hc, ho.trans h.ho, h.ne, h.fit, h.room⟩
structure WSt where
  τ : Sg
  i : Nat
  o : Nat
  cap : Nat
  rest : List D
/-- Between two rounds. -/
structure WIn (σ : Sg) (c o tk : Nat) (k N : Int) (s t : Str) (ns : List Str) (l : List Co) (w : Ws) (x : WSt) : Prop where
  hi : x.i ≤ l.length
  clo : Clo x.τ c x.o x.cap x.rest (wkL (l.take x.i) w).2.fs (wkL (l.take x.i) w).2.bad
  res : x.τ.objs[σ.objs.length + 1]? = some (.cells [.v (.int .i64 0), .v (.int .i64 0), .v (.str []), .v (.str []), .v .snil, .v .snil])
  out : x.τ.objs[σ.objs.length + 2]? = some (.cells [.v (.int .i64 k), .v (.int .i64 N), .v (.str s), .v (.str t), .v (vS ns), .tsl tk (some 6) ((wkL (l.take x.i) w).1.map encC)])
  tok : x.τ.toks[tk]? = some (wkL (l.take x.i) w).1.length
  frm : Frm σ x.τ c o
  ho : x.o = o ∨ σ.objs.length + 3 ≤ x.o
  len : σ.objs.length + 3 ≤ x.τ.objs.length
theorem le_coV {a b c d e : V} {tk : Nat} {xs : List V} (h : ∀ y ∈ [a, b, c, d, e], y.one = true := by simp) : D.Le (.agg [.v a, .v b, .v c, .v d, .v e, .tsl tk (some 6) xs]) (.v (.agg [a, b, c, d, e, .sl (some 6) false xs])) := by
  refine D.Le.aggV rfl (fun y hy => ?_) fun i x y h1 h2 => ?_
  · simp only [List.mem_cons, List.not_mem_nil, or_false] at hy
    rcases hy with rfl | rfl | rfl | rfl | rfl | rfl <;> first | rfl | exact h _ (by simp)
  · match i with
    | 0 => cases h1; cases h2; exact .refl _
    | 1 => cases h1; cases h2; exact .refl _
    | 2 => cases h1; cases h2; exact .refl _
    | 3 => cases h1; cases h2; exact .refl _
    | 4 => cases h1; cases h2; exact .refl _
    | 5 => cases h1; cases h2; exact .tsl
    | j + 6 => simp at h1
def WalkOk (e : Co) : Prop := ∀ {c o cap : Nat} {rest : List D} {w : Ws} {σ : Sg}, csz e ≤ 1048576 → 6 * w.fs.length + csz e ≤ 1048600 → Clo σ c o cap rest w.fs w.bad → ACalls Try.prog 33 [.ptr c 0, .v (encC e)] σ (WalkPost σ c o e w)
set_option maxHeartbeats 2000000 in
theorem walkF {k n : Int} {s t : Str} {ns : List Str} {l : List Co} (hk : isFun k = false) (ih : ∀ x ∈ l, WalkOk x) : WalkOk (.mk k n s t ns l) := by
  intro c o cap rest w σ he hw hC
  have hC0 := hC
  obtain ⟨hc, ho, hne, hfit, hroom⟩ := hC
  have hcl := (List.getElem?_eq_some_iff.1 hc).1
  have hol := (List.getElem?_eq_some_iff.1 ho).1
  have hnl := nsz_len ns
  have hll := cszL_len l
  have he' := he
  have hw' := hw
  simp only [csz] at he' hw'
  rw [encC_mk]
  refine acalls_fit Try.func33 (by kernel_rfl) c33 rfl (by simp [a33]) fun hf => ?_
  clear hf
  simp -implicitDefEqProofs (maxSteps := 2000000) (disch := omega) [-getElem?_pos, a33]
  refine (k_CloneV (by omega)).then fun r hr => ?_
  subst hr
  have h4 : ¬ k = 4 := by rintro rfl; simp [isFun] at hk
  have h7 : ¬ k = 7 := by rintro rfl; simp [isFun] at hk
  have h7b : (k == 7) = false := by simp [h7]
  simp -implicitDefEqProofs (maxSteps := 2000000) (disch := omega) [-getElem?_pos, h4, h7]
  simp only [h7b]
  obtain ⟨OS, hOS⟩ : ∃ OS, OS = σ.objs ++ [Ob.cells [D.v (.int .i64 k), .v (.int .i64 n), .v (.str s), .v (.str t), .v (.sl none false (ns.map .str)), .v (.sl (some 6) false (l.map encC))], .cells [.v (.int .i64 0), .v (.int .i64 0), .v (.str []), .v (.str []), .v .snil, .v .snil], .cells [.v (.int .i64 k), .v (.int .i64 n), .v (.str s), .v (.str t), .v (vS ns), .v .snil]] := ⟨_, rfl⟩
  have hO1 : OS[σ.objs.length + 1]? = some (.cells [.v (.int .i64 0), .v (.int .i64 0), .v (.str []), .v (.str []), .v .snil, .v .snil]) := by rw [hOS]; simp
  have hO2 : OS[σ.objs.length + 2]? = some (.cells [.v (.int .i64 k), .v (.int .i64 n), .v (.str s), .v (.str t), .v (vS ns), .v .snil]) := by rw [hOS]; simp
  have hCO : Clo ⟨OS, σ.toks⟩ c o cap rest w.fs w.bad := hC0.mono (by rw [hOS]; exact List.getElem?_append_left hcl) (by rw [hOS]; exact List.getElem?_append_left hol)
  have hFO : Frm σ ⟨OS, σ.toks⟩ c o := ⟨by rw [hOS]; simp, fun i hi _ _ => by rw [hOS]; exact List.getElem?_append_left hi, [], by simp⟩
  have hLO : σ.objs.length + 3 ≤ OS.length := by rw [hOS]; simp
  obtain ⟨w1, hw1⟩ : ∃ w1, w1 = w := ⟨_, rfl⟩
  obtain ⟨TS, hTS⟩ : ∃ TS, TS = σ.toks := ⟨_, rfl⟩
  have hwl : 6 * w1.fs.length + cszL l ≤ 1048600 := by rw [hw1]; omega
  have hN : (if isFun k = true then (w.fs.length : Int) else n) = n := by simp [hk]
  rw [← hOS, ← hTS]
  rw [← hTS] at hCO hFO
  rw [← hw1] at hCO
  obtain ⟨o1, ho1⟩ : ∃ o1, o1 = o := ⟨_, rfl⟩
  rw [← ho1] at hCO
  have ho2 : o1 = o ∨ σ.objs.length + 3 ≤ o1 := .inl ho1
  have hos : o < σ.objs.length := hol
  clear hOS
  refine W_loop (α := WSt) ⟨⟨OS.set (σ.objs.length + 2) (.cells [.v (.int .i64 k), .v (.int .i64 n), .v (.str s), .v (.str t), .v (vS ns), .tsl TS.length (some 6) []]), TS ++ [0]⟩, 0, o1, cap, rest⟩ (fun x => l.length - x.i)
    (fun x => ⟨[(0, .ptr c 0), (4, .ptr (σ.objs.length + 1) 0), (5, .ptr (σ.objs.length + 2) 0), (6, .v (.bool false)), (29, .v (.sl (some 6) false (l.map encC))), (30, .v (.int .i64 l.length)), (31, .v (.int .i64 x.i))], x.τ⟩)
    (WIn σ c o TS.length k n s t ns l w1) (.tokE (σ.objs.length + 2) 5 (some 6) _ hO2 rfl rfl (by simp))
    ⟨by simp, ?_, ?_, ?_, ?_, ?_, ho2, ?_⟩ fun x hx => ?_
  · exact hCO.mono (List.getElem?_set_ne (by omega)) (List.getElem?_set_ne (by omega))
  · dsimp only
    rw [List.getElem?_set_ne (by omega)]
    exact hO1
  · dsimp only
    rw [List.getElem?_set_self (by omega)]
    simp [wkL]
  · simp [wkL]
  · obtain ⟨f1, f2, ts, f3⟩ := hFO
    refine ⟨by simp; omega, fun i hi h1 h2 => ?_, ts ++ [0], by dsimp only at f3 ⊢; rw [f3, List.append_assoc]⟩
    dsimp only
    rw [List.getElem?_set_ne (by omega)]
    exact f2 i hi h1 h2
  · dsimp only
    rw [List.length_set]
    exact hLO
  obtain ⟨τ, i, ox, capx, restx⟩ := x
  obtain ⟨x1, x2, x3, x4, x5, x6, x7, x8⟩ := hx
  dsimp only at x1 x2 x3 x4 x5 x6 x7 x8 ⊢
  simp -implicitDefEqProofs (maxSteps := 2000000) (disch := omega) [-getElem?_pos]
  refine .mk (fun h => ?_) fun h => ?_
  · simp -implicitDefEqProofs (maxSteps := 2000000) (disch := omega) [-getElem?_pos]
    refine ⟨by omega, ?_⟩
    intro x hx
    have hx1 := cszL_mem (List.mem_of_getElem? hx)
    have hwg := wkL_get (w := w1) hx
    have hwn := wkL_len (l.take i) w1
    have hcg := cszL_get hx
    have hct := cszL_take l (i + 1)
    have hcall := fun σ h => ih x (List.mem_of_getElem? hx) (c := c) (o := ox) (cap := capx) (rest := restx) (w := (wkL (l.take i) w1).2) (σ := σ) (by omega) (by omega) h
    obtain ⟨x0, hx0⟩ : ∃ x0, x0 = x := ⟨_, rfl⟩
    cases x with
    | mk k2 n2 s2 t2 ns2 l2 =>
    rw [encC_mk] at hcall ⊢
    rw [← hx0] at hcall
    have x4' : ∀ r, (τ.objs ++ r)[σ.objs.length + 2]? = some (.cells [.v (.int .i64 k), .v (.int .i64 n), .v (.str s), .v (.str t), .v (vS ns), .tsl TS.length (some 6) ((wkL (l.take i) w1).1.map encC)]) := fun r => by rw [List.getElem?_append_left (by omega), x4]
    obtain ⟨z1, z2, z3, z4, z5⟩ := x2
    have zcl := (List.getElem?_eq_some_iff.1 z1).1
    have zol := (List.getElem?_eq_some_iff.1 z2).1
    simp -implicitDefEqProofs (maxSteps := 2000000) (disch := omega) [-getElem?_pos, x4']
    refine (hcall _ ⟨by rw [← z1]; exact List.getElem?_append_left zcl, by rw [← z2]; exact List.getElem?_append_left zol, z3, z4, z5⟩).mono fun r σ' hr => ?_
    obtain ⟨rfl, o', cap', rest', hC', hF', ho'⟩ := hr
    obtain ⟨g1, g2, ts, g3⟩ := hF'
    simp only [List.length_append, List.length_cons, List.length_nil] at g1 ho'
    have y4 : σ'.objs[σ.objs.length + 2]? = some (.cells [.v (.int .i64 k), .v (.int .i64 n), .v (.str s), .v (.str t), .v (vS ns), .tsl TS.length (some 6) ((wkL (l.take i) w1).1.map encC)]) := by
      rw [g2 _ (by simp; omega) (by omega) (by omega)]
      exact x4' _
    have y3 : σ'.objs[σ.objs.length + 1]? = some (.cells [.v (.int .i64 0), .v (.int .i64 0), .v (.str []), .v (.str []), .v .snil, .v .snil]) := by
      rw [g2 _ (by simp; omega) (by omega) (by omega)]
      rw [← x3]
      exact List.getElem?_append_left (by omega)
    have ytl := (List.getElem?_eq_some_iff.1 x5).1
    have y5 : σ'.toks[TS.length]? = some (wkL (l.take i) w1).1.length := by
      rw [g3, List.getElem?_append_left ytl]
      exact x5
    simp -implicitDefEqProofs (maxSteps := 2000000) (disch := omega) [-getElem?_pos, y4, y5]
    refine ⟨.inr ⟨?_, fun ob hob => ?_⟩, ⟨?_, ?_⟩, by simp at hwn; omega, ?_⟩
    · rw [g2 _ (by simp) (by omega) (by omega)]
      simp
    · rw [x4'] at hob
      exact Option.some.inj hob
    · rw [encC_coV]
      simp [coV_len]
    · rw [encC_coV]
      exact coV_one _
    have hTl : σ.toks.length ≤ TS.length := by
      obtain ⟨ts0, h0⟩ := hFO.toks
      have h1 := congrArg List.length h0
      simp only [List.length_append] at h1
      omega
    refine ⟨⟨⟨_, _⟩, i + 1, o', cap', rest'⟩, ⟨by dsimp only; omega, ?_, ?_, ?_, ?_, ⟨?_, fun j hj h1 h2 => ?_, ?_⟩, ?_, ?_⟩, by dsimp only; omega, .eq (by simp)⟩
    · dsimp only
      rw [hwg, ← hx0]
      exact hC'.mono (List.getElem?_set_ne (by omega)) (List.getElem?_set_ne (by omega))
    · dsimp only
      rw [List.getElem?_set_ne (by omega)]
      exact y3
    · dsimp only
      rw [List.getElem?_set_self (by omega), hwg, ← hx0]
      simp
    · dsimp only
      rw [List.getElem?_set_self (by rw [g3, List.length_append]; dsimp only; omega), hwg]
      simp
    · dsimp only
      rw [List.length_set]
      omega
    · dsimp only
      rw [List.getElem?_set_ne (by omega), g2 j (by simp; omega) h1 (by omega)]
      dsimp only
      rw [List.getElem?_append_left (by omega)]
      exact x6.objs j hj h1 h2
    · obtain ⟨ts1, h1⟩ := x6.toks
      refine ⟨(ts1 ++ ts).set (TS.length - σ.toks.length) ((wkL (l.take i) w1).1.length + 1), ?_⟩
      dsimp only at g3 ⊢
      rw [g3, h1, List.append_assoc, List.set_append_right _ _ hTl]
    · dsimp only
      omega
    · dsimp only
      rw [List.length_set]
      omega

  have hil : i = l.length := by omega
  subst hil
  rw [List.take_length] at x2 x4 x5
  simp -implicitDefEqProofs (maxSteps := 2000000) (disch := omega) [-getElem?_pos, x3, x4]
  have hwk : wk (.mk k n s t ns l) w = (.mk k n s t ns (wkL l w1).1, (wkL l w1).2) := by rw [hw1]; simp [wk, hk]
  refine ⟨.v (encC (wk (.mk k n s t ns l) w).1), _, weakR_le ?_, ⟨rfl, ox, capx, restx, ?_, ⟨?_, fun j hj h1 h2 => ?_, x6.toks⟩, ?_⟩⟩
  · rw [hwk, encC_coV, coV_mk]
    exact le_coV
  · rw [hwk]
    exact x2.mono (List.getElem?_set_ne (by omega)) (List.getElem?_set_ne (by omega))
  · dsimp only
    rw [List.length_set]
    omega
  · dsimp only
    rw [List.getElem?_set_ne (by omega)]
    exact x6.objs j hj h1 h2
  · omega
set_option maxHeartbeats 2000000 in
theorem walk4 {n : Int} {s t : Str} {ns : List Str} {l : List Co} (ih : ∀ x ∈ l, WalkOk x) : WalkOk (.mk 4 n s t ns l) := by
  have hk : isFun 4 = true := by decide
  intro c o cap rest w σ he hw hC
  have hC0 := hC
  obtain ⟨hc, ho, hne, hfit, hroom⟩ := hC
  have hcl := (List.getElem?_eq_some_iff.1 hc).1
  have hol := (List.getElem?_eq_some_iff.1 ho).1
  have hnl := nsz_len ns
  have hll := cszL_len l
  have he' := he
  have hw' := hw
  simp only [csz] at he' hw'
  rw [encC_mk]
  refine acalls_fit Try.func33 (by kernel_rfl) c33 rfl (by simp [a33]) fun hf => ?_
  clear hf
  simp -implicitDefEqProofs (maxSteps := 2000000) (disch := omega) [-getElem?_pos, a33]
  refine (k_CloneV (by omega)).then fun r hr => ?_
  subst hr
  have hfun := fun σ h => k_Function (k := 4) (n := n) (s := s) (t := t) (ns := ns) (l := l) (c := c) (o := o) (cap := cap) (rest := rest) (fs := w.fs) (bad := w.bad) (σ := σ) (by simp) he h (by omega)
  rw [encC_mk] at hfun
  obtain ⟨OS, hOS⟩ : ∃ OS, OS = σ.objs ++ [Ob.cells [D.v (.int .i64 4), .v (.int .i64 n), .v (.str s), .v (.str t), .v (.sl none false (ns.map .str)), .v (.sl (some 6) false (l.map encC))], .cells [.v (.int .i64 0), .v (.int .i64 0), .v (.str []), .v (.str []), .v .snil, .v .snil], .cells [.v (.int .i64 4), .v (.int .i64 n), .v (.str s), .v (.str t), .v (vS ns), .v .snil]] := ⟨_, rfl⟩
  simp -implicitDefEqProofs (maxSteps := 2000000) (disch := omega) [-getElem?_pos]
  rw [← hOS]
  have hOl : OS.length = σ.objs.length + 3 := by rw [hOS]; simp
  have q0 : OS[σ.objs.length]? = some (.cells [.v (.int .i64 4), .v (.int .i64 n), .v (.str s), .v (.str t), .v (.sl none false (ns.map .str)), .v (.sl (some 6) false (l.map encC))]) := by rw [hOS]; simp
  have q1 : OS[σ.objs.length + 1]? = some (.cells [.v (.int .i64 0), .v (.int .i64 0), .v (.str []), .v (.str []), .v .snil, .v .snil]) := by rw [hOS]; simp
  have q2 : OS[σ.objs.length + 2]? = some (.cells [.v (.int .i64 4), .v (.int .i64 n), .v (.str s), .v (.str t), .v (vS ns), .v .snil]) := by rw [hOS]; simp
  have qo : ∀ i, i < σ.objs.length → OS[i]? = σ.objs[i]? := fun i hi => by rw [hOS]; exact List.getElem?_append_left hi
  clear hOS
  refine (hfun _ (hC0.mono (qo c hcl) (qo o hol))).mono fun r σ1 hr => ?_
  obtain ⟨rfl, o1, cap1, rest1, hC1, hF1, ho1⟩ := hr
  obtain ⟨f1, f2, ts1, f3⟩ := hF1
  dsimp only at f1 f2 f3 ho1
  have b0 : σ1.objs[σ.objs.length]? = some (.cells [.v (.int .i64 4), .v (.int .i64 n), .v (.str s), .v (.str t), .v (.sl none false (ns.map .str)), .v (.sl (some 6) false (l.map encC))]) := by rw [f2 _ (by omega) (by omega) (by omega)]; exact q0
  have b1 : σ1.objs[σ.objs.length + 1]? = some (.cells [.v (.int .i64 0), .v (.int .i64 0), .v (.str []), .v (.str []), .v .snil, .v .snil]) := by rw [f2 _ (by omega) (by omega) (by omega)]; exact q1
  have b2 : σ1.objs[σ.objs.length + 2]? = some (.cells [.v (.int .i64 4), .v (.int .i64 n), .v (.str s), .v (.str t), .v (vS ns), .v .snil]) := by rw [f2 _ (by omega) (by omega) (by omega)]; exact q2
  have bs0 : ∀ X, (σ1.objs.set (σ.objs.length + 2) X)[σ.objs.length]? = some (.cells [.v (.int .i64 4), .v (.int .i64 n), .v (.str s), .v (.str t), .v (.sl none false (ns.map .str)), .v (.sl (some 6) false (l.map encC))]) := fun X => by rw [List.getElem?_set_ne (by omega), b0]
  simp -implicitDefEqProofs (maxSteps := 2000000) (disch := omega) [-getElem?_pos, b2, bs0]
  obtain ⟨OS2, hOS2⟩ : ∃ OS2, OS2 = σ1.objs.set (σ.objs.length + 2) (.cells [.v (.int .i64 4), .v (.int .i64 w.fs.length), .v (.str s), .v (.str t), .v (vS ns), .v .snil]) := ⟨_, rfl⟩
  rw [← hOS2]
  have hO1 : OS2[σ.objs.length + 1]? = some (.cells [.v (.int .i64 0), .v (.int .i64 0), .v (.str []), .v (.str []), .v .snil, .v .snil]) := by rw [hOS2, List.getElem?_set_ne (by omega), b1]
  have hO2 : OS2[σ.objs.length + 2]? = some (.cells [.v (.int .i64 4), .v (.int .i64 w.fs.length), .v (.str s), .v (.str t), .v (vS ns), .v .snil]) := by rw [hOS2, List.getElem?_set_self (by omega)]
  have hCO0 : Clo ⟨OS2, σ1.toks⟩ c o1 cap1 rest1 (w.fs ++ [fuOf (.mk 4 n s t ns l)]) (w.bad || badOf (.mk 4 n s t ns l)) := hC1.mono (by rw [hOS2]; exact List.getElem?_set_ne (by omega)) (by rw [hOS2]; exact List.getElem?_set_ne (by omega))
  obtain ⟨w1, hw1⟩ : ∃ w1 : Ws, w1 = ⟨w.fs ++ [fuOf (.mk 4 n s t ns l)], w.bad || badOf (.mk 4 n s t ns l)⟩ := ⟨_, rfl⟩
  have hCO : Clo ⟨OS2, σ1.toks⟩ c o1 cap1 rest1 w1.fs w1.bad := by rw [hw1]; exact hCO0
  have hFO : Frm σ ⟨OS2, σ1.toks⟩ c o := ⟨by rw [hOS2]; simp; omega, fun i hi h1 h2 => by rw [hOS2]; dsimp only; rw [List.getElem?_set_ne (by omega), f2 i (by omega) h1 h2]; exact qo i hi, ts1, f3⟩
  have hLO : σ.objs.length + 3 ≤ OS2.length := by rw [hOS2]; simp; omega
  have hwl : 6 * w1.fs.length + cszL l ≤ 1048600 := by rw [hw1]; simp; omega
  have ho2 : o1 = o ∨ σ.objs.length + 3 ≤ o1 := by omega
  have hwf : w.fs.length < w1.fs.length := by rw [hw1]; simp
  clear hOS2
  obtain ⟨TS, hTS⟩ : ∃ TS, TS = σ1.toks := ⟨_, rfl⟩
  rw [← hTS] at hCO hFO ⊢
  refine W_loop (α := WSt) ⟨⟨OS2.set (σ.objs.length + 2) (.cells [.v (.int .i64 4), .v (.int .i64 (w.fs.length : Int)), .v (.str s), .v (.str t), .v (vS ns), .tsl TS.length (some 6) []]), TS ++ [0]⟩, 0, o1, cap1, rest1⟩ (fun x => l.length - x.i)
    (fun x => ⟨[(0, .ptr c 0), (4, .ptr (σ.objs.length + 1) 0), (5, .ptr (σ.objs.length + 2) 0), (6, .v (.bool true)), (29, .v (.sl (some 6) false (l.map encC))), (30, .v (.int .i64 l.length)), (31, .v (.int .i64 x.i))], x.τ⟩)
    (WIn σ c o TS.length 4 (w.fs.length : Int) s t ns l w1) (.tokE (σ.objs.length + 2) 5 (some 6) _ hO2 rfl rfl (by simp))
    ⟨by simp, ?_, ?_, ?_, ?_, ?_, ho2, ?_⟩ fun x hx => ?_
  · exact hCO.mono (List.getElem?_set_ne (by omega)) (List.getElem?_set_ne (by omega))
  · dsimp only
    rw [List.getElem?_set_ne (by omega)]
    exact hO1
  · dsimp only
    rw [List.getElem?_set_self (by omega)]
    simp [wkL]
  · simp [wkL]
  · obtain ⟨f1, f2, ts, f3⟩ := hFO
    refine ⟨by simp; omega, fun i hi h1 h2 => ?_, ts ++ [0], by dsimp only at f3 ⊢; rw [f3, List.append_assoc]⟩
    dsimp only
    rw [List.getElem?_set_ne (by omega)]
    exact f2 i hi h1 h2
  · dsimp only
    rw [List.length_set]
    exact hLO
  obtain ⟨τ, i, ox, capx, restx⟩ := x
  obtain ⟨x1, x2, x3, x4, x5, x6, x7, x8⟩ := hx
  dsimp only at x1 x2 x3 x4 x5 x6 x7 x8 ⊢
  simp -implicitDefEqProofs (maxSteps := 2000000) (disch := omega) [-getElem?_pos]
  refine .mk (fun h => ?_) fun h => ?_
  · simp -implicitDefEqProofs (maxSteps := 2000000) (disch := omega) [-getElem?_pos]
    refine ⟨by omega, ?_⟩
    intro x hx
    have hx1 := cszL_mem (List.mem_of_getElem? hx)
    have hwg := wkL_get (w := w1) hx
    have hwn := wkL_len (l.take i) w1
    have hcg := cszL_get hx
    have hct := cszL_take l (i + 1)
    have hcall := fun σ h => ih x (List.mem_of_getElem? hx) (c := c) (o := ox) (cap := capx) (rest := restx) (w := (wkL (l.take i) w1).2) (σ := σ) (by omega) (by omega) h
    obtain ⟨x0, hx0⟩ : ∃ x0, x0 = x := ⟨_, rfl⟩
    cases x with
    | mk k2 n2 s2 t2 ns2 l2 =>
    rw [encC_mk] at hcall ⊢
    rw [← hx0] at hcall
    have x4' : ∀ r, (τ.objs ++ r)[σ.objs.length + 2]? = some (.cells [.v (.int .i64 4), .v (.int .i64 (w.fs.length : Int)), .v (.str s), .v (.str t), .v (vS ns), .tsl TS.length (some 6) ((wkL (l.take i) w1).1.map encC)]) := fun r => by rw [List.getElem?_append_left (by omega), x4]
    obtain ⟨z1, z2, z3, z4, z5⟩ := x2
    have zcl := (List.getElem?_eq_some_iff.1 z1).1
    have zol := (List.getElem?_eq_some_iff.1 z2).1
    simp -implicitDefEqProofs (maxSteps := 2000000) (disch := omega) [-getElem?_pos, x4']
    refine (hcall _ ⟨by rw [← z1]; exact List.getElem?_append_left zcl, by rw [← z2]; exact List.getElem?_append_left zol, z3, z4, z5⟩).mono fun r σ' hr => ?_
    obtain ⟨rfl, o', cap', rest', hC', hF', ho'⟩ := hr
    obtain ⟨g1, g2, ts, g3⟩ := hF'
    simp only [List.length_append, List.length_cons, List.length_nil] at g1 ho'
    have y4 : σ'.objs[σ.objs.length + 2]? = some (.cells [.v (.int .i64 4), .v (.int .i64 (w.fs.length : Int)), .v (.str s), .v (.str t), .v (vS ns), .tsl TS.length (some 6) ((wkL (l.take i) w1).1.map encC)]) := by
      rw [g2 _ (by simp; omega) (by omega) (by omega)]
      exact x4' _
    have y3 : σ'.objs[σ.objs.length + 1]? = some (.cells [.v (.int .i64 0), .v (.int .i64 0), .v (.str []), .v (.str []), .v .snil, .v .snil]) := by
      rw [g2 _ (by simp; omega) (by omega) (by omega)]
      rw [← x3]
      exact List.getElem?_append_left (by omega)
    have ytl := (List.getElem?_eq_some_iff.1 x5).1
    have y5 : σ'.toks[TS.length]? = some (wkL (l.take i) w1).1.length := by
      rw [g3, List.getElem?_append_left ytl]
      exact x5
    simp -implicitDefEqProofs (maxSteps := 2000000) (disch := omega) [-getElem?_pos, y4, y5]
    refine ⟨.inr ⟨?_, fun ob hob => ?_⟩, ⟨?_, ?_⟩, by simp at hwn; omega, ?_⟩
    · rw [g2 _ (by simp) (by omega) (by omega)]
      simp
    · rw [x4'] at hob
      exact Option.some.inj hob
    · rw [encC_coV]
      simp [coV_len]
    · rw [encC_coV]
      exact coV_one _
    have hTl : σ.toks.length ≤ TS.length := by
      obtain ⟨ts0, h0⟩ := hFO.toks
      have h1 := congrArg List.length h0
      simp only [List.length_append] at h1
      omega
    refine ⟨⟨⟨_, _⟩, i + 1, o', cap', rest'⟩, ⟨by dsimp only; omega, ?_, ?_, ?_, ?_, ⟨?_, fun j hj h1 h2 => ?_, ?_⟩, ?_, ?_⟩, by dsimp only; omega, .eq (by simp)⟩
    · dsimp only
      rw [hwg, ← hx0]
      exact hC'.mono (List.getElem?_set_ne (by omega)) (List.getElem?_set_ne (by omega))
    · dsimp only
      rw [List.getElem?_set_ne (by omega)]
      exact y3
    · dsimp only
      rw [List.getElem?_set_self (by omega), hwg, ← hx0]
      simp
    · dsimp only
      rw [List.getElem?_set_self (by rw [g3, List.length_append]; dsimp only; omega), hwg]
      simp
    · dsimp only
      rw [List.length_set]
      omega
    · dsimp only
      rw [List.getElem?_set_ne (by omega), g2 j (by simp; omega) h1 (by omega)]
      dsimp only
      rw [List.getElem?_append_left (by omega)]
      exact x6.objs j hj h1 h2
    · obtain ⟨ts1, h1⟩ := x6.toks
      refine ⟨(ts1 ++ ts).set (TS.length - σ.toks.length) ((wkL (l.take i) w1).1.length + 1), ?_⟩
      dsimp only at g3 ⊢
      rw [g3, h1, List.append_assoc, List.set_append_right _ _ hTl]
    · dsimp only
      omega
    · dsimp only
      rw [List.length_set]
      omega

  have hil : i = l.length := by omega
  subst hil
  rw [List.take_length] at x2 x4 x5
  have hwn := wkL_len l w1
  have hwc := hwn.2.2
  obtain ⟨z1, z2, z3, z4, z5⟩ := x2
  have zcl := (List.getElem?_eq_some_iff.1 z1).1
  have zol := (List.getElem?_eq_some_iff.1 z2).1
  have hfl2 := funD_len (wkL l w1).2.fs
  cases hr : (wkL l w1).1 with
  | nil =>
    rw [hr] at x4
    simp -implicitDefEqProofs (maxSteps := 2000000) (disch := omega) [-getElem?_pos, x3, x4]
    have hwk : wk (.mk 4 n s t ns l) w = (.mk 4 w.fs.length s t ns [], (wkL l w1).2) := by rw [hw1] at hr ⊢; simp [wk, hk, hr]
    refine ⟨.v (encC (wk (.mk 4 n s t ns l) w).1), _, weakR_le ?_, ⟨rfl, ox, capx, restx, ?_, ⟨?_, fun j hj h1 h2 => ?_, x6.toks⟩, ?_⟩⟩
    · rw [hwk, encC_coV, coV_mk]
      exact le_coV
    · rw [hwk]
      exact Clo.mono ⟨z1, z2, z3, z4, z5⟩ (List.getElem?_set_ne (by omega)) (List.getElem?_set_ne (by omega))
    · dsimp only
      rw [List.length_set]
      omega
    · dsimp only
      rw [List.getElem?_set_ne (by omega)]
      exact x6.objs j hj h1 h2
    · omega
  | cons y r =>
    rw [hr] at x4
    obtain ⟨y0, hy0⟩ : ∃ y0, y0 = y := ⟨_, rfl⟩
    cases y with
    | mk k3 n3 s3 t3 ns3 l3 =>
    rw [List.map_cons, encC_mk] at x4
    have hset1 : ∀ X Y, ((τ.objs.set ox X).set (σ.objs.length + 1) Y)[σ.objs.length + 1]? = some Y := fun X Y => List.getElem?_set_self (by rw [List.length_set]; omega)
    have hx3 : ∀ X, (τ.objs.set ox X)[σ.objs.length + 1]? = some (.cells [.v (.int .i64 0), .v (.int .i64 0), .v (.str []), .v (.str []), .v .snil, .v .snil]) := fun X => by rw [List.getElem?_set_ne (by omega), x3]
    have hx4 : ∀ X, (τ.objs.set ox X)[σ.objs.length + 2]? = τ.objs[σ.objs.length + 2]? := fun X => List.getElem?_set_ne (by omega)
    simp -implicitDefEqProofs (maxSteps := 2000000) (disch := omega) [-getElem?_pos, hx3, hx4, x3, x4, z1, z2, hset1]
    refine ⟨by omega, by rw [hfl2]; omega, ?_⟩
    have hpp := putPart (wkL l w1).2.fs w.fs.length (.mk k3 n3 s3 t3 ns3 l3) restx (by omega)
    simp only [coV_mk, putAt, List.map_cons, List.map_nil, List.length_cons, List.length_nil, Nat.zero_add, Nat.reduceAdd, List.cons_append, List.nil_append] at hpp
    have hwk : wk (.mk 4 n s t ns l) w = (.mk 4 w.fs.length s t ns (wkL l w1).1, ⟨setPart (wkL l w1).2.fs w.fs.length (.mk k3 n3 s3 t3 ns3 l3), (wkL l w1).2.bad⟩) := by rw [hw1] at hr ⊢; simp [wk, hk, hr]
    rw [hpp]
    refine ⟨.v (encC (wk (.mk 4 n s t ns l) w).1), _, weakR_le ?_, ⟨rfl, ox, capx, restx, ?_, ⟨?_, fun j hj h1 h2 => ?_, x6.toks⟩, ?_⟩⟩
    · rw [hwk, encC_coV, coV_mk, hr, List.map_cons, encC_mk]
      exact le_coV
    · rw [hwk]
      refine ⟨?_, ?_, z3, ?_, ?_⟩
      · dsimp only
        rw [List.getElem?_set_ne (by omega), List.getElem?_set_ne (by omega), setPart_len]
        exact z1
      · dsimp only
        rw [List.getElem?_set_ne (by omega), List.getElem?_set_self zol]
      · rw [setPart_len]
        exact z4
      · rw [setPart_len]
        exact z5
    · dsimp only
      rw [List.length_set, List.length_set]
      omega
    · dsimp only
      rw [List.getElem?_set_ne (by omega), List.getElem?_set_ne (by omega)]
      exact x6.objs j hj h1 h2
    · omega

set_option maxHeartbeats 2000000 in
theorem walk7 {n : Int} {s t : Str} {ns : List Str} {l : List Co} (ih : ∀ x ∈ l, WalkOk x) : WalkOk (.mk 7 n s t ns l) := by
  have hk : isFun 7 = true := by decide
  intro c o cap rest w σ he hw hC
  have hC0 := hC
  obtain ⟨hc, ho, hne, hfit, hroom⟩ := hC
  have hcl := (List.getElem?_eq_some_iff.1 hc).1
  have hol := (List.getElem?_eq_some_iff.1 ho).1
  have hnl := nsz_len ns
  have hll := cszL_len l
  have he' := he
  have hw' := hw
  simp only [csz] at he' hw'
  rw [encC_mk]
  refine acalls_fit Try.func33 (by kernel_rfl) c33 rfl (by simp [a33]) fun hf => ?_
  clear hf
  simp -implicitDefEqProofs (maxSteps := 2000000) (disch := omega) [-getElem?_pos, a33]
  refine (k_CloneV (by omega)).then fun r hr => ?_
  subst hr
  have hfun := fun σ h => k_Function (k := 7) (n := n) (s := s) (t := t) (ns := ns) (l := l) (c := c) (o := o) (cap := cap) (rest := rest) (fs := w.fs) (bad := w.bad) (σ := σ) (by simp) he h (by omega)
  rw [encC_mk] at hfun
  obtain ⟨OS, hOS⟩ : ∃ OS, OS = σ.objs ++ [Ob.cells [D.v (.int .i64 7), .v (.int .i64 n), .v (.str s), .v (.str t), .v (.sl none false (ns.map .str)), .v (.sl (some 6) false (l.map encC))], .cells [.v (.int .i64 0), .v (.int .i64 0), .v (.str []), .v (.str []), .v .snil, .v .snil], .cells [.v (.int .i64 7), .v (.int .i64 n), .v (.str s), .v (.str t), .v (vS ns), .v .snil]] := ⟨_, rfl⟩
  simp -implicitDefEqProofs (maxSteps := 2000000) (disch := omega) [-getElem?_pos]
  rw [← hOS]
  have hOl : OS.length = σ.objs.length + 3 := by rw [hOS]; simp
  have q0 : OS[σ.objs.length]? = some (.cells [.v (.int .i64 7), .v (.int .i64 n), .v (.str s), .v (.str t), .v (.sl none false (ns.map .str)), .v (.sl (some 6) false (l.map encC))]) := by rw [hOS]; simp
  have q1 : OS[σ.objs.length + 1]? = some (.cells [.v (.int .i64 0), .v (.int .i64 0), .v (.str []), .v (.str []), .v .snil, .v .snil]) := by rw [hOS]; simp
  have q2 : OS[σ.objs.length + 2]? = some (.cells [.v (.int .i64 7), .v (.int .i64 n), .v (.str s), .v (.str t), .v (vS ns), .v .snil]) := by rw [hOS]; simp
  have qo : ∀ i, i < σ.objs.length → OS[i]? = σ.objs[i]? := fun i hi => by rw [hOS]; exact List.getElem?_append_left hi
  clear hOS
  refine (hfun _ (hC0.mono (qo c hcl) (qo o hol))).mono fun r σ1 hr => ?_
  obtain ⟨rfl, o1, cap1, rest1, hC1, hF1, ho1⟩ := hr
  obtain ⟨f1, f2, ts1, f3⟩ := hF1
  dsimp only at f1 f2 f3 ho1
  have b0 : σ1.objs[σ.objs.length]? = some (.cells [.v (.int .i64 7), .v (.int .i64 n), .v (.str s), .v (.str t), .v (.sl none false (ns.map .str)), .v (.sl (some 6) false (l.map encC))]) := by rw [f2 _ (by omega) (by omega) (by omega)]; exact q0
  have b1 : σ1.objs[σ.objs.length + 1]? = some (.cells [.v (.int .i64 0), .v (.int .i64 0), .v (.str []), .v (.str []), .v .snil, .v .snil]) := by rw [f2 _ (by omega) (by omega) (by omega)]; exact q1
  have b2 : σ1.objs[σ.objs.length + 2]? = some (.cells [.v (.int .i64 7), .v (.int .i64 n), .v (.str s), .v (.str t), .v (vS ns), .v .snil]) := by rw [f2 _ (by omega) (by omega) (by omega)]; exact q2
  have bs0 : ∀ X, (σ1.objs.set (σ.objs.length + 2) X)[σ.objs.length]? = some (.cells [.v (.int .i64 7), .v (.int .i64 n), .v (.str s), .v (.str t), .v (.sl none false (ns.map .str)), .v (.sl (some 6) false (l.map encC))]) := fun X => by rw [List.getElem?_set_ne (by omega), b0]
  simp -implicitDefEqProofs (maxSteps := 2000000) (disch := omega) [-getElem?_pos, b2, bs0]
  obtain ⟨OS2, hOS2⟩ : ∃ OS2, OS2 = σ1.objs.set (σ.objs.length + 2) (.cells [.v (.int .i64 7), .v (.int .i64 w.fs.length), .v (.str s), .v (.str t), .v (vS ns), .v .snil]) := ⟨_, rfl⟩
  rw [← hOS2]
  have hO1 : OS2[σ.objs.length + 1]? = some (.cells [.v (.int .i64 0), .v (.int .i64 0), .v (.str []), .v (.str []), .v .snil, .v .snil]) := by rw [hOS2, List.getElem?_set_ne (by omega), b1]
  have hO2 : OS2[σ.objs.length + 2]? = some (.cells [.v (.int .i64 7), .v (.int .i64 w.fs.length), .v (.str s), .v (.str t), .v (vS ns), .v .snil]) := by rw [hOS2, List.getElem?_set_self (by omega)]
  have hCO0 : Clo ⟨OS2, σ1.toks⟩ c o1 cap1 rest1 (w.fs ++ [fuOf (.mk 7 n s t ns l)]) (w.bad || badOf (.mk 7 n s t ns l)) := hC1.mono (by rw [hOS2]; exact List.getElem?_set_ne (by omega)) (by rw [hOS2]; exact List.getElem?_set_ne (by omega))
  obtain ⟨w1, hw1⟩ : ∃ w1 : Ws, w1 = ⟨w.fs ++ [fuOf (.mk 7 n s t ns l)], w.bad || badOf (.mk 7 n s t ns l)⟩ := ⟨_, rfl⟩
  have hCO : Clo ⟨OS2, σ1.toks⟩ c o1 cap1 rest1 w1.fs w1.bad := by rw [hw1]; exact hCO0
  have hFO : Frm σ ⟨OS2, σ1.toks⟩ c o := ⟨by rw [hOS2]; simp; omega, fun i hi h1 h2 => by rw [hOS2]; dsimp only; rw [List.getElem?_set_ne (by omega), f2 i (by omega) h1 h2]; exact qo i hi, ts1, f3⟩
  have hLO : σ.objs.length + 3 ≤ OS2.length := by rw [hOS2]; simp; omega
  have hwl : 6 * w1.fs.length + cszL l ≤ 1048600 := by rw [hw1]; simp; omega
  have ho2 : o1 = o ∨ σ.objs.length + 3 ≤ o1 := by omega
  have hwf : w.fs.length < w1.fs.length := by rw [hw1]; simp
  clear hOS2
  obtain ⟨TS, hTS⟩ : ∃ TS, TS = σ1.toks := ⟨_, rfl⟩
  rw [← hTS] at hCO hFO ⊢
  refine W_loop (α := WSt) ⟨⟨OS2.set (σ.objs.length + 2) (.cells [.v (.int .i64 7), .v (.int .i64 (w.fs.length : Int)), .v (.str s), .v (.str t), .v (vS ns), .tsl TS.length (some 6) []]), TS ++ [0]⟩, 0, o1, cap1, rest1⟩ (fun x => l.length - x.i)
    (fun x => ⟨[(0, .ptr c 0), (4, .ptr (σ.objs.length + 1) 0), (5, .ptr (σ.objs.length + 2) 0), (6, .v (.bool true)), (29, .v (.sl (some 6) false (l.map encC))), (30, .v (.int .i64 l.length)), (31, .v (.int .i64 x.i))], x.τ⟩)
    (WIn σ c o TS.length 7 (w.fs.length : Int) s t ns l w1) (.tokE (σ.objs.length + 2) 5 (some 6) _ hO2 rfl rfl (by simp))
    ⟨by simp, ?_, ?_, ?_, ?_, ?_, ho2, ?_⟩ fun x hx => ?_
  · exact hCO.mono (List.getElem?_set_ne (by omega)) (List.getElem?_set_ne (by omega))
  · dsimp only
    rw [List.getElem?_set_ne (by omega)]
    exact hO1
  · dsimp only
    rw [List.getElem?_set_self (by omega)]
    simp [wkL]
  · simp [wkL]
  · obtain ⟨f1, f2, ts, f3⟩ := hFO
    refine ⟨by simp; omega, fun i hi h1 h2 => ?_, ts ++ [0], by dsimp only at f3 ⊢; rw [f3, List.append_assoc]⟩
    dsimp only
    rw [List.getElem?_set_ne (by omega)]
    exact f2 i hi h1 h2
  · dsimp only
    rw [List.length_set]
    exact hLO
  obtain ⟨τ, i, ox, capx, restx⟩ := x
  obtain ⟨x1, x2, x3, x4, x5, x6, x7, x8⟩ := hx
  dsimp only at x1 x2 x3 x4 x5 x6 x7 x8 ⊢
  simp -implicitDefEqProofs (maxSteps := 2000000) (disch := omega) [-getElem?_pos]
  refine .mk (fun h => ?_) fun h => ?_
  · simp -implicitDefEqProofs (maxSteps := 2000000) (disch := omega) [-getElem?_pos]
    refine ⟨by omega, ?_⟩
    intro x hx
    have hx1 := cszL_mem (List.mem_of_getElem? hx)
    have hwg := wkL_get (w := w1) hx
    have hwn := wkL_len (l.take i) w1
    have hcg := cszL_get hx
    have hct := cszL_take l (i + 1)
    have hcall := fun σ h => ih x (List.mem_of_getElem? hx) (c := c) (o := ox) (cap := capx) (rest := restx) (w := (wkL (l.take i) w1).2) (σ := σ) (by omega) (by omega) h
    obtain ⟨x0, hx0⟩ : ∃ x0, x0 = x := ⟨_, rfl⟩
    cases x with
    | mk k2 n2 s2 t2 ns2 l2 =>
    rw [encC_mk] at hcall ⊢
    rw [← hx0] at hcall
    have x4' : ∀ r, (τ.objs ++ r)[σ.objs.length + 2]? = some (.cells [.v (.int .i64 7), .v (.int .i64 (w.fs.length : Int)), .v (.str s), .v (.str t), .v (vS ns), .tsl TS.length (some 6) ((wkL (l.take i) w1).1.map encC)]) := fun r => by rw [List.getElem?_append_left (by omega), x4]
    obtain ⟨z1, z2, z3, z4, z5⟩ := x2
    have zcl := (List.getElem?_eq_some_iff.1 z1).1
    have zol := (List.getElem?_eq_some_iff.1 z2).1
    simp -implicitDefEqProofs (maxSteps := 2000000) (disch := omega) [-getElem?_pos, x4']
    refine (hcall _ ⟨by rw [← z1]; exact List.getElem?_append_left zcl, by rw [← z2]; exact List.getElem?_append_left zol, z3, z4, z5⟩).mono fun r σ' hr => ?_
    obtain ⟨rfl, o', cap', rest', hC', hF', ho'⟩ := hr
    obtain ⟨g1, g2, ts, g3⟩ := hF'
    simp only [List.length_append, List.length_cons, List.length_nil] at g1 ho'
    have y4 : σ'.objs[σ.objs.length + 2]? = some (.cells [.v (.int .i64 7), .v (.int .i64 (w.fs.length : Int)), .v (.str s), .v (.str t), .v (vS ns), .tsl TS.length (some 6) ((wkL (l.take i) w1).1.map encC)]) := by
      rw [g2 _ (by simp; omega) (by omega) (by omega)]
      exact x4' _
    have y3 : σ'.objs[σ.objs.length + 1]? = some (.cells [.v (.int .i64 0), .v (.int .i64 0), .v (.str []), .v (.str []), .v .snil, .v .snil]) := by
      rw [g2 _ (by simp; omega) (by omega) (by omega)]
      rw [← x3]
      exact List.getElem?_append_left (by omega)
    have ytl := (List.getElem?_eq_some_iff.1 x5).1
    have y5 : σ'.toks[TS.length]? = some (wkL (l.take i) w1).1.length := by
      rw [g3, List.getElem?_append_left ytl]
      exact x5
    simp -implicitDefEqProofs (maxSteps := 2000000) (disch := omega) [-getElem?_pos, y4, y5]
    refine ⟨.inr ⟨?_, fun ob hob => ?_⟩, ⟨?_, ?_⟩, by simp at hwn; omega, ?_⟩
    · rw [g2 _ (by simp) (by omega) (by omega)]
      simp
    · rw [x4'] at hob
      exact Option.some.inj hob
    · rw [encC_coV]
      simp [coV_len]
    · rw [encC_coV]
      exact coV_one _
    have hTl : σ.toks.length ≤ TS.length := by
      obtain ⟨ts0, h0⟩ := hFO.toks
      have h1 := congrArg List.length h0
      simp only [List.length_append] at h1
      omega
    refine ⟨⟨⟨_, _⟩, i + 1, o', cap', rest'⟩, ⟨by dsimp only; omega, ?_, ?_, ?_, ?_, ⟨?_, fun j hj h1 h2 => ?_, ?_⟩, ?_, ?_⟩, by dsimp only; omega, .eq (by simp)⟩
    · dsimp only
      rw [hwg, ← hx0]
      exact hC'.mono (List.getElem?_set_ne (by omega)) (List.getElem?_set_ne (by omega))
    · dsimp only
      rw [List.getElem?_set_ne (by omega)]
      exact y3
    · dsimp only
      rw [List.getElem?_set_self (by omega), hwg, ← hx0]
      simp
    · dsimp only
      rw [List.getElem?_set_self (by rw [g3, List.length_append]; dsimp only; omega), hwg]
      simp
    · dsimp only
      rw [List.length_set]
      omega
    · dsimp only
      rw [List.getElem?_set_ne (by omega), g2 j (by simp; omega) h1 (by omega)]
      dsimp only
      rw [List.getElem?_append_left (by omega)]
      exact x6.objs j hj h1 h2
    · obtain ⟨ts1, h1⟩ := x6.toks
      refine ⟨(ts1 ++ ts).set (TS.length - σ.toks.length) ((wkL (l.take i) w1).1.length + 1), ?_⟩
      dsimp only at g3 ⊢
      rw [g3, h1, List.append_assoc, List.set_append_right _ _ hTl]
    · dsimp only
      omega
    · dsimp only
      rw [List.length_set]
      omega

  have hil : i = l.length := by omega
  subst hil
  rw [List.take_length] at x2 x4 x5
  have hwn := wkL_len l w1
  have hwc := hwn.2.2
  obtain ⟨z1, z2, z3, z4, z5⟩ := x2
  have zcl := (List.getElem?_eq_some_iff.1 z1).1
  have zol := (List.getElem?_eq_some_iff.1 z2).1
  have hfl2 := funD_len (wkL l w1).2.fs
  cases hr : (wkL l w1).1 with
  | nil =>
    rw [hr] at x4
    simp -implicitDefEqProofs (maxSteps := 2000000) (disch := omega) [-getElem?_pos, x3, x4]
    have hwk : wk (.mk 7 n s t ns l) w = (.mk 7 w.fs.length s t ns [], (wkL l w1).2) := by rw [hw1] at hr ⊢; simp [wk, hk, hr]
    refine ⟨.v (encC (wk (.mk 7 n s t ns l) w).1), _, weakR_le ?_, ⟨rfl, ox, capx, restx, ?_, ⟨?_, fun j hj h1 h2 => ?_, x6.toks⟩, ?_⟩⟩
    · rw [hwk, encC_coV, coV_mk]
      exact le_coV
    · rw [hwk]
      exact Clo.mono ⟨z1, z2, z3, z4, z5⟩ (List.getElem?_set_ne (by omega)) (List.getElem?_set_ne (by omega))
    · dsimp only
      rw [List.length_set]
      omega
    · dsimp only
      rw [List.getElem?_set_ne (by omega)]
      exact x6.objs j hj h1 h2
    · omega
  | cons y r =>
    rw [hr] at x4
    obtain ⟨y0, hy0⟩ : ∃ y0, y0 = y := ⟨_, rfl⟩
    cases y with
    | mk k3 n3 s3 t3 ns3 l3 =>
    rw [List.map_cons, encC_mk] at x4
    have hset1 : ∀ X Y, ((τ.objs.set ox X).set (σ.objs.length + 1) Y)[σ.objs.length + 1]? = some Y := fun X Y => List.getElem?_set_self (by rw [List.length_set]; omega)
    have hx3 : ∀ X, (τ.objs.set ox X)[σ.objs.length + 1]? = some (.cells [.v (.int .i64 0), .v (.int .i64 0), .v (.str []), .v (.str []), .v .snil, .v .snil]) := fun X => by rw [List.getElem?_set_ne (by omega), x3]
    have hx4 : ∀ X, (τ.objs.set ox X)[σ.objs.length + 2]? = τ.objs[σ.objs.length + 2]? := fun X => List.getElem?_set_ne (by omega)
    simp -implicitDefEqProofs (maxSteps := 2000000) (disch := omega) [-getElem?_pos, hx3, hx4, x3, x4, z1, z2, hset1]
    refine ⟨by omega, by rw [hfl2]; omega, ?_⟩
    have hpp := putPart (wkL l w1).2.fs w.fs.length (.mk k3 n3 s3 t3 ns3 l3) restx (by omega)
    simp only [coV_mk, putAt, List.map_cons, List.map_nil, List.length_cons, List.length_nil, Nat.zero_add, Nat.reduceAdd, List.cons_append, List.nil_append] at hpp
    have hwk : wk (.mk 7 n s t ns l) w = (.mk 7 w.fs.length s t ns (wkL l w1).1, ⟨setPart (wkL l w1).2.fs w.fs.length (.mk k3 n3 s3 t3 ns3 l3), (wkL l w1).2.bad⟩) := by rw [hw1] at hr ⊢; simp [wk, hk, hr]
    rw [hpp]
    refine ⟨.v (encC (wk (.mk 7 n s t ns l) w).1), _, weakR_le ?_, ⟨rfl, ox, capx, restx, ?_, ⟨?_, fun j hj h1 h2 => ?_, x6.toks⟩, ?_⟩⟩
    · rw [hwk, encC_coV, coV_mk, hr, List.map_cons, encC_mk]
      exact le_coV
    · rw [hwk]
      refine ⟨?_, ?_, z3, ?_, ?_⟩
      · dsimp only
        rw [List.getElem?_set_ne (by omega), List.getElem?_set_ne (by omega), setPart_len]
        exact z1
      · dsimp only
        rw [List.getElem?_set_ne (by omega), List.getElem?_set_self zol]
      · rw [setPart_len]
        exact z4
      · rw [setPart_len]
        exact z5
    · dsimp only
      rw [List.length_set, List.length_set]
      omega
    · dsimp only
      rw [List.getElem?_set_ne (by omega), List.getElem?_set_ne (by omega)]
      exact x6.objs j hj h1 h2
    · omega

theorem k_Walk (e : Co) : WalkOk e := by
  refine Co.ind (P := WalkOk) (fun k n s t ns l ih => ?_) e
  cases hk : isFun k with
  | false => exact walkF hk ih
  | true =>
    rcases (show k = 4 ∨ k = 7 by simpa [isFun] using hk) with rfl | rfl
    · exact walk4 ih
    · exact walk7 ih
end Go.Proofs.Ytppdghfpbliaeaa
