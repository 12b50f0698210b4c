/-
  Closed functions: the reference's walk. (Own work.)
-/
import Derived.Test.YtppdghfpbliaeaaB24
set_option linter.unusedVariables false
set_option linter.unusedSimpArgs false
namespace Go.Proofs.Ytppdghfpbliaeaa
open Go Go.Abs

/-- A cell of an object is known less well. -/
theorem Weak.cellLe {B : Sg} {env env' : List (Nat × D)} {σ σ' : Sg} {d : D} (o k : Nat) (d' : D) (cs : List D) (ho : σ.objs[o]? = some (.cells cs)) (hk : cs[k]? = some d) (hle : D.Le d d') (hσ : ⟨σ.objs.set o (.cells (cs.set k d')), σ.toks⟩ = σ') (h : EnvEq env env') :
    Weak B ⟨env, σ⟩ ⟨env', σ'⟩ := by
  subst hσ
  refine ⟨fun n hn => ?_, fun m0 m w0 w tmps hB hX hI hE => ?_⟩
  · rcases h.spec n with e | e
    · exact e.trans hn
    · exact e
  · have hkl := (List.getElem?_eq_some_iff.1 hk).1
    have hI2 := hI.obLe (o := o) (cs := cs) (cs' := cs.set k d') ho (by rintro rfl; simp at hk) (by simp) ?_
    · refine ⟨_, hI2, fun n => ?_, hX⟩
      show RepD _ w (Go.Abs.look env' n) _
      rcases h.spec n with e | e
      · rw [e]; exact hE n
      · rw [e]; exact .junk _
    · intro i d1 d2 hd hd' u hu
      rw [List.getElem?_set] at hd'
      split at hd'
      · rename_i e
        subst e
        cases hd'
        rw [hk] at hd
        cases hd
        exact hle _ _ _ hu
      · rw [hd] at hd'
        cases hd'
        exact hu
/-- The reference's closer. -/
structure CloR (σ : Sg) (c o cap : Nat) (rest : List D) (fs : List Fu) : Prop where
  hc : σ.objs[c]? = some (.cells [.msl o 0 fs.length (some 9) (some cap)])
  ho : σ.objs[o]? = some (.cells (funD fs ++ rest))
  ne : o ≠ c
  fit : fs.length ≤ cap
  room : fs.length * 9 + rest.length = cap * 9
theorem CloR.mono {σ τ : Sg} {c o cap : Nat} {rest : List D} {fs : List Fu} (h : CloR σ c o cap rest fs) (hc : τ.objs[c]? = σ.objs[c]?) (ho : τ.objs[o]? = σ.objs[o]?) : CloR τ c o cap rest fs :=
  ⟨hc.trans h.hc, ho.trans h.ho, h.ne, h.fit, h.room⟩
def RWalkPost (σ : Sg) (c o : Nat) (e : Co) (w : Ws) (r : D) (σ' : Sg) : Prop :=
  r = .v (encC (wk e w).1) ∧ ∃ o' cap' rest', CloR σ' c o' cap' rest' (wk e w).2.fs ∧ Frm σ σ' c o ∧ (o' = o ∨ σ.objs.length ≤ o')
def RWalkOk (e : Co) : Prop := ∀ {c o cap : Nat} {rest : List D} {w : Ws} {σ : Sg}, csz e ≤ 1048576 → 6 * w.fs.length + csz e ≤ 1048600 → CloR σ c o cap rest w.fs → ACalls Try.prog 36 [.ptr c 0, .v (encC e)] σ (RWalkPost σ c o e w)
/-- Between two rounds. -/
structure RIn (σ : Sg) (c o tk : Nat) (k n N : Int) (s t : Str) (ns : List Str) (l : List Co) (w : Ws) (x : WSt) : Prop where
  hi : x.i ≤ l.length
  clo : CloR x.τ c x.o x.cap x.rest (wkL (l.take x.i) w).2.fs
  src : x.τ.objs[σ.objs.length]? = some (.cells [.v (.int .i64 k), .v (.int .i64 n), .v (.str s), .v (.str t), .v (.sl none false (ns.map .str)), .v (.sl (some 6) false (l.map encC))])
  res : x.τ.objs[σ.objs.length + 1]? = some (.cells [.v (.int .i64 0), .v (.int .i64 0), .v (.str []), .v (.str []), .v .snil, .v .snil])
  out : x.τ.objs[σ.objs.length + 2]? = some (.cells [.v (.int .i64 k), .v (.int .i64 N), .v (.str s), .v (.str t), .v (.sl none false (ns.map .str)), .tsl tk (some 6) ((wkL (l.take x.i) w).1.map encC)])
  tok : x.τ.toks[tk]? = some (wkL (l.take x.i) w).1.length
  frm : Frm σ x.τ c o
  ho : x.o = o ∨ σ.objs.length + 3 ≤ x.o
  len : σ.objs.length + 3 ≤ x.τ.objs.length
set_option maxHeartbeats 2000000 in
theorem rwalkF {k n : Int} {s t : Str} {ns : List Str} {l : List Co} (hk : isFun k = false) (ih : ∀ x ∈ l, RWalkOk x) : RWalkOk (.mk k n s t ns l) := by
  intro c o cap rest w σ he hw hC
  have hC0 := hC
  obtain ⟨hc, ho, hne, hfit, hroom⟩ := hC
  have hcl := (List.getElem?_eq_some_iff.1 hc).1
  have hol := (List.getElem?_eq_some_iff.1 ho).1
  have hnl := nsz_len ns
  have hll := cszL_len l
  have he' := he
  have hw' := hw
  simp only [csz] at he' hw'
  rw [encC_mk]
  refine acalls_fit Try.func36 (by kernel_rfl) c36m rfl (by simp [a36m]) fun hf => ?_
  clear hf
  have h4 : ¬ k = 4 := by rintro rfl; simp [isFun] at hk
  have h7 : ¬ k = 7 := by rintro rfl; simp [isFun] at hk
  have h7b : (k == 7) = false := by simp [h7]
  simp -implicitDefEqProofs (maxSteps := 2000000) (disch := omega) [-getElem?_pos, a36m, h4, h7]
  obtain ⟨OS, hOS⟩ : ∃ OS, OS = σ.objs ++ [Ob.cells [D.v (.int .i64 k), .v (.int .i64 n), .v (.str s), .v (.str t), .v (.sl none false (ns.map .str)), .v (.sl (some 6) false (l.map encC))], .cells [.v (.int .i64 0), .v (.int .i64 0), .v (.str []), .v (.str []), .v .snil, .v .snil], .cells [.v (.int .i64 k), .v (.int .i64 n), .v (.str s), .v (.str t), .v (.sl none false (ns.map .str)), .v .snil]] := ⟨_, rfl⟩
  have hO0 : OS[σ.objs.length]? = some (.cells [.v (.int .i64 k), .v (.int .i64 n), .v (.str s), .v (.str t), .v (.sl none false (ns.map .str)), .v (.sl (some 6) false (l.map encC))]) := by rw [hOS]; simp
  have hO1 : OS[σ.objs.length + 1]? = some (.cells [.v (.int .i64 0), .v (.int .i64 0), .v (.str []), .v (.str []), .v .snil, .v .snil]) := by rw [hOS]; simp
  have hO2 : OS[σ.objs.length + 2]? = some (.cells [.v (.int .i64 k), .v (.int .i64 n), .v (.str s), .v (.str t), .v (.sl none false (ns.map .str)), .v .snil]) := by rw [hOS]; simp
  have hCO : CloR ⟨OS, σ.toks⟩ c o cap rest w.fs := hC0.mono (by rw [hOS]; exact List.getElem?_append_left hcl) (by rw [hOS]; exact List.getElem?_append_left hol)
  have hFO : Frm σ ⟨OS, σ.toks⟩ c o := ⟨by rw [hOS]; simp, fun i hi _ _ => by rw [hOS]; exact List.getElem?_append_left hi, [], by simp⟩
  have hLO : σ.objs.length + 3 ≤ OS.length := by rw [hOS]; simp
  obtain ⟨w1, hw1⟩ : ∃ w1, w1 = w := ⟨_, rfl⟩
  obtain ⟨TS, hTS⟩ : ∃ TS, TS = σ.toks := ⟨_, rfl⟩
  have hwl : 6 * w1.fs.length + cszL l ≤ 1048600 := by rw [hw1]; omega
  rw [← hOS, ← hTS]
  rw [← hTS] at hCO hFO
  rw [← hw1] at hCO
  obtain ⟨o1, ho1⟩ : ∃ o1, o1 = o := ⟨_, rfl⟩
  obtain ⟨cap1, hcap1⟩ : ∃ cap1, cap1 = cap := ⟨_, rfl⟩
  obtain ⟨rest1, hrest1⟩ : ∃ rest1, rest1 = rest := ⟨_, rfl⟩
  rw [← ho1, ← hcap1, ← hrest1] at hCO
  have ho2 : o1 = o ∨ σ.objs.length + 3 ≤ o1 := .inl ho1
  have hos : o < σ.objs.length := hol
  clear hOS
  refine W_loop (α := WSt) ⟨⟨OS.set (σ.objs.length + 2) (.cells [.v (.int .i64 k), .v (.int .i64 n), .v (.str s), .v (.str t), .v (.sl none false (ns.map .str)), .tsl TS.length (some 6) []]), TS ++ [0]⟩, 0, o1, cap1, rest1⟩ (fun x => l.length - x.i)
    (fun x => ⟨[(0, .ptr c 0), (3, .ptr σ.objs.length 0), (4, .ptr (σ.objs.length + 1) 0), (5, .ptr (σ.objs.length + 2) 0), (6, .v (.int .i64 (-1))), (11, .v (.int .i64 x.i))], x.τ⟩)
    (RIn σ c o TS.length k n n s t ns l w1) (.tokE (σ.objs.length + 2) 5 (some 6) _ hO2 rfl rfl (by simp))
    ⟨by simp, ?_, ?_, ?_, ?_, ?_, ?_, ho2, ?_⟩ fun x hx => ?_
  · exact hCO.mono (List.getElem?_set_ne (by omega)) (List.getElem?_set_ne (by omega))
  · dsimp only
    rw [List.getElem?_set_ne (by omega)]
    exact hO0
  · dsimp only
    rw [List.getElem?_set_ne (by omega)]
    exact hO1
  · dsimp only
    rw [List.getElem?_set_self (by omega)]
    simp [wkL]
  · simp [wkL]
  · obtain ⟨f1, f2, ts, f3⟩ := hFO
    refine ⟨by simp; omega, fun i hi h1 h2 => ?_, ts ++ [0], by dsimp only at f3 ⊢; rw [f3, List.append_assoc]⟩
    dsimp only
    rw [List.getElem?_set_ne (by omega)]
    exact f2 i hi h1 h2
  · dsimp only
    rw [List.length_set]
    exact hLO
  obtain ⟨τ, i, ox, capx, restx⟩ := x
  obtain ⟨x1, x2, x0, x3, x4, x5, x6, x7, x8⟩ := hx
  dsimp only at x1 x2 x0 x3 x4 x5 x6 x7 x8 ⊢
  simp -implicitDefEqProofs (maxSteps := 2000000) (disch := omega) [-getElem?_pos, x0]
  refine .mk (fun h => ?_) fun h => ?_
  · simp -implicitDefEqProofs (maxSteps := 2000000) (disch := omega) [-getElem?_pos, x0]
    refine ⟨by omega, ?_⟩
    intro x hx
    have hx1 := cszL_mem (List.mem_of_getElem? hx)
    have hwg := wkL_get (w := w1) hx
    have hwn := wkL_len (l.take i) w1
    have hcg := cszL_get hx
    have hct := cszL_take l (i + 1)
    have hcall := fun σ h => ih x (List.mem_of_getElem? hx) (c := c) (o := ox) (cap := capx) (rest := restx) (w := (wkL (l.take i) w1).2) (σ := σ) (by omega) (by omega) h
    have zcl := (List.getElem?_eq_some_iff.1 x2.hc).1
    have zol := (List.getElem?_eq_some_iff.1 x2.ho).1
    have zne := x2.ne
    refine (hcall _ x2).mono fun r σ' hr => ?_
    obtain ⟨rfl, o', cap', rest', hC', hF', ho'⟩ := hr
    obtain ⟨g1, g2, ts, g3⟩ := hF'
    have y0 : σ'.objs[σ.objs.length]? = some (.cells [.v (.int .i64 k), .v (.int .i64 n), .v (.str s), .v (.str t), .v (.sl none false (ns.map .str)), .v (.sl (some 6) false (l.map encC))]) := by
      rw [g2 _ (by omega) (by omega) (by omega)]
      exact x0
    have y4 : σ'.objs[σ.objs.length + 2]? = some (.cells [.v (.int .i64 k), .v (.int .i64 n), .v (.str s), .v (.str t), .v (.sl none false (ns.map .str)), .tsl TS.length (some 6) ((wkL (l.take i) w1).1.map encC)]) := by
      rw [g2 _ (by omega) (by omega) (by omega)]
      exact x4
    have y3 : σ'.objs[σ.objs.length + 1]? = some (.cells [.v (.int .i64 0), .v (.int .i64 0), .v (.str []), .v (.str []), .v .snil, .v .snil]) := by
      rw [g2 _ (by omega) (by omega) (by omega)]
      exact x3
    have ytl := (List.getElem?_eq_some_iff.1 x5).1
    have y5 : σ'.toks[TS.length]? = some (wkL (l.take i) w1).1.length := by
      rw [g3, List.getElem?_append_left ytl]
      exact x5
    have y4' : ∀ r, (σ'.objs ++ r)[σ.objs.length + 2]? = some (.cells [.v (.int .i64 k), .v (.int .i64 n), .v (.str s), .v (.str t), .v (.sl none false (ns.map .str)), .tsl TS.length (some 6) ((wkL (l.take i) w1).1.map encC)]) := fun r => by rw [List.getElem?_append_left (by omega), y4]
    obtain ⟨p, hp⟩ : ∃ p, p = (wk x (wkL (l.take i) w1).2).1 := ⟨_, rfl⟩
    have hpe : encC (wk x (wkL (l.take i) w1).2).1 = encC p := by rw [hp]
    rw [hpe]
    obtain ⟨p0, hp0⟩ : ∃ p0, p0 = encC p := ⟨_, rfl⟩
    rw [← hp] at hwg
    have hp1 : encC p = .agg (coV p) := encC_coV p
    cases p with
    | mk k3 n3 s3 t3 ns3 l3 =>
    rw [encC_mk] at hp0 ⊢
    simp -implicitDefEqProofs (maxSteps := 2000000) (disch := omega) [-getElem?_pos, y4', y5]
    have hol' := (List.getElem?_eq_some_iff.1 hC'.ho).1
    have hTl : σ.toks.length ≤ TS.length := by
      obtain ⟨ts0, h0⟩ := hFO.toks
      have h1 := congrArg List.length h0
      simp only [List.length_append] at h1
      omega
    refine ⟨by rw [hwn.2.2, List.length_take]; omega, ⟨⟨_, _⟩, i + 1, o', cap', rest'⟩, ⟨by dsimp only; omega, ?_, ?_, ?_, ?_, ?_, ⟨?_, fun j hj h1 h2 => ?_, ?_⟩, ?_, ?_⟩, by dsimp only; omega, .eq (by simp)⟩
    · dsimp only
      rw [hwg]
      exact hC'.mono (by dsimp only; rw [List.getElem?_append_left (by rw [List.length_set]; omega), List.getElem?_set_ne (by omega)]) (by dsimp only; rw [List.getElem?_append_left (by rw [List.length_set]; omega), List.getElem?_set_ne (by omega)])
    · dsimp only
      rw [List.getElem?_append_left (by rw [List.length_set]; omega), List.getElem?_set_ne (by omega)]
      exact y0
    · dsimp only
      rw [List.getElem?_append_left (by rw [List.length_set]; omega), List.getElem?_set_ne (by omega)]
      exact y3
    · dsimp only
      rw [List.getElem?_append_left (by rw [List.length_set]; omega), List.getElem?_set_self (by omega), hwg]
      simp [encC_mk]
    · dsimp only
      rw [List.getElem?_set_self (by rw [g3, List.length_append]; omega), hwg]
      simp
    · dsimp only
      rw [List.length_append, List.length_set]
      omega
    · dsimp only
      rw [List.getElem?_append_left (by rw [List.length_set]; omega), List.getElem?_set_ne (by omega), g2 j (by omega) h1 (by omega)]
      exact x6.objs j hj h1 h2
    · obtain ⟨ts1, h1⟩ := x6.toks
      refine ⟨(ts1 ++ ts).set (TS.length - σ.toks.length) ((wkL (l.take i) w1).1.length + 1), ?_⟩
      dsimp only
      rw [g3, h1, List.append_assoc, List.set_append_right _ _ hTl]
    · dsimp only
      omega
    · dsimp only
      rw [List.length_append, List.length_set]
      omega

  have hil : i = l.length := by omega
  subst hil
  rw [List.take_length] at x2 x4 x5
  simp -implicitDefEqProofs (maxSteps := 2000000) (disch := omega) [-getElem?_pos, x3, x4]
  have hwk : wk (.mk k n s t ns l) w = (.mk k n s t ns (wkL l w1).1, (wkL l w1).2) := by rw [hw1]; simp [wk, hk]
  refine ⟨.v (encC (wk (.mk k n s t ns l) w).1), _, weakR_le ?_, ⟨rfl, ox, capx, restx, ?_, ⟨?_, fun j hj h1 h2 => ?_, x6.toks⟩, ?_⟩⟩
  · rw [hwk, encC_coV, coV_mk]
    exact le_coV
  · rw [hwk]
    exact x2.mono (List.getElem?_set_ne (by omega)) (List.getElem?_set_ne (by omega))
  · dsimp only
    rw [List.length_set]
    omega
  · dsimp only
    rw [List.getElem?_set_ne (by omega)]
    exact x6.objs j hj h1 h2
  · omega
end Go.Proofs.Ytppdghfpbliaeaa
