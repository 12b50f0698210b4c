/-
  The parser, walked: let, if, and what an expression begins with. (Own work.)
-/
import Derived.Test.YtpdeaekmgljeaaaGreatDoorN13
import Derived.Lib.Join
import Derived.Shelf.Strings.OnBuilder
import Derived.Shelf.Strconv.Itoa4
import Derived.Test.YtpdeaekmgljeaaaGreatDoorChecked
import Derived.Lib.ItoaLen
set_option linter.unusedVariables false
set_option linter.unusedSimpArgs false
namespace Go.Proofs.YtpdeaekmgljeaaaGreatDoor
open Go Go.Abs
theorem k_Let {C : PC} {M : Nat} {pe : PF} (he : PCt C 52 M pe) (hon : On C pe) {at_ : Int} (p : Nat) (st : PSt) (σ : Sg) (ok : OkP C st) (hM : rem C st < M) (hp : σ.objs[p]? = some (prs C st)) :
  ACalls Tryz.prog 86 [.ptr p 0, .v (.int .i64 at_)] σ fun r σ' => r = .v (encE (letP C pe at_ st).e) ∧ σ' = ⟨σ.objs.set p (prs C (letP C pe at_ st).st), σ.toks⟩ := by
 refine pset hp fun os tk hl => ?_
 clear hp σ
 have kt := fun st s r (ok : OkP C st) => k_Takes (C := C) (st := st) (p := p) (s := s) (σ := ⟨os.set p (prs C st) ++ r, tk⟩) (by simp [hl]) ok
 have kx := fun st r (ok : OkP C st) => k_TextP (C := C) (st := st) (p := p) (k := 1) (σ := ⟨os.set p (prs C st) ++ r, tk⟩) (by simp [hl]) ok (by decide)
 have km := fun st s r (ok : OkP C st) => k_Must (C := C) (st := st) (p := p) (s := s) (σ := ⟨os.set p (prs C st) ++ r, tk⟩) (by simp [hl]) ok
 have ke := fun st r (ok : OkP C st) (hM : rem C st < M) => he p st ⟨os.set p (prs C st) ++ r, tk⟩ ok hM (by simp [hl])
 have hlow := fun st n k => prs_low (C := C) (st := st) (n := n) (k := k)
 simp only [set_app_set hl] at kt kx km ke
 have kt := fun r => kt st wRec r ok
 unfold takeP at kt
 unfold letP
 cases hs : sees C st 0 wRec with
 | true =>
  have hin := sees_in hs
  simp only [hs, if_true] at kt ⊢
  have x1 := fun r => kx (advP st) r (ok.adv hin.2)
  have ok1 := (Fwd.adv hin).trans (Fwd.text (C := C) (st := advP st) (k := 1) (by decide))
  generalize (textP C 1 (advP st)).s = s1 at *
  generalize (textP C 1 (advP st)).st = st1 at *
  have x2 := fun r => kx st1 r (ok1.ok ok)
  have ok2 := ok1.trans (Fwd.text (C := C) (st := st1) (k := 1) (by decide))
  generalize (textP C 1 st1).s = s2 at *
  generalize (textP C 1 st1).st = st2 at *
  unfold let2P
  have m1 := fun r => km st2 [61] r (ok2.ok ok)
  have ok3 := ok2.trans (Fwd.must (C := C) (st := st2) (s := [61]))
  generalize mustP C [61] st2 = st3 at *
  have e1 := fun r => ke st3 r (ok3.ok ok) (Nat.lt_of_le_of_lt ok3.le hM)
  have ok4 := ok3.trans (hon st3)
  generalize (pe st3).e = a at *
  generalize (pe st3).st = st4 at *
  have m2 := fun r => km st4 wIn r (ok4.ok ok)
  have ok5 := ok4.trans (Fwd.must (C := C) (st := st4) (s := wIn))
  generalize mustP C wIn st4 = st5 at *
  have e2 := fun r => ke st5 r (ok5.ok ok) (Nat.lt_of_le_of_lt ok5.le hM)
  generalize (pe st5).e = b at *
  generalize (pe st5).st = st6 at *
  cases a with
  | mk k p' n s t ls ns l =>
  cases b with
  | mk k9 p9 n9 s9 t9 ls9 ns9 l9 =>
  have hle := ex_le (lit2 (k := 7) (p := at_) (n := 0) (s := s1) (t := s2) (a := .mk k p' n s t ls ns l) (b := .mk k9 p9 n9 s9 t9 ls9 ns9 l9))
  rw [encE_mk] at e1 e2
  rw [encE_mk (k := k), encE_mk (k := k9)] at hle
  refine acalls_fit Tryz.func86 (by kernel_rfl) c86 rfl (by simp [a86]) fun hf => ?_
  clear hf
  simp -implicitDefEqProofs (disch := omega) [-getElem?_pos, a86]
  refine (kt _).mono fun r σ' hr => ?_
  obtain ⟨rfl, rfl⟩ := hr
  simp -implicitDefEqProofs (disch := omega) [-getElem?_pos]
  refine (x1 _).mono fun r σ' hr => ?_
  obtain ⟨rfl, rfl⟩ := hr
  simp -implicitDefEqProofs (disch := omega) [-getElem?_pos]
  refine (x2 _).mono fun r σ' hr => ?_
  obtain ⟨rfl, rfl⟩ := hr
  simp -implicitDefEqProofs (disch := omega) [-getElem?_pos]
  refine (m1 _).mono fun r σ' hr => ?_
  obtain ⟨rfl, rfl⟩ := hr
  simp -implicitDefEqProofs (disch := omega) [-getElem?_pos]
  refine (e1 _).mono fun r σ' hr => ?_
  obtain ⟨rfl, rfl⟩ := hr
  simp -implicitDefEqProofs (disch := omega) [-getElem?_pos]
  refine (m2 _).mono fun r σ' hr => ?_
  obtain ⟨rfl, rfl⟩ := hr
  simp -implicitDefEqProofs (disch := omega) [-getElem?_pos]
  refine (e2 _).mono fun r σ' hr => ?_
  obtain ⟨rfl, rfl⟩ := hr
  simp -implicitDefEqProofs (disch := omega) [-getElem?_pos]
  exact .finS _ ⟨_, tk⟩ ⟨rfl, rfl⟩ hle.d (low_set2 (hlow _ _ _))
 | false =>
  simp only [hs, Bool.false_eq_true, if_false] at kt ⊢
  have x1 := fun r => kx st r ok
  have ok2 := Fwd.text (C := C) (st := st) (k := 1) (by decide)
  generalize (textP C 1 st).s = s1 at *
  generalize (textP C 1 st).st = st2 at *
  unfold let2P
  have m1 := fun r => km st2 [61] r (ok2.ok ok)
  have ok3 := ok2.trans (Fwd.must (C := C) (st := st2) (s := [61]))
  generalize mustP C [61] st2 = st3 at *
  have e1 := fun r => ke st3 r (ok3.ok ok) (Nat.lt_of_le_of_lt ok3.le hM)
  have ok4 := ok3.trans (hon st3)
  generalize (pe st3).e = a at *
  generalize (pe st3).st = st4 at *
  have m2 := fun r => km st4 wIn r (ok4.ok ok)
  have ok5 := ok4.trans (Fwd.must (C := C) (st := st4) (s := wIn))
  generalize mustP C wIn st4 = st5 at *
  have e2 := fun r => ke st5 r (ok5.ok ok) (Nat.lt_of_le_of_lt ok5.le hM)
  generalize (pe st5).e = b at *
  generalize (pe st5).st = st6 at *
  cases a with
  | mk k p' n s t ls ns l =>
  cases b with
  | mk k9 p9 n9 s9 t9 ls9 ns9 l9 =>
  have hle := ex_le (lit2 (k := 6) (p := at_) (n := 0) (s := s1) (t := []) (a := .mk k p' n s t ls ns l) (b := .mk k9 p9 n9 s9 t9 ls9 ns9 l9))
  rw [encE_mk] at e1 e2
  rw [encE_mk (k := k), encE_mk (k := k9)] at hle
  refine acalls_fit Tryz.func86 (by kernel_rfl) c86 rfl (by simp [a86]) fun hf => ?_
  clear hf
  simp -implicitDefEqProofs (disch := omega) [-getElem?_pos, a86]
  refine (kt _).mono fun r σ' hr => ?_
  obtain ⟨rfl, rfl⟩ := hr
  simp -implicitDefEqProofs (disch := omega) [-getElem?_pos]
  refine (x1 _).mono fun r σ' hr => ?_
  obtain ⟨rfl, rfl⟩ := hr
  simp -implicitDefEqProofs (disch := omega) [-getElem?_pos]
  refine (m1 _).mono fun r σ' hr => ?_
  obtain ⟨rfl, rfl⟩ := hr
  simp -implicitDefEqProofs (disch := omega) [-getElem?_pos]
  refine (e1 _).mono fun r σ' hr => ?_
  obtain ⟨rfl, rfl⟩ := hr
  simp -implicitDefEqProofs (disch := omega) [-getElem?_pos]
  refine (m2 _).mono fun r σ' hr => ?_
  obtain ⟨rfl, rfl⟩ := hr
  simp -implicitDefEqProofs (disch := omega) [-getElem?_pos]
  refine (e2 _).mono fun r σ' hr => ?_
  obtain ⟨rfl, rfl⟩ := hr
  simp -implicitDefEqProofs (disch := omega) [-getElem?_pos]
  exact .finS _ ⟨_, tk⟩ ⟨rfl, rfl⟩ hle.d (low_set2 (hlow _ _ _))
def MCt (C : PC) (M : Nat) (f : Int → PSt → RE) : Prop := ∀ (at_ : Int) (p : Nat) (st : PSt) (σ : Sg), OkP C st → rem C st < M → σ.objs[p]? = some (prs C st) →
  ACalls Tryz.prog 87 [.ptr p 0, .v (.int .i64 at_)] σ fun r σ' => r = .v (encE (f at_ st).e) ∧ σ' = ⟨σ.objs.set p (prs C (f at_ st).st), σ.toks⟩
theorem allV_v' : ∀ xs : List V, allV (xs.map .v) = some xs
 | [] => rfl
 | y :: ys => by simp [allV, allV_v' ys]
theorem D.Le.aggV {ds : List D} {vs : List V} (hl : ds.length = vs.length) (h : ∀ (i : Nat) d v, ds[i]? = some d → vs[i]? = some v → D.Le d (.v v)) : D.Le (.agg ds) (.v (.agg vs)) := fun m w u hu => by
 cases hu with
 | agg _ us hl2 h1 hr =>
  have hm : mkAgg (vs.map .v) = .v (.agg vs) := by unfold mkAgg; rw [allV_v']
  rw [← hm]
  refine mkAgg_rep (by simp; omega) h1 fun i d u hd hu => ?_
  rw [List.getElem?_map] at hd
  cases hv : vs[i]? with
  | none => rw [hv] at hd; cases hd
  | some v =>
   rw [hv] at hd
   cases hd
   obtain ⟨d, hd⟩ : ∃ d, ds[i]? = some d := ⟨_, List.getElem?_eq_getElem (by rw [hl]; exact (List.getElem?_eq_some_iff.1 hv).1)⟩
   exact h i d v hd hv m w u (hr i d u hd hu)
theorem lit_if {p : Int} {a b c : Ex} {T : Nat} : D.Le (.agg [.v (.int .i64 15), .v (.int .i64 p), .v (.int .i64 0), .v (.str []), .v (.str []), .v .snil, .v .snil, .tsl T (some 8) [encE a, encE b, encE c]]) (.v (encE (.mk 15 p 0 [] [] [] [] [a, b, c]))) := by
 rw [encE_mk]
 refine D.Le.aggV rfl fun i d v hd hv => ?_
 match i with
 | 0 => cases hd; cases hv; exact .refl _
 | 1 => cases hd; cases hv; exact .refl _
 | 2 => cases hd; cases hv; exact .refl _
 | 3 => cases hd; cases hv; exact .refl _
 | 4 => cases hd; cases hv; exact .refl _
 | 5 => cases hd; cases hv; exact VLe.snil.d
 | 6 => cases hd; cases hv; exact VLe.snil.d
 | 7 => cases hd; cases hv; exact .tsl
 | n + 8 => simp at hd
theorem k_ExprA {C : PC} {M : Nat} {pe f : PF} (he : PCt C 52 M pe) (hon : On C pe) (hm : MCt C M (matchP C pe))
  (hset : ∀ (p : Nat) (st : PSt) (σ : Sg), OkP C st → rem C st < M + 1 → σ.objs[p]? = some (prs C st) → ACalls Tryz.prog 88 [.ptr p 0] σ fun r σ' => r = .v (encE (setP C f (C.L.length + 1) st).e) ∧ σ' = ⟨σ.objs.set p (prs C (setP C f (C.L.length + 1) st).st), σ.toks⟩) :
  PCt C 52 (M + 1) (exprF C pe f) := by
 intro p st σ ok hM hp
 refine pset hp fun os tk hl => ?_
 clear hp σ
 have kp := fun r => k_Place (C := C) (st := st) (p := p) (σ := ⟨os.set p (prs C st) ++ r, tk⟩) (by simp [hl]) ok
 have kt := fun s r => k_Takes (C := C) (st := st) (p := p) (s := s) (σ := ⟨os.set p (prs C st) ++ r, tk⟩) (by simp [hl]) ok
 have kx := fun st r (ok : OkP C st) => k_TextP (C := C) (st := st) (p := p) (k := 1) (σ := ⟨os.set p (prs C st) ++ r, tk⟩) (by simp [hl]) ok (by decide)
 have km := fun st s r tk (ok : OkP C st) => k_Must (C := C) (st := st) (p := p) (s := s) (σ := ⟨os.set p (prs C st) ++ r, tk⟩) (by simp [hl]) ok
 have ke := fun st r tk (ok : OkP C st) (hM : rem C st < M) => he p st ⟨os.set p (prs C st) ++ r, tk⟩ ok hM (by simp [hl])
 have kl := fun at_ st r (ok : OkP C st) (hM : rem C st < M) => k_Let (at_ := at_) he hon p st ⟨os.set p (prs C st) ++ r, tk⟩ ok hM (by simp [hl])
 have kM := fun at_ st r (ok : OkP C st) (hM : rem C st < M) => hm at_ p st ⟨os.set p (prs C st) ++ r, tk⟩ ok hM (by simp [hl])
 have kS := fun r => hset p st ⟨os.set p (prs C st) ++ r, tk⟩ ok hM (by simp [hl])
 have hlow := fun st n k => prs_low (C := C) (st := st) (n := n) (k := k)
 simp only [set_app_set hl] at kt kx km ke kl kM kS
 unfold exprF
 generalize placeP C st = q at *
 have k1 := kt wFn
 have k2 := kt wLet
 have k3 := kt wIf
 have k4 := kt wMatch
 clear kt hm hset he
 unfold takeP at k1 k2 k3 k4
 dsimp only
 cases h1 : sees C st 0 wFn with
 | true =>
  have hin := sees_in h1
  have hpos := rem_pos hin
  have hra : rem C (advP st) = rem C st - 1 := rem_adv
  simp only [h1, if_true] at k1 ⊢
  have x1 := fun r => kx (advP st) r (ok.adv hin.2)
  have o1 := (Fwd.adv hin).trans (Fwd.text (C := C) (st := advP st) (k := 1) (by decide))
  have hle1 := (Fwd.text (C := C) (st := advP st) (k := 1) (by decide)).le
  generalize (textP C 1 (advP st)).s = s1 at *
  generalize (textP C 1 (advP st)).st = st1 at *
  have m1 := fun r => km st1 sArr r tk (o1.ok ok)
  have o2 := o1.trans (Fwd.must (C := C) (st := st1) (s := sArr))
  have hle2 := (Fwd.must (C := C) (st := st1) (s := sArr)).le
  generalize mustP C sArr st1 = st2 at *
  have e1 := fun r => ke st2 r tk (o2.ok ok) (by omega)
  generalize (pe st2).e = a at *
  generalize (pe st2).st = st3 at *
  cases a with
  | mk k p' n s t ls ns l =>
  have hle := ex_le (lit1 (k := 4) (p := q) (n := 0) (s := s1) (t := []) (a := .mk k p' n s t ls ns l))
  rw [encE_mk] at e1
  rw [encE_mk (k := k)] at hle
  refine acalls_fit Tryz.func52 (by kernel_rfl) c52 rfl (by simp [a52]) fun hf => ?_
  clear hf
  simp -implicitDefEqProofs (disch := omega) [-getElem?_pos, a52]
  refine (kp _).then fun r hr => ?_
  subst hr
  simp -implicitDefEqProofs (disch := omega) [-getElem?_pos]
  refine (k1 _).mono fun r σ' hr => ?_
  obtain ⟨rfl, rfl⟩ := hr
  simp -implicitDefEqProofs (disch := omega) [-getElem?_pos]
  refine (x1 _).mono fun r σ' hr => ?_
  obtain ⟨rfl, rfl⟩ := hr
  simp -implicitDefEqProofs (disch := omega) [-getElem?_pos]
  refine (m1 _).mono fun r σ' hr => ?_
  obtain ⟨rfl, rfl⟩ := hr
  simp -implicitDefEqProofs (disch := omega) [-getElem?_pos]
  refine (e1 _).mono fun r σ' hr => ?_
  obtain ⟨rfl, rfl⟩ := hr
  simp -implicitDefEqProofs (disch := omega) [-getElem?_pos]
  exact .finS _ ⟨_, tk⟩ ⟨rfl, rfl⟩ hle.d (low_set2 (hlow _ _ _))
 | false =>
 simp only [h1, Bool.false_eq_true, if_false] at k1 ⊢
 cases h2 : sees C st 0 wLet with
 | true =>
  have hin := sees_in h2
  have hpos := rem_pos hin
  have hra : rem C (advP st) = rem C st - 1 := rem_adv
  simp only [h2, if_true] at k2 ⊢
  have l1 := fun r => kl q (advP st) r (ok.adv hin.2) (by omega)
  generalize (letP C pe q (advP st)).e = a at *
  generalize (letP C pe q (advP st)).st = st1 at *
  cases a with
  | mk k p' n s t ls ns l =>
  rw [encE_mk] at l1 ⊢
  refine acalls_fit Tryz.func52 (by kernel_rfl) c52 rfl (by simp [a52]) fun hf => ?_
  clear hf
  simp -implicitDefEqProofs (disch := omega) [-getElem?_pos, a52]
  refine (kp _).then fun r hr => ?_
  subst hr
  simp -implicitDefEqProofs (disch := omega) [-getElem?_pos]
  refine (k1 _).mono fun r σ' hr => ?_
  obtain ⟨rfl, rfl⟩ := hr
  simp -implicitDefEqProofs (disch := omega) [-getElem?_pos]
  refine (k2 _).mono fun r σ' hr => ?_
  obtain ⟨rfl, rfl⟩ := hr
  simp -implicitDefEqProofs (disch := omega) [-getElem?_pos]
  refine (l1 _).mono fun r σ' hr => ?_
  obtain ⟨rfl, rfl⟩ := hr
  simp -implicitDefEqProofs (disch := omega) [-getElem?_pos]
  exact .finS _ ⟨_, tk⟩ ⟨rfl, rfl⟩ (.refl _) (low_set2 (hlow _ _ _))
 | false =>
 simp only [h2, Bool.false_eq_true, if_false] at k2 ⊢
 cases h3 : sees C st 0 wIf with
 | true =>
  have hin := sees_in h3
  have hpos := rem_pos hin
  have hra : rem C (advP st) = rem C st - 1 := rem_adv
  simp only [h3, if_true] at k3 ⊢
  unfold ifP
  dsimp only
  have e1 := fun r tk => ke (advP st) r tk (ok.adv hin.2) (by omega)
  have o1 := (Fwd.adv hin).trans (hon (advP st))
  have hle1 := (hon (advP st)).le
  generalize (pe (advP st)).e = a at *
  generalize (pe (advP st)).st = st1 at *
  have m1 := fun r tk => km st1 wThen r tk (o1.ok ok)
  have o2 := o1.trans (Fwd.must (C := C) (st := st1) (s := wThen))
  have hle2 := (Fwd.must (C := C) (st := st1) (s := wThen)).le
  generalize mustP C wThen st1 = st2 at *
  have e2 := fun r tk => ke st2 r tk (o2.ok ok) (by omega)
  have o3 := o2.trans (hon st2)
  have hle3 := (hon st2).le
  generalize (pe st2).e = b at *
  generalize (pe st2).st = st3 at *
  have m2 := fun r tk => km st3 wElse r tk (o3.ok ok)
  have o4 := o3.trans (Fwd.must (C := C) (st := st3) (s := wElse))
  have hle4 := (Fwd.must (C := C) (st := st3) (s := wElse)).le
  generalize mustP C wElse st3 = st4 at *
  have e3 := fun r tk => ke st4 r tk (o4.ok ok) (by omega)
  generalize (pe st4).e = c at *
  generalize (pe st4).st = st5 at *
  cases a with
  | mk k p' n s t ls ns l =>
  cases b with
  | mk k9 p9 n9 s9 t9 ls9 ns9 l9 =>
  cases c with
  | mk k8 p8 n8 s8 t8 ls8 ns8 l8 =>
  have hfin := fun T => lit_if (p := q) (a := .mk k p' n s t ls ns l) (b := .mk k9 p9 n9 s9 t9 ls9 ns9 l9) (c := .mk k8 p8 n8 s8 t8 ls8 ns8 l8) (T := T)
  rw [encE_mk] at e1 e2 e3
  simp only [encE_mk (k := k), encE_mk (k := k9), encE_mk (k := k8)] at hfin
  refine acalls_fit Tryz.func52 (by kernel_rfl) c52 rfl (by simp [a52]) fun hf => ?_
  clear hf
  simp -implicitDefEqProofs (disch := omega) [-getElem?_pos, a52]
  refine (kp _).then fun r hr => ?_
  subst hr
  simp -implicitDefEqProofs (disch := omega) [-getElem?_pos]
  refine (k1 _).mono fun r σ' hr => ?_
  obtain ⟨rfl, rfl⟩ := hr
  simp -implicitDefEqProofs (disch := omega) [-getElem?_pos]
  refine (k2 _).mono fun r σ' hr => ?_
  obtain ⟨rfl, rfl⟩ := hr
  simp -implicitDefEqProofs (disch := omega) [-getElem?_pos]
  refine (k3 _).mono fun r σ' hr => ?_
  obtain ⟨rfl, rfl⟩ := hr
  simp -implicitDefEqProofs (disch := omega) [-getElem?_pos]
  refine (e1 _ _).mono fun r σ' hr => ?_
  obtain ⟨rfl, rfl⟩ := hr
  simp -implicitDefEqProofs (disch := omega) [-getElem?_pos, V.one]
  refine W_loop (α := Nat) 0 (fun i => 2 - i) (fun i => ⟨[(0, .ptr p 0), (2, .ptr os.length 0), (5, .ptr (os.length + 1) 0), (38, .v (.sl none true [.str wThen, .str wElse])), (39, .v (.int .i64 2)), (40, .v (.int .i64 i))], match i with
   | 0 => ⟨os.set p (prs C st1) ++ [zOb, .cells [.v (.int .i64 15), .v (.int .i64 q), .v (.int .i64 0), .v (.str []), .v (.str []), .v .snil, .v .snil, .v (.sl (some 8) true [.agg [.int .i64 k, .int .i64 p', .int .i64 n, .str s, .str t, .sl none false (ls.map .str), .sl none false (ns.map .str), .sl (some 8) false (l.map encE)]])]], tk⟩
   | 1 => ⟨os.set p (prs C st3) ++ [zOb, .cells [.v (.int .i64 15), .v (.int .i64 q), .v (.int .i64 0), .v (.str []), .v (.str []), .v .snil, .v .snil, .tsl tk.length (some 8) [.agg [.int .i64 k, .int .i64 p', .int .i64 n, .str s, .str t, .sl none false (ls.map .str), .sl none false (ns.map .str), .sl (some 8) false (l.map encE)], .agg [.int .i64 k9, .int .i64 p9, .int .i64 n9, .str s9, .str t9, .sl none false (ls9.map .str), .sl none false (ns9.map .str), .sl (some 8) false (l9.map encE)]]]], tk ++ [2]⟩
   | _ => ⟨os.set p (prs C st5) ++ [zOb, .cells [.v (.int .i64 15), .v (.int .i64 q), .v (.int .i64 0), .v (.str []), .v (.str []), .v .snil, .v .snil, .tsl tk.length (some 8) [.agg [.int .i64 k, .int .i64 p', .int .i64 n, .str s, .str t, .sl none false (ls.map .str), .sl none false (ns.map .str), .sl (some 8) false (l.map encE)], .agg [.int .i64 k9, .int .i64 p9, .int .i64 n9, .str s9, .str t9, .sl none false (ls9.map .str), .sl none false (ns9.map .str), .sl (some 8) false (l9.map encE)], .agg [.int .i64 k8, .int .i64 p8, .int .i64 n8, .str s8, .str t8, .sl none false (ls8.map .str), .sl none false (ns8.map .str), .sl (some 8) false (l8.map encE)]]]], tk ++ [3]⟩⟩) (fun i => i ≤ 2) (.eq2 (by simp [zOb]) (by simp)) (by omega) fun i hi => ?_
  match i, hi with
  | 0, _ =>
   simp -implicitDefEqProofs (disch := omega) [-getElem?_pos]
   repeat (first | (refine ⟨(by omega : _ ≤ _), ?_⟩) | (refine ⟨(by omega : _ < _), ?_⟩))
   refine (m1 _ _).mono fun r σ' hr => ?_
   obtain ⟨rfl, rfl⟩ := hr
   simp -implicitDefEqProofs (disch := omega) [-getElem?_pos]
   refine (e2 _ _).mono fun r σ' hr => ?_
   obtain ⟨rfl, rfl⟩ := hr
   simp -implicitDefEqProofs (disch := omega) [-getElem?_pos, V.one]
   exact ⟨1, by omega, by dsimp only; omega, .eq2 (by simp) (by simp)⟩
  | 1, _ =>
   simp -implicitDefEqProofs (disch := omega) [-getElem?_pos]
   refine (m2 _ _).mono fun r σ' hr => ?_
   obtain ⟨rfl, rfl⟩ := hr
   simp -implicitDefEqProofs (disch := omega) [-getElem?_pos]
   refine (e3 _ _).mono fun r σ' hr => ?_
   obtain ⟨rfl, rfl⟩ := hr
   simp -implicitDefEqProofs (disch := omega) [-getElem?_pos, V.one]
   exact ⟨2, by omega, by dsimp only; omega, .eq2 (by simp) (by simp)⟩
  | 2, _ =>
   simp -implicitDefEqProofs (disch := omega) [-getElem?_pos, zOb]
   exact .finS _ ⟨os.set p (prs C st5), tk⟩ ⟨rfl, rfl⟩ (hfin _) (low_set2 (hlow _ _ _))
 | false =>
 simp only [h3, Bool.false_eq_true, if_false] at k3 ⊢
 cases h4 : sees C st 0 wMatch with
 | true =>
  have hin := sees_in h4
  have hpos := rem_pos hin
  have hra : rem C (advP st) = rem C st - 1 := rem_adv
  simp only [h4, if_true] at k4 ⊢
  have l1 := fun r => kM q (advP st) r (ok.adv hin.2) (by omega)
  generalize (matchP C pe q (advP st)).e = a at *
  generalize (matchP C pe q (advP st)).st = st1 at *
  cases a with
  | mk k p' n s t ls ns l =>
  rw [encE_mk] at l1 ⊢
  refine acalls_fit Tryz.func52 (by kernel_rfl) c52 rfl (by simp [a52]) fun hf => ?_
  clear hf
  simp -implicitDefEqProofs (disch := omega) [-getElem?_pos, a52]
  refine (kp _).then fun r hr => ?_
  subst hr
  simp -implicitDefEqProofs (disch := omega) [-getElem?_pos]
  refine (k1 _).mono fun r σ' hr => ?_
  obtain ⟨rfl, rfl⟩ := hr
  simp -implicitDefEqProofs (disch := omega) [-getElem?_pos]
  refine (k2 _).mono fun r σ' hr => ?_
  obtain ⟨rfl, rfl⟩ := hr
  simp -implicitDefEqProofs (disch := omega) [-getElem?_pos]
  refine (k3 _).mono fun r σ' hr => ?_
  obtain ⟨rfl, rfl⟩ := hr
  simp -implicitDefEqProofs (disch := omega) [-getElem?_pos]
  refine (k4 _).mono fun r σ' hr => ?_
  obtain ⟨rfl, rfl⟩ := hr
  simp -implicitDefEqProofs (disch := omega) [-getElem?_pos]
  refine (l1 _).mono fun r σ' hr => ?_
  obtain ⟨rfl, rfl⟩ := hr
  simp -implicitDefEqProofs (disch := omega) [-getElem?_pos]
  exact .finS _ ⟨_, tk⟩ ⟨rfl, rfl⟩ (.refl _) (low_set2 (hlow _ _ _))
 | false =>
 simp only [h4, Bool.false_eq_true, if_false] at k4 ⊢
 generalize (setP C f (C.L.length + 1) st).e = a at *
 generalize (setP C f (C.L.length + 1) st).st = st1 at *
 cases a with
 | mk k p' n s t ls ns l =>
 rw [encE_mk] at kS ⊢
 refine acalls_fit Tryz.func52 (by kernel_rfl) c52 rfl (by simp [a52]) fun hf => ?_
 clear hf
 simp -implicitDefEqProofs (disch := omega) [-getElem?_pos, a52]
 refine (kp _).then fun r hr => ?_
 subst hr
 simp -implicitDefEqProofs (disch := omega) [-getElem?_pos]
 refine (k1 _).mono fun r σ' hr => ?_
 obtain ⟨rfl, rfl⟩ := hr
 simp -implicitDefEqProofs (disch := omega) [-getElem?_pos]
 refine (k2 _).mono fun r σ' hr => ?_
 obtain ⟨rfl, rfl⟩ := hr
 simp -implicitDefEqProofs (disch := omega) [-getElem?_pos]
 refine (k3 _).mono fun r σ' hr => ?_
 obtain ⟨rfl, rfl⟩ := hr
 simp -implicitDefEqProofs (disch := omega) [-getElem?_pos]
 refine (k4 _).mono fun r σ' hr => ?_
 obtain ⟨rfl, rfl⟩ := hr
 simp -implicitDefEqProofs (disch := omega) [-getElem?_pos]
 refine (kS _).mono fun r σ' hr => ?_
 obtain ⟨rfl, rfl⟩ := hr
 simp -implicitDefEqProofs (disch := omega) [-getElem?_pos]
 exact .finS _ ⟨_, tk⟩ ⟨rfl, rfl⟩ (.refl _) (low_set2 (hlow _ _ _))
set_option maxHeartbeats 4000000
def lastV : List Ex → V
 | [] => .snil
 | x :: l => .sl (some 8) true ((x :: l).map encE)
structure MSt where
 f : Nat
 a : ArmS
 hd : D
 R : List Ob
theorem getR {R r : List Ob} {x : Ob} : (R ++ x :: r)[R.length]? = some x := by simp
theorem setR {R r : List Ob} {x y : Ob} : (R ++ x :: r).set R.length y = R ++ y :: r := by simp
def eOb (at_ : Int) (t : Str) : Ob := .cells [.v (.int .i64 14), .v (.int .i64 at_), .v (.int .i64 0), .v (.str []), .v (.str t), .v .snil, .v .snil, .v .snil]
theorem concat_le {a : Ex} {S : List Itm} {last : List Ex} : VLe (.sl none true [.sl (some 8) true [encE a], .sl (some 8) false (S.map fun y => encE y.e), lastV last]) (.sl none false ([[a], S.map (·.e), last].map vX)) := by
 have h3 : VLe (lastV last) (vX last) := by
  cases last with
  | nil => exact .snil
  | cons x l => exact .lax
 have h2 : VLe (.sl (some 8) false (S.map fun y => encE y.e)) (vX (S.map (·.e))) := by
  unfold vX
  rw [List.map_map]
  exact .refl _
 refine VLe.sl rfl (fun y hy => ?_) (fun c hc => ?_) ?_
 ·obtain ⟨l, _, rfl⟩ := List.mem_map.1 hy
  rfl
 ·simp [V.flat, vX, V.cells] at hc
  rcases hc with rfl | rfl | rfl <;> rfl
 ·have hfl : V.flat [V.sl (some 8) true [encE a], .sl (some 8) false (S.map fun y => encE y.e), lastV last] = [V.sl (some 8) true [encE a], .sl (some 8) false (S.map fun y => encE y.e), lastV last] := by
   cases last <;> simp [V.flat, V.cells, lastV]
  rw [hfl]
  exact ⟨.lax, h2, h3, trivial⟩
theorem ItsAt.tail {os R r : List Ob} {p : Nat} {x x' a1 a2 a3 b1 b2 b3 : Ob} {tk : List Nat} {hd : D} {l : List Itm} (h : ItsAt (os.length + 3) ⟨os.set p x ++ (a1 :: a2 :: a3 :: R), tk⟩ hd l) :
  ItsAt (os.length + 3) ⟨os.set p x' ++ (b1 :: b2 :: b3 :: (R ++ r)), tk⟩ hd l := by
 refine h.mono fun i ob hb ho => ?_
 obtain ⟨k, rfl⟩ : ∃ k, i = os.length + 3 + k := ⟨i - (os.length + 3), by omega⟩
 dsimp only at ho ⊢
 rw [List.getElem?_append_right (by simp; omega), List.length_set, show os.length + 3 + k - os.length = k + 1 + 1 + 1 from by omega] at ho ⊢
 simp only [List.getElem?_cons_succ] at ho ⊢
 rw [List.getElem?_append_left (List.getElem?_eq_some_iff.1 ho).1]
 exact ho
theorem sg_split {A R : List Ob} {tk : List Nat} {τ : Sg} (h0 : τ.toks = tk) (h1 : ∀ i, i < A.length → τ.objs[i]? = (A ++ R)[i]?) (h2 : A.length ≤ τ.objs.length) : τ = ⟨A ++ τ.objs.drop A.length, tk⟩ := by
 obtain ⟨o, t⟩ := τ
 dsimp only at h0 h1 h2 ⊢
 subst h0
 congr 1
 conv => lhs; rw [← List.take_append_drop A.length o]
 congr 1
 refine List.ext_getElem? fun i => ?_
 by_cases hi : i < A.length
 ·rw [List.getElem?_take_of_lt hi, h1 i hi, List.getElem?_append_left hi]
 ·rw [List.getElem?_eq_none (by simp; omega), List.getElem?_eq_none (by omega)]
theorem k_MatchP {C : PC} {M : Nat} {pe : PF} (hsrt : C.srt = sortI) (he : PCt C 52 M pe) (hon : On C pe) : MCt C M (matchP C pe) := by
 intro at_ p st σ ok hM hp
 refine pset hp fun os tk hl => ?_
 clear hp σ
 have ke := fun st r (ok : OkP C st) (hM : rem C st < M) => he p st ⟨os.set p (prs C st) ++ r, tk⟩ ok hM (by simp [hl])
 have km := fun st s r (ok : OkP C st) => k_Must (C := C) (st := st) (p := p) (s := s) (σ := ⟨os.set p (prs C st) ++ r, tk⟩) (by simp [hl]) ok
 have kx := fun st k r (ok : OkP C st) (hk : k ≠ 0) => k_TextP (C := C) (st := st) (p := p) (k := k) (σ := ⟨os.set p (prs C st) ++ r, tk⟩) (by simp [hl]) ok hk
 have kp := fun st r (ok : OkP C st) => k_Place (C := C) (st := st) (p := p) (σ := ⟨os.set p (prs C st) ++ r, tk⟩) (by simp [hl]) ok
 have ka := fun st r (ok : OkP C st) => k_Ahead (C := C) (st := st) (p := p) (k := 0) (n := 0) (σ := ⟨os.set p (prs C st) ++ r, tk⟩) (by simp [hl]) ok rfl (by omega)
 have ks := fun st s r (ok : OkP C st) => k_Sees (C := C) (st := st) (p := p) (k := 0) (n := 0) (s := s) (σ := ⟨os.set p (prs C st) ++ r, tk⟩) (by simp [hl]) ok rfl (by omega)
 have kf := fun st q r => k_Fail (C := C) (st := st) (p := p) (q := q) (σ := ⟨os.set p (prs C st) ++ r, tk⟩) (by simp [hl])
 have hlow := fun st n k => prs_low (C := C) (st := st) (n := n) (k := k)
 simp only [set_app_set hl] at ke km kx kf
 unfold matchP
 dsimp only
 rw [hsrt]
 have e0 := fun r => ke st r ok hM
 have o1 := hon st
 generalize (pe st).e = of at *
 generalize (pe st).st = st1 at *
 have m0 := fun r => km st1 wWith r (o1.ok ok)
 have o2 := o1.trans (Fwd.must (C := C) (st := st1) (s := wWith))
 generalize mustP C wWith st1 = st2 at *
 obtain ⟨F, hF⟩ : ∃ F, F = armsL C pe (C.L.length + 1) ⟨[], [], [], st2, true⟩ := ⟨_, rfl⟩
 rw [← hF]
 have hrem : rem C st2 < C.L.length + 1 := by
  unfold rem
  split <;> omega
 have hcL := ok.l
 cases of with
 | mk k0 p0 n0 s0 t0 ls0 ns0 l0 =>
 rw [encE_mk] at e0
 refine acalls_fit Tryz.func87 (by kernel_rfl) c87W rfl (by simp [a87W]) fun hf => ?_
 clear hf
 simp -implicitDefEqProofs (disch := omega) [-getElem?_pos, a87W]
 refine (e0 _).mono fun r σ' hr => ?_
 obtain ⟨rfl, rfl⟩ := hr
 simp -implicitDefEqProofs (disch := omega) [-getElem?_pos]
 refine (m0 _).mono fun r σ' hr => ?_
 obtain ⟨rfl, rfl⟩ := hr
 simp -implicitDefEqProofs (disch := omega) [-getElem?_pos]
 refine W_loop (α := MSt) ⟨C.L.length + 1, ⟨[], [], [], st2, true⟩, .v .snil, []⟩ (fun x => x.f + (if x.a.st.bad.isSome = true then 0 else 1)) (fun x => ⟨[(0, .ptr p 0), (4, .ptr os.length 0), (5, .ptr (os.length + 1) 0), (6, .ptr (os.length + 2) 0), (7, x.hd), (8, .v (lastV x.a.last)), (9, .v (.bool x.a.first))], ⟨os.set p (prs C x.a.st) ++ (zOb :: eOb at_ x.a.t :: obE (.mk k0 p0 n0 s0 t0 ls0 ns0 l0) :: x.R), tk⟩⟩)
  (fun x => F = armsL C pe x.f x.a ∧ (x.a.st.bad = none → rem C x.a.st < x.f) ∧ OkP C x.a.st ∧ rem C x.a.st < M ∧ ItsAt (os.length + 3) ⟨os.set p (prs C x.a.st) ++ (zOb :: eOb at_ x.a.t :: obE (.mk k0 p0 n0 s0 t0 ls0 ns0 l0) :: x.R), tk⟩ x.hd x.a.l ∧ x.a.l.length + x.f ≤ C.L.length + 1 ∧ x.a.last.length ≤ 1)
  (.eq2 (by simp [zOb, eOb, obE_mk]) (by simp [lastV])) ⟨hF, fun _ => hrem, o2.ok ok, Nat.lt_of_le_of_lt o2.le hM, .inl ⟨rfl, rfl⟩, by simp, by simp⟩ fun ⟨f, ⟨l, t, last, st, first⟩, hd, R⟩ ⟨hF, hf, ok, hM, hI, hlf, hlast⟩ => ?_
 clear e0 m0
 dsimp only at hF hf ok hM hI hlf hlast ⊢
 cases hbad : st.bad with
 | some z =>
  have hstop : F = ⟨l, t, last, st, first⟩ := by
   rw [hF]
   cases f with
   | zero => rfl
   | succ f => rw [armsL, if_neg (by rintro ⟨h, _⟩; rw [hbad] at h; cases h)]
  rw [hstop]
  dsimp only
  have hpr : prs C st = .cells [.v (.sl (some 4) false (C.L.map encK)), .v (.int .i64 st.i), .v (.int .i64 C.E), .iface 56 (.imm (some 2) (.agg [.int .i64 z, .int .i64 3]) 0)] := by rw [prs, hbad]; rfl
  have m9 := fun r => km st wEnd r ok
  generalize hst9 : mustP C wEnd st = st9 at *
  have hIo := k_OrderH (A := os.set p (prs C st9) ++ [zOb, eOb at_ t, obE (.mk k0 p0 n0 s0 t0 ls0 ns0 l0)]) (R := R) (tk := tk) (hd := hd) (l := l) (by
   have : (os.set p (prs C st9) ++ [zOb, eOb at_ t, obE (.mk k0 p0 n0 s0 t0 ls0 ns0 l0)]).length = os.length + 3 := by simp
   rw [this]
   refine hI.mono fun i ob hbi hob => ?_
   simp only [List.append_assoc, List.cons_append, List.nil_append]
   rw [List.getElem?_append_right (by simp; omega), List.length_set] at hob ⊢
   exact hob) (by omega)
  simp only [List.append_assoc, List.cons_append, List.nil_append] at hIo
  have kc := fun σ => ACalls.arg1 (k_ConcatE (L := [[.mk k0 p0 n0 s0 t0 ls0 ns0 l0], (sortI l).map (·.e), last]) (f := false) (σ := σ) (by simp [catX]) (by
   have h1 := (sortI_sub l).len
   simp only [catX, List.flatten_cons, List.flatten_nil, List.length_append, List.length_cons, List.length_nil, List.length_map, h1]
   omega) (by simp)) (VLe.d concat_le)
  rw [encE_mk] at kc
  rw [encE_mk]
  unfold vX catX at kc
  simp only [hpr] at m9
  simp -implicitDefEqProofs (disch := omega) [-getElem?_pos, zOb, eOb, obE_mk, hpr, hbad]
  simp only [zOb, eOb, obE_mk] at m9 hIo
  refine (m9 _).mono fun r σ' hr => ?_
  obtain ⟨rfl, rfl⟩ := hr
  simp -implicitDefEqProofs (disch := omega) [-getElem?_pos]
  refine hIo.mono fun r σ' hr => ?_
  obtain ⟨rfl, R', rfl⟩ := hr
  simp -implicitDefEqProofs (disch := omega) [-getElem?_pos]
  refine ⟨by cases last <;> simp [lastV, V.one], ?_⟩
  refine (kc _).then fun r hr => ?_
  subst hr
  simp -implicitDefEqProofs (disch := omega) [-getElem?_pos]
  refine .finS _ ⟨os.set p (prs C st9), tk⟩ ⟨?_, rfl⟩ (.refl _) (low_set2 (hlow _ _ _))
  simp [Function.comp_def]
 | none =>
  have hpr : prs C st = .cells [.v (.sl (some 4) false (C.L.map encK)), .v (.int .i64 st.i), .v (.int .i64 C.E), .v .inil] := by rw [prs, hbad]; rfl
  by_cases ht : t = []
  rotate_left
  ·skip
   have hstop : F = ⟨l, t, last, st, first⟩ := by
    rw [hF]
    cases f with
    | zero => rfl
    | succ f => rw [armsL, if_neg (by rintro ⟨_, h, _⟩; exact ht h)]
   rw [hstop]
   dsimp only
   have m9 := fun r => km st wEnd r ok
   generalize hst9 : mustP C wEnd st = st9 at *
   have hIo := k_OrderH (A := os.set p (prs C st9) ++ [zOb, eOb at_ t, obE (.mk k0 p0 n0 s0 t0 ls0 ns0 l0)]) (R := R) (tk := tk) (hd := hd) (l := l) (by
    have : (os.set p (prs C st9) ++ [zOb, eOb at_ t, obE (.mk k0 p0 n0 s0 t0 ls0 ns0 l0)]).length = os.length + 3 := by simp
    rw [this]
    refine hI.mono fun i ob hbi hob => ?_
    simp only [List.append_assoc, List.cons_append, List.nil_append]
    rw [List.getElem?_append_right (by simp; omega), List.length_set] at hob ⊢
    exact hob) (by omega)
   simp only [List.append_assoc, List.cons_append, List.nil_append] at hIo
   have kc := fun σ => ACalls.arg1 (k_ConcatE (L := [[.mk k0 p0 n0 s0 t0 ls0 ns0 l0], (sortI l).map (·.e), last]) (f := false) (σ := σ) (by simp [catX]) (by
    have h1 := (sortI_sub l).len
    simp only [catX, List.flatten_cons, List.flatten_nil, List.length_append, List.length_cons, List.length_nil, List.length_map, h1]
    omega) (by simp)) (VLe.d concat_le)
   rw [encE_mk] at kc
   rw [encE_mk]
   unfold vX catX at kc
   simp only [hpr] at m9
   simp -implicitDefEqProofs (disch := omega) [-getElem?_pos, zOb, eOb, obE_mk, hpr, ht]
   simp only [zOb, eOb, obE_mk] at m9 hIo
   refine (m9 _).mono fun r σ' hr => ?_
   obtain ⟨rfl, rfl⟩ := hr
   simp -implicitDefEqProofs (disch := omega) [-getElem?_pos]
   refine hIo.mono fun r σ' hr => ?_
   obtain ⟨rfl, R', rfl⟩ := hr
   simp -implicitDefEqProofs (disch := omega) [-getElem?_pos]
   refine ⟨by cases last <;> simp [lastV, V.one], ?_⟩
   refine (kc _).then fun r hr => ?_
   subst hr
   simp -implicitDefEqProofs (disch := omega) [-getElem?_pos]
   refine .finS _ ⟨os.set p (prs C st9), tk⟩ ⟨?_, rfl⟩ (.refl _) (low_set2 (hlow _ _ _))
   simp [Function.comp_def]
  subst ht
  have kse := fun r => ks st [124] r ok
  simp only [hpr] at kse
  by_cases hcnd : first = true ∨ sees C st 0 [124] = true
  rotate_left
  ·cases first with
   | true => exact absurd (.inl rfl) hcnd
   | false =>
   have hse : sees C st 0 [124] = false := by cases h : sees C st 0 [124] with | false => rfl | true => exact absurd (.inr h) hcnd
   have hstop : F = ⟨l, [], last, st, false⟩ := by
    rw [hF]
    cases f with
    | zero => rfl
    | succ f => rw [armsL, if_neg (by rintro ⟨_, _, h | h⟩; cases h; rw [hse] at h; cases h)]
   rw [hstop]
   dsimp only
   have m9 := fun r => km st wEnd r ok
   generalize hst9 : mustP C wEnd st = st9 at *
   have hIo := k_OrderH (A := os.set p (prs C st9) ++ [zOb, eOb at_ [], obE (.mk k0 p0 n0 s0 t0 ls0 ns0 l0)]) (R := R) (tk := tk) (hd := hd) (l := l) (by
    have : (os.set p (prs C st9) ++ [zOb, eOb at_ [], obE (.mk k0 p0 n0 s0 t0 ls0 ns0 l0)]).length = os.length + 3 := by simp
    rw [this]
    refine hI.mono fun i ob hbi hob => ?_
    simp only [List.append_assoc, List.cons_append, List.nil_append]
    rw [List.getElem?_append_right (by simp; omega), List.length_set] at hob ⊢
    exact hob) (by omega)
   simp only [List.append_assoc, List.cons_append, List.nil_append] at hIo
   have kc := fun σ => ACalls.arg1 (k_ConcatE (L := [[.mk k0 p0 n0 s0 t0 ls0 ns0 l0], (sortI l).map (·.e), last]) (f := false) (σ := σ) (by simp [catX]) (by
    have h1 := (sortI_sub l).len
    simp only [catX, List.flatten_cons, List.flatten_nil, List.length_append, List.length_cons, List.length_nil, List.length_map, h1]
    omega) (by simp)) (VLe.d concat_le)
   rw [encE_mk] at kc
   rw [encE_mk]
   unfold vX catX at kc
   simp only [hpr] at m9
   simp -implicitDefEqProofs (disch := omega) [-getElem?_pos, zOb, eOb, obE_mk, hpr, hbad]
   refine (kse _).then fun r hr => ?_
   subst hr
   simp -implicitDefEqProofs (disch := omega) [-getElem?_pos, hse]
   simp only [zOb, eOb, obE_mk] at m9 hIo
   refine (m9 _).mono fun r σ' hr => ?_
   obtain ⟨rfl, rfl⟩ := hr
   simp -implicitDefEqProofs (disch := omega) [-getElem?_pos]
   refine hIo.mono fun r σ' hr => ?_
   obtain ⟨rfl, R', rfl⟩ := hr
   simp -implicitDefEqProofs (disch := omega) [-getElem?_pos]
   refine ⟨by cases last <;> simp [lastV, V.one], ?_⟩
   refine (kc _).then fun r hr => ?_
   subst hr
   simp -implicitDefEqProofs (disch := omega) [-getElem?_pos]
   refine .finS _ ⟨os.set p (prs C st9), tk⟩ ⟨?_, rfl⟩ (.refl _) (low_set2 (hlow _ _ _))
   simp [Function.comp_def]
  obtain ⟨f, rfl⟩ : ∃ f', f = f' + 1 := ⟨f - 1, by have := hf hbad; omega⟩
  rw [armsL, if_pos ⟨hbad, rfl, hcnd⟩] at hF
  unfold armF at hF
  dsimp only at hF
  have mm := fun r => km st [124] r ok
  have o1 := Fwd.must (C := C) (st := st) (s := [124])
  have hr1 : (mustP C [124] st).bad = none → rem C (mustP C [124] st) < f := fun h => by have := must_rem h; have := hf hbad; omega
  generalize mustP C [124] st = s1 at *
  have kpl := fun r => kp s1 r (o1.ok ok)
  have kah := fun r => ka s1 r (o1.ok ok)
  have kx1 := fun r => kx s1 1 r (o1.ok ok) (by decide)
  have kx3 := fun r => kx s1 3 r (o1.ok ok) (by decide)
  generalize placeP C s1 = q at *
  generalize ahd C s1 0 = T at *
  unfold encK at kah
  by_cases hk1 : T.k = 1
  ·rw [if_pos hk1] at hF
   have o2 := Fwd.text (C := C) (st := s1) (k := 1) (by decide)
   generalize (textP C 1 s1).s = t9 at *
   generalize (textP C 1 s1).st = s2 at *
   have m2 := fun r => km s2 sArr r ((o1.trans o2).ok ok)
   have o3 := o2.trans (Fwd.must (C := C) (st := s2) (s := sArr))
   generalize mustP C sArr s2 = s3 at *
   have e3 := fun r => ke s3 r ((o1.trans o3).ok ok) (Nat.lt_of_le_of_lt (o1.trans o3).le hM)
   have o4 := o3.trans (hon s3)
   generalize (pe s3).e = b at *
   generalize (pe s3).st = s4 at *
   cases b with
   | mk k9 p9 n9 s9 t9' ls9 ns9 l9 =>
   rw [encE_mk] at e3
   simp only [hpr] at mm
   rcases first with _ | _
   focus
    have hse : sees C st 0 [124] = true := by rcases hcnd with h | h; cases h; exact h
    simp -implicitDefEqProofs (disch := omega) [-getElem?_pos, eOb, hpr]
    refine (kse _).then fun r hr => ?_
    subst hr
    simp -implicitDefEqProofs (disch := omega) [-getElem?_pos, hse]
   rotate_left
   focus
    simp -implicitDefEqProofs (disch := omega) [-getElem?_pos, eOb, hpr]
   all_goals
    skip
    refine (mm _).mono fun r σ' hr => ?_
    obtain ⟨rfl, rfl⟩ := hr
    simp -implicitDefEqProofs (disch := omega) [-getElem?_pos]
    refine (kpl _).then fun r hr => ?_
    subst hr
    simp -implicitDefEqProofs (disch := omega) [-getElem?_pos]
    refine (kah _).then fun r hr => ?_
    subst hr
    simp -implicitDefEqProofs (disch := omega) [-getElem?_pos, hk1]
    refine (kx1 _).mono fun r σ' hr => ?_
    obtain ⟨rfl, rfl⟩ := hr
    simp -implicitDefEqProofs (disch := omega) [-getElem?_pos]
    refine (m2 _).mono fun r σ' hr => ?_
    obtain ⟨rfl, rfl⟩ := hr
    simp -implicitDefEqProofs (disch := omega) [-getElem?_pos]
    refine (e3 _).mono fun r σ' hr => ?_
    obtain ⟨rfl, rfl⟩ := hr
    simp -implicitDefEqProofs (disch := omega) [-getElem?_pos, V.one]
    exact ⟨⟨f, ⟨l, t9, [.mk k9 p9 n9 s9 t9' ls9 ns9 l9], s4, false⟩, hd, R ++ [.cells [.v (.int .i64 q), .v (.str []), .v (.str []), .v (.int .i64 0), .v (.int .i64 0), .v (.int .i64 0), .v (.str []), .v (.str []), .v .snil, .v .snil, .v .snil]]⟩,
     ⟨hF, fun h => Nat.lt_of_le_of_lt o4.le (hr1 (o4.bd h)), (o1.trans o4).ok ok, Nat.lt_of_le_of_lt (o1.trans o4).le hM, hI.tail, by dsimp only; omega, by simp⟩, by dsimp only; rw [hbad]; simp only [Option.isSome_none, Bool.false_eq_true, if_false]; split <;> omega,
     .eq2 (by simp [zOb, eOb, obE_mk]) (by simp [lastV, encE_mk])⟩
  ·rw [if_neg hk1] at hF
   have o2 := Fwd.text (C := C) (st := s1) (k := 3) (by decide)
   generalize (textP C 3 s1).s = t9 at *
   generalize (textP C 3 s1).st = s2 at *
   have kf2 := fun r => kf s2 q r
   obtain ⟨s3, hs3⟩ : ∃ s', s' = if hasKey l t9 = true then failP q s2 else s2 := ⟨_, rfl⟩
   rw [← hs3] at hF
   have o3 : Fwd C s1 s3 := by
    rw [hs3]
    split
    ·exact o2.trans .fail
    ·exact o2
   have x3 := fun r => kx s3 1 r ((o1.trans o3).ok ok) (by decide)
   have o4 := o3.trans (Fwd.text (C := C) (st := s3) (k := 1) (by decide))
   generalize (textP C 1 s3).s = own at *
   generalize (textP C 1 s3).st = s4 at *
   have m4 := fun r => km s4 sArr r ((o1.trans o4).ok ok)
   have o5 := o4.trans (Fwd.must (C := C) (st := s4) (s := sArr))
   generalize mustP C sArr s4 = s5 at *
   have e5 := fun r => ke s5 r ((o1.trans o5).ok ok) (Nat.lt_of_le_of_lt (o1.trans o5).le hM)
   have o6 := o5.trans (hon s5)
   generalize (pe s5).e = b at *
   generalize (pe s5).st = s6 at *
   cases b with
   | mk k9 p9 n9 s9 t9' ls9 ns9 l9 =>
   rw [encE_mk] at e5
   have hfin : ∀ (hd' : D) (σ' : Sg) (z : Ob), ItsAt (os.length + 3) σ' hd' (l ++ [⟨q, t9, own, .mk k9 p9 n9 s9 t9' ls9 ns9 l9⟩]) → σ'.toks = tk → (∀ i, i < os.length + 3 → σ'.objs[i]? = (os.set p (prs C s6) ++ (zOb :: eOb at_ [] :: obE (.mk k0 p0 n0 s0 t0 ls0 ns0 l0) :: (R ++ [z])))[i]?) → os.length + 3 ≤ σ'.objs.length →
     ∃ R', σ' = ⟨os.set p (prs C s6) ++ (zOb :: eOb at_ [] :: obE (.mk k0 p0 n0 s0 t0 ls0 ns0 l0) :: R'), tk⟩ := by
    intro hd' σ' z _ h1 h2 h3
    have := sg_split (A := os.set p (prs C s6) ++ [zOb, eOb at_ [], obE (.mk k0 p0 n0 s0 t0 ls0 ns0 l0)]) (R := R ++ [z]) h1 (by simpa using h2) (by simpa using h3)
    exact ⟨_, by simpa using this⟩
   have khas := fun (r : List Ob) (cs : List D) => k_HasI 128 (.inl rfl) (hd := hd) (l := l) (key := t9) (cs := cs) (xo := os.length + (R.length + 1 + 1 + 1)) (σ := ⟨os.set p (prs C s2) ++ (zOb :: eOb at_ [] :: obE (.mk k0 p0 n0 s0 t0 ls0 ns0 l0) :: (R ++ r)), tk⟩) hI.tail.ok (by omega)
   unfold zOb eOb at khas
   simp only [hpr] at mm
   rcases first with _ | _
   focus
    have hse : sees C st 0 [124] = true := by rcases hcnd with h | h; cases h; exact h
    simp -implicitDefEqProofs (disch := omega) [-getElem?_pos, eOb, hpr]
    refine (kse _).then fun r hr => ?_
    subst hr
    simp -implicitDefEqProofs (disch := omega) [-getElem?_pos, hse]
   rotate_left
   focus
    simp -implicitDefEqProofs (disch := omega) [-getElem?_pos, eOb, hpr]
   all_goals
    skip
    refine (mm _).mono fun r σ' hr => ?_
    obtain ⟨rfl, rfl⟩ := hr
    simp -implicitDefEqProofs (disch := omega) [-getElem?_pos]
    refine (kpl _).then fun r hr => ?_
    subst hr
    simp -implicitDefEqProofs (disch := omega) [-getElem?_pos]
    refine (kah _).then fun r hr => ?_
    subst hr
    simp -implicitDefEqProofs (disch := omega) [-getElem?_pos, hk1]
    refine (kx3 _).mono fun r σ' hr => ?_
    obtain ⟨rfl, rfl⟩ := hr
    simp -implicitDefEqProofs (disch := omega) [-getElem?_pos, getR, setR]
    refine (khas _ [.v (.int .i64 q), .v (.str t9), .v (.str []), .v (.int .i64 0), .v (.int .i64 0), .v (.int .i64 0), .v (.str []), .v (.str []), .v .snil, .v .snil, .v .snil] (by simp) rfl).then fun r hr => ?_
    subst hr
    cases hk : hasKey l t9 with
    | true =>
     rw [hk, if_pos rfl] at hs3
     subst hs3
     simp -implicitDefEqProofs (disch := omega) [-getElem?_pos]
     refine (kf2 _).mono fun r σ' hr => ?_
     obtain ⟨rfl, rfl⟩ := hr
     simp -implicitDefEqProofs (disch := omega) [-getElem?_pos]
     refine (x3 _).mono fun r σ' hr => ?_
     obtain ⟨rfl, rfl⟩ := hr
     simp -implicitDefEqProofs (disch := omega) [-getElem?_pos, getR, setR]
     refine (m4 _).mono fun r σ' hr => ?_
     obtain ⟨rfl, rfl⟩ := hr
     simp -implicitDefEqProofs (disch := omega) [-getElem?_pos]
     refine (e5 _).mono fun r σ' hr => ?_
     obtain ⟨rfl, rfl⟩ := hr
     simp -implicitDefEqProofs (disch := omega) [-getElem?_pos, getR, setR]
     have hce : celI ⟨q, t9, own, .mk k9 p9 n9 s9 t9' ls9 ns9 l9⟩ = [V.int IntKind.i64 q, V.str t9, V.str own, V.int IntKind.i64 k9, V.int IntKind.i64 p9, V.int IntKind.i64 n9, V.str s9, V.str t9', V.sl none false (List.map V.str ls9), V.sl none false (List.map V.str ns9), V.sl (some 8) false (List.map encE l9)] := by simp [celI, celE]
     rw [← hce]
     refine appI (b := os.length + 3) hI.tail (by omega) (by simp) fun hd' σ' h1 h2 h3 h4 => ?_
     obtain ⟨R', rfl⟩ := hfin hd' σ' _ h1 h2 h3 h4
     simp -implicitDefEqProofs (disch := omega) [-getElem?_pos, eOb]
     exact ⟨⟨f, ⟨l ++ [Itm.mk q t9 own (.mk k9 p9 n9 s9 t9' ls9 ns9 l9)], [], last, s6, false⟩, hd', R'⟩,
      ⟨hF, fun h => Nat.lt_of_le_of_lt o6.le (hr1 (o6.bd h)), (o1.trans o6).ok ok, Nat.lt_of_le_of_lt (o1.trans o6).le hM, h1, by dsimp only; rw [List.length_append, List.length_singleton]; omega, hlast⟩, by dsimp only; rw [hbad]; simp only [Option.isSome_none, Bool.false_eq_true, if_false]; split <;> omega,
      .eq2 (by simp [zOb, eOb, obE_mk]) (by simp)⟩
    | false =>
     rw [hk, if_neg (by simp)] at hs3
     subst hs3
     simp -implicitDefEqProofs (disch := omega) [-getElem?_pos]
     refine (x3 _).mono fun r σ' hr => ?_
     obtain ⟨rfl, rfl⟩ := hr
     simp -implicitDefEqProofs (disch := omega) [-getElem?_pos, getR, setR]
     refine (m4 _).mono fun r σ' hr => ?_
     obtain ⟨rfl, rfl⟩ := hr
     simp -implicitDefEqProofs (disch := omega) [-getElem?_pos]
     refine (e5 _).mono fun r σ' hr => ?_
     obtain ⟨rfl, rfl⟩ := hr
     simp -implicitDefEqProofs (disch := omega) [-getElem?_pos, getR, setR]
     have hce : celI ⟨q, t9, own, .mk k9 p9 n9 s9 t9' ls9 ns9 l9⟩ = [V.int IntKind.i64 q, V.str t9, V.str own, V.int IntKind.i64 k9, V.int IntKind.i64 p9, V.int IntKind.i64 n9, V.str s9, V.str t9', V.sl none false (List.map V.str ls9), V.sl none false (List.map V.str ns9), V.sl (some 8) false (List.map encE l9)] := by simp [celI, celE]
     rw [← hce]
     refine appI (b := os.length + 3) hI.tail (by omega) (by simp) fun hd' σ' h1 h2 h3 h4 => ?_
     obtain ⟨R', rfl⟩ := hfin hd' σ' _ h1 h2 h3 h4
     simp -implicitDefEqProofs (disch := omega) [-getElem?_pos, eOb]
     exact ⟨⟨f, ⟨l ++ [Itm.mk q t9 own (.mk k9 p9 n9 s9 t9' ls9 ns9 l9)], [], last, s6, false⟩, hd', R'⟩,
      ⟨hF, fun h => Nat.lt_of_le_of_lt o6.le (hr1 (o6.bd h)), (o1.trans o6).ok ok, Nat.lt_of_le_of_lt (o1.trans o6).le hM, h1, by dsimp only; rw [List.length_append, List.length_singleton]; omega, hlast⟩, by dsimp only; rw [hbad]; simp only [Option.isSome_none, Bool.false_eq_true, if_false]; split <;> omega,
      .eq2 (by simp [zOb, eOb, obE_mk]) (by simp)⟩
structure BSt where
 f : Nat
 a : FldS
 hd : D
 R : List Ob
theorem ItsAt.tail1 {os R r : List Ob} {p : Nat} {x x' a1 b1 : Ob} {tk : List Nat} {hd : D} {l : List Itm} (h : ItsAt (os.length + 1) ⟨os.set p x ++ (a1 :: R), tk⟩ hd l) :
  ItsAt (os.length + 1) ⟨os.set p x' ++ (b1 :: (R ++ r)), tk⟩ hd l := by
 refine h.mono fun i ob hb ho => ?_
 obtain ⟨k, rfl⟩ : ∃ k, i = os.length + 1 + k := ⟨i - (os.length + 1), by omega⟩
 dsimp only at ho ⊢
 rw [List.getElem?_append_right (by simp; omega), List.length_set, show os.length + 1 + k - os.length = k + 1 from by omega] at ho ⊢
 simp only [List.getElem?_cons_succ] at ho ⊢
 rw [List.getElem?_append_left (List.getElem?_eq_some_iff.1 ho).1]
 exact ho
theorem ItsAt.tail0 {os R : List Ob} {p : Nat} {x x' a1 b1 : Ob} {tk : List Nat} {hd : D} {l : List Itm} (h : ItsAt (os.length + 1) ⟨os.set p x ++ (a1 :: R), tk⟩ hd l) :
  ItsAt (os.length + 1) ⟨os.set p x' ++ (b1 :: R), tk⟩ hd l := by
 have h' := h.tail1 (r := []) (x' := x') (b1 := b1)
 rwa [List.append_nil] at h'
theorem rec_le {p : Int} {L : List Itm} : D.Le (.v (.agg [.int .i64 8, .int .i64 p, .int .i64 0, .str [], .str [], .sl none false (L.map fun y => .str y.key), .snil, .sl (some 8) false (L.map fun y => encE y.e)])) (.v (encE (.mk 8 p 0 [] [] (L.map (·.key)) [] (L.map (·.e))))) := by
 refine (ex_le ?_).d
 unfold celE
 refine ⟨.refl _, .refl _, .refl _, .refl _, .refl _, ?_, .snil, ?_, trivial⟩
 ·rw [List.map_map]; exact .refl _
 ·rw [List.map_map]; exact .refl _
theorem ItsAt.nil {b : Nat} {σ : Sg} {hd : D} (h : ItsAt b σ hd []) : hd = .v .snil := by
 rcases h with ⟨h, _⟩ | ⟨_, _, _, _, _, _, _, _, _, h⟩
 ·exact h
 ·exact absurd rfl h
theorem ItsAt.ne {b : Nat} {σ : Sg} {hd : D} {l : List Itm} (h : ItsAt b σ hd l) (hl : l ≠ []) : ∃ o c, hd = .msl o 0 l.length (some 11) (some c) := by
 rcases h with ⟨_, h⟩ | ⟨o, c, _, h, _⟩
 ·exact absurd h hl
 ·exact ⟨o, c, h⟩
theorem k_BracesP {C : PC} {M : Nat} {pe prim : PF} (hsrt : C.srt = sortI) (he : PCt C 52 M pe) (hr : PCt C 209 M prim) (hon : On C pe) (honr : On C prim) (at_ : Int) (p : Nat) (st : PSt) (σ : Sg) (ok : OkP C st) (hM : rem C st < M) (hp : σ.objs[p]? = some (prs C st)) :
  ACalls Tryz.prog 210 [.ptr p 0, .v (.int .i64 at_)] σ fun r σ' => r = .v (encE (bracesP C pe prim at_ st).e) ∧ σ' = ⟨σ.objs.set p (prs C (bracesP C pe prim at_ st).st), σ.toks⟩ := by
 refine pset hp fun os tk hl => ?_
 clear hp σ
 have kt := fun st s r (ok : OkP C st) => k_Takes (C := C) (st := st) (p := p) (s := s) (σ := ⟨os.set p (prs C st) ++ r, tk⟩) (by simp [hl]) ok
 have ke := fun st r (ok : OkP C st) (hM : rem C st < M) => he p st ⟨os.set p (prs C st) ++ r, tk⟩ ok hM (by simp [hl])
 have kpo := fun st r (ok : OkP C st) (hM : rem C st < M) => k_Post hr honr p st ⟨os.set p (prs C st) ++ r, tk⟩ ok hM (by simp [hl])
 have km := fun st s r (ok : OkP C st) => k_Must (C := C) (st := st) (p := p) (s := s) (σ := ⟨os.set p (prs C st) ++ r, tk⟩) (by simp [hl]) ok
 have kx := fun st k r (ok : OkP C st) (hk : k ≠ 0) => k_TextP (C := C) (st := st) (p := p) (k := k) (σ := ⟨os.set p (prs C st) ++ r, tk⟩) (by simp [hl]) ok hk
 have kp := fun st r (ok : OkP C st) => k_Place (C := C) (st := st) (p := p) (σ := ⟨os.set p (prs C st) ++ r, tk⟩) (by simp [hl]) ok
 have ka := fun st r (ok : OkP C st) => k_Ahead (C := C) (st := st) (p := p) (k := 0) (n := 0) (σ := ⟨os.set p (prs C st) ++ r, tk⟩) (by simp [hl]) ok rfl (by omega)
 have ks := fun st s r (ok : OkP C st) => k_Sees (C := C) (st := st) (p := p) (k := 1) (n := 1) (s := s) (σ := ⟨os.set p (prs C st) ++ r, tk⟩) (by simp [hl]) ok rfl (by omega)
 have kf := fun st q r => k_Fail (C := C) (st := st) (p := p) (q := q) (σ := ⟨os.set p (prs C st) ++ r, tk⟩) (by simp [hl])
 have hlow := fun st n k => prs_low (C := C) (st := st) (n := n) (k := k)
 simp only [set_app_set hl] at kt ke kpo km kx kf
 have t0 := fun r => kt st [125] r ok
 unfold takeP at t0
 unfold bracesP
 cases h1 : sees C st 0 [125] with
 | true =>
  simp only [h1, if_true] at t0 ⊢
  refine acalls_fit Tryz.func210 (by kernel_rfl) c210W rfl (by simp [a210W]) fun hf => ?_
  clear hf
  simp -implicitDefEqProofs (disch := omega) [-getElem?_pos, a210W]
  refine (t0 _).mono fun r σ' hr => ?_
  obtain ⟨rfl, rfl⟩ := hr
  simp -implicitDefEqProofs (disch := omega) [-getElem?_pos]
  refine .finS _ ⟨_, tk⟩ ⟨rfl, rfl⟩ ?_ (low_set2 (hlow _ _ _))
  exact (ex_le leaf_le).d
 | false =>
 simp only [h1, Bool.false_eq_true, if_false] at t0 ⊢
 have kah := fun r => ka st r ok
 have kse := fun r => ks st [61] r ok
 generalize ahd C st 0 = T at *
 unfold encK at kah
 by_cases h2 : T.k ≠ 1 ∨ sees C st 1 [61] = false
 ·rw [if_pos h2]
  have p0 := fun r => kpo st r ok hM
  have o1 := on_post honr st
  generalize (postP C prim st).e = of at *
  generalize (postP C prim st).st = st1 at *
  have m1 := fun r => km st1 wWith r (o1.ok ok)
  have o2 := o1.trans (Fwd.must (C := C) (st := st1) (s := wWith))
  generalize mustP C wWith st1 = st2 at *
  have x2 := fun r => kx st2 1 r (o2.ok ok) (by decide)
  have o3 := o2.trans (Fwd.text (C := C) (st := st2) (k := 1) (by decide))
  generalize (textP C 1 st2).s = s3 at *
  generalize (textP C 1 st2).st = st3 at *
  have m3 := fun r => km st3 [61] r (o3.ok ok)
  have o4 := o3.trans (Fwd.must (C := C) (st := st3) (s := [61]))
  generalize mustP C [61] st3 = st4 at *
  have e4 := fun r => ke st4 r (o4.ok ok) (Nat.lt_of_le_of_lt o4.le hM)
  have o5 := o4.trans (hon st4)
  generalize (pe st4).e = a at *
  generalize (pe st4).st = st5 at *
  have m5 := fun r => km st5 [125] r (o5.ok ok)
  generalize mustP C [125] st5 = st6 at *
  cases of with
  | mk k0 p0' n0 s0 t0' ls0 ns0 l0 =>
  cases a with
  | mk k9 p9 n9 s9 t9 ls9 ns9 l9 =>
  have hle := ex_le (lit2 (k := 12) (p := at_) (n := 0) (s := s3) (t := []) (a := .mk k9 p9 n9 s9 t9 ls9 ns9 l9) (b := .mk k0 p0' n0 s0 t0' ls0 ns0 l0))
  rw [encE_mk] at p0 e4
  rw [encE_mk (k := k9), encE_mk (k := k0)] at hle
  by_cases hk1 : T.k = 1
  ·have h3 : sees C st 1 [61] = false := by rcases h2 with h | h; exact absurd hk1 h; exact h
   refine acalls_fit Tryz.func210 (by kernel_rfl) c210W rfl (by simp [a210W]) fun hf => ?_
   clear hf
   simp -implicitDefEqProofs (disch := omega) [-getElem?_pos, a210W]
   refine (t0 _).mono fun r σ' hr => ?_
   obtain ⟨rfl, rfl⟩ := hr
   simp -implicitDefEqProofs (disch := omega) [-getElem?_pos]
   refine (kah _).then fun r hr => ?_
   subst hr
   simp -implicitDefEqProofs (disch := omega) [-getElem?_pos, hk1]
   refine (kse _).then fun r hr => ?_
   subst hr
   simp -implicitDefEqProofs (disch := omega) [-getElem?_pos, h3]
   refine (p0 _).mono fun r σ' hr => ?_
   obtain ⟨rfl, rfl⟩ := hr
   simp -implicitDefEqProofs (disch := omega) [-getElem?_pos]
   refine (m1 _).mono fun r σ' hr => ?_
   obtain ⟨rfl, rfl⟩ := hr
   simp -implicitDefEqProofs (disch := omega) [-getElem?_pos]
   refine (x2 _).mono fun r σ' hr => ?_
   obtain ⟨rfl, rfl⟩ := hr
   simp -implicitDefEqProofs (disch := omega) [-getElem?_pos]
   refine (m3 _).mono fun r σ' hr => ?_
   obtain ⟨rfl, rfl⟩ := hr
   simp -implicitDefEqProofs (disch := omega) [-getElem?_pos]
   refine ⟨?_, ?_⟩
   ·skip
    refine (e4 _).mono fun r σ' hr => ?_
    obtain ⟨rfl, rfl⟩ := hr
    simp -implicitDefEqProofs (disch := omega) [-getElem?_pos]
    refine (m5 _).mono fun r σ' hr => ?_
    obtain ⟨rfl, rfl⟩ := hr
    simp -implicitDefEqProofs (disch := omega) [-getElem?_pos]
    exact .finS _ ⟨_, tk⟩ ⟨rfl, rfl⟩ hle.d (low_set2 (hlow _ _ _))
   ·skip
    refine (e4 _).mono fun r σ' hr => ?_
    obtain ⟨rfl, rfl⟩ := hr
    simp -implicitDefEqProofs (disch := omega) [-getElem?_pos]
    refine (m5 _).mono fun r σ' hr => ?_
    obtain ⟨rfl, rfl⟩ := hr
    simp -implicitDefEqProofs (disch := omega) [-getElem?_pos]
    exact .finS _ ⟨_, tk⟩ ⟨rfl, rfl⟩ hle.d (low_set2 (hlow _ _ _))
  ·refine acalls_fit Tryz.func210 (by kernel_rfl) c210W rfl (by simp [a210W]) fun hf => ?_
   clear hf
   simp -implicitDefEqProofs (disch := omega) [-getElem?_pos, a210W]
   refine (t0 _).mono fun r σ' hr => ?_
   obtain ⟨rfl, rfl⟩ := hr
   simp -implicitDefEqProofs (disch := omega) [-getElem?_pos]
   refine (kah _).then fun r hr => ?_
   subst hr
   simp -implicitDefEqProofs (disch := omega) [-getElem?_pos, hk1]
   refine (p0 _).mono fun r σ' hr => ?_
   obtain ⟨rfl, rfl⟩ := hr
   simp -implicitDefEqProofs (disch := omega) [-getElem?_pos]
   refine (m1 _).mono fun r σ' hr => ?_
   obtain ⟨rfl, rfl⟩ := hr
   simp -implicitDefEqProofs (disch := omega) [-getElem?_pos]
   refine (x2 _).mono fun r σ' hr => ?_
   obtain ⟨rfl, rfl⟩ := hr
   simp -implicitDefEqProofs (disch := omega) [-getElem?_pos]
   refine (m3 _).mono fun r σ' hr => ?_
   obtain ⟨rfl, rfl⟩ := hr
   simp -implicitDefEqProofs (disch := omega) [-getElem?_pos]
   refine ⟨?_, ?_⟩
   ·skip
    refine (e4 _).mono fun r σ' hr => ?_
    obtain ⟨rfl, rfl⟩ := hr
    simp -implicitDefEqProofs (disch := omega) [-getElem?_pos]
    refine (m5 _).mono fun r σ' hr => ?_
    obtain ⟨rfl, rfl⟩ := hr
    simp -implicitDefEqProofs (disch := omega) [-getElem?_pos]
    exact .finS _ ⟨_, tk⟩ ⟨rfl, rfl⟩ hle.d (low_set2 (hlow _ _ _))
   ·skip
    refine (e4 _).mono fun r σ' hr => ?_
    obtain ⟨rfl, rfl⟩ := hr
    simp -implicitDefEqProofs (disch := omega) [-getElem?_pos]
    refine (m5 _).mono fun r σ' hr => ?_
    obtain ⟨rfl, rfl⟩ := hr
    simp -implicitDefEqProofs (disch := omega) [-getElem?_pos]
    exact .finS _ ⟨_, tk⟩ ⟨rfl, rfl⟩ hle.d (low_set2 (hlow _ _ _))
 rw [if_neg h2]
 have hk1 : T.k = 1 := Classical.byContradiction fun h => h2 (.inl h)
 have h3 : sees C st 1 [61] = true := by cases h : sees C st 1 [61] with | true => rfl | false => exact absurd (.inr h) h2
 obtain ⟨F, hF⟩ : ∃ F, F = fldsL C pe (C.L.length + 1) ⟨[], st⟩ := ⟨_, rfl⟩
 rw [← hF]
 have hrem : rem C st < C.L.length + 1 := by
  unfold rem
  split <;> omega
 have hcL := ok.l
 refine acalls_fit Tryz.func210 (by kernel_rfl) c210W rfl (by simp [a210W]) fun hf => ?_
 clear hf
 simp -implicitDefEqProofs (disch := omega) [-getElem?_pos, a210W]
 refine (t0 _).mono fun r σ' hr => ?_
 obtain ⟨rfl, rfl⟩ := hr
 simp -implicitDefEqProofs (disch := omega) [-getElem?_pos]
 refine (kah _).then fun r hr => ?_
 subst hr
 simp -implicitDefEqProofs (disch := omega) [-getElem?_pos, hk1]
 refine (kse _).then fun r hr => ?_
 subst hr
 simp -implicitDefEqProofs (disch := omega) [-getElem?_pos, h3]
 refine W_loop (α := BSt) ⟨C.L.length + 1, ⟨[], st⟩, .v .snil, []⟩ (fun x => x.f) (fun x => ⟨[(0, .ptr p 0), (1, .v (.int .i64 at_)), (4, .ptr os.length 0), (8, x.hd)], ⟨os.set p (prs C x.a.st) ++ (zOb :: x.R), tk⟩⟩)
  (fun x => F = fldsL C pe x.f x.a ∧ 1 ≤ x.f ∧ (x.a.st.bad = none → rem C x.a.st < x.f) ∧ OkP C x.a.st ∧ rem C x.a.st < M ∧ ItsAt (os.length + 1) ⟨os.set p (prs C x.a.st) ++ (zOb :: x.R), tk⟩ x.hd x.a.l ∧ x.a.l.length + x.f ≤ C.L.length + 1)
  (.eq2 (by simp [zOb]) (by simp)) ⟨hF, by simp, fun _ => hrem, ok, hM, .inl ⟨rfl, rfl⟩, by simp⟩ fun ⟨f, ⟨l, st⟩, hd, R⟩ ⟨hF, hf1, hf, ok, hM, hI, hlf⟩ => ?_
 clear t0 kah kse h1 h2 h3 hk1 hrem
 dsimp only at hF hf1 hf ok hM hI hlf ⊢
 obtain ⟨f, rfl⟩ : ∃ f', f = f' + 1 := ⟨f - 1, by omega⟩
 rw [fldsL] at hF
 dsimp only at hF
 have kpl := fun r => kp st r ok
 generalize placeP C st = q at *
 have x1 := fun r => kx st 1 r ok (by decide)
 have o2 := Fwd.text (C := C) (st := st) (k := 1) (by decide)
 generalize (textP C 1 st).s = t9 at *
 generalize (textP C 1 st).st = s2 at *
 have kf2 := fun r => kf s2 q r
 obtain ⟨s3, hs3⟩ : ∃ s', s' = if hasKey l t9 = true then failP q s2 else s2 := ⟨_, rfl⟩
 rw [← hs3] at hF
 have o3 : Fwd C st s3 := by
  rw [hs3]
  split
  ·exact o2.trans .fail
  ·exact o2
 have m3 := fun r => km s3 [61] r (o3.ok ok)
 have o4 := o3.trans (Fwd.must (C := C) (st := s3) (s := [61]))
 have hr4 : (mustP C [61] s3).bad = none → rem C (mustP C [61] s3) < f := fun h => by have := must_rem h; have := o3.le; have := hf (o4.bd h); omega
 generalize mustP C [61] s3 = s4 at *
 have e4 := fun r => ke s4 r (o4.ok ok) (Nat.lt_of_le_of_lt o4.le hM)
 have o5' := hon s4
 have o5 := o4.trans o5'
 have hr5 : (pe s4).st.bad = none → rem C (pe s4).st < f := fun h => Nat.lt_of_le_of_lt o5'.le (hr4 (o5'.bd h))
 generalize (pe s4).e = b at *
 generalize (pe s4).st = s5 at *
 have m5 := fun r => km s5 [125] r (o5.ok ok)
 have t5 := fun r => kt s5 [124] r (o5.ok ok)
 have t6 := fun r => kt s5 [44] r (o5.ok ok)
 unfold takeP at t5 t6
 have hin5 := fun h => sees_in (C := C) (st := s5) (s := [124]) h
 have hin6 := fun h => sees_in (C := C) (st := s5) (s := [44]) h
 have eA := fun r h => ke (advP s5) r (((o5.trans (Fwd.adv (hin5 h))).ok ok)) (Nat.lt_of_le_of_lt (o5.trans (Fwd.adv (hin5 h))).le hM)
 have mA := fun r h => km (pe (advP s5)).st [125] r (((o5.trans (Fwd.adv (hin5 h))).trans (hon (advP s5))).ok ok)
 cases b with
 | mk k9 p9 n9 s9 t9' ls9 ns9 l9 =>
 rw [encE_mk] at e4
 have hcy : celI ⟨q, t9, [], .mk k9 p9 n9 s9 t9' ls9 ns9 l9⟩ = [V.int IntKind.i64 q, V.str t9, V.str [], V.int IntKind.i64 k9, V.int IntKind.i64 p9, V.int IntKind.i64 n9, V.str s9, V.str t9', V.sl none false (List.map V.str ls9), V.sl none false (List.map V.str ns9), V.sl (some 8) false (List.map encE l9)] := by simp [celI, celE]
 have hfin : ∀ (hd' : D) (σ' : Sg) (z : Ob) (s6 : PSt), ItsAt (os.length + 1) σ' hd' (l ++ [⟨q, t9, [], .mk k9 p9 n9 s9 t9' ls9 ns9 l9⟩]) → σ'.toks = tk → (∀ i, i < os.length + 1 → σ'.objs[i]? = (os.set p (prs C s6) ++ (zOb :: (R ++ [z])))[i]?) → os.length + 1 ≤ σ'.objs.length →
   ∃ R', σ' = ⟨os.set p (prs C s6) ++ (zOb :: R'), tk⟩ := by
  intro hd' σ' z s6 _ h1 h2 h3
  have := sg_split (A := os.set p (prs C s6) ++ [zOb]) (R := R ++ [z]) h1 (by simpa using h2) (by simpa using h3)
  exact ⟨_, by simpa using this⟩
 have khas := fun (r : List Ob) (cs : List D) => k_HasI 211 (.inr rfl) (hd := hd) (l := l) (key := t9) (cs := cs) (xo := os.length + (R.length + 1)) (σ := ⟨os.set p (prs C s2) ++ (zOb :: (R ++ r)), tk⟩) hI.tail1.ok (by omega)
 unfold zOb at khas
 simp -implicitDefEqProofs (disch := omega) [-getElem?_pos, zOb]
 refine (kpl _).then fun r hr => ?_
 subst hr
 simp -implicitDefEqProofs (disch := omega) [-getElem?_pos]
 refine (x1 _).mono fun r σ' hr => ?_
 obtain ⟨rfl, rfl⟩ := hr
 simp -implicitDefEqProofs (disch := omega) [-getElem?_pos]
 refine (khas _ [.v (.int .i64 q), .v (.str t9), .v (.str []), .v (.int .i64 0), .v (.int .i64 0), .v (.int .i64 0), .v (.str []), .v (.str []), .v .snil, .v .snil, .v .snil] (by simp) rfl).then fun r hr => ?_
 subst hr
 rcases hk : hasKey l t9 with _ | _
 focus
  rw [hk, if_neg (by simp)] at hs3
  rw [← hs3]
  simp -implicitDefEqProofs (disch := omega) [-getElem?_pos]
 rotate_left
 focus
  rw [hk, if_pos rfl] at hs3
  simp -implicitDefEqProofs (disch := omega) [-getElem?_pos]
  refine (kf2 _).mono fun r σ' hr => ?_
  obtain ⟨rfl, rfl⟩ := hr
  rw [← hs3]
  simp -implicitDefEqProofs (disch := omega) [-getElem?_pos]
 all_goals
  skip
  refine (m3 _).mono fun r σ' hr => ?_
  obtain ⟨rfl, rfl⟩ := hr
  simp -implicitDefEqProofs (disch := omega) [-getElem?_pos]
  refine (e4 _).mono fun r σ' hr => ?_
  obtain ⟨rfl, rfl⟩ := hr
  simp -implicitDefEqProofs (disch := omega) [-getElem?_pos, getR, setR]
  by_cases hn : l = []
  focus
   have hh := (show ItsAt _ _ hd [] from hn ▸ hI).nil
   subst hh
   have hn0 : l.length = 0 := by rw [hn]; rfl
   simp -implicitDefEqProofs (disch := omega) [-getElem?_pos, hn0]
   refine (t5 _).mono fun r σ' hr => ?_
   obtain ⟨rfl, rfl⟩ := hr
   rcases hs : sees C s5 0 [124] with _ | _
   rotate_left
   ·rw [if_pos ⟨hn, hs⟩] at hF
    have eA := fun r => eA r hs
    have mA := fun r => mA r hs
    generalize (pe (advP s5)).e = c at *
    generalize (pe (advP s5)).st = s7 at *
    cases c with
    | mk k8 p8 n8 s8 t8 ls8 ns8 l8 =>
    rw [encE_mk] at eA
    simp only [hs, if_true]
    simp -implicitDefEqProofs (disch := omega) [-getElem?_pos]
    refine (eA _).mono fun r σ' hr => ?_
    obtain ⟨rfl, rfl⟩ := hr
    simp -implicitDefEqProofs (disch := omega) [-getElem?_pos]
    refine (mA _).mono fun r σ' hr => ?_
    obtain ⟨rfl, rfl⟩ := hr
    simp -implicitDefEqProofs (disch := omega) [-getElem?_pos]
    rw [hF]
    dsimp only
    have hle := ex_le (lit2 (k := 10) (p := at_) (n := 0) (s := t9) (t := []) (a := .mk k9 p9 n9 s9 t9' ls9 ns9 l9) (b := .mk k8 p8 n8 s8 t8 ls8 ns8 l8))
    rw [encE_mk (k := k9), encE_mk (k := k8)] at hle
    exact .finS _ ⟨_, tk⟩ ⟨rfl, rfl⟩ hle.d (low_set2 (hlow _ _ _))
   rw [if_neg (by rintro ⟨_, h⟩; rw [hs] at h; cases h)] at hF
   simp only [hs, Bool.false_eq_true, if_false]
   simp -implicitDefEqProofs (disch := omega) [-getElem?_pos, -WApmV_snil, -WApmV_msl]
  rotate_left
  focus
   obtain ⟨oo, cc, rfl⟩ := hI.ne hn
   have hn0 : l.length ≠ 0 := fun h => hn (List.length_eq_zero_iff.1 h)
   rw [if_neg (by rintro ⟨h, _⟩; exact hn h)] at hF
   simp -implicitDefEqProofs (disch := omega) [-getElem?_pos]
   refine .mk (fun h => absurd h (by omega)) fun h => ?_
   simp -implicitDefEqProofs (disch := omega) [-getElem?_pos, -WApmV_snil, -WApmV_msl]
 all_goals
  skip
  rw [← hcy]
  refine appI (b := os.length + 1) hI.tail1 (by omega) (by simp) fun hd' σ' h1 h2 h3 h4 => ?_
  obtain ⟨R', rfl⟩ := hfin hd' σ' _ s5 h1 h2 h3 h4
  cases hbad : s5.bad with
  | some z =>
   rw [if_neg (by rintro ⟨h, _⟩; rw [hbad] at h; cases h)] at hF
   have hpr : prs C s5 = .cells [.v (.sl (some 4) false (C.L.map encK)), .v (.int .i64 s5.i), .v (.int .i64 C.E), .iface 56 (.imm (some 2) (.agg [.int .i64 z, .int .i64 3]) 0)] := by rw [prs, hbad]; rfl
   simp only [hpr] at m5 h1 ⊢
   simp -implicitDefEqProofs (disch := omega) [-getElem?_pos, zOb]
   rw [hF]
   dsimp only
   generalize hst9 : mustP C [125] s5 = s9' at *
   have hIo := k_OrderH (A := os.set p (prs C s9') ++ [zOb]) (R := R') (tk := tk) (hd := hd') (l := l ++ [⟨q, t9, [], .mk k9 p9 n9 s9 t9' ls9 ns9 l9⟩]) (by
    have : (os.set p (prs C s9') ++ [zOb]).length = os.length + 1 := by simp
    rw [this]
    refine h1.mono fun i ob hbi hob => ?_
    simp only [List.append_assoc, List.cons_append, List.nil_append]
    rw [List.getElem?_append_right (by simp; omega), List.length_set] at hob ⊢
    exact hob) (by simp only [List.length_append, List.length_singleton]; omega)
   simp only [List.append_assoc, List.cons_append, List.nil_append] at hIo
   simp only [zOb] at m5 hIo
   refine (m5 _).mono fun r σ' hr => ?_
   obtain ⟨rfl, rfl⟩ := hr
   simp -implicitDefEqProofs (disch := omega) [-getElem?_pos]
   refine hIo.mono fun r σ' hr => ?_
   obtain ⟨rfl, R'', rfl⟩ := hr
   simp -implicitDefEqProofs (disch := omega) [-getElem?_pos]
   rw [hsrt]
   exact .finS _ ⟨os.set p (prs C s9'), tk⟩ ⟨rfl, rfl⟩ rec_le (low_set2 (hlow _ _ _))
  | none =>
   have hpr : prs C s5 = .cells [.v (.sl (some 4) false (C.L.map encK)), .v (.int .i64 s5.i), .v (.int .i64 C.E), .v .inil] := by rw [prs, hbad]; rfl
   simp only [hpr] at m5 t6 h1 ⊢
   simp -implicitDefEqProofs (disch := omega) [-getElem?_pos, zOb]
   refine (t6 _).mono fun r σ' hr => ?_
   obtain ⟨rfl, rfl⟩ := hr
   cases hs6 : sees C s5 0 [44] with
   | false =>
    rw [if_neg (by rintro ⟨_, h⟩; rw [hs6] at h; cases h)] at hF
    simp only [hs6, Bool.false_eq_true, if_false, hpr]
    simp -implicitDefEqProofs (disch := omega) [-getElem?_pos]
    rw [hF]
    dsimp only
    generalize hst9 : mustP C [125] s5 = s9' at *
    have hIo := k_OrderH (A := os.set p (prs C s9') ++ [zOb]) (R := R') (tk := tk) (hd := hd') (l := l ++ [⟨q, t9, [], .mk k9 p9 n9 s9 t9' ls9 ns9 l9⟩]) (by
     have : (os.set p (prs C s9') ++ [zOb]).length = os.length + 1 := by simp
     rw [this]
     refine h1.mono fun i ob hbi hob => ?_
     simp only [List.append_assoc, List.cons_append, List.nil_append]
     rw [List.getElem?_append_right (by simp; omega), List.length_set] at hob ⊢
     exact hob) (by simp only [List.length_append, List.length_singleton]; omega)
    simp only [List.append_assoc, List.cons_append, List.nil_append] at hIo
    simp only [zOb] at m5 hIo
    refine (m5 _).mono fun r σ' hr => ?_
    obtain ⟨rfl, rfl⟩ := hr
    simp -implicitDefEqProofs (disch := omega) [-getElem?_pos]
    refine hIo.mono fun r σ' hr => ?_
    obtain ⟨rfl, R'', rfl⟩ := hr
    simp -implicitDefEqProofs (disch := omega) [-getElem?_pos]
    rw [hsrt]
    exact .finS _ ⟨os.set p (prs C s9'), tk⟩ ⟨rfl, rfl⟩ rec_le (low_set2 (hlow _ _ _))
   | true =>
    rw [if_pos ⟨hbad, hs6⟩] at hF
    simp only [hs6, if_true]
    simp -implicitDefEqProofs (disch := omega) [-getElem?_pos, zOb]
    have hq5 := hr5 hbad
    have hp5 := rem_pos (hin6 hs6)
    have o6 := o5.trans (Fwd.adv (hin6 hs6))
    exact ⟨⟨f, ⟨l ++ [Itm.mk q t9 [] (.mk k9 p9 n9 s9 t9' ls9 ns9 l9)], advP s5⟩, hd', R'⟩, ⟨hF, by dsimp only; omega, fun _ => by rw [rem_adv]; dsimp only; omega, o6.ok ok, Nat.lt_of_le_of_lt o6.le hM, h1.tail0, by dsimp only; rw [List.length_append, List.length_singleton]; omega⟩, by dsimp only; omega, .eq2 (by simp [zOb]) (by simp)⟩
def BCt (C : PC) (M : Nat) (f : Int → PSt → RE) : Prop := ∀ (at_ : Int) (p : Nat) (st : PSt) (σ : Sg), OkP C st → rem C st < M → σ.objs[p]? = some (prs C st) →
  ACalls Tryz.prog 210 [.ptr p 0, .v (.int .i64 at_)] σ fun r σ' => r = .v (encE (f at_ st).e) ∧ σ' = ⟨σ.objs.set p (prs C (f at_ st).st), σ.toks⟩
theorem k_PrimP {C : PC} {M : Nat} {pe prim : PF} (he : PCt C 52 M pe) (hbr : BCt C M (bracesP C pe prim)) (hon : On C pe) : PCt C 209 (M + 1) (primF C pe prim) := by
 intro p st σ ok hM hp
 refine pset hp fun os tk hl => ?_
 clear hp σ
 have kp := fun r => k_Place (C := C) (st := st) (p := p) (σ := ⟨os.set p (prs C st) ++ r, tk⟩) (by simp [hl]) ok
 have ka := fun r => k_Ahead (C := C) (st := st) (p := p) (k := 0) (n := 0) (σ := ⟨os.set p (prs C st) ++ r, tk⟩) (by simp [hl]) ok rfl (by omega)
 have kt := fun s r => k_Takes (C := C) (st := st) (p := p) (s := s) (σ := ⟨os.set p (prs C st) ++ r, tk⟩) (by simp [hl]) ok
 have ke := fun st r (ok : OkP C st) (hM : rem C st < M) => he p st ⟨os.set p (prs C st) ++ r, tk⟩ ok hM (by simp [hl])
 have kb := fun q st r (ok : OkP C st) (hM : rem C st < M) => hbr q p st ⟨os.set p (prs C st) ++ r, tk⟩ ok hM (by simp [hl])
 have km := fun st s r (ok : OkP C st) => k_Must (C := C) (st := st) (p := p) (s := s) (σ := ⟨os.set p (prs C st) ++ r, tk⟩) (by simp [hl]) ok
 have kf := fun q r => k_Fail (C := C) (st := st) (p := p) (q := q) (σ := ⟨os.set p (prs C st) ++ r, tk⟩) (by simp [hl])
 have hlow := fun st n k => prs_low (C := C) (st := st) (n := n) (k := k)
 simp only [set_app_set hl] at kt ke kb km kf
 unfold primF
 have kt1 := kt wRead
 have kt2 := kt [40]
 have kt3 := kt [123]
 unfold takeP at kt1 kt2 kt3
 unfold encK at ka
 have hpa := fun h => (Fwd.adv (C := C) (st := st) h)
 have hin0 := fun h => ahd_in (C := C) (st := st) h
 obtain ⟨T, hT⟩ : ∃ T, T = ahd C st 0 := ⟨_, rfl⟩
 rw [← hT] at ka hin0 ⊢
 dsimp only
 by_cases h4 : T.k = 4
 ·rw [if_pos h4]
  have hin := hin0 (by rw [h4]; decide)
  have hpq : ∃ q, q = placeP C st := ⟨_, rfl⟩
  obtain ⟨q, hq⟩ := hpq
  rw [← hq] at kp ⊢
  obtain ⟨i, bad⟩ := st
  have hlw := fun n k => hlow (advP ⟨i, bad⟩) n k
  have hi := ok.i
  have hl9 := ok.l
  clear kt1 kt2 kt3 kt ke kb km kf hpa hin0 hT hq
  unfold prs advP at *
  dsimp only at *
  generalize errP bad = E at *
  refine acalls_fit Tryz.func209 (by kernel_rfl) c209 rfl (by simp [a209]) fun hf => ?_
  clear hf
  simp -implicitDefEqProofs (disch := omega) [-getElem?_pos, a209]
  refine (kp _).then fun r hr => ?_
  subst hr
  simp -implicitDefEqProofs (disch := omega) [-getElem?_pos]
  refine (ka _).then fun r hr => ?_
  subst hr
  simp -implicitDefEqProofs (disch := omega) [-getElem?_pos, h4]
  exact .finS _ ⟨_, tk⟩ ⟨rfl, rfl⟩ (ex_le leaf_le).d (low_set2 (hlw _ _))
 rw [if_neg h4]
 by_cases h5 : T.k = 5
 ·rw [if_pos h5]
  have hin := hin0 (by rw [h5]; decide)
  have hpq : ∃ q, q = placeP C st := ⟨_, rfl⟩
  obtain ⟨q, hq⟩ := hpq
  rw [← hq] at kp ⊢
  obtain ⟨i, bad⟩ := st
  have hlw := fun n k => hlow (advP ⟨i, bad⟩) n k
  have hi := ok.i
  have hl9 := ok.l
  clear kt1 kt2 kt3 kt ke kb km kf hpa hin0 hT hq
  unfold prs advP at *
  dsimp only at *
  generalize errP bad = E at *
  refine acalls_fit Tryz.func209 (by kernel_rfl) c209 rfl (by simp [a209]) fun hf => ?_
  clear hf
  simp -implicitDefEqProofs (disch := omega) [-getElem?_pos, a209]
  refine (kp _).then fun r hr => ?_
  subst hr
  simp -implicitDefEqProofs (disch := omega) [-getElem?_pos]
  refine (ka _).then fun r hr => ?_
  subst hr
  simp -implicitDefEqProofs (disch := omega) [-getElem?_pos, h4, h5]
  exact .finS _ ⟨_, tk⟩ ⟨rfl, rfl⟩ (ex_le leaf_le).d (low_set2 (hlw _ _))
 rw [if_neg h5]
 by_cases h1 : T.k = 1
 ·rw [if_pos h1]
  have hin := hin0 (by rw [h1]; decide)
  have hpq : ∃ q, q = placeP C st := ⟨_, rfl⟩
  obtain ⟨q, hq⟩ := hpq
  rw [← hq] at kp ⊢
  obtain ⟨i, bad⟩ := st
  have hlw := fun n k => hlow (advP ⟨i, bad⟩) n k
  have hi := ok.i
  have hl9 := ok.l
  clear kt1 kt2 kt3 kt ke kb km kf hpa hin0 hT hq
  unfold prs advP at *
  dsimp only at *
  generalize errP bad = E at *
  refine acalls_fit Tryz.func209 (by kernel_rfl) c209 rfl (by simp [a209]) fun hf => ?_
  clear hf
  simp -implicitDefEqProofs (disch := omega) [-getElem?_pos, a209]
  refine (kp _).then fun r hr => ?_
  subst hr
  simp -implicitDefEqProofs (disch := omega) [-getElem?_pos]
  refine (ka _).then fun r hr => ?_
  subst hr
  simp -implicitDefEqProofs (disch := omega) [-getElem?_pos, h4, h5, h1]
  exact .finS _ ⟨_, tk⟩ ⟨rfl, rfl⟩ (ex_le leaf_le).d (low_set2 (hlw _ _))
 rw [if_neg h1]
 generalize placeP C st = q at *
 cases s1 : sees C st 0 wRead with
 | true =>
  simp only [s1, if_true] at kt1 ⊢
  refine acalls_fit Tryz.func209 (by kernel_rfl) c209 rfl (by simp [a209]) fun hf => ?_
  clear hf
  simp -implicitDefEqProofs (disch := omega) [-getElem?_pos, a209]
  refine (kp _).then fun r hr => ?_
  subst hr
  simp -implicitDefEqProofs (disch := omega) [-getElem?_pos]
  refine (ka _).then fun r hr => ?_
  subst hr
  simp -implicitDefEqProofs (disch := omega) [-getElem?_pos, h4, h5, h1]
  refine (kt1 _).mono fun r σ' hr => ?_
  obtain ⟨rfl, rfl⟩ := hr
  simp -implicitDefEqProofs (disch := omega) [-getElem?_pos]
  exact .finS _ ⟨_, tk⟩ ⟨rfl, rfl⟩ (ex_le leaf_le).d (low_set2 (hlow _ _ _))
 | false =>
 simp only [s1, Bool.false_eq_true, if_false] at kt1 ⊢
 cases s2 : sees C st 0 [40] with
 | true =>
  simp only [s2, if_true] at kt2 ⊢
  have hin := sees_in s2
  have hra : rem C (advP st) = rem C st - 1 := rem_adv
  have hpos := rem_pos hin
  have e1 := fun r => ke (advP st) r ((hpa hin).ok ok) (by omega)
  have o1 := (hpa hin).trans (hon (advP st))
  generalize (pe (advP st)).e = a at *
  generalize (pe (advP st)).st = st1 at *
  have m1 := fun r => km st1 [41] r (o1.ok ok)
  generalize mustP C [41] st1 = st2 at *
  cases a with
  | mk k9 p9 n9 s9 t9 ls9 ns9 l9 =>
  rw [encE_mk] at e1 ⊢
  refine acalls_fit Tryz.func209 (by kernel_rfl) c209 rfl (by simp [a209]) fun hf => ?_
  clear hf
  simp -implicitDefEqProofs (disch := omega) [-getElem?_pos, a209]
  refine (kp _).then fun r hr => ?_
  subst hr
  simp -implicitDefEqProofs (disch := omega) [-getElem?_pos]
  refine (ka _).then fun r hr => ?_
  subst hr
  simp -implicitDefEqProofs (disch := omega) [-getElem?_pos, h4, h5, h1]
  refine (kt1 _).mono fun r σ' hr => ?_
  obtain ⟨rfl, rfl⟩ := hr
  simp -implicitDefEqProofs (disch := omega) [-getElem?_pos]
  refine (kt2 _).mono fun r σ' hr => ?_
  obtain ⟨rfl, rfl⟩ := hr
  simp -implicitDefEqProofs (disch := omega) [-getElem?_pos]
  refine (e1 _).mono fun r σ' hr => ?_
  obtain ⟨rfl, rfl⟩ := hr
  simp -implicitDefEqProofs (disch := omega) [-getElem?_pos]
  refine (m1 _).mono fun r σ' hr => ?_
  obtain ⟨rfl, rfl⟩ := hr
  simp -implicitDefEqProofs (disch := omega) [-getElem?_pos]
  exact .finS _ ⟨_, tk⟩ ⟨rfl, rfl⟩ (.refl _) (low_set2 (hlow _ _ _))
 | false =>
 simp only [s2, Bool.false_eq_true, if_false] at kt2 ⊢
 cases s3 : sees C st 0 [123] with
 | true =>
  simp only [s3, if_true] at kt3 ⊢
  have hin := sees_in s3
  have hra : rem C (advP st) = rem C st - 1 := rem_adv
  have hpos := rem_pos hin
  have e1 := fun r => kb q (advP st) r ((hpa hin).ok ok) (by omega)
  generalize (bracesP C pe prim q (advP st)).e = a at *
  generalize (bracesP C pe prim q (advP st)).st = st1 at *
  cases a with
  | mk k9 p9 n9 s9 t9 ls9 ns9 l9 =>
  rw [encE_mk] at e1 ⊢
  refine acalls_fit Tryz.func209 (by kernel_rfl) c209 rfl (by simp [a209]) fun hf => ?_
  clear hf
  simp -implicitDefEqProofs (disch := omega) [-getElem?_pos, a209]
  refine (kp _).then fun r hr => ?_
  subst hr
  simp -implicitDefEqProofs (disch := omega) [-getElem?_pos]
  refine (ka _).then fun r hr => ?_
  subst hr
  simp -implicitDefEqProofs (disch := omega) [-getElem?_pos, h4, h5, h1]
  refine (kt1 _).mono fun r σ' hr => ?_
  obtain ⟨rfl, rfl⟩ := hr
  simp -implicitDefEqProofs (disch := omega) [-getElem?_pos]
  refine (kt2 _).mono fun r σ' hr => ?_
  obtain ⟨rfl, rfl⟩ := hr
  simp -implicitDefEqProofs (disch := omega) [-getElem?_pos]
  refine (kt3 _).mono fun r σ' hr => ?_
  obtain ⟨rfl, rfl⟩ := hr
  simp -implicitDefEqProofs (disch := omega) [-getElem?_pos]
  refine (e1 _).mono fun r σ' hr => ?_
  obtain ⟨rfl, rfl⟩ := hr
  simp -implicitDefEqProofs (disch := omega) [-getElem?_pos]
  exact .finS _ ⟨_, tk⟩ ⟨rfl, rfl⟩ (.refl _) (low_set2 (hlow _ _ _))
 | false =>
  simp only [s3, Bool.false_eq_true, if_false] at kt3 ⊢
  have kf := kf q
  refine acalls_fit Tryz.func209 (by kernel_rfl) c209 rfl (by simp [a209]) fun hf => ?_
  clear hf
  simp -implicitDefEqProofs (disch := omega) [-getElem?_pos, a209]
  refine (kp _).then fun r hr => ?_
  subst hr
  simp -implicitDefEqProofs (disch := omega) [-getElem?_pos]
  refine (ka _).then fun r hr => ?_
  subst hr
  simp -implicitDefEqProofs (disch := omega) [-getElem?_pos, h4, h5, h1]
  refine (kt1 _).mono fun r σ' hr => ?_
  obtain ⟨rfl, rfl⟩ := hr
  simp -implicitDefEqProofs (disch := omega) [-getElem?_pos]
  refine (kt2 _).mono fun r σ' hr => ?_
  obtain ⟨rfl, rfl⟩ := hr
  simp -implicitDefEqProofs (disch := omega) [-getElem?_pos]
  refine (kt3 _).mono fun r σ' hr => ?_
  obtain ⟨rfl, rfl⟩ := hr
  simp -implicitDefEqProofs (disch := omega) [-getElem?_pos]
  refine (kp _).then fun r hr => ?_
  subst hr
  simp -implicitDefEqProofs (disch := omega) [-getElem?_pos]
  refine (kf _).mono fun r σ' hr => ?_
  obtain ⟨rfl, rfl⟩ := hr
  simp -implicitDefEqProofs (disch := omega) [-getElem?_pos]
  exact .finS _ ⟨_, tk⟩ ⟨rfl, rfl⟩ (ex_le leaf_le).d (low_set2 (hlow _ _ _))
theorem k_pP {C : PC} (hsrt : C.srt = sortI) : ∀ n, PCt C 52 n (pP C n).e ∧ PCt C 209 n (pP C n).r
 | 0 => ⟨fun _ _ _ _ h => absurd h (Nat.not_lt_zero _), fun _ _ _ _ h => absurd h (Nat.not_lt_zero _)⟩
 | n + 1 => by
  obtain ⟨ie, ir⟩ := k_pP hsrt n
  obtain ⟨oe, orr⟩ := on_pP (C := C) n
  have hb : BCt C n (bracesP C (pP C n).e (pP C n).r) := fun at_ p st σ ok hM hp => k_BracesP hsrt ie ir oe orr at_ p st σ ok hM hp
  have hr := k_PrimP ie hb oe
  have hor := on_prim oe orr
  have hpo := k_Post hr hor
  have hpre := k_Pre hpo hor
  have happ := k_App hpre hpo hor (takes_prim oe orr)
  have hcmp := k_Cmp (k_Sum (k_Mul happ hor) hor) hor
  refine ⟨k_ExprA ie oe (k_MatchP hsrt ie oe) fun p st σ ok hM hp => k_Set hcmp hor _ p st σ ?_ ok hM hp, hr⟩
  unfold rem
  split <;> omega
theorem tok_name {b : Str} {i : Nat} {c : UInt8} {t : Tk} {to : Nat} (h : oneL b i c = .tok t to) (hk : t.k = 1 ∨ t.k = 3) : (lowB c = true ∨ uppB c = true) ∧ ∃ q, t.s = passS q b i ∧ to = spanE q b i := by
 unfold oneL at h
 split at h
 ·rename_i hl
  unfold nameN at h
  split at h
  ·cases h
  ·cases h
   exact ⟨.inl hl, _, rfl, rfl⟩
 ·split at h
  ·rename_i hu
   unfold nameN at h
   split at h
   ·cases h
   ·cases h
    exact ⟨.inr hu, _, rfl, rfl⟩
  ·split at h
   ·unfold numN at h
    split at h
    ·cases h
    ·cases h
     rcases hk with hk | hk <;> (dsimp only at hk; omega)
   ·split at h
    ·cases ht : textL (b.drop (i + 1)) (i + 1) [] with
     | bad q => rw [ht] at h; cases h
     | ok s e =>
      rw [ht] at h
      unfold textN at h
      dsimp only at h
      split at h
      ·cases h
      ·cases h
       rcases hk with hk | hk <;> (dsimp only at hk; omega)
    ·unfold signN at h
     split at h
     ·cases h
     ·cases h
      rcases hk with hk | hk <;> (dsimp only at hk; omega)
def Runs : Str → Nat → List Tk → Prop
 | b, i, [] => b[spanE blaB b i]? = none
 | b, i, t :: r => ∃ c to, b[spanE blaB b i]? = some c ∧ oneL b (spanE blaB b i) c = .tok t to ∧ Runs b to r
theorem cutF_runs {b : Str} : ∀ (f i : Nat) (acc l : List Tk), cutF f b i acc = .ok l → ∃ r, l = acc ++ r ∧ Runs b i r
 | 0, i, acc, l, h => by cases h
 | f + 1, i, acc, l, h => by
  rw [cutF] at h
  cases hc : b[spanE blaB b i]? with
  | none => rw [hc] at h; cases h; exact ⟨[], by simp, hc⟩
  | some c =>
   rw [hc] at h
   dsimp only at h
   cases ho : oneL b (spanE blaB b i) c with
   | bad q => rw [ho] at h; cases h
   | tok t to =>
    rw [ho] at h
    obtain ⟨r, hr, hR⟩ := cutF_runs f to _ l h
    exact ⟨t :: r, by rw [hr]; simp, c, to, hc, ho, hR⟩
def isR (s : Str) (k : Int) : Bool := match s with
 | [] => false
 | c :: r => if 20 < (c :: r).length then false else match oneL (c :: r) 0 c with
  | .tok t to => decide (to = (c :: r).length) && decide (t.k = k)
  | .bad _ => false
theorem passS_full {q : UInt8 → Bool} {b : Str} (h : (passS q b 0).length = b.length) : passS q b 0 = b := by
 have h1 : (passS q b 0) <+: b := by
  unfold passS
  rw [List.drop_zero]
  exact List.takeWhile_prefix q
 exact h1.eq_of_length h
theorem isL_imp {s : Str} {k : Int} (hk : k = 1 ∨ k = 3) (h : isL s k = true) : isR s k = true := by
 unfold isL at h
 split at h
 ·cases h
 rename_i hl
 split at h
 ·rename_i t hcut
  simp only [Bool.and_eq_true, decide_eq_true_eq] at h
  obtain ⟨htk, hts⟩ := h
  unfold cutL at hcut
  split at hcut
  ·cases hcut
  obtain ⟨r, hr, hR⟩ := cutF_runs _ 0 [] _ hcut
  rw [List.nil_append] at hr
  subst hr
  obtain ⟨c, to, hc, ho, _⟩ := hR
  obtain ⟨hlet, q, hp, hspan⟩ := tok_name ho (by rw [htk]; exact hk)
  have hlt := (List.getElem?_eq_some_iff.1 hc).1
  have hle : (passS q s (spanE blaB s 0)).length ≤ s.length - spanE blaB s 0 := by
   unfold passS
   have h1 : ((s.drop (spanE blaB s 0)).takeWhile q).length ≤ (s.drop (spanE blaB s 0)).length := (List.takeWhile_prefix q).length_le
   rw [List.length_drop] at h1
   exact h1
  rw [← hp, hts] at hle
  have hj : spanE blaB s 0 = 0 := by omega
  rw [hj] at hc ho hp hspan
  have hto : to = s.length := by
   have h1 : spanE q s 0 = 0 + (passS q s 0).length := rfl
   rw [← hp, hts] at h1
   omega
  cases s with
  | nil => simp at hlt
  | cons c' r =>
   have hcc : c' = c := Option.some.inj hc
   subst hcc
   unfold isR
   dsimp only
   rw [if_neg hl, ho]
   simp [hto, htk]
 ·cases h
set_option maxHeartbeats 1000000
theorem form_none {k : Int} (h : ∀ j ∈ formsT.map (·.1), k ≠ j) : formT k = none := by
 unfold formT
 generalize formsT = l at h
 induction l with
 | nil => rfl
 | cons q l ih =>
  obtain ⟨a, f⟩ := q
  have h1 : ¬ k = a := h a (by simp)
  have hb : (k == a) = false := by simp [h1]
  rw [List.lookup_cons, hb]
  exact ih fun j hj => h j (by simp at hj ⊢; exact .inr hj)
theorem nsz_mem {l : List Str} {s : Str} (h : s ∈ l) : s.length + 1 ≤ nsz l := by
 induction l with
 | nil => cases h
 | cons x l ih =>
  simp only [nsz]
  rcases List.mem_cons.1 h with rfl | h
  ·omega
  ·have := ih h; omega
end Go.Proofs.YtpdeaekmgljeaaaGreatDoor
namespace Go.Proofs.YtpdeaekmgljeaaaGreatDoor
open Go.Shelf
def fmtLays_ren : Go.Shelf.Ren := ⟨fun | 173 => 35 | 246 => 61 | 283 => 97 | 284 => 98 | 285 => 99 | 286 => 100 | 129 => 137 | 317 => 136 | 318 => 138 | 319 => 139 | 320 => 140 | 337 => 175 | 338 => 176 | n => n, fun | 2 => 2 | 3 => 3 | 9 => 9 | 4 => 4 | 171 => 136 | 0 => 0 | 53 => 137 | 37 => 48 | 5 => 5 | 173 => 140 | 212 => 186 | 51 => 187 | 20 => 20 | 213 => 188 | 46 => 164 | 232 => 235 | 233 => 236 | n => n, fun | 17 => 1 | 18 => 3 | 19 => 4 | n => n⟩
theorem fmtLays : Go.Proofs.LaysM.n173 Tryz.prog fmtLays_ren := {
 mixed := by kernel_rfl
 f129 := Tryz.func137.trans (congrArg some (by kernel_rfl))
 f173 := Tryz.func35.trans (congrArg some (by kernel_rfl))
 f246 := Tryz.func61.trans (congrArg some (by kernel_rfl))
 f283 := Tryz.func97.trans (congrArg some (by kernel_rfl))
 f284 := Tryz.func98.trans (congrArg some (by kernel_rfl))
 f285 := Tryz.func99.trans (congrArg some (by kernel_rfl))
 f286 := Tryz.func100.trans (congrArg some (by kernel_rfl))
 f317 := Tryz.func136.trans (congrArg some (by kernel_rfl))
 f318 := Tryz.func138.trans (congrArg some (by kernel_rfl))
 f319 := Tryz.func139.trans (congrArg some (by kernel_rfl))
 f320 := Tryz.func140.trans (congrArg some (by kernel_rfl))
 f337 := Tryz.func175.trans (congrArg some (by kernel_rfl))
 f338 := Tryz.func176.trans (congrArg some (by kernel_rfl))
 t0 := Tryz.underlying0
 a0 := Tryz.isAgg0
 z0 := Tryz.sizeOf0
 v0 := Tryz.zeroValue0
 t2 := Tryz.underlying2
 a2 := Tryz.isAgg2
 z2 := Tryz.sizeOf2
 v2 := Tryz.zeroValue2
 t3 := Tryz.underlying3
 a3 := Tryz.isAgg3
 z3 := Tryz.sizeOf3
 v3 := Tryz.zeroValue3
 t4 := Tryz.underlying4
 a4 := Tryz.isAgg4
 z4 := Tryz.sizeOf4
 v4 := Tryz.zeroValue4
 t5 := Tryz.underlying5
 a5 := Tryz.isAgg5
 z5 := Tryz.sizeOf5
 v5 := Tryz.zeroValue5
 t9 := Tryz.underlying9
 a9 := Tryz.isAgg9
 z9 := Tryz.sizeOf9
 v9 := Tryz.zeroValue9
 t20 := Tryz.underlying20
 a20 := Tryz.isAgg20
 z20 := Tryz.sizeOf20
 v20 := Tryz.zeroValue20
 t37 := Tryz.underlying48
 a37 := Tryz.isAgg48
 z37 := Tryz.sizeOf48
 v37 := Tryz.zeroValue48
 t46 := Tryz.underlying164
 a46 := Tryz.isAgg164
 z46 := Tryz.sizeOf164
 v46 := Tryz.zeroValue164
 t51 := Tryz.underlying187
 a51 := Tryz.isAgg187
 z51 := Tryz.sizeOf187
 v51 := Tryz.zeroValue187
 t53 := Tryz.underlying137
 a53 := Tryz.isAgg137
 z53 := Tryz.sizeOf137
 v53 := Tryz.zeroValue137
 t171 := Tryz.underlying136
 a171 := Tryz.isAgg136
 z171 := Tryz.sizeOf136
 v171 := Tryz.zeroValue136
 t173 := Tryz.underlying140
 a173 := Tryz.isAgg140
 z173 := Tryz.sizeOf140
 v173 := Tryz.zeroValue140
 t212 := Tryz.underlying186
 a212 := Tryz.isAgg186
 z212 := Tryz.sizeOf186
 v212 := Tryz.zeroValue186
 t213 := Tryz.underlying188
 a213 := Tryz.isAgg188
 z213 := Tryz.sizeOf188
 t232 := Tryz.underlying235
 a232 := Tryz.isAgg235
 z232 := Tryz.sizeOf235
 v232 := Tryz.zeroValue235
 t233 := Tryz.underlying236
 a233 := Tryz.isAgg236
 z233 := Tryz.sizeOf236
 v233 := Tryz.zeroValue236
 g17 := by kernel_rfl
 g18 := by kernel_rfl
 g19 := by kernel_rfl
 i0 := by kernel_rfl
 i2 := by kernel_rfl
 i3 := by kernel_rfl
 i4 := by kernel_rfl
 i5 := by kernel_rfl
 i9 := by kernel_rfl
 i20 := by kernel_rfl
 i37 := by kernel_rfl
 i46 := by kernel_rfl
 i51 := by kernel_rfl
 i53 := by kernel_rfl
 i171 := by kernel_rfl
 i173 := by kernel_rfl
 i212 := by kernel_rfl
 i232 := by kernel_rfl
 i233 := by kernel_rfl
 m17 := by kernel_rfl
 m18 := by kernel_rfl
 m19 := by kernel_rfl }
def joinLays_ren : Go.Shelf.Ren := ⟨fun | 156 => 57 | 165 => 90 | 166 => 91 | 169 => 92 | 240 => 132 | 241 => 133 | 276 => 167 | 277 => 168 | n => n, fun | 31 => 22 | 9 => 9 | 3 => 3 | 4 => 4 | 0 => 0 | 20 => 20 | 72 => 129 | 76 => 130 | 70 => 127 | 37 => 48 | 75 => 29 | 127 => 180 | 164 => 90 | 5 => 5 | 80 => 132 | n => n, fun | n => n⟩
theorem joinLays : Go.Proofs.Lays.n156 Tryz.prog joinLays_ren := {
 mixed := by kernel_rfl
 f156 := Tryz.func57.trans (congrArg some (by kernel_rfl))
 f165 := Tryz.func90.trans (congrArg some (by kernel_rfl))
 f166 := Tryz.func91.trans (congrArg some (by kernel_rfl))
 f169 := Tryz.func92.trans (congrArg some (by kernel_rfl))
 f240 := Tryz.func132.trans (congrArg some (by kernel_rfl))
 f241 := Tryz.func133.trans (congrArg some (by kernel_rfl))
 f276 := Tryz.func167.trans (congrArg some (by kernel_rfl))
 f277 := Tryz.func168.trans (congrArg some (by kernel_rfl))
 t0 := Tryz.underlying0
 a0 := Tryz.isAgg0
 z0 := Tryz.sizeOf0
 v0 := Tryz.zeroValue0
 t3 := Tryz.underlying3
 a3 := Tryz.isAgg3
 z3 := Tryz.sizeOf3
 v3 := Tryz.zeroValue3
 t4 := Tryz.underlying4
 a4 := Tryz.isAgg4
 z4 := Tryz.sizeOf4
 v4 := Tryz.zeroValue4
 t9 := Tryz.underlying9
 a9 := Tryz.isAgg9
 z9 := Tryz.sizeOf9
 v9 := Tryz.zeroValue9
 t20 := Tryz.underlying20
 a20 := Tryz.isAgg20
 z20 := Tryz.sizeOf20
 v20 := Tryz.zeroValue20
 t31 := Tryz.underlying22
 a31 := Tryz.isAgg22
 z31 := Tryz.sizeOf22
 v31 := Tryz.zeroValue22
 t37 := Tryz.underlying48
 a37 := Tryz.isAgg48
 z37 := Tryz.sizeOf48
 v37 := Tryz.zeroValue48
 t70 := Tryz.underlying127
 a70 := Tryz.isAgg127
 z70 := Tryz.sizeOf127
 v70 := Tryz.zeroValue127
 t72 := Tryz.underlying129
 a72 := Tryz.isAgg129
 z72 := Tryz.sizeOf129
 v72 := Tryz.zeroValue129
 t75 := Tryz.underlying29
 a75 := Tryz.isAgg29
 z75 := Tryz.sizeOf29
 v75 := Tryz.zeroValue29
 t76 := Tryz.underlying130
 a76 := Tryz.isAgg130
 z76 := Tryz.sizeOf130
 v76 := Tryz.zeroValue130
 t127 := Tryz.underlying180
 a127 := Tryz.isAgg180
 z127 := Tryz.sizeOf180
 v127 := Tryz.zeroValue180
 t164 := Tryz.underlying90
 a164 := Tryz.isAgg90
 z164 := Tryz.sizeOf90
 v164 := Tryz.zeroValue90 }
theorem joinExtra : Builder.Extra Tryz.prog joinLays_ren := {
 sizeBuilder := by kernel_rfl
 liesBuilder := by kernel_rfl
 t5 := Tryz.underlying5
 a5 := Tryz.isAgg5
 z5 := Tryz.sizeOf5
 v5 := Tryz.zeroValue5
 infoByte := by kernel_rfl
 cellsByte := by kernel_rfl
 sizeByte := by kernel_rfl
 neB5 := by decide }
end Go.Proofs.YtpdeaekmgljeaaaGreatDoor
namespace Go.Proofs.YtpdeaekmgljeaaaGreatDoor
open Go Go.Abs Go.RowKit
theorem grown_inv {σ : Sg} {m : Gh} {w : World} (h : Go.Abs.Inv σ m w) (k : Nat) (os : Array Obj) : Go.Abs.Inv σ m (Go.Sort.grow (w.drewN k) os) ∧ Ext m w m (Go.Sort.grow (w.drewN k) os) := by
 have hb : ∀ c, c < w.heap.size → (Go.Sort.grow (w.drewN k) os).heap[c]? = w.heap[c]? := fun c hc => Array.getElem?_append_left hc
 have e : Ext m w m (Go.Sort.grow (w.drewN k) os) :=
  ⟨rfl, rfl, rfl, by show w.heap.size ≤ (w.heap ++ os).size; simp, fun _ _ h => .inl h, fun _ tk h => ⟨tk, h, rfl, Nat.le_refl _, fun _ => rfl⟩, fun c off f => ⟨cell?_of_heap (hb c f.1), f.2⟩, fun c hc hn => ⟨hb c hc, hn⟩⟩
 refine ⟨⟨h.lobj, h.ltok, h.nodup, fun o ob c ho hc => (h.ob o ob c ho hc).mono e (hb c (h.lt_obj (Gh.mem_objb.2 (List.mem_of_getElem? hc)))), h.gone, fun tk htk => ?_, h.glob.mono e⟩, e⟩
 obtain ⟨h1, h2, h3, h4⟩ := h.tk tk htk
 refine ⟨h1, h2, h3, fun c hc => ?_⟩
 obtain ⟨us, ty, h5, h6⟩ := h4 c hc
 exact ⟨us, ty, (hb c (Array.getElem?_eq_some_iff.1 h5).1).trans h5, h6⟩
theorem tab_is {σ : Sg} {m : Gh} {w : World} (h : Inv σ m w) : Lib.TabIs Tryz.prog w "internal/strconv.uint64pow10" .u64 Lib.pow10Tab := by
 obtain ⟨⟨cs, ty, fr, hh, rfl⟩, _⟩ := h.glob _ (List.mem_cons_of_mem _ List.mem_cons_self)
 unfold Lib.TabIs World.var?
 rw [show Tryz.prog.globalNamed "internal/strconv.uint64pow10" = some 1 by kernel_rfl]
 simp only [Option.bind_some]
 rw [hh]
 rfl
theorem k_Fmt {n : Int} {σ : Sg} : ACalls Tryz.prog 35 [.v (.int .i64 n), .v (.int .i64 10)] σ fun r σ' => (r = .v (.str (Lib.itoa n)) ∧ (Lib.itoa n).length ≤ 21) ∧ σ' = σ := by
 refine ⟨⟨_, Tryz.func35, by kernel_rfl, by kernel_rfl⟩, fun m w us hI hl hr => ?_⟩
 match us, hl with
 | [u, u2], _ =>
  have h0 := (hr 0 _ _ rfl rfl).v_inv
  have h2 := (hr 1 _ _ rfl rfl).v_inv
  cases h2
  cases h0 with
  | int _ _ hn =>
    have hn1 : -9223372036854775808 ≤ n := hn.1
    have hn2 : n ≤ 9223372036854775807 := hn.2
    refine (Go.Proofs.Any.strconv_FormatInt_10 fmtLays n hn1 hn2 w (tab_is hI)).mono fun e w' ⟨he, k, os, hw⟩ => ?_
    subst hw
    obtain ⟨hI', hX⟩ := grown_inv hI k os
    have hlen := Lib.itoa_length_le n hn1 hn2
    exact ⟨_, _, σ, m, he, ⟨⟨rfl, hlen⟩, rfl⟩, hI', hX, .v _ _ (.str _ (by unfold maxLen; omega))⟩
theorem k_Join {L : List Str} {sep : Str} {σ : Sg} (hn : L.length ≤ 1048576) (hj : (Lib.join L sep).length ≤ 100000000) : ACalls Tryz.prog 57 [.v (vS L), .v (.str sep)] σ fun r σ' => r = .v (.str (Lib.join L sep)) ∧ σ' = σ := by
 refine ⟨⟨_, Tryz.func57, by kernel_rfl, by kernel_rfl⟩, fun m w us hI hl hr => ?_⟩
 match us, hl with
 | [u1, u2], _ =>
  have g1 := (hr 0 _ _ rfl rfl).v_inv
  have g2 := (hr 1 _ _ rfl rfl).v_inv
  clear hr
  cases g2 with
  | str _ hsep =>
  obtain ⟨a, cap, rfl, hc1, hc2, _, _, _, hor⟩ := g1.sl_inv
  clear g1
  rw [List.length_map] at hc1 ⊢
  cases L with
  | nil =>
   refine (Go.Proofs.Any.strings_Join_none joinLays joinExtra a cap ⟨sep.toArray⟩ w).mono fun e w' ⟨he, hw⟩ => ?_
   subst hw
   exact ⟨_, _, σ, m, he, ⟨rfl, rfl⟩, hI, .refl _ _, .v _ _ (.str [] (by simp [maxLen]))⟩
  | cons x L0 =>
  rcases hor with ⟨h, _⟩ | ⟨b, off, us, rfl, hcell, hrep⟩
  ·simp at h
  obtain ⟨L, hL⟩ : ∃ L, L = x :: L0 := ⟨_, rfl⟩
  rw [← hL] at hn hj hc1 hcell hrep ⊢
  rw [flat_str] at hrep
  rw [List.length_map] at hcell
  have hpos : 0 < L.length := by rw [hL]; simp
  have hb : b < w.heap.size := (hcell 0 (by simpa [shn] using hpos)).2.1
  have hmap : (L.map fun s : Str => (⟨s.toArray⟩ : ByteArray)).map (·.data.toList) = L := by
   rw [List.map_map]
   have : ((fun x : ByteArray => x.data.toList) ∘ fun s : Str => (⟨s.toArray⟩ : ByteArray)) = id := by
    funext s; simp
   rw [this, List.map_id]
  have hcs : ∀ (j : Nat) y, (L.map fun s : Str => (⟨s.toArray⟩ : ByteArray))[j]? = some y → w.cell? ⟨b, off + j, none⟩ = some (.string y) := by
   intro j y hy
   rw [List.getElem?_map] at hy
   cases hx : L[j]? with
   | none => rw [hx] at hy; cases hy
   | some z =>
    rw [hx] at hy
    cases hy
    have hj := (List.getElem?_eq_some_iff.1 hx).1
    have h3 := hrep j (.str z) (by rw [List.getElem?_map, hx]; rfl)
    have h4 := (hcell j (by simpa [shn] using hj)).1
    rw [h4]
    generalize us j = u at h3
    cases h3
    rfl
  have hlen : (L.map fun s : Str => (⟨s.toArray⟩ : ByteArray)).length = L.length := List.length_map _
  have h := Go.Proofs.Any.strings_Join joinLays joinExtra b off cap (L.map fun s : Str => (⟨s.toArray⟩ : ByteArray)) ⟨sep.toArray⟩ w hcs hb (by rw [hlen]; omega) (by rw [hlen]; exact hc1) (by rw [hmap]; show (Lib.join L sep.toArray.toList).length ≤ _; simp only []; omega)
  rw [hlen, hmap] at h
  refine h.mono fun e w' ⟨he, hw⟩ => ?_
  obtain ⟨hI', hX⟩ := Inv.below hI hw
  exact ⟨_, _, σ, m, he, ⟨rfl, rfl⟩, hI', hX, .v _ _ (.str _ (by unfold maxLen; omega))⟩
end Go.Proofs.YtpdeaekmgljeaaaGreatDoor
