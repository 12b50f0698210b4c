/-
  The code of a function, in the small language; what its weakest precondition says holds of its runs. (Own work; seat-independent.)
-/
import Derived.Test.YtpdeaekmgljeaaaGreatDoorN05
set_option linter.unusedVariables false
set_option linter.unusedSimpArgs false
namespace Go.Abs
open Go
def quietAt (P : Program) (ops : Array Oper) (ms : List Nat) (i : Nat) : Bool := match (ops[i]?).bind (compT P · ms []) with
 | some op => op.quiet
 | none => false
def grow (ops : Array Oper) : Nat → List (List Nat) → List (List Nat)
 | 0, T => T
 | k + 1, T => grow ops k (T ++ [((bindsOf ops T.length).flatMap fun e => e :: T.getD e []).eraseDups])
def canonGo (ops : Array Oper) (qt : Nat → Bool) : Nat → List Nat → List Nat
 | 0, _ => []
 | f + 1, L => match (List.range ops.size).filter fun i => !L.contains i && (bindsOf ops i).all L.contains with
  | [] => []
  | i :: rd => match (i :: rd).find? qt with
   | some j => j :: canonGo ops qt f (j :: L)
   | none => i :: canonGo ops qt f (i :: L)
def anyRO (P : Program) (nt : Nat) (ops : Array Oper) (ms : List Nat) (T : List (List Nat)) : List Nat → List Nat → Option (List (Nat × RO × Bool))
 | _, [] => some []
 | bef, i :: l => match ops[i]?, anyRO P nt ops ms T (i :: bef) l with
  | some o, some rs => (match compRO P nt ops ms o with
   | some r => some ((i, r, bef.all (T.getD i []).contains) :: rs)
   | none => none)
  | _, _ => none
def compAny (P : Program) (nt : Nat) (ops : Array Oper) (ms : List Nat := []) : Option (List (Nat × RO × Bool)) :=
 match anyRO P nt ops ms (grow ops ops.size []) [] (canonGo ops (quietAt P ops ms) ops.size []) with
 | some L => if (okT ops (grow ops ops.size []) && okPairs ops (grow ops ops.size []) L && (L.length == ops.size) && ((List.range ops.size).all fun i => L.any fun x => x.1 == i) && P.follows .mixedOrders) = true then some L else none
 | none => none
def altOk (P : Program) (ops : Array Oper) (T : List (List Nat)) (q : List (Nat × RO × Bool)) (c al : Nat × RO × Bool) (l r : List (Nat × RO × Bool)) : Bool :=
 okT ops T && okPairs ops T (q ++ c :: (l ++ r)) && okPairs ops T (q ++ (l ++ al :: r)) && ((q ++ c :: (l ++ al :: r)).length == ops.size) && ((List.range ops.size).all fun i => (q ++ c :: (l ++ al :: r)).any fun x => x.1 == i) &&
  !c.2.1.op.quiet && !(c.1 == al.1) && !(bindsOf ops c.1).contains al.1 && P.follows .mixedOrders
def marks (T : List (List Nat)) (c : Nat × RO × Bool) (q : List (Nat × RO × Bool)) : Bool := q.all fun x => (T.getD c.1 []).contains x.1 || x.2.1.op.blind
def altTry (P : Program) (ops : Array Oper) (T : List (List Nat)) (L : List (Nat × RO × Bool)) (i j : Nat) : Option (List (Nat × RO × Bool) × (Nat × RO × Bool) × (Nat × RO × Bool) × List (Nat × RO × Bool) × List (Nat × RO × Bool)) :=
 match L.drop i with
 | c :: l => (match l.drop j with
  | al :: r => if altOk P ops T (L.take i) (c.1, c.2.1, marks T c (L.take i)) (al.1, al.2.1, marks T al (L.take i ++ l.take j)) (l.take j) r = true then some (L.take i, (c.1, c.2.1, marks T c (L.take i)), (al.1, al.2.1, marks T al (L.take i ++ l.take j)), l.take j, r) else none
  | [] => none)
 | [] => none
def altPairs (L : List (Nat × RO × Bool)) : List (Nat × Nat) :=
 ((List.range L.length).filter fun i => match L[i]? with | some x => !x.2.1.op.quiet | none => false).flatMap fun i =>
  ((List.range (L.length - (i + 1))).filter fun j => match L[i + 1 + j]? with | some x => !x.2.1.op.quiet | none => false).map fun j => (i, j)
def compAlt (P : Program) (nt : Nat) (ops : Array Oper) (ms : List Nat := []) : Option (List (Nat × RO × Bool) × (Nat × RO × Bool) × (Nat × RO × Bool) × List (Nat × RO × Bool) × List (Nat × RO × Bool)) :=
 match anyRO P nt ops ms (grow ops ops.size []) [] (canonGo ops (quietAt P ops ms) ops.size []) with
 | some L => (altPairs L).findSome? fun x => altTry P ops (grow ops ops.size []) L x.1 x.2
 | none => none
theorem compAlt_spec {P : Program} {nt : Nat} {ops : Array Oper} {ms : List Nat} {q : List (Nat × RO × Bool)} {c al : Nat × RO × Bool} {l r : List (Nat × RO × Bool)} (h : compAlt P nt ops ms = some (q, c, al, l, r)) :
  ∃ L b b', anyRO P nt ops ms (grow ops ops.size []) [] (canonGo ops (quietAt P ops ms) ops.size []) = some L ∧ L = q ++ (c.1, c.2.1, b) :: (l ++ (al.1, al.2.1, b') :: r) ∧ altOk P ops (grow ops ops.size []) q c al l r = true := by
 unfold compAlt at h
 split at h
 ·rename_i L hL
  obtain ⟨⟨i, j⟩, _, h⟩ := List.exists_of_findSome?_eq_some h
  unfold altTry at h
  split at h
  ·rename_i c0 l0 hc
   split at h
   ·rename_i al0 r0 ha
    split at h
    ·rename_i hok
     simp only [Option.some.injEq, Prod.mk.injEq] at h
     obtain ⟨rfl, rfl, rfl, rfl, rfl⟩ := h
     refine ⟨L, c0.2.2, al0.2.2, hL, ?_, hok⟩
     have h1 := List.take_append_drop i L
     have h2 := List.take_append_drop j l0
     rw [hc] at h1
     rw [ha] at h2
     rw [h2]
     exact h1.symm
    ·cases h
   ·cases h
  ·cases h
 ·cases h
theorem anyRO_spec {P : Program} {nt : Nat} {ops : Array Oper} {ms : List Nat} {T : List (List Nat)} : ∀ (l bef : List Nat) (L : List (Nat × RO × Bool)), anyRO P nt ops ms T bef l = some L →
  ∀ x ∈ L, x.1 < ops.size ∧ ∀ o, ops[x.1]? = some o → compRO P nt ops ms o = some x.2.1
 | [], bef, L, h => by cases h; simp
 | i :: l, bef, L, h => by
  simp only [anyRO] at h
  split at h
  ·rename_i o rs ho hrs
   split at h
   ·rename_i r hr
    cases h
    intro x hx
    rcases List.mem_cons.1 hx with rfl | hx
    ·exact ⟨(Array.getElem?_eq_some_iff.1 ho).1, fun o' ho' => by rw [ho] at ho'; cases ho'; exact hr⟩
    ·exact anyRO_spec l _ rs hrs x hx
   ·cases h
  ·cases h
def stopX : X := .reg [] [⟨none, none, .ext .stop []⟩]
theorem W_stop {P : Program} {B : Sg} {Q : XE → St → Prop} {st : St} (h : W P B stopX Q st) : False := by
 simp only [stopX, W, WO, WOp, WX] at h
def compC (P : Program) (nt : Nat) (ms keep : List Nat) : Code → Option X
 | .skip => some .skip
 | .label _ => some .skip
 | .region _ ops false => (match compROs P nt ops ms ops.toList with
  | some rs => some (.reg (outsOf keep rs) rs)
  | none => none)
 | .region _ ops true => (match compAny P nt ops ms with
  | some L => some (.any (outsOf keep (L.map (·.2.1))) (L.map (·.2)))
  | none => (match compAlt P nt ops ms with
   | some (q, c, al, l, r) => some (.alt (outsOf keep ((q ++ c :: (l ++ al :: r)).map (·.2.1))) (q.map (·.2)) c.2 al.2 (l.map (·.2)) (r.map (·.2)))
   | none => some stopX))
 | .seq a b => (match compC P nt ms keep a, compC P nt ms keep b with
  | some x, some y => some (.seq x y)
  | _, _ => none)
 | .cond c a b => (match cE c, compC P nt ms keep a, compC P nt ms keep b with
  | some e, some x, some y => some (.cond e x y)
  | _, _, _ => none)
 | .block id a => (match compC P nt ms keep a with
  | some x => some (.block id x)
  | none => none)
 | .loop a => (match compC P nt ms keep a with
  | some x => some (.loop x)
  | none => none)
 | .exit id => some (.exit id)
 | .ret => some .ret
 | _ => none
inductive RV where
 | tmp (t : Nat)
 | cell (a : Nat) (sh : Sh)
 deriving Inhabited
def resTmps (P : Program) : List ResultVar → Option (List RV)
 | [] => some []
 | .tmp t :: r => (match resTmps P r with
  | some l => some (.tmp t :: l)
  | none => none)
 | .cell a t :: r => (match tsh P t, resTmps P r with
  | some sh, some l => some (.cell a sh :: l)
  | _, _ => none)
structure AFun where
 nt : Nat
 res : List RV
 body : X
 deriving Inhabited
def compF (P : Program) (keep : List Nat) (fn : Func) (ms : List Nat := []) : Option AFun :=
 match fn.body, resTmps P fn.results.toList with
 | some c, some res => (match compC P fn.ntmps ms keep c with
  | some x => some ⟨fn.ntmps, res, x⟩
  | none => none)
 | _, _ => none
section
variable {P : Program}
def toX : XE → Exit
 | .normal => .normal
 | .exit id => .exit id
 | .ret => .ret
def Behind (nt : Nat) (keep : List Nat) (m0 : Gh) (w0 : World) (Q : XE → St → Prop) : Exit → Act → World → Prop := fun e a w =>
 a.defers = [] ∧ a.tmps.size = nt ∧ ∃ e' st m, e = toX e' ∧ Q e' st ∧ Inv st.σ m w ∧ EnvR m w st.env a.tmps ∧ Ext m0 w0 m w ∧ ∀ n, n ∉ keep → look st.env n = .junk
theorem min_of {p : Nat → Prop} (h : ∃ n, p n) : ∃ n, p n ∧ ∀ k, p k → n ≤ k := by
 obtain ⟨n, hn⟩ := h
 induction n using Nat.strongRecOn with
 | _ n ih =>
  by_cases hk : ∃ k, k < n ∧ p k
  ·obtain ⟨k, hk, hp⟩ := hk; exact ih k hk hp
  ·exact ⟨n, hn, fun k hp => Nat.le_of_not_lt fun hlt => hk ⟨k, hlt, hp⟩⟩
theorem outs_look {s s' : List (Nat × D)} (h : ∀ n, look s n = look s' n) : ∀ {os : List Nat} {env : List (Nat × D)}, outs os s env = outs os s' env
 | [], env => rfl
 | o :: os, env => by simp only [outs]; rw [h o, outs_look h]
theorem mem_dstsOf {n : Nat} : ∀ {rs : List RO}, n ∈ dstsOf rs ↔ ∃ r ∈ rs, r.dst = some n
 | [] => by simp [dstsOf]
 | r :: rs => by
  have ih := mem_dstsOf (n := n) (rs := rs)
  simp only [dstsOf]
  cases hd : r.dst with
  | none => simp [ih, hd]
  | some d => simp [ih, hd, eq_comm]
theorem wp_loop_rank {c : Code} {Q : Exit → Act → World → Prop} {a : Act} {w : World} (I : Nat → Act → World → Prop) (h0 : ∃ n, I n a w)
  (round : ∀ n a w, I n a w → c.wp P (Exit.then (fun a' w' => ∃ n', n' < n ∧ I n' a' w') Q) a w) : (Code.loop c).wp P Q a w := by
 classical
 let μ : Act → World → Nat := fun a w => if h : ∃ n, I n a w then Classical.choose (min_of h) else 0
 have hμ : ∀ a w (h : ∃ n, I n a w), I (μ a w) a w ∧ ∀ k, I k a w → μ a w ≤ k := by
  intro a w h
  have := Classical.choose_spec (min_of h)
  simp only [μ, dif_pos h]
  exact this
 refine wp_loop (fun a w => ∃ n, I n a w) μ h0 fun a w h => ?_
 refine wp_mono (round _ a w (hμ a w h).1) fun e a' w' he => ?_
 cases e with
 | normal =>
  obtain ⟨n', hlt, hI⟩ := he
  exact ⟨⟨n', hI⟩, Nat.lt_of_le_of_lt ((hμ a' w' ⟨n', hI⟩).2 n' hI) hlt⟩
 | _ => exact he
theorem W_sound {nt : Nat} {ms keep : List Nat} {B : Sg} {m0 : Gh} {w0 : World} (hB : Inv B m0 w0) : ∀ (c : Code) (x : X), compC P nt ms keep c = some x →
  ∀ (Q : XE → St → Prop) (st : St) (m : Gh) (w : World) (a : Act), Ext m0 w0 m w → Inv st.σ m w → EnvR m w st.env a.tmps → a.tmps.size = nt → a.defers = [] → (∀ n, n ∉ keep → look st.env n = .junk) → W P B x Q st → c.wp P (Behind nt keep m0 w0 Q) a w := by
 intro c
 induction c with
 | skip => intro x hx Q st m w a hX hI hE hsz hdf hdom hW; cases hx; exact wp_skip ⟨hdf, hsz, .normal, st, m, rfl, hW, hI, hE, hX, hdom⟩
 | label l => intro x hx Q st m w a hX hI hE hsz hdf hdom hW; cases hx; exact wp_label ⟨hdf, hsz, .normal, st, m, rfl, hW, hI, hE, hX, hdom⟩
 | exit id => intro x hx Q st m w a hX hI hE hsz hdf hdom hW; cases hx; exact wp_exit ⟨hdf, hsz, .exit id, st, m, rfl, hW, hI, hE, hX, hdom⟩
 | ret => intro x hx Q st m w a hX hI hE hsz hdf hdom hW; cases hx; exact wp_ret ⟨hdf, hsz, .ret, st, m, rfl, hW, hI, hE, hX, hdom⟩
 | region id ops draw =>
  intro x hx Q st m w a hX hI hE hsz hdf hdom hW
  cases draw with
  | true =>
   simp only [compC] at hx
   split at hx
   ·rename_i L hL
    cases hx
    simp only [W] at hW
    unfold compAny at hL
    split at hL
    ·rename_i L' hL'
     split at hL
     ·rename_i hok
      have e : L' = L := Option.some.inj hL
      subst e
      simp only [Bool.and_eq_true, beq_iff_eq] at hok
      obtain ⟨⟨⟨⟨hT, hP⟩, hlen⟩, hall⟩, hmix⟩ := hok
      have hXd : Ext m w m { w with drawn := w.drawn + 1 } :=
       ⟨rfl, rfl, rfl, Nat.le_refl _, fun _ _ h => .inl h, fun _ tk h => ⟨tk, h, rfl, Nat.le_refl _, fun _ => rfl⟩, fun _ _ h => ⟨rfl, h.2⟩, fun _ _ h => ⟨rfl, h⟩⟩
      have hId : Inv st.σ m { w with drawn := w.drawn + 1 } :=
       ⟨hI.lobj, hI.ltok, hI.nodup, fun o ob b h1 h2 => (hI.ob o ob b h1 h2).mono hXd rfl, hI.gone, fun tk h => hI.tk tk h, hI.glob.mono hXd⟩
      refine wp_region_any hmix (any_sound (nt := nt) hT ops.size L' _ hlen.symm (by simp) (anyRO_spec _ _ _ hL') hP (fun i hi => ?_) (fun j hj hjl => ?_) [] st.σ m _ a st.env _ ?_ hId (hE.mono hXd) hsz hdf hW
       fun s' σ' m' w' a' hK hI' hE' hsz' hdf' hX' hsame => ?_)
      ·have h1 : (Array.replicate ops.size false).getD i true = false := by simp [Array.getD, hi]
       refine ⟨fun _ => ?_, fun _ => h1⟩
       obtain ⟨x, hx, hxi⟩ := List.any_eq_true.1 (List.all_eq_true.1 hall i (List.mem_range.2 hi))
       exact ⟨x, hx, by simpa using hxi⟩
      ·simp [Array.getD, hj] at hjl
      ·intro s1 s2 σ' hs hh
       refine cast ?_ hh
       rw [outs_look hs]
      ·refine ⟨hdf', hsz', .normal, _, m', rfl, hK, hI', ?_, hX.trans (hXd.trans hX'), fun n hn => ?_⟩
       ·refine outs_rep hE' _ _ fun n => ?_
        by_cases hk : n ∈ keep
        ·by_cases hd : n ∈ dstsOf (L'.map (·.2.1))
         ·exact .inr ((mem_outsOf _).2 ⟨hd, hk⟩)
         ·left
          rw [hsame n fun x hx e => hd (mem_dstsOf.2 ⟨x.2.1, List.mem_map.2 ⟨x, hx, rfl⟩, e⟩)]
          exact (hE n).mono (hXd.trans hX')
        ·left; rw [hdom n hk]; exact .junk _
       ·show look (outs _ _ _) n = _
        rw [outs_dom _ _ fun h => hn ((mem_outsOf _).1 h).2]
        exact hdom n hn
     ·cases hL
    ·cases hL
   ·split at hx
    ·rename_i q c al l r hA
     cases hx
     simp only [W] at hW
     obtain ⟨L', b, b', hL', hLe, hok⟩ := compAlt_spec hA
     simp only [altOk, Bool.and_eq_true, beq_iff_eq, Bool.not_eq_true', beq_eq_false_iff_ne, ne_eq] at hok
     obtain ⟨⟨⟨⟨⟨⟨⟨⟨hT, hP1⟩, hP2⟩, hlen⟩, hall⟩, hcq⟩, hca⟩, hcb⟩, hmix⟩ := hok
     have hXd : Ext m w m { w with drawn := w.drawn + 1 } :=
      ⟨rfl, rfl, rfl, Nat.le_refl _, fun _ _ h => .inl h, fun _ tk h => ⟨tk, h, rfl, Nat.le_refl _, fun _ => rfl⟩, fun _ _ h => ⟨rfl, h.2⟩, fun _ _ h => ⟨rfl, h⟩⟩
     have hId : Inv st.σ m { w with drawn := w.drawn + 1 } :=
      ⟨hI.lobj, hI.ltok, hI.nodup, fun o ob b h1 h2 => (hI.ob o ob b h1 h2).mono hXd rfl, hI.gone, fun tk h => hI.tk tk h, hI.glob.mono hXd⟩
     have hC : ∀ x ∈ q ++ c :: (l ++ al :: r), x.1 < ops.size ∧ ∀ o, ops[x.1]? = some o → compRO P nt ops ms o = some x.2.1 := by
      intro x hx
      have hsp := anyRO_spec _ _ _ hL'
      by_cases hxc : x = c
      ·subst hxc
       exact hsp (x.1, x.2.1, b) (by rw [hLe]; simp)
      by_cases hxa : x = al
      ·subst hxa
       exact hsp (x.1, x.2.1, b') (by rw [hLe]; simp)
      ·refine hsp x ?_
       rw [hLe]
       simp only [List.mem_append, List.mem_cons] at hx ⊢
       rcases hx with hx | hx | hx | hx | hx
       ·exact .inl hx
       ·exact absurd hx hxc
       ·exact .inr (.inr (.inl hx))
       ·exact absurd hx hxa
       ·exact .inr (.inr (.inr (.inr hx)))
     refine wp_region_any hmix (any_alt (nt := nt) hT ops.size q c al l r _ (by rw [← hlen]; simp; omega) (by simp) hC hP1 hP2 hcq hca (by simpa using hcb) (fun i hi => ?_) (fun j hj hjl => ?_) [] st.σ m _ a st.env (fun s σ' => Q .normal ⟨outs _ s st.env, σ'⟩) ?_ hId (hE.mono hXd) hsz hdf hW
      fun s' σ' m' w' a' hK hI' hE' hsz' hdf' hX' hsame => ?_)
     ·have h1 : (Array.replicate ops.size false).getD i true = false := by simp [Array.getD, hi]
      refine ⟨fun _ => ?_, fun _ => h1⟩
      obtain ⟨x, hx, hxi⟩ := List.any_eq_true.1 (List.all_eq_true.1 hall i (List.mem_range.2 hi))
      exact ⟨x, hx, by simpa using hxi⟩
     ·simp [Array.getD, hj] at hjl
     ·intro s1 s2 σ' hs hh
      refine cast ?_ hh
      rw [outs_look hs]
     ·refine ⟨hdf', hsz', .normal, _, m', rfl, hK, hI', ?_, hX.trans (hXd.trans hX'), fun n hn => ?_⟩
      ·refine outs_rep hE' _ _ fun n => ?_
       by_cases hk : n ∈ keep
       ·by_cases hd : n ∈ dstsOf ((q ++ c :: (l ++ al :: r)).map (·.2.1))
        ·exact .inr ((mem_outsOf _).2 ⟨hd, hk⟩)
        ·left
         rw [hsame n fun x hx e => hd (mem_dstsOf.2 ⟨x.2.1, List.mem_map.2 ⟨x, hx, rfl⟩, e⟩)]
         exact (hE n).mono (hXd.trans hX')
       ·left; rw [hdom n hk]; exact .junk _
      ·show look (outs _ _ _) n = _
       rw [outs_dom _ _ fun h => hn ((mem_outsOf _).1 h).2]
       exact hdom n hn
    ·cases hx
     exact (W_stop hW).elim
  | false =>
   simp only [compC] at hx
   split at hx
   ·rename_i rs hrs
    cases hx
    simp only [W] at hW
    refine wp_region ?_
    rw [List.range_eq_range', ← Array.length_toList]
    refine WO_sound (nt := nt) ops.toList rs [] rfl hrs st.σ m w a st.env _ hI hE hsz hdf hW fun s' σ' m' w' a' hK hI' hE' hsz' hdf' hX' hsame => ?_
    refine ⟨hdf', hsz', .normal, _, m', rfl, hK, hI', ?_, hX.trans hX', fun n hn => ?_⟩
    ·refine outs_rep hE' _ _ fun n => ?_
     by_cases hk : n ∈ keep
     ·by_cases hd : n ∈ dstsOf rs
      ·exact .inr ((mem_outsOf rs).2 ⟨hd, hk⟩)
      ·left; rw [hsame n hd]; exact (hE n).mono hX'
     ·left; rw [hdom n hk]; exact .junk _
    ·show look (outs _ _ _) n = _
     rw [outs_dom _ _ fun h => hn ((mem_outsOf rs).1 h).2]
     exact hdom n hn
   ·cases hx
 | seq c1 c2 ih1 ih2 =>
  intro x hx Q st m w a hX hI hE hsz hdf hdom hW
  simp only [compC] at hx
  split at hx
  ·rename_i x1 x2 h1 h2
   cases hx
   simp only [W] at hW
   refine wp_seq (wp_mono (ih1 x1 h1 _ st m w a hX hI hE hsz hdf hdom hW) fun e a' w' he => ?_)
   obtain ⟨hdf', hsz', e', st', m', rfl, hQ, hI', hE', hX', hdom'⟩ := he
   cases e' with
   | normal => exact ih2 x2 h2 Q st' m' w' a' hX' hI' hE' hsz' hdf' hdom' hQ
   | exit id => exact ⟨hdf', hsz', .exit id, st', m', rfl, hQ, hI', hE', hX', hdom'⟩
   | ret => exact ⟨hdf', hsz', .ret, st', m', rfl, hQ, hI', hE', hX', hdom'⟩
  ·cases hx
 | cond c a1 b1 iha ihb =>
  intro x hx Q st m w a hX hI hE hsz hdf hdom hW
  simp only [compC] at hx
  split at hx
  ·rename_i e xa xb he hxa hxb
   cases hx
   simp only [W] at hW
   split at hW
   ·rename_i p hp
    have hr := ev_rep hE he
    rw [hp] at hr
    exact wp_cond_split hr.bool_inv (fun ht => iha xa hxa Q st m w a hX hI hE hsz hdf hdom (hW.1 ht)) (fun hf => ihb xb hxb Q st m w a hX hI hE hsz hdf hdom (hW.2 hf))
   ·exact hW.elim
  ·cases hx
 | block id c ih =>
  intro x hx Q st m w a hX hI hE hsz hdf hdom hW
  simp only [compC] at hx
  split at hx
  ·rename_i x1 h1
   cases hx
   simp only [W] at hW
   refine wp_block (wp_mono (ih x1 h1 _ st m w a hX hI hE hsz hdf hdom hW) fun e a' w' he => ?_)
   obtain ⟨hdf', hsz', e', st', m', rfl, hQ, hI', hE', hX', hdom'⟩ := he
   cases e' with
   | normal => exact ⟨hdf', hsz', .normal, st', m', rfl, hQ, hI', hE', hX', hdom'⟩
   | ret => exact ⟨hdf', hsz', .ret, st', m', rfl, hQ, hI', hE', hX', hdom'⟩
   | exit j =>
    simp only [toX, Exit.inBlock]
    dsimp only at hQ
    split at hQ
    ·rename_i hj; rw [if_pos hj]; exact ⟨hdf', hsz', .normal, st', m', rfl, hQ, hI', hE', hX', hdom'⟩
    ·rename_i hj; rw [if_neg hj]; exact ⟨hdf', hsz', .exit j, st', m', rfl, hQ, hI', hE', hX', hdom'⟩
  ·cases hx
 | loop c ih =>
  intro x hx Q st m w a hX hI hE hsz hdf hdom hW
  simp only [compC] at hx
  split at hx
  ·rename_i x1 h1
   cases hx
   simp only [W] at hW
   obtain ⟨I, ⟨n0, st0, hweak, hI0⟩, hround⟩ := hW
   refine wp_loop_rank (fun n a w => a.defers = [] ∧ a.tmps.size = nt ∧ ∃ st m, I n st ∧ Inv st.σ m w ∧ EnvR m w st.env a.tmps ∧ Ext m0 w0 m w ∧ ∀ n, n ∉ keep → look st.env n = .junk) ?_ fun n a w hh => ?_
   ·obtain ⟨m', hI', hE', hX'⟩ := hweak.2 m0 m w0 w a.tmps hB hX hI hE
    exact ⟨n0, hdf, hsz, st0, m', hI0, hI', hE', hX', fun n hn => hweak.1 n (hdom n hn)⟩
   ·obtain ⟨hdf, hsz, st', m, hin, hI, hE, hX, hdom⟩ := hh
    refine wp_mono (ih x1 h1 _ st' m w a hX hI hE hsz hdf hdom (hround n st' hin)) fun e a' w' he => ?_
    obtain ⟨hdf', hsz', e', st2, m', rfl, hQ, hI', hE', hX', hdom'⟩ := he
    cases e' with
    | normal =>
     obtain ⟨n', st3, hlt, hweak, hin'⟩ := hQ
     obtain ⟨m'', hI'', hE'', hX''⟩ := hweak.2 m0 m' w0 w' a'.tmps hB hX' hI' hE'
     exact ⟨n', hlt, hdf', hsz', st3, m'', hin', hI'', hE'', hX'', fun n hn => hweak.1 n (hdom' n hn)⟩
    | exit id => exact ⟨hdf', hsz', .exit id, st2, m', rfl, hQ, hI', hE', hX', hdom'⟩
    | ret => exact ⟨hdf', hsz', .ret, st2, m', rfl, hQ, hI', hE', hX', hdom'⟩
  ·cases hx
 | _ => intro x hx; simp [compC] at hx
end
end Go.Abs
namespace Go.Abs
open Go
def rvD (env : List (Nat × D)) (σ : Sg) : RV → Option D
 | .tmp t => some (look env t)
 | .cell a sh => match look env a with
  | .ptr o off => (match σ.objs[o]? with
   | some (.cells cs) => (match sh with
    | none => cs[off]?
    | some n => if 0 < n ∧ off + n ≤ cs.length then some (mkAgg ((cs.drop off).take n)) else none)
   | _ => none)
  | _ => none
def rvDs (env : List (Nat × D)) (σ : Sg) : List RV → Option (List D)
 | [] => some []
 | r :: rs => match rvD env σ r, rvDs env σ rs with
  | some d, some ds => some (d :: ds)
  | _, _ => none
def tupD : List D → D
 | [d] => d
 | ds => .tup ds
def WeakR (B : Sg) (r : D) (σ : Sg) (r' : D) (σ' : Sg) : Prop :=
 ∀ (m0 m : Gh) (w0 w : World) (u : Value), Inv B m0 w0 → Ext m0 w0 m w → Inv σ m w → RepD m w r u →
  ∃ m', Inv σ' m' w ∧ RepD m' w r' u ∧ Ext m0 w0 m' w
theorem WeakR.refl (B : Sg) (r : D) (σ : Sg) : WeakR B r σ r σ := fun m0 m w0 w u _ hX hI hR => ⟨m, hI, hR, hX⟩
def PostR (B : Sg) (res : List RV) (R : D → Sg → Prop) (st : St) : Prop :=
 match rvDs st.env st.σ res with
 | some ds => ∃ r' σ', WeakR B (tupD ds) st.σ r' σ' ∧ R r' σ'
 | none => False
def Post (B : Sg) (res : List RV) (R : D → Sg → Prop) : XE → St → Prop
 | .exit _, _ => False
 | .normal, st => PostR B res R st
 | .ret, st => PostR B res R st
def envOf : Nat → List D → List (Nat × D)
 | _, [] => []
 | k, d :: ds => (k, d) :: envOf (k + 1) ds
theorem look_envOf : ∀ (ds : List D) (k n : Nat), look (envOf k ds) n = if k ≤ n then ds.getD (n - k) .junk else .junk
 | [], k, n => by simp [envOf, look]
 | d :: ds, k, n => by
  simp only [envOf, look]
  rw [look_envOf ds (k + 1) n]
  by_cases h : k = n
  ·subst h; simp
  ·rw [if_neg h]
   by_cases h2 : k ≤ n
   ·rw [if_pos (by omega), if_pos h2, show n - k = (n - (k + 1)) + 1 by omega]
    simp
   ·rw [if_neg (by omega), if_neg h2]
def paramsIn (keep : List Nat) (n : Nat) : Bool := (List.range n).all keep.contains
def tupV : List Value → Value
 | [v] => v
 | vs => .tuple vs.toArray
theorem tup_rep {m : Gh} {w : World} {ds : List D} {vs : List Value} (hl : ds.length = vs.length) (h : ∀ (i : Nat) d u, ds[i]? = some d → vs[i]? = some u → RepD m w d u) : RepD m w (tupD ds) (tupV vs) := by
 cases ds with
 | nil => cases vs with
  | nil => exact .tup [] [] rfl (by simp)
  | cons v vs => simp at hl
 | cons d ds =>
  cases vs with
  | nil => simp at hl
  | cons v vs =>
   cases ds with
   | nil =>
    cases vs with
    | nil => exact h 0 d v rfl rfl
    | cons v' vs => simp at hl
   | cons d' ds =>
    cases vs with
    | nil => simp at hl
    | cons v' vs => exact .tup _ _ hl h
theorem run_loadVar_ptr {P : Program} {σ : Sg} {m : Gh} {w : World} (hI : Inv σ m w) {t : TypeId} {d : TypeDesc} {i : TypeInfo} {sh : Sh} (hu : P.underlying t = some d) (hi : P.info? t = some i)
  (hsh : match (generalizing := false) sh with | none => d.isRow = false | some n => d.isRow = true ∧ i.size = n) {o off b : Nat} (hb : m.at o b) {cs : List D} (hcs : σ.objs[o]? = some (.cells cs)) {r : D}
  (hr : (match (generalizing := false) sh with | none => cs[off]? | some n => if 0 < n ∧ off + n ≤ cs.length then some (mkAgg ((cs.drop off).take n)) else none) = some r) :
  ∃ v, (loadVar t ⟨b, off, none⟩).run P w = .ok v w ∧ RepD m w r v := by
 have hne : Ob.cells cs ≠ .cells [] := by
  cases sh with
  | none => exact ne_nil_of_get hr
  | some n =>
   dsimp only at hr
   split at hr
   ·exact ne_nil_of_lt (i := off) (by omega)
   ·cases hr
 have hb := hI.live hcs hne hb
 obtain ⟨us, ty, hh, hsz, hob, _⟩ := hI.ob o _ b hcs hb
 have hcell : ∀ j u, us[j]? = some u → w.cell? ⟨b, j, none⟩ = some u := fun j u hj => by rw [cell_of_row w b j us ty (0, 0) hh]; exact hj
 have key : ∀ u, (Instr.loadAt t (.pointer (some ⟨b, off, none⟩))).run P w = .ok u w → (loadVar t ⟨b, off, none⟩).run P w = .ok u w := by
  intro u h
  simpa [Instr.loadAt, Instr.sureAddr] using h
 cases sh with
 | none =>
  dsimp only at hr
  have hlt : off < us.size := Nat.lt_of_lt_of_le (List.getElem?_eq_some_iff.1 hr).1 hsz
  have hu0 : us[off]? = some us[off] := Array.getElem?_eq_getElem hlt
  have hcell0 : ∀ j, j < shn none → w.cell? ⟨b, off + j, none⟩ = some us[off] := by
   intro j hj
   have hj0 : j = 0 := by simp only [shn] at hj; omega
   subst hj0
   exact hcell off _ hu0
  have hrun := run_load_sh (P := P) (w := w) hu hi (b := b) (p := off) (us := fun j => us[off]) (sh := none) hsh hcell0
  exact ⟨_, key _ hrun, (hob off r _ hr hu0).1⟩
 | some n =>
  dsimp only at hr
  split at hr
  ·rename_i hle
   cases hr
   have hrun := run_load_sh (P := P) (w := w) hu hi (b := b) (p := off) (us := fun j => us.getD (off + j) undef) (sh := some n) hsh (fun j hj => by
    have hlt : off + j < us.size := by simp only [shn] at hj; omega
    refine hcell _ _ ?_
    simp [Array.getD, hlt])
   refine ⟨_, key _ hrun, mkAgg_rep (by simp; omega) (fun u huu => ?_) fun j d' u hd' huj => ?_⟩
   ·obtain ⟨j, hj, rfl⟩ := List.mem_map.1 huu
    have hjn : j < n := List.mem_range.1 hj
    have hlt : off + j < us.size := by omega
    have hlt2 : off + j < cs.length := by omega
    have := (hob (off + j) cs[off + j] us[off + j] (List.getElem?_eq_getElem hlt2) (Array.getElem?_eq_getElem hlt)).2
    simpa [Array.getD, hlt] using this
   ·rw [List.getElem?_take] at hd'
    split at hd'
    ·rename_i hlt
     rw [List.getElem?_drop] at hd'
     rw [List.getElem?_map, List.getElem?_range hlt] at huj
     cases huj
     have hlt2 : off + j < us.size := by omega
     refine (hob (off + j) d' _ hd' ?_).1
     simp [Array.getD, hlt2]
    ·cases hd'
  ·cases hr
def rvRun (tmps : Array Value) : ResultVar → Sem Value
 | .tmp t => pure (tmps.getD t undef)
 | .cell a t => do loadVar t (← asAddr (tmps.getD a undef))
theorem results_eq (fn : Func) (tmps : Array Value) : results fn tmps = (do
  let vs ← fn.results.toList.mapM (rvRun tmps)
  pure (if h : vs.toArray.size = 1 then vs.toArray[0] else .tuple vs.toArray)) := by
 have ha : fn.results = fn.results.toList.toArray := by simp
 unfold results
 conv => lhs; rw [ha]
 simp only [List.mapM_toArray, map_eq_pure_bind, bind_assoc, pure_bind]
 congr 1
theorem run_results {P : Program} {fn : Func} {res : List RV} (h : resTmps P fn.results.toList = some res) {σ : Sg} {m : Gh} {w : World} (hI : Inv σ m w) {env : List (Nat × D)} {tmps : Array Value} (hE : EnvR m w env tmps)
  {ds : List D} (hd : rvDs env σ res = some ds) : ∃ v, (results fn tmps).run P w = .ok v w ∧ RepD m w (tupD ds) v := by
 have key : ∀ (l : List ResultVar) (res : List RV) (ds : List D), resTmps P l = some res → rvDs env σ res = some ds →
   ∃ vs : List Value, (l.mapM (rvRun tmps)).run P w = .ok vs w ∧ ds.length = vs.length ∧ ∀ (i : Nat) d u, ds[i]? = some d → vs[i]? = some u → RepD m w d u := by
  intro l
  induction l with
  | nil => intro res ds h1 h2; cases h1; cases h2; exact ⟨[], by simp, rfl, by simp⟩
  | cons r l ih =>
   intro res ds h1 h2
   have fin : ∀ (rv : RV) (res' : List RV) (v : Value), resTmps P l = some res' → res = rv :: res' → (rvRun tmps r).run P w = .ok v w → (∀ d, rvD env σ rv = some d → RepD m w d v) →
     ∃ vs : List Value, ((r :: l).mapM (rvRun tmps)).run P w = .ok vs w ∧ ds.length = vs.length ∧ ∀ (i : Nat) d u, ds[i]? = some d → vs[i]? = some u → RepD m w d u := by
    rintro rv res' v hres' rfl hrun hrep
    simp only [rvDs] at h2
    split at h2
    ·rename_i d ds' hd hds'
     cases h2
     obtain ⟨vs, e1, e2, e3⟩ := ih res' ds' hres' hds'
     refine ⟨v :: vs, ?_, by simp [e2], fun i d' u h3 h4 => ?_⟩
     ·simp only [List.mapM_cons, Sem.run_bind, hrun, e1, Result.andThen_ok, Sem.run_pure]
     ·cases i with
      | zero => simp at h3 h4; subst h3 h4; exact hrep _ hd
      | succ i => simp at h3 h4; exact e3 i d' u h3 h4
    ·cases h2
   cases r with
   | tmp t =>
    simp only [resTmps] at h1
    split at h1
    ·rename_i l' hl'
     cases h1
     exact fin _ l' (tmps.getD t undef) hl' rfl rfl fun d hd => by cases hd; exact hE t
    ·cases h1
   | cell a t =>
    simp only [resTmps] at h1
    split at h1
    ·rename_i sh l' hsh hl'
     cases h1
     obtain ⟨i, dd, hi, hu, hq, _⟩ := tsh_spec hsh
     have hEa := hE a
     simp only [rvDs, rvD] at h2
     generalize hla : look env a = la at h2 hEa
     generalize htv : tmps.getD a undef = tv at hEa
     cases hEa with
     | ptr o off b hb =>
      dsimp only at h2
      cases hob : σ.objs[o]? with
      | none => simp [hob] at h2
      | some ob =>
       cases ob with
       | map es => simp [hob] at h2
       | iter _ _ _ => simp [hob] at h2
       | cells cs =>
        rw [hob] at h2
        dsimp only at h2
        split at h2
        ·rename_i d1 ds1 hd1 hds1
         obtain ⟨v, hv1, hv2⟩ := run_loadVar_ptr (P := P) hI hu hi hq hb hob hd1
         refine fin (.cell a sh) l' v hl' rfl ?_ fun d hd => ?_
         ·simp only [rvRun, htv, asAddr, Sem.run_bind, Sem.run_pure, Result.andThen_ok, hv1]
         ·simp only [rvD, hla, hob] at hd
          rw [hd1] at hd
          cases hd
          exact hv2
        ·cases h2
     | _ => simp at h2
    ·cases h1
 obtain ⟨vs, e1, e2, e3⟩ := key _ _ _ h hd
 refine ⟨tupV vs, ?_, tup_rep e2 e3⟩
 rw [results_eq]
 simp only [Sem.run_bind, e1, Result.andThen_ok, Sem.run_pure]
 cases vs with
 | nil => simp [tupV]
 | cons t ts =>
  cases ts with
  | nil => simp [tupV]
  | cons t' ts => simp [tupV]
mutual
def V.fits : V → Prop
 | .int k n => inR k n
 | .str s => s.length ≤ maxLen
 | .sl _ _ xs => xs.length ≤ maxLen ∧ V.fitsL xs
 | .agg cs => V.fitsL cs
 | .iface _ v => v.fits
 | _ => True
def V.fitsL : List V → Prop
 | [] => True
 | x :: xs => x.fits ∧ V.fitsL xs
end
def D.fits : D → Prop
 | .v x => x.fits
 | .tsl _ _ xs => xs.length ≤ maxLen ∧ V.fitsL xs
 | _ => True
def D.fitsL : List D → Prop
 | [] => True
 | d :: ds => d.fits ∧ D.fitsL ds
theorem V.fitsL_iff {xs : List V} : V.fitsL xs ↔ ∀ x ∈ xs, x.fits := by
 induction xs with
 | nil => simp [V.fitsL]
 | cons x xs ih => simp [V.fitsL, ih]
theorem V.fits_of_cells {x : V} (h : ∀ c ∈ x.cells, c.fits) : x.fits := by
 cases x with
 | agg cs => simp only [V.fits]; exact V.fitsL_iff.2 h
 | _ => exact h _ (by simp [V.cells])
theorem RepV.fits {w : World} {F : Nat → Nat → Prop} {x : V} {u : Value} (h : RepV w F x u) : x.fits := by
 induction h with
 | int k n h => exact h
 | str s h => exact h
 | slNil sh full a => simp [V.fits, V.fitsL]
 | sl sh full xs b off cap us hs h1 hl hm hf hc hr ih =>
  refine ⟨Nat.le_trans hl hm, V.fitsL_iff.2 fun x hx => V.fits_of_cells fun c hcc => ?_⟩
  obtain ⟨i, hi⟩ := List.mem_iff_getElem?.1 (List.mem_flatMap.2 ⟨x, hx, hcc⟩ : c ∈ V.flat xs)
  exact ih i c hi
 | agg cs us hl h1 hr ih =>
  refine V.fitsL_iff.2 fun c hc => ?_
  obtain ⟨i, hi⟩ := List.mem_iff_getElem?.1 hc
  have hlt : i < us.length := by rw [← hl]; exact (List.getElem?_eq_some_iff.1 hi).1
  exact ih i c us[i] hi (List.getElem?_eq_getElem hlt)
 | iface t v u _ ih => exact ih
 | _ => trivial
theorem RepD.fits {m : Gh} {w : World} {d : D} {u : Value} (h : RepD m w d u) : d.fits := by
 cases h with
 | v x u hx => exact hx.fits
 | tsl t sh xs a len cap tk hv => exact hv.fits
 | _ => trivial
theorem fitsL_of {m : Gh} {w : World} : ∀ {ds : List D} {us : List Value}, ds.length = us.length → (∀ (i : Nat) d u, ds[i]? = some d → us[i]? = some u → RepD m w d u) → D.fitsL ds
 | [], _, _, _ => trivial
 | d :: ds, [], h, _ => by simp at h
 | d :: ds, u :: us, h, hr => ⟨(hr 0 d u rfl rfl).fits, fitsL_of (by simpa using h) fun i d' u' h1 h2 => hr (i + 1) d' u' (by simpa using h1) (by simpa using h2)⟩
theorem acalls_fit {P : Program} {f : Nat} {fn : Func} {keep ms : List Nat} {af : AFun} {ds : List D} {σ : Sg} {R : D → Sg → Prop} (hf : P.funcs[f]? = some fn) (hn : (fn.name == "runtime.NumGoroutine") = false) (hc : compF P keep fn ms = some af)
  (hk : paramsIn keep ds.length = true) (hl : ds.length ≤ af.nt) (h : D.fitsL ds → W P σ af.body (Post σ af.res R) ⟨envOf 0 ds, σ⟩) : ACalls P f ds σ R := by
 unfold compF at hc
 split at hc
 ·rename_i c res hb hres
  split at hc
  ·rename_i x hx
   cases hc
   refine ⟨⟨fn, hf, by rw [hb]; rfl, hn⟩, fun m w us hI hlen hr => ?_⟩
   replace h := h (fitsL_of hlen hr)
   refine calls_of_wp hf hb ?_
   have hsz : (us.toArray ++ Array.replicate (fn.ntmps - us.toArray.size) undef).size = fn.ntmps := by simp at hl ⊢; omega
   have hE : EnvR m w (envOf 0 ds) (us.toArray ++ Array.replicate (fn.ntmps - us.toArray.size) undef) := by
    intro n
    rw [look_envOf, if_pos (Nat.zero_le _), Nat.sub_zero]
    rcases Nat.lt_or_ge n ds.length with hlt | hge
    ·have h1 : ds[n]? = some ds[n] := List.getElem?_eq_getElem hlt
     have h2 : us[n]? = some us[n] := List.getElem?_eq_getElem (by omega)
     have h3 : (us.toArray ++ Array.replicate (fn.ntmps - us.toArray.size) undef).getD n undef = us[n] := by
      rw [Array.getD_eq_getD_getElem?, Array.getElem?_append_left (by simp; omega)]
      simp [h2]
     rw [h3, List.getD_eq_getElem?_getD, h1]
     exact hr n _ _ h1 h2
    ·rw [List.getD_eq_getElem?_getD, List.getElem?_eq_none hge]
     exact .junk _
   have hdom : ∀ n, n ∉ keep → look (envOf 0 ds) n = .junk := by
    intro n hnk
    rw [look_envOf, if_pos (Nat.zero_le _), Nat.sub_zero]
    rcases Nat.lt_or_ge n ds.length with hlt | hge
    ·have := List.all_eq_true.1 hk n (List.mem_range.2 hlt)
     exact (hnk (by simpa using this)).elim
    ·rw [List.getD_eq_getElem?_getD, List.getElem?_eq_none hge]
     rfl
   refine wp_mono (W_sound (keep := keep) (m0 := m) (w0 := w) hI c x hx _ ⟨envOf 0 ds, σ⟩ m w { tmps := us.toArray ++ Array.replicate (fn.ntmps - us.toArray.size) undef, defers := [] } (.refl m w) hI hE hsz rfl hdom h) fun e a' w' he => ?_
   obtain ⟨hdf', hsz', e', st', m', rfl, hQ, hI', hE', hX', _⟩ := he
   have fin : PostR σ res R st' →
     a'.defers = [] ∧ ∃ v, (results fn a'.tmps).run P w' = .ok v w' ∧ ∃ v_1 r σ' m'_1, Ending.returned v = Ending.returned v_1 ∧ R r σ' ∧ Inv σ' m'_1 w' ∧ Ext m w m'_1 w' ∧ RepD m'_1 w' r v_1 := by
    intro hP
    unfold PostR at hP
    split at hP
    ·rename_i ds' hds'
     obtain ⟨r', σ', hweak, hR⟩ := hP
     obtain ⟨v, hv1, hv2⟩ := run_results (P := P) hres hI' hE' hds'
     obtain ⟨m'', hI'', hR'', hX''⟩ := hweak m m' w w' v hI hX' hI' hv2
     exact ⟨hdf', v, hv1, v, r', σ', m'', rfl, hR, hI'', hX'', hR''⟩
    ·exact hP.elim
   cases e' with
   | exit id => exact hQ.elim
   | normal => exact fin hQ
   | ret => exact fin hQ
  ·cases hc
 ·cases hc
mutual
def D.low (n k : Nat) : D → Prop
 | .v _ => True
 | .ptr o _ => o < n
 | .imm _ _ _ => True
 | .tsl t _ _ => t < k
 | .agg cs => D.lows n k cs
 | .fn _ cs => D.lows n k cs
 | .bfn _ d => D.low n k d
 | .iface _ d => D.low n k d
 | .tup cs => D.lows n k cs
 | .map o => o < n
 | .msl o _ _ _ _ => o < n
 | .junk => True
def D.lows (n k : Nat) : List D → Prop
 | [] => True
 | d :: ds => D.low n k d ∧ D.lows n k ds
end
def Ob.low (n k : Nat) : Ob → Prop
 | .cells cs => D.lows n k cs
 | .map es => ∀ e ∈ es, D.low n k e.2
 | .iter none _ _ => True
 | .iter (some o) _ _ => o < n
theorem D.lows_get {n k : Nat} {ds : List D} : D.lows n k ds ↔ ∀ d ∈ ds, d.low n k := by
 induction ds with
 | nil => simp [D.lows]
 | cons d ds ih => simp [D.lows, ih]
def Gh.take (m : Gh) (n k : Nat) : Gh := ⟨m.objs.take n, m.toks.take k⟩
theorem Gh.take_mut {m : Gh} {n k b off : Nat} (h : (m.take n k).mut b off) : m.mut b off := by
 rcases h with h | ⟨tk, htk, h1, h2⟩
 ·exact .inl (Gh.mem_objb.2 (List.mem_of_mem_take (Gh.mem_objb.1 h)))
 ·exact .inr ⟨tk, List.mem_of_mem_take htk, h1, h2⟩
theorem Gh.take_ownb {m : Gh} {n k b : Nat} (h : b ∈ (m.take n k).ownb) : b ∈ m.ownb := by
 obtain ⟨tk, htk, h1⟩ := Gh.mem_ownb.1 h
 exact Gh.mem_ownb.2 ⟨tk, List.mem_of_mem_take htk, h1⟩
theorem Gh.take_blocks {m : Gh} {n k b : Nat} (h : b ∈ (m.take n k).blocks) : b ∈ m.blocks := by
 rcases List.mem_append.1 h with h | h
 ·exact List.mem_append.2 (.inl (Gh.mem_objb.2 (List.mem_of_mem_take (Gh.mem_objb.1 h))))
 ·exact List.mem_append.2 (.inr (Gh.take_ownb h))
theorem fz_take {m : Gh} {w : World} {n k : Nat} (b off : Nat) (h : Fz m w b off) : w.cell? ⟨b, off, none⟩ = w.cell? ⟨b, off, none⟩ ∧ Fz (m.take n k) w b off :=
 ⟨rfl, h.1, fun hx => h.2 (Gh.take_mut hx)⟩
theorem Gh.at_take {m : Gh} {n k o b : Nat} (h : m.at o b) (ho : o < n) : (m.take n k).at o b := by
 rcases h with h | h
 ·exact .inl (by simp [Gh.take, List.getElem?_take, ho, h])
 ·exact .inr (by simp [Gh.take, List.getElem?_take, ho, h])
theorem Gh.at_lt {m : Gh} {o b : Nat} (h : m.at o b) : o < m.objs.length := by
 rcases h with h | h <;> exact (List.getElem?_eq_some_iff.1 h).1
theorem RepD.take {m : Gh} {w : World} {n k : Nat} {d : D} {u : Value} (h : RepD m w d u) : d.low n k → RepD (m.take n k) w d u := by
 induction h with
 | v x u hx => exact fun _ => .v x u (hx.mono fz_take)
 | ptr o off b hb => intro hd; simp only [D.low] at hd; exact .ptr o off b (Gh.at_take hb hd)
 | imm sh x off b base us hs h1 hc hr => exact fun _ => .imm sh x off b base us hs h1 (fun i hi => ⟨(hc i hi).1, (fz_take b _ (hc i hi).2).2⟩) (fun i c hi => (hr i c hi).mono fz_take)
 | tsl t sh xs a len cap tk hv ht hsh hle heq => intro hd; simp only [D.low] at hd; exact .tsl t sh xs a len cap tk (hv.mono fz_take) (by simp [Gh.take, List.getElem?_take, hd, ht]) hsh hle heq
 | agg cs us hl h1 _ ih => intro hd; simp only [D.low] at hd; exact .agg cs us hl h1 fun i c u hc hu => ih i c u hc hu (D.lows_get.1 hd c (List.mem_of_getElem? hc))
 | fn f caps us hl _ ih => intro hd; simp only [D.low] at hd; exact .fn f caps us hl fun i c u hc hu => ih i c u hc hu (D.lows_get.1 hd c (List.mem_of_getElem? hc))
 | bfn f d u _ ih => intro hd; simp only [D.low] at hd; exact .bfn f d u (ih hd)
 | iface t d u _ ih => intro hd; simp only [D.low] at hd; exact .iface t d u (ih hd)
 | tup ds us hl _ ih => intro hd; simp only [D.low] at hd; exact .tup ds us hl fun i c u hc hu => ih i c u hc hu (D.lows_get.1 hd c (List.mem_of_getElem? hc))
 | map o b hb => intro hd; simp only [D.low] at hd; exact .map o b (Gh.at_take hb hd)
 | msl o off len sh cp a cap ho hb hl hm hc => intro hd; simp only [D.low] at hd; exact .msl o off len sh cp a cap (by simp [Gh.take]; omega) (hb.imp (fun ⟨b, e, k⟩ => ⟨b, e, Gh.at_take k hd⟩) id) hl hm hc
 | junk u => exact fun _ => .junk u
theorem RepD.is_low {m : Gh} {w : World} {d : D} {u : Value} (h : RepD m w d u) : d.low m.objs.length m.toks.length := by
 induction h with
 | ptr o off b hb => exact Gh.at_lt hb
 | tsl t sh xs a len cap tk hv ht _ _ _ => exact (List.getElem?_eq_some_iff.1 ht).1
 | map o b hb => exact Gh.at_lt hb
 | msl o off len sh cp a cap ho => exact ho
 | agg cs us hl h1 _ ih =>
  simp only [D.low]
  refine D.lows_get.2 fun d hd => ?_
  obtain ⟨i, hi⟩ := List.mem_iff_getElem?.1 hd
  have hlt : i < us.length := by rw [← hl]; exact (List.getElem?_eq_some_iff.1 hi).1
  exact ih i d us[i] hi (List.getElem?_eq_getElem hlt)
 | fn f cs us hl _ ih =>
  simp only [D.low]
  refine D.lows_get.2 fun d hd => ?_
  obtain ⟨i, hi⟩ := List.mem_iff_getElem?.1 hd
  have hlt : i < us.length := by rw [← hl]; exact (List.getElem?_eq_some_iff.1 hi).1
  exact ih i d us[i] hi (List.getElem?_eq_getElem hlt)
 | tup cs us hl _ ih =>
  simp only [D.low]
  refine D.lows_get.2 fun d hd => ?_
  obtain ⟨i, hi⟩ := List.mem_iff_getElem?.1 hd
  have hlt : i < us.length := by rw [← hl]; exact (List.getElem?_eq_some_iff.1 hi).1
  exact ih i d us[i] hi (List.getElem?_eq_getElem hlt)
 | bfn f d u _ ih => simp only [D.low]; exact ih
 | iface t d u _ ih => simp only [D.low]; exact ih
 | _ => trivial
mutual
theorem D.low_mono {n k n' k' : Nat} (hn : n ≤ n') (hk : k ≤ k') : ∀ (d : D), d.low n k → d.low n' k'
 | .v _, _ => trivial
 | .ptr o _, h => Nat.lt_of_lt_of_le h hn
 | .imm _ _ _, _ => trivial
 | .tsl t _ _, h => Nat.lt_of_lt_of_le h hk
 | .agg cs, h => D.lows_mono hn hk cs h
 | .fn _ cs, h => D.lows_mono hn hk cs h
 | .bfn _ d, h => D.low_mono hn hk d h
 | .iface _ d, h => D.low_mono hn hk d h
 | .tup cs, h => D.lows_mono hn hk cs h
 | .map o, h => Nat.lt_of_lt_of_le h hn
 | .msl o _ _ _ _, h => Nat.lt_of_lt_of_le h hn
 | .junk, _ => trivial
theorem D.lows_mono {n k n' k' : Nat} (hn : n ≤ n') (hk : k ≤ k') : ∀ (ds : List D), D.lows n k ds → D.lows n' k' ds
 | [], _ => trivial
 | d :: ds, h => ⟨D.low_mono hn hk d h.1, D.lows_mono hn hk ds h.2⟩
end
theorem Ob.low_mono {n k n' k' : Nat} (hn : n ≤ n') (hk : k ≤ k') {ob : Ob} (h : ob.low n k) : ob.low n' k' := by
 cases ob with
 | cells cs => exact D.lows_mono hn hk cs h
 | map es => exact fun e he => D.low_mono hn hk e.2 (h e he)
 | iter mo _ _ =>
  cases mo with
  | none => trivial
  | some o => exact Nat.lt_of_lt_of_le h hn
theorem Inv.ob_low {σ : Sg} {m : Gh} {w : World} (h : Inv σ m w) {ob : Ob} (hob : ob ∈ σ.objs) : ob.low σ.objs.length σ.toks.length := by
 obtain ⟨o, ho⟩ := List.mem_iff_getElem?.1 hob
 have hlt : o < m.objs.length := by rw [h.lobj]; exact (List.getElem?_eq_some_iff.1 ho).1
 rw [← h.lobj, ← h.tok_len]
 cases ob with
 | iter mo since seen =>
  obtain ⟨x, hx⟩ : ∃ x, m.objs[o]? = some x := ⟨_, List.getElem?_eq_getElem hlt⟩
  cases x with
  | none => have := h.gone o hx; rw [ho] at this; cases this
  | some b =>
  cases mo with
  | none => trivial
  | some o' =>
   obtain ⟨bm, h1, _⟩ := h.ob o _ b ho hx
   rcases h1 with h1 | h1 <;> exact (List.getElem?_eq_some_iff.1 h1).1
 | map es =>
  intro e he
  obtain ⟨x, hx⟩ : ∃ x, m.objs[o]? = some x := ⟨_, List.getElem?_eq_getElem hlt⟩
  cases x with
  | none => have := h.gone o hx; rw [ho] at this; cases this
  | some b =>
  obtain ⟨ms, clock, h1, h2, h3, _⟩ := h.ob o _ b ho hx
  obtain ⟨i, hi⟩ := List.mem_iff_getElem?.1 he
  have hli : i < ms.size := by rw [h2]; exact (List.getElem?_eq_some_iff.1 hi).1
  exact (h3 i e ms[i] hi (Array.getElem?_eq_getElem hli)).2.is_low
 | cells cs =>
  by_cases hne : Ob.cells cs = .cells []
  ·cases hne; trivial
  obtain ⟨x, hx⟩ : ∃ x, m.objs[o]? = some x := ⟨_, List.getElem?_eq_getElem hlt⟩
  cases x with
  | none => have := h.gone o hx; rw [ho] at this; exact absurd (Option.some.inj this) hne
  | some b =>
  obtain ⟨us, ty, h1, h2, h3, _⟩ := h.ob o _ b ho hx
  refine D.lows_get.2 fun d hd => ?_
  obtain ⟨i, hi⟩ := List.mem_iff_getElem?.1 hd
  have hli : i < us.size := Nat.lt_of_lt_of_le (List.getElem?_eq_some_iff.1 hi).1 h2
  exact (h3 i d us[i] hi (Array.getElem?_eq_getElem hli)).1.is_low
theorem Inv.take {σ : Sg} {m : Gh} {w : World} (h : Inv σ m w) {n k : Nat} (hb : ∀ ob ∈ σ.objs.take n, ob.low n k) : Inv ⟨σ.objs.take n, σ.toks.take k⟩ (m.take n k) w := by
 refine ⟨by simp [Gh.take, h.lobj], by simp [Gh.take, ← h.ltok, List.map_take], ?_, fun o ob b ho hbo => ?_, fun o ho => ?_, fun tk htk => h.tk tk (List.mem_of_mem_take htk), fun p hp => ⟨(h.glob p hp).1, fun hx => (h.glob p hp).2 (Gh.take_blocks hx)⟩⟩
 ·have h' := List.nodup_append.1 h.nodup
  refine List.nodup_append.2 ⟨h'.1.sublist ?_, h'.2.1.sublist ?_, fun a ha c hc => h'.2.2 a (Gh.mem_objb.2 (List.mem_of_mem_take (Gh.mem_objb.1 ha))) c (Gh.take_ownb hc)⟩
  ·exact (List.take_sublist _ _).filterMap _
  ·exact (List.take_sublist _ _).filterMap _
 ·have hob := hb ob (List.mem_of_getElem? ho)
  simp only [List.getElem?_take] at ho
  simp only [Gh.take, List.getElem?_take] at hbo
  split at ho
  ·rename_i hlt
   rw [if_pos hlt] at hbo
   have hr := h.ob o ob b ho hbo
   cases ob with
   | cells cs =>
    obtain ⟨us, ty, h1, h2, h3, h4⟩ := hr
    exact ⟨us, ty, h1, h2, fun i d u hd hu => ⟨(h3 i d u hd hu).1.take (D.lows_get.1 hob d (List.mem_of_getElem? hd)), (h3 i d u hd hu).2⟩, h4⟩
   | map es =>
    obtain ⟨us, ty, h1, h2, h3, h4⟩ := hr
    exact ⟨us, ty, h1, h2, fun i d u hd hu => ⟨(h3 i d u hd hu).1.mono fz_take, (h3 i d u hd hu).2.take (hob d (List.mem_of_getElem? hd))⟩, h4⟩
   | iter mo since seen =>
    cases mo with
    | none => exact hr
    | some o' =>
     obtain ⟨bm, h1, h2⟩ := hr
     have ho' : o' < n := hob
     refine ⟨bm, ?_, h2⟩
     rcases h1 with h1 | h1
     ·exact .inl (by simp only [Gh.take, List.getElem?_take, if_pos ho']; exact h1)
     ·exact .inr (by simp only [Gh.take, List.getElem?_take, if_pos ho']; exact h1)
  ·cases ho
 ·simp only [Gh.take, List.getElem?_take] at ho
  split at ho
  ·rename_i hlt
   simp only [List.getElem?_take, if_pos hlt]
   exact h.gone o ho
  ·cases ho
theorem Ext.take {m0 m : Gh} {w0 w : World} (h : Ext m0 w0 m w) {n k : Nat} (hn : m0.objs.length ≤ n) (hk : m0.toks.length ≤ k) : Ext m0 w0 (m.take n k) w := by
 refine ⟨h.os, h.tape, h.output, h.size, fun o b hb => ?_, fun t tk ht => ?_, fun b off f => ⟨(h.froz b off f).1, fun hx => (h.froz b off f).2 (Gh.take_mut hx)⟩, fun b hb hn => ⟨(h.blocks b hb hn).1, fun hx => (h.blocks b hb hn).2 (Gh.take_blocks hx)⟩⟩
 ·have hlt : o < n := Nat.lt_of_lt_of_le (List.getElem?_eq_some_iff.1 hb).1 hn
  simp only [Gh.take, List.getElem?_take, if_pos hlt]
  exact h.objs o b hb
 ·obtain ⟨tk', h1, h2, h3, h4⟩ := h.toks t tk ht
  have hlt : t < k := Nat.lt_of_lt_of_le (List.getElem?_eq_some_iff.1 ht).1 hk
  exact ⟨tk', by simp only [Gh.take, List.getElem?_take, if_pos hlt]; exact h1, h2, h3, h4⟩
def D.Le (d d' : D) : Prop := ∀ (m : Gh) (w : World) (u : Value), RepD m w d u → RepD m w d' u
theorem D.Le.refl (d : D) : D.Le d d := fun _ _ _ h => h
theorem D.Le.trans {a b c : D} (h : D.Le a b) (k : D.Le b c) : D.Le a c := fun m w u r => k m w u (h m w u r)
theorem D.Le.junk (d : D) : D.Le d .junk := fun _ _ u _ => .junk u
def EnvOk (n k : Nat) (env : List (Nat × D)) : List (Nat × D) → Prop
 | [] => True
 | (i, d) :: r => D.Le (look env i) d ∧ d.low n k ∧ (look env i = .junk → d = .junk) ∧ EnvOk n k env r
theorem EnvOk.spec {n k : Nat} {env : List (Nat × D)} : ∀ {env' : List (Nat × D)}, EnvOk n k env env' → ∀ i, (look env i = .junk → look env' i = .junk) ∧ D.Le (look env i) (look env' i) ∧ (look env' i).low n k
 | [], _, i => ⟨fun _ => rfl, .junk _, trivial⟩
 | (j, d) :: r, h, i => by
  obtain ⟨h1, h2, h3, h4⟩ := h
  simp only [look]
  by_cases hij : j = i
  ·subst hij; simp only [if_true]; exact ⟨h3, h1, h2⟩
  ·simp only [hij, if_false]; exact h4.spec i
theorem Weak.drop {B : Sg} {env env' : List (Nat × D)} {os xs : List Ob} {ts ts' : List Nat} (hos : B.objs.length ≤ os.length) (hts : B.toks.length ≤ ts.length)
  (hob : ∀ ob ∈ os, ob ∈ B.objs ∨ ob.low os.length ts.length) (he : EnvOk os.length ts.length env env') : Weak B ⟨env, ⟨os ++ xs, ts ++ ts'⟩⟩ ⟨env', ⟨os, ts⟩⟩ := by
 refine ⟨fun n => (he.spec n).1, fun m0 m w0 w tmps hB hX hI hE => ?_⟩
 have hI' := hI.take (n := os.length) (k := ts.length) (by
  simp only [List.take_left]
  intro ob hm
  rcases hob ob hm with h | h
  ·exact Ob.low_mono hos hts (hB.ob_low h)
  ·exact h)
 simp only [List.take_left] at hI'
 refine ⟨_, hI', fun n => ?_, hX.take (by rw [hB.lobj]; exact hos) (by rw [hB.tok_len]; exact hts)⟩
 obtain ⟨_, h1, h2⟩ := he.spec n
 exact (h1 m w _ (hE n)).take h2
theorem WeakR.drop {B : Sg} {r r' : D} {os xs : List Ob} {ts ts' : List Nat} (hos : B.objs.length ≤ os.length) (hts : B.toks.length ≤ ts.length)
  (hob : ∀ ob ∈ os, ob ∈ B.objs ∨ ob.low os.length ts.length) (hr : D.Le r r') (hb : r'.low os.length ts.length) : WeakR B r ⟨os ++ xs, ts ++ ts'⟩ r' ⟨os, ts⟩ := by
 intro m0 m w0 w u hB hX hI hR
 have hI' := hI.take (n := os.length) (k := ts.length) (by
  simp only [List.take_left]
  intro ob hm
  rcases hob ob hm with h | h
  ·exact Ob.low_mono hos hts (hB.ob_low h)
  ·exact h)
 simp only [List.take_left] at hI'
 exact ⟨_, hI', (hr m w u hR).take hb, hX.take (by rw [hB.lobj]; exact hos) (by rw [hB.tok_len]; exact hts)⟩
theorem WeakR.all {B : Sg} {r r' : D} {xs : List Ob} {ts : List Nat} (hr : D.Le r r') (hb : r'.low B.objs.length B.toks.length) : WeakR B r ⟨B.objs ++ xs, B.toks ++ ts⟩ r' B :=
 WeakR.drop (Nat.le_refl _) (Nat.le_refl _) (fun _ h => .inl h) hr hb
end Go.Abs
