/-
  The code of a function, in the small language; what its weakest precondition says holds of its runs. (Own work; seat-independent.)
-/
import Derived.Test.YtbifjffjibnjjaaDoorAbsP
set_option linter.unusedVariables false
set_option linter.unusedSimpArgs false
namespace Go.Abs
open Go

def quietAt (P : Program) (ops : Array Oper) (ms : List Nat) (i : Nat) : Bool := match (ops[i]?).bind (compT P · ms []) with
  | some op => op.quiet
  | none => false

def grow (ops : Array Oper) : Nat → List (List Nat) → List (List Nat)
  | 0, T => T
  | k + 1, T => grow ops k (T ++ [((bindsOf ops T.length).flatMap fun e => e :: T.getD e []).eraseDups])

def canonGo (ops : Array Oper) (qt : Nat → Bool) : Nat → List Nat → List Nat
  | 0, _ => []
  | f + 1, L => match (List.range ops.size).filter fun i => !L.contains i && (bindsOf ops i).all L.contains with
    | [] => []
    | i :: rd => match (i :: rd).find? qt with
      | some j => j :: canonGo ops qt f (j :: L)
      | none => i :: canonGo ops qt f (i :: L)

def anyRO (P : Program) (nt : Nat) (ops : Array Oper) (ms : List Nat) (T : List (List Nat)) : List Nat → List Nat → Option (List (Nat × RO × Bool))
  | _, [] => some []
  | bef, i :: l => match ops[i]?, anyRO P nt ops ms T (i :: bef) l with
    | some o, some rs => (match compRO P nt ops ms o with
      | some r => some ((i, r, bef.all (T.getD i []).contains) :: rs)
      | none => none)
    | _, _ => none

def compAny (P : Program) (nt : Nat) (ops : Array Oper) (ms : List Nat := []) : Option (List (Nat × RO × Bool)) :=
  match anyRO P nt ops ms (grow ops ops.size []) [] (canonGo ops (quietAt P ops ms) ops.size []) with
  | some L => if (okT ops (grow ops ops.size []) && okPairs ops (grow ops ops.size []) L && (L.length == ops.size) && ((List.range ops.size).all fun i => L.any fun x => x.1 == i) && P.follows .mixedOrders) = true then some L else none
  | none => none

def altOk (P : Program) (ops : Array Oper) (T : List (List Nat)) (q : List (Nat × RO × Bool)) (c al : Nat × RO × Bool) (l r : List (Nat × RO × Bool)) : Bool :=
  okT ops T && okPairs ops T (q ++ c :: (l ++ r)) && okPairs ops T (q ++ (l ++ al :: r)) && ((q ++ c :: (l ++ al :: r)).length == ops.size) && ((List.range ops.size).all fun i => (q ++ c :: (l ++ al :: r)).any fun x => x.1 == i) &&
    !c.2.1.op.quiet && !(c.1 == al.1) && !(bindsOf ops c.1).contains al.1 && P.follows .mixedOrders
/-- Two operations whose order is free: a call and what makes room for its outcome, or two stores. -/
def marks (T : List (List Nat)) (c : Nat × RO × Bool) (q : List (Nat × RO × Bool)) : Bool := q.all fun x => (T.getD c.1 []).contains x.1 || x.2.1.op.blind
def altTry (P : Program) (ops : Array Oper) (T : List (List Nat)) (L : List (Nat × RO × Bool)) (i j : Nat) : Option (List (Nat × RO × Bool) × (Nat × RO × Bool) × (Nat × RO × Bool) × List (Nat × RO × Bool) × List (Nat × RO × Bool)) :=
  match L.drop i with
  | c :: l => (match l.drop j with
    | al :: r => if altOk P ops T (L.take i) (c.1, c.2.1, marks T c (L.take i)) (al.1, al.2.1, marks T al (L.take i ++ l.take j)) (l.take j) r = true then some (L.take i, (c.1, c.2.1, marks T c (L.take i)), (al.1, al.2.1, marks T al (L.take i ++ l.take j)), l.take j, r) else none
    | [] => none)
  | [] => none
def altPairs (L : List (Nat × RO × Bool)) : List (Nat × Nat) :=
  ((List.range L.length).filter fun i => match L[i]? with | some x => !x.2.1.op.quiet | none => false).flatMap fun i =>
    ((List.range (L.length - (i + 1))).filter fun j => match L[i + 1 + j]? with | some x => !x.2.1.op.quiet | none => false).map fun j => (i, j)
def compAlt (P : Program) (nt : Nat) (ops : Array Oper) (ms : List Nat := []) : Option (List (Nat × RO × Bool) × (Nat × RO × Bool) × (Nat × RO × Bool) × List (Nat × RO × Bool) × List (Nat × RO × Bool)) :=
  match anyRO P nt ops ms (grow ops ops.size []) [] (canonGo ops (quietAt P ops ms) ops.size []) with
  | some L => (altPairs L).findSome? fun x => altTry P ops (grow ops ops.size []) L x.1 x.2
  | none => none
theorem compAlt_spec {P : Program} {nt : Nat} {ops : Array Oper} {ms : List Nat} {q : List (Nat × RO × Bool)} {c al : Nat × RO × Bool} {l r : List (Nat × RO × Bool)} (h : compAlt P nt ops ms = some (q, c, al, l, r)) :
    ∃ L b b', anyRO P nt ops ms (grow ops ops.size []) [] (canonGo ops (quietAt P ops ms) ops.size []) = some L ∧ L = q ++ (c.1, c.2.1, b) :: (l ++ (al.1, al.2.1, b') :: r) ∧ altOk P ops (grow ops ops.size []) q c al l r = true := by
  unfold compAlt at h
  split at h
  · rename_i L hL
    obtain ⟨⟨i, j⟩, _, h⟩ := List.exists_of_findSome?_eq_some h
    unfold altTry at h
    split at h
    · rename_i c0 l0 hc
      split at h
      · rename_i al0 r0 ha
        split at h
        · rename_i hok
          simp only [Option.some.injEq, Prod.mk.injEq] at h
          obtain ⟨rfl, rfl, rfl, rfl, rfl⟩ := h
          refine ⟨L, c0.2.2, al0.2.2, hL, ?_, hok⟩
          have h1 := List.take_append_drop i L
          have h2 := List.take_append_drop j l0
          rw [hc] at h1
          rw [ha] at h2
          rw [h2]
          exact h1.symm
        · cases h
      · cases h
    · cases h
  · cases h

theorem anyRO_spec {P : Program} {nt : Nat} {ops : Array Oper} {ms : List Nat} {T : List (List Nat)} : ∀ (l bef : List Nat) (L : List (Nat × RO × Bool)), anyRO P nt ops ms T bef l = some L →
    ∀ x ∈ L, x.1 < ops.size ∧ ∀ o, ops[x.1]? = some o → compRO P nt ops ms o = some x.2.1
  | [], bef, L, h => by cases h; simp
  | i :: l, bef, L, h => by
    simp only [anyRO] at h
    split at h
    · rename_i o rs ho hrs
      split at h
      · rename_i r hr
        cases h
        intro x hx
        rcases List.mem_cons.1 hx with rfl | hx
        · exact ⟨(Array.getElem?_eq_some_iff.1 ho).1, fun o' ho' => by rw [ho] at ho'; cases ho'; exact hr⟩
        · exact anyRO_spec l _ rs hrs x hx
      · cases h
    · cases h

/-- What is not covered. -/
def stopX : X := .reg [] [⟨none, none, .ext .stop []⟩]
theorem W_stop {P : Program} {B : Sg} {Q : XE → St → Prop} {st : St} (h : W P B stopX Q st) : False := by
  simp only [stopX, W, WO, WOp, WX] at h

def compC (P : Program) (nt : Nat) (ms keep : List Nat) : Code → Option X
  | .skip => some .skip
  | .label _ => some .skip
  | .region _ ops false => (match compROs P nt ops ms ops.toList with
    | some rs => some (.reg (outsOf keep rs) rs)
    | none => none)
  | .region _ ops true => (match compAny P nt ops ms with
    | some L => some (.any (outsOf keep (L.map (·.2.1))) (L.map (·.2)))
    | none => (match compAlt P nt ops ms with
      | some (q, c, al, l, r) => some (.alt (outsOf keep ((q ++ c :: (l ++ al :: r)).map (·.2.1))) (q.map (·.2)) c.2 al.2 (l.map (·.2)) (r.map (·.2)))
      | none => some stopX))
  | .seq a b => (match compC P nt ms keep a, compC P nt ms keep b with
    | some x, some y => some (.seq x y)
    | _, _ => none)
  | .cond c a b => (match cE c, compC P nt ms keep a, compC P nt ms keep b with
    | some e, some x, some y => some (.cond e x y)
    | _, _, _ => none)
  | .block id a => (match compC P nt ms keep a with
    | some x => some (.block id x)
    | none => none)
  | .loop a => (match compC P nt ms keep a with
    | some x => some (.loop x)
    | none => none)
  | .exit id => some (.exit id)
  | .ret => some .ret
  | _ => none

/-- A result: a slot, or what lies where a slot points to. -/
inductive RV where
  | tmp (t : Nat)
  | cell (a : Nat) (sh : Sh)
  deriving Inhabited

def resTmps (P : Program) : List ResultVar → Option (List RV)
  | [] => some []
  | .tmp t :: r => (match resTmps P r with
    | some l => some (.tmp t :: l)
    | none => none)
  | .cell a t :: r => (match tsh P t, resTmps P r with
    | some sh, some l => some (.cell a sh :: l)
    | _, _ => none)

structure AFun where
  nt : Nat
  res : List RV
  body : X
  deriving Inhabited

def compF (P : Program) (keep : List Nat) (fn : Func) (ms : List Nat := []) : Option AFun :=
  match fn.body, resTmps P fn.results.toList with
  | some c, some res => (match compC P fn.ntmps ms keep c with
    | some x => some ⟨fn.ntmps, res, x⟩
    | none => none)
  | _, _ => none

section
variable {P : Program}

def toX : XE → Exit
  | .normal => .normal
  | .exit id => .exit id
  | .ret => .ret

/-- What is known behind a piece of code. -/
def Behind (nt : Nat) (keep : List Nat) (m0 : Gh) (w0 : World) (Q : XE → St → Prop) : Exit → Act → World → Prop := fun e a w =>
  a.defers = [] ∧ a.tmps.size = nt ∧ ∃ e' st m, e = toX e' ∧ Q e' st ∧ Inv st.σ m w ∧ EnvR m w st.env a.tmps ∧ Ext m0 w0 m w ∧ ∀ n, n ∉ keep → look st.env n = .junk

theorem min_of {p : Nat → Prop} (h : ∃ n, p n) : ∃ n, p n ∧ ∀ k, p k → n ≤ k := by
  obtain ⟨n, hn⟩ := h
  induction n using Nat.strongRecOn with
  | _ n ih =>
    by_cases hk : ∃ k, k < n ∧ p k
    · obtain ⟨k, hk, hp⟩ := hk; exact ih k hk hp
    · exact ⟨n, hn, fun k hp => Nat.le_of_not_lt fun hlt => hk ⟨k, hlt, hp⟩⟩

theorem outs_look {s s' : List (Nat × D)} (h : ∀ n, look s n = look s' n) : ∀ {os : List Nat} {env : List (Nat × D)}, outs os s env = outs os s' env
  | [], env => rfl
  | o :: os, env => by simp only [outs]; rw [h o, outs_look h]

theorem mem_dstsOf {n : Nat} : ∀ {rs : List RO}, n ∈ dstsOf rs ↔ ∃ r ∈ rs, r.dst = some n
  | [] => by simp [dstsOf]
  | r :: rs => by
    have ih := mem_dstsOf (n := n) (rs := rs)
    simp only [dstsOf]
    cases hd : r.dst with
    | none => simp [ih, hd]
    | some d => simp [ih, hd, eq_comm]

theorem wp_loop_rank {c : Code} {Q : Exit → Act → World → Prop} {a : Act} {w : World} (I : Nat → Act → World → Prop) (h0 : ∃ n, I n a w)
    (round : ∀ n a w, I n a w → c.wp P (Exit.then (fun a' w' => ∃ n', n' < n ∧ I n' a' w') Q) a w) : (Code.loop c).wp P Q a w := by
  classical
  let μ : Act → World → Nat := fun a w => if h : ∃ n, I n a w then Classical.choose (min_of h) else 0
  have hμ : ∀ a w (h : ∃ n, I n a w), I (μ a w) a w ∧ ∀ k, I k a w → μ a w ≤ k := by
    intro a w h
    have := Classical.choose_spec (min_of h)
    simp only [μ, dif_pos h]
    exact this
  refine wp_loop (fun a w => ∃ n, I n a w) μ h0 fun a w h => ?_
  refine wp_mono (round _ a w (hμ a w h).1) fun e a' w' he => ?_
  cases e with
  | normal =>
    obtain ⟨n', hlt, hI⟩ := he
    exact ⟨⟨n', hI⟩, Nat.lt_of_le_of_lt ((hμ a' w' ⟨n', hI⟩).2 n' hI) hlt⟩
  | _ => exact he

theorem W_sound {nt : Nat} {ms keep : List Nat} {B : Sg} {m0 : Gh} {w0 : World} (hB : Inv B m0 w0) : ∀ (c : Code) (x : X), compC P nt ms keep c = some x →
    ∀ (Q : XE → St → Prop) (st : St) (m : Gh) (w : World) (a : Act), Ext m0 w0 m w → Inv st.σ m w → EnvR m w st.env a.tmps → a.tmps.size = nt → a.defers = [] → (∀ n, n ∉ keep → look st.env n = .junk) → W P B x Q st → c.wp P (Behind nt keep m0 w0 Q) a w := by
  intro c
  induction c with
  | skip => intro x hx Q st m w a hX hI hE hsz hdf hdom hW; cases hx; exact wp_skip ⟨hdf, hsz, .normal, st, m, rfl, hW, hI, hE, hX, hdom⟩
  | label l => intro x hx Q st m w a hX hI hE hsz hdf hdom hW; cases hx; exact wp_label ⟨hdf, hsz, .normal, st, m, rfl, hW, hI, hE, hX, hdom⟩
  | exit id => intro x hx Q st m w a hX hI hE hsz hdf hdom hW; cases hx; exact wp_exit ⟨hdf, hsz, .exit id, st, m, rfl, hW, hI, hE, hX, hdom⟩
  | ret => intro x hx Q st m w a hX hI hE hsz hdf hdom hW; cases hx; exact wp_ret ⟨hdf, hsz, .ret, st, m, rfl, hW, hI, hE, hX, hdom⟩
  | region id ops draw =>
    intro x hx Q st m w a hX hI hE hsz hdf hdom hW
    cases draw with
    | true =>
      simp only [compC] at hx
      split at hx
      · rename_i L hL
        cases hx
        simp only [W] at hW
        unfold compAny at hL
        split at hL
        · rename_i L' hL'
          split at hL
          · rename_i hok
            have e : L' = L := Option.some.inj hL
            subst e
            simp only [Bool.and_eq_true, beq_iff_eq] at hok
            obtain ⟨⟨⟨⟨hT, hP⟩, hlen⟩, hall⟩, hmix⟩ := hok
            have hXd : Ext m w m { w with drawn := w.drawn + 1 } :=
              ⟨rfl, rfl, rfl, Nat.le_refl _, fun _ _ h => .inl h, fun _ tk h => ⟨tk, h, rfl, Nat.le_refl _, fun _ => rfl⟩, fun _ _ h => ⟨rfl, h.2⟩, fun _ _ h => ⟨rfl, h⟩⟩
            have hId : Inv st.σ m { w with drawn := w.drawn + 1 } :=
              ⟨hI.lobj, hI.ltok, hI.nodup, fun o ob b h1 h2 => (hI.ob o ob b h1 h2).mono hXd rfl, hI.gone, fun tk h => hI.tk tk h, hI.glob.mono hXd⟩
            refine wp_region_any hmix (any_sound (nt := nt) hT ops.size L' _ hlen.symm (by simp) (anyRO_spec _ _ _ hL') hP (fun i hi => ?_) (fun j hj hjl => ?_) [] st.σ m _ a st.env _ ?_ hId (hE.mono hXd) hsz hdf hW
              fun s' σ' m' w' a' hK hI' hE' hsz' hdf' hX' hsame => ?_)
            · have h1 : (Array.replicate ops.size false).getD i true = false := by simp [Array.getD, hi]
              refine ⟨fun _ => ?_, fun _ => h1⟩
              obtain ⟨x, hx, hxi⟩ := List.any_eq_true.1 (List.all_eq_true.1 hall i (List.mem_range.2 hi))
              exact ⟨x, hx, by simpa using hxi⟩
            · simp [Array.getD, hj] at hjl
            · intro s1 s2 σ' hs hh
              refine cast ?_ hh
              rw [outs_look hs]
            · refine ⟨hdf', hsz', .normal, _, m', rfl, hK, hI', ?_, hX.trans (hXd.trans hX'), fun n hn => ?_⟩
              · refine outs_rep hE' _ _ fun n => ?_
                by_cases hk : n ∈ keep
                · by_cases hd : n ∈ dstsOf (L'.map (·.2.1))
                  · exact .inr ((mem_outsOf _).2 ⟨hd, hk⟩)
                  · left
                    rw [hsame n fun x hx e => hd (mem_dstsOf.2 ⟨x.2.1, List.mem_map.2 ⟨x, hx, rfl⟩, e⟩)]
                    exact (hE n).mono (hXd.trans hX')
                · left; rw [hdom n hk]; exact .junk _
              · show look (outs _ _ _) n = _
                rw [outs_dom _ _ fun h => hn ((mem_outsOf _).1 h).2]
                exact hdom n hn
          · cases hL
        · cases hL
      · split at hx
        · rename_i q c al l r hA
          cases hx
          simp only [W] at hW
          obtain ⟨L', b, b', hL', hLe, hok⟩ := compAlt_spec hA
          simp only [altOk, Bool.and_eq_true, beq_iff_eq, Bool.not_eq_true', beq_eq_false_iff_ne, ne_eq] at hok
          obtain ⟨⟨⟨⟨⟨⟨⟨⟨hT, hP1⟩, hP2⟩, hlen⟩, hall⟩, hcq⟩, hca⟩, hcb⟩, hmix⟩ := hok
          have hXd : Ext m w m { w with drawn := w.drawn + 1 } :=
            ⟨rfl, rfl, rfl, Nat.le_refl _, fun _ _ h => .inl h, fun _ tk h => ⟨tk, h, rfl, Nat.le_refl _, fun _ => rfl⟩, fun _ _ h => ⟨rfl, h.2⟩, fun _ _ h => ⟨rfl, h⟩⟩
          have hId : Inv st.σ m { w with drawn := w.drawn + 1 } :=
            ⟨hI.lobj, hI.ltok, hI.nodup, fun o ob b h1 h2 => (hI.ob o ob b h1 h2).mono hXd rfl, hI.gone, fun tk h => hI.tk tk h, hI.glob.mono hXd⟩
          have hC : ∀ x ∈ q ++ c :: (l ++ al :: r), x.1 < ops.size ∧ ∀ o, ops[x.1]? = some o → compRO P nt ops ms o = some x.2.1 := by
            intro x hx
            have hsp := anyRO_spec _ _ _ hL'
            by_cases hxc : x = c
            · subst hxc
              exact hsp (x.1, x.2.1, b) (by rw [hLe]; simp)
            by_cases hxa : x = al
            · subst hxa
              exact hsp (x.1, x.2.1, b') (by rw [hLe]; simp)
            · refine hsp x ?_
              rw [hLe]
              simp only [List.mem_append, List.mem_cons] at hx ⊢
              rcases hx with hx | hx | hx | hx | hx
              · exact .inl hx
              · exact absurd hx hxc
              · exact .inr (.inr (.inl hx))
              · exact absurd hx hxa
              · exact .inr (.inr (.inr (.inr hx)))
          refine wp_region_any hmix (any_alt (nt := nt) hT ops.size q c al l r _ (by rw [← hlen]; simp; omega) (by simp) hC hP1 hP2 hcq hca (by simpa using hcb) (fun i hi => ?_) (fun j hj hjl => ?_) [] st.σ m _ a st.env (fun s σ' => Q .normal ⟨outs _ s st.env, σ'⟩) ?_ hId (hE.mono hXd) hsz hdf hW
            fun s' σ' m' w' a' hK hI' hE' hsz' hdf' hX' hsame => ?_)
          · have h1 : (Array.replicate ops.size false).getD i true = false := by simp [Array.getD, hi]
            refine ⟨fun _ => ?_, fun _ => h1⟩
            obtain ⟨x, hx, hxi⟩ := List.any_eq_true.1 (List.all_eq_true.1 hall i (List.mem_range.2 hi))
            exact ⟨x, hx, by simpa using hxi⟩
          · simp [Array.getD, hj] at hjl
          · intro s1 s2 σ' hs hh
            refine cast ?_ hh
            rw [outs_look hs]
          · refine ⟨hdf', hsz', .normal, _, m', rfl, hK, hI', ?_, hX.trans (hXd.trans hX'), fun n hn => ?_⟩
            · refine outs_rep hE' _ _ fun n => ?_
              by_cases hk : n ∈ keep
              · by_cases hd : n ∈ dstsOf ((q ++ c :: (l ++ al :: r)).map (·.2.1))
                · exact .inr ((mem_outsOf _).2 ⟨hd, hk⟩)
                · left
                  rw [hsame n fun x hx e => hd (mem_dstsOf.2 ⟨x.2.1, List.mem_map.2 ⟨x, hx, rfl⟩, e⟩)]
                  exact (hE n).mono (hXd.trans hX')
              · left; rw [hdom n hk]; exact .junk _
            · show look (outs _ _ _) n = _
              rw [outs_dom _ _ fun h => hn ((mem_outsOf _).1 h).2]
              exact hdom n hn
        · cases hx
          exact (W_stop hW).elim
    | false =>
      simp only [compC] at hx
      split at hx
      · rename_i rs hrs
        cases hx
        simp only [W] at hW
        refine wp_region ?_
        rw [List.range_eq_range', ← Array.length_toList]
        refine WO_sound (nt := nt) ops.toList rs [] rfl hrs st.σ m w a st.env _ hI hE hsz hdf hW fun s' σ' m' w' a' hK hI' hE' hsz' hdf' hX' hsame => ?_
        refine ⟨hdf', hsz', .normal, _, m', rfl, hK, hI', ?_, hX.trans hX', fun n hn => ?_⟩
        · refine outs_rep hE' _ _ fun n => ?_
          by_cases hk : n ∈ keep
          · by_cases hd : n ∈ dstsOf rs
            · exact .inr ((mem_outsOf rs).2 ⟨hd, hk⟩)
            · left; rw [hsame n hd]; exact (hE n).mono hX'
          · left; rw [hdom n hk]; exact .junk _
        · show look (outs _ _ _) n = _
          rw [outs_dom _ _ fun h => hn ((mem_outsOf rs).1 h).2]
          exact hdom n hn
      · cases hx
  | seq c1 c2 ih1 ih2 =>
    intro x hx Q st m w a hX hI hE hsz hdf hdom hW
    simp only [compC] at hx
    split at hx
    · rename_i x1 x2 h1 h2
      cases hx
      simp only [W] at hW
      refine wp_seq (wp_mono (ih1 x1 h1 _ st m w a hX hI hE hsz hdf hdom hW) fun e a' w' he => ?_)
      obtain ⟨hdf', hsz', e', st', m', rfl, hQ, hI', hE', hX', hdom'⟩ := he
      cases e' with
      | normal => exact ih2 x2 h2 Q st' m' w' a' hX' hI' hE' hsz' hdf' hdom' hQ
      | exit id => exact ⟨hdf', hsz', .exit id, st', m', rfl, hQ, hI', hE', hX', hdom'⟩
      | ret => exact ⟨hdf', hsz', .ret, st', m', rfl, hQ, hI', hE', hX', hdom'⟩
    · cases hx
  | cond c a1 b1 iha ihb =>
    intro x hx Q st m w a hX hI hE hsz hdf hdom hW
    simp only [compC] at hx
    split at hx
    · rename_i e xa xb he hxa hxb
      cases hx
      simp only [W] at hW
      split at hW
      · rename_i p hp
        have hr := ev_rep hE he
        rw [hp] at hr
        exact wp_cond_split hr.bool_inv (fun ht => iha xa hxa Q st m w a hX hI hE hsz hdf hdom (hW.1 ht)) (fun hf => ihb xb hxb Q st m w a hX hI hE hsz hdf hdom (hW.2 hf))
      · exact hW.elim
    · cases hx
  | block id c ih =>
    intro x hx Q st m w a hX hI hE hsz hdf hdom hW
    simp only [compC] at hx
    split at hx
    · rename_i x1 h1
      cases hx
      simp only [W] at hW
      refine wp_block (wp_mono (ih x1 h1 _ st m w a hX hI hE hsz hdf hdom hW) fun e a' w' he => ?_)
      obtain ⟨hdf', hsz', e', st', m', rfl, hQ, hI', hE', hX', hdom'⟩ := he
      cases e' with
      | normal => exact ⟨hdf', hsz', .normal, st', m', rfl, hQ, hI', hE', hX', hdom'⟩
      | ret => exact ⟨hdf', hsz', .ret, st', m', rfl, hQ, hI', hE', hX', hdom'⟩
      | exit j =>
        simp only [toX, Exit.inBlock]
        dsimp only at hQ
        split at hQ
        · rename_i hj; rw [if_pos hj]; exact ⟨hdf', hsz', .normal, st', m', rfl, hQ, hI', hE', hX', hdom'⟩
        · rename_i hj; rw [if_neg hj]; exact ⟨hdf', hsz', .exit j, st', m', rfl, hQ, hI', hE', hX', hdom'⟩
    · cases hx
  | loop c ih =>
    intro x hx Q st m w a hX hI hE hsz hdf hdom hW
    simp only [compC] at hx
    split at hx
    · rename_i x1 h1
      cases hx
      simp only [W] at hW
      obtain ⟨I, ⟨n0, st0, hweak, hI0⟩, hround⟩ := hW
      refine wp_loop_rank (fun n a w => a.defers = [] ∧ a.tmps.size = nt ∧ ∃ st m, I n st ∧ Inv st.σ m w ∧ EnvR m w st.env a.tmps ∧ Ext m0 w0 m w ∧ ∀ n, n ∉ keep → look st.env n = .junk) ?_ fun n a w hh => ?_
      · obtain ⟨m', hI', hE', hX'⟩ := hweak.2 m0 m w0 w a.tmps hB hX hI hE
        exact ⟨n0, hdf, hsz, st0, m', hI0, hI', hE', hX', fun n hn => hweak.1 n (hdom n hn)⟩
      · obtain ⟨hdf, hsz, st', m, hin, hI, hE, hX, hdom⟩ := hh
        refine wp_mono (ih x1 h1 _ st' m w a hX hI hE hsz hdf hdom (hround n st' hin)) fun e a' w' he => ?_
        obtain ⟨hdf', hsz', e', st2, m', rfl, hQ, hI', hE', hX', hdom'⟩ := he
        cases e' with
        | normal =>
          obtain ⟨n', st3, hlt, hweak, hin'⟩ := hQ
          obtain ⟨m'', hI'', hE'', hX''⟩ := hweak.2 m0 m' w0 w' a'.tmps hB hX' hI' hE'
          exact ⟨n', hlt, hdf', hsz', st3, m'', hin', hI'', hE'', hX'', fun n hn => hweak.1 n (hdom' n hn)⟩
        | exit id => exact ⟨hdf', hsz', .exit id, st2, m', rfl, hQ, hI', hE', hX', hdom'⟩
        | ret => exact ⟨hdf', hsz', .ret, st2, m', rfl, hQ, hI', hE', hX', hdom'⟩
    · cases hx
  | _ => intro x hx; simp [compC] at hx

end
end Go.Abs
