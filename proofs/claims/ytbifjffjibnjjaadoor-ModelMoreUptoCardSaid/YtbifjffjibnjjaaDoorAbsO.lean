/-
  What the small language's weakest precondition says of a function's code holds of its calls. (Own work; seat-independent.)
-/
import Derived.Test.YtbifjffjibnjjaaDoorAbsQ
import Derived.Lib.SlBytesConst
set_option linter.unusedVariables false
set_option linter.unusedSimpArgs false
namespace Go.Abs
open Go

def dstOk (nt : Nat) : Option Nat → Bool
  | some d => decide (d < nt)
  | none => true

/-- What an operation must come after (where it is asked for). -/
def phOf (ops : Array Oper) (ms : List Nat) (o : Oper) : List Nat := if ms.contains 1000000 = true then (o.after.toList.filter fun e => Region.binds .any e).filterMap fun e => (ops[e.on]?).bind (·.dst) else []
def compRO (P : Program) (nt : Nat) (ops : Array Oper) (ms : List Nat) (o : Oper) : Option RO :=
  match compT P o ms (phOf ops ms o) with
  | none => none
  | some op =>
    if dstOk nt o.dst = true then
      match o.guard with
      | none => some ⟨o.dst, none, op⟩
      | some (j, want) => (match (ops[j]?).bind (·.dst) with
        | some d => some ⟨o.dst, some (d, want), op⟩
        | none => none)
    else none

/-- The bytes of a constant string: a row is built, and turned into its own type. -/
def isLit (P : Program) (nt : Nat) (o o' : Oper) : Option (RO × RO) :=
  match o.op, o'.op, o.guard, o'.guard, o.dst with
  | .buildSlice t len ps, .convert src dst (.tmp d'), none, none, some d =>
    if src = t ∧ dst = t ∧ d' = d ∧ d < nt ∧ dstOk nt o'.dst = true then
      match P.underlying t with
      | some (.slice e) => (match P.underlying e, compMksl P t len ps.toList with
        | some (.int .u8), some op => some (⟨some d, none, op⟩, ⟨o'.dst, none, .mv (.t d)⟩)
        | _, _ => none)
      | _ => none
    else none
  | _, _, _, _, _ => none

def compROs (P : Program) (nt : Nat) (ops : Array Oper) (ms : List Nat) : List Oper → Option (List RO)
  | [] => some []
  | [o] => (match compRO P nt ops ms o with
    | some r => some [r]
    | none => none)
  | o :: o' :: l => (match isLit P nt o o' with
    | some (r, r') => (match compROs P nt ops ms l with
      | some rs => some (r :: r' :: rs)
      | none => none)
    | none => (match compRO P nt ops ms o, compROs P nt ops ms (o' :: l) with
      | some r, some rs => some (r :: rs)
      | _, _ => none))

theorem compROs_cons {P : Program} {nt : Nat} {ops : Array Oper} {ms : List Nat} {o : Oper} {l : List Oper} {ros : List RO} (h : compROs P nt ops ms (o :: l) = some ros) :
    (∃ r rs, compRO P nt ops ms o = some r ∧ compROs P nt ops ms l = some rs ∧ ros = r :: rs) ∨ (∃ o' l' r r' rs, l = o' :: l' ∧ isLit P nt o o' = some (r, r') ∧ compROs P nt ops ms l' = some rs ∧ ros = r :: r' :: rs) := by
  cases l with
  | nil =>
    simp only [compROs] at h
    split at h
    · rename_i r hr; cases h; exact .inl ⟨r, [], hr, rfl, rfl⟩
    · cases h
  | cons o' l =>
    simp only [compROs] at h
    split at h
    · rename_i r r' hl
      split at h
      · rename_i rs hrs; cases h; exact .inr ⟨o', l, r, r', rs, rfl, hl, hrs, rfl⟩
      · cases h
    · split at h
      · rename_i r rs hr hrs; cases h; exact .inl ⟨r, rs, hr, hrs, rfl⟩
      · cases h

theorem isLit_spec {P : Program} {nt : Nat} {o o' : Oper} {r r' : RO} (h : isLit P nt o o' = some (r, r')) : ∃ (t e : TypeId) (len : Nat) (ps : Array (Nat × Operand)) (ie : TypeInfo) (z : Value) (sh : Sh) (es : List E) (d : Nat),
    o.op = .buildSlice t len ps ∧ o'.op = .convert t t (.tmp d) ∧ o.guard = none ∧ o'.guard = none ∧ o.dst = some d ∧ d < nt ∧ (∀ k, o'.dst = some k → k < nt) ∧ r = ⟨some d, none, .mksl sh es⟩ ∧ r' = ⟨o'.dst, none, .mv (.t d)⟩ ∧
    P.underlying t = some (.slice e) ∧ P.underlying e = some (.int .u8) ∧ P.info? e = some ie ∧ ie.zero = some z ∧ ie.size = shn sh ∧ 0 < ie.size ∧ z.cells.size = ie.size ∧
    len = ps.size ∧ ps.toList.map (·.1) = List.range ps.size ∧ len * ie.size ≤ 2 ^ 24 ∧ cEs (ps.toList.map (·.2)) = some es := by
  unfold isLit at h
  split at h
  · rename_i t len ps src dst d' d ho ho' hg hg' hd
    split at h
    · rename_i hc
      obtain ⟨rfl, rfl, rfl, hlt, hok⟩ := hc
      split at h
      · rename_i e hu
        split at h
        · rename_i op he hop
          cases h
          unfold compMksl at hop
          split at hop
          · split at hop
            · split at hop
              · split at hop
                · rename_i e2 hu2 _ _ _ ie sh es hie hsh hes _ z hz hc
                  cases hop
                  rw [hu] at hu2
                  cases hu2
                  obtain ⟨i', dd, hi', hd', _, hsz⟩ := tsh_spec hsh
                  rw [hie] at hi'
                  cases hi'
                  refine ⟨_, e, len, ps, ie, z, sh, es, _, ho, ho', hg, hg', hd, hlt, ?_, rfl, rfl, hu, he, hie, hz, hsz, hc.1, hc.2.1, by simpa using hc.2.2.1, by simpa using hc.2.2.2.1, hc.2.2.2.2, hes⟩
                  intro k hk
                  rw [hk] at hok
                  simpa [dstOk] using hok
                · cases hop
              · cases hop
            · cases hop
          · cases hop
        · cases h
      · cases h
    · cases h
  · cases h

def dstsOf : List RO → List Nat
  | [] => []
  | r :: rs => match r.dst with
    | some d => d :: dstsOf rs
    | none => dstsOf rs

def outsOf (keep : List Nat) : List RO → List Nat
  | [] => []
  | r :: rs => match r.dst with
    | some d => if keep.contains d then d :: outsOf keep rs else outsOf keep rs
    | none => outsOf keep rs

section
variable {P : Program}

theorem look_upd : ∀ (env : List (Nat × D)) (n : Nat) (d : D) (k : Nat), look (upd env n d) k = if k = n then d else look env k
  | [], n, d, k => by simp only [upd, look]; by_cases h : n = k <;> simp [h, eq_comm]
  | (j, x) :: r, n, d, k => by
    have ih := look_upd r n d k
    simp only [upd]
    by_cases hjn : j = n
    · subst hjn
      simp only [if_true, look]
      by_cases hjk : j = k
      · subst hjk; simp
      · simp [hjk, Ne.symm hjk]
    · simp only [hjn, if_false, look]
      by_cases hjk : j = k
      · subst hjk; simp [hjn]
      · simp only [hjk, if_false]; exact ih

theorem outs_rep {m : Gh} {w : World} {s : List (Nat × D)} {tmps : Array Value} (hs : EnvR m w s tmps) : ∀ (os : List Nat) (env : List (Nat × D)), (∀ n, RepD m w (look env n) (tmps.getD n undef) ∨ n ∈ os) →
    EnvR m w (outs os s env) tmps
  | [], env, h => fun n => (h n).resolve_right (by simp)
  | o :: os, env, h => by
    refine outs_rep hs os (upd env o (look s o)) fun n => ?_
    rw [look_upd]
    by_cases hno : n = o
    · subst hno; left; rw [if_pos rfl]; exact hs n
    · rw [if_neg hno]
      rcases h n with h1 | h1
      · exact .inl h1
      · exact .inr ((List.mem_cons.1 h1).resolve_left hno)

theorem push_rep {m : Gh} {w : World} {s : List (Nat × D)} {a : Act} (hs : EnvR m w s a.tmps) {dst : Option Nat} (hd : ∀ n, dst = some n → n < a.tmps.size) {d : D} {u : Value} (hr : RepD m w d u) : EnvR m w (push dst d s) (a.put dst u).tmps := by
  cases dst with
  | none => exact hs
  | some n =>
    intro k
    have hn := hd n rfl
    simp only [push, look, Act.put]
    by_cases hnk : n = k
    · subst hnk
      rw [if_pos rfl]
      have : (a.tmps.setIfInBounds n u).getD n undef = u := by simp [Array.getD, hn]
      rw [this]
      exact hr
    · rw [if_neg hnk]
      have : (a.tmps.setIfInBounds n u).getD k undef = a.tmps.getD k undef := by simp [Array.getD_eq_getD_getElem?, Array.getElem?_setIfInBounds_ne hnk]
      rw [this]
      exact hs k

theorem put_size (a : Act) (dst : Option Nat) (u : Value) : (a.put dst u).tmps.size = a.tmps.size := by cases dst <;> simp [Act.put]
theorem put_defers' (a : Act) (dst : Option Nat) (u : Value) : (a.put dst u).defers = a.defers := by cases dst <;> simp [Act.put]

theorem put_same (a : Act) (dst : Option Nat) (u : Value) (n : Nat) (h : dst ≠ some n) : (a.put dst u).tmps.getD n undef = a.tmps.getD n undef := by
  cases dst with
  | none => rfl
  | some d =>
    have : d ≠ n := fun e => h (by rw [e])
    simp [Act.put, Array.getD_eq_getD_getElem?, Array.getElem?_setIfInBounds_ne this]

theorem mem_outsOf {keep : List Nat} {n : Nat} : ∀ (rs : List RO), n ∈ outsOf keep rs ↔ n ∈ dstsOf rs ∧ n ∈ keep
  | [] => by simp [outsOf, dstsOf]
  | r :: rs => by
    have ih := mem_outsOf (keep := keep) (n := n) rs
    simp only [outsOf, dstsOf]
    cases r.dst with
    | none => exact ih
    | some d =>
      dsimp only
      by_cases hk : keep.contains d = true
      · rw [if_pos hk]
        simp only [List.mem_cons, ih]
        constructor
        · rintro (rfl | h)
          · exact ⟨.inl rfl, by simpa using hk⟩
          · exact ⟨.inr h.1, h.2⟩
        · rintro ⟨rfl | h, h2⟩
          · exact .inl rfl
          · exact .inr ⟨h, h2⟩
      · rw [if_neg hk]
        simp only [List.mem_cons, ih]
        constructor
        · exact fun h => ⟨.inr h.1, h.2⟩
        · rintro ⟨rfl | h, h2⟩
          · exact (hk (by simpa using h2)).elim
          · exact ⟨h, h2⟩

theorem outs_dom {s : List (Nat × D)} {n : Nat} : ∀ (os : List Nat) (env : List (Nat × D)), n ∉ os → look (outs os s env) n = look env n
  | [], env, _ => rfl
  | o :: os, env, h => by
    simp only [List.mem_cons, not_or] at h
    rw [outs, outs_dom os _ h.2, look_upd, if_neg h.1]

theorem compRO_spec {nt : Nat} {ops : Array Oper} {ms : List Nat} {o : Oper} {r : RO} (h : compRO P nt ops ms o = some r) :
    compT P o ms (phOf ops ms o) = some r.op ∧ r.dst = o.dst ∧ (∀ d, o.dst = some d → d < nt) ∧
      ((o.guard = none ∧ r.g = none) ∨ ∃ j want d, o.guard = some (j, want) ∧ (ops[j]?).bind (·.dst) = some d ∧ r.g = some (d, want)) := by
  unfold compRO at h
  split at h
  · cases h
  · rename_i op hop
    split at h
    · rename_i hd
      have hd' : ∀ d, o.dst = some d → d < nt := by intro d hdd; rw [hdd] at hd; simpa [dstOk] using hd
      split at h
      · cases h; exact ⟨hop, rfl, hd', .inl ⟨‹_›, rfl⟩⟩
      · rename_i j want hg
        split at h
        · rename_i d hdj; cases h; exact ⟨hop, rfl, hd', .inr ⟨j, want, d, hg, hdj, rfl⟩⟩
        · cases h
    · cases h

theorem bool_at {m : Gh} {w : World} {tmps : Array Value} {n : Nat} {p : Bool} (h : RepD m w (.v (.bool p)) (tmps.getD n undef)) : tmps[n]? = some (.bool p) := by
  have := h.bool_inv
  rw [Array.getD_eq_getD_getElem?] at this
  cases ht : tmps[n]? with
  | none => rw [ht] at this; simp [undef] at this
  | some v => rw [ht] at this; simp at this; rw [this]

theorem undef_at {m : Gh} {w : World} {tmps : Array Value} {n : Nat} (h : RepD m w (.tup []) (tmps.getD n undef)) : ∀ b, tmps[n]? ≠ some (.bool b) := by
  intro b hb
  rw [Array.getD_eq_getD_getElem?, hb] at h
  simp only [Option.getD_some] at h
  cases h

theorem WO_sound {nt : Nat} {ops : Array Oper} {ms : List Nat} {Q : Exit → Act → World → Prop} : ∀ (l : List Oper) (ros : List RO) (pre : List Oper), ops.toList = pre ++ l → compROs P nt ops ms l = some ros →
    ∀ (σ : Sg) (m : Gh) (w : World) (a : Act) (s : List (Nat × D)) (K : List (Nat × D) → Sg → Prop), Inv σ m w → EnvR m w s a.tmps → a.tmps.size = nt → a.defers = [] → WO P ros s σ K →
      (∀ s' σ' m' w' a', K s' σ' → Inv σ' m' w' → EnvR m' w' s' a'.tmps → a'.tmps.size = nt → a'.defers = [] → Ext m w m' w' → (∀ n, n ∉ dstsOf ros → a'.tmps.getD n undef = a.tmps.getD n undef) → Q .normal a' w') →
      wpOps P ops Q (List.range' pre.length l.length) a w
  | [], ros, pre, _, hc, σ, m, w, a, s, K, hI, hE, hsz, hdf, hW, hk => by
    cases hc
    exact hk s σ m w a hW hI hE hsz hdf (.refl m w) fun _ _ => rfl
  | o :: l, ros, pre, hops, hc, σ, m, w, a, s, K, hI, hE, hsz, hdf, hW, hk => by
    rcases compROs_cons hc with ⟨r, rs, hr, hrs, rfl⟩ | ⟨o', l, r, r', rs, rfl, hlit, hrs, rfl⟩
    · obtain ⟨hcomp, hdst, hdlt, hg⟩ := compRO_spec hr
      have hget : ops[pre.length]? = some o := by
        rw [← Array.getElem?_toList, hops, List.getElem?_append_right (Nat.le_refl _)]
        simp
      have hops' : ops.toList = (pre ++ [o]) ++ l := by rw [hops]; simp
      have hlen : (pre ++ [o]).length = pre.length + 1 := by simp
      have next : ∀ (σ' : Sg) (m' : Gh) (w' : World) (s' : List (Nat × D)) (a' : Act), WO P rs s' σ' K → Inv σ' m' w' → EnvR m' w' s' a'.tmps → a'.tmps.size = nt → a'.defers = [] → Ext m w m' w' → (∀ n, o.dst ≠ some n → a'.tmps.getD n undef = a.tmps.getD n undef) → wpOps P ops Q (List.range' (pre.length + 1) l.length) a' w' := by
        intro σ' m' w' s' a' hW' hI' hE' hsz' hdf' hX' hsame
        have := WO_sound l rs (pre ++ [o]) hops' hrs σ' m' w' a' s' K hI' hE' hsz' hdf' hW' fun s'' σ'' m'' w'' a'' h1 h2 h3 h4 h5 h6 h7 => hk s'' σ'' m'' w'' a'' h1 h2 h3 h4 h5 (hX'.trans h6) fun n hn => by
          have h8 : n ∉ dstsOf rs ∧ o.dst ≠ some n := by
            rw [← hdst]
            cases hrd : r.dst with
            | none => simp only [dstsOf, hrd] at hn; exact ⟨hn, by simp⟩
            | some d => simp only [dstsOf, hrd, List.mem_cons, not_or] at hn; exact ⟨hn.2, fun e => hn.1 (Option.some.inj e).symm⟩
          rw [h7 n h8.1, hsame n h8.2]
        rw [hlen] at this
        exact this
      have run : ∀ (s1 : List (Nat × D)), EnvR m w s1 a.tmps → WOp P r.op s1 σ (fun d σ' => WO P rs (push r.dst d s1) σ' K) → o.wp P a w (wpOps P ops Q (List.range' (pre.length + 1) l.length)) Q := by
        intro s1 hE1 hW1
        refine compT_ok hcomp σ m w a s1 _ hI hE1 hW1 _ Q fun d σ' m' w' u hW' hI' hX' hR' => ?_
        refine next σ' m' w' _ _ hW' hI' ?_ (by rw [put_size]; exact hsz) (by rw [put_defers']; exact hdf) hX' (put_same a o.dst _)
        rw [hdst]
        exact push_rep (hE1.mono hX') (fun n hn => by rw [hsz]; exact hdlt n hn) hR'
      have skip : ∀ (s1 : List (Nat × D)), EnvR m w s1 a.tmps → WO P rs (push r.dst .undef s1) σ K → wpOps P ops Q (List.range' (pre.length + 1) l.length) (a.put o.dst undef) w := by
        intro s1 hE1 hW1
        refine next σ m w _ _ hW1 hI ?_ (by rw [put_size]; exact hsz) (by rw [put_defers']; exact hdf) (.refl m w) (put_same a o.dst _)
        rw [hdst]
        exact push_rep hE1 (fun n hn => by rw [hsz]; exact hdlt n hn) (.tup [] [] rfl (by simp))
      simp only [List.length_cons, List.range'_succ, wpOps, hget]
      obtain ⟨rdst, rg, rop⟩ := r
      rcases hg with ⟨hg, hrg⟩ | ⟨j, want, d, hg, hjd, hrg⟩
      · have hrg' : rg = none := hrg
        subst hrg'
        have hw : Region.wanted o (yielded ops a.tmps) = true := by simp [Region.wanted, hg]
        rw [if_pos hw]
        exact .inl (run s hE hW)
      · have hrg' : rg = some (d, want) := hrg
        subst hrg'
        have hy1 : ∀ p, a.tmps[d]? = some (.bool p) → yielded ops a.tmps j = some p := by
          intro p hp
          simp [yielded, hjd, hp]
        have hy2 : (∀ b, a.tmps[d]? ≠ some (.bool b)) → ∀ q, yielded ops a.tmps j ≠ some q := by
          intro hn q
          simp only [yielded, hjd, Option.bind_some]
          cases ht : a.tmps[d]? with
          | none => simp
          | some v =>
            cases v with
            | bool b => exact absurd ht (hn b)
            | _ => simp
        simp only [WO] at hW
        have hEd := hE d
        split at hW
        · rename_i p hp
          rw [hp] at hEd
          have hy' := hy1 p (bool_at hEd)
          have hE1 : ∀ q : Bool, p = q → EnvR m w ((d, .v (.bool q)) :: s) a.tmps := by
            rintro q rfl k
            simp only [look]
            by_cases hdk : d = k
            · subst hdk; rw [if_pos rfl]; exact hEd
            · rw [if_neg hdk]; exact hE k
          by_cases hpw : p = want
          · have hw : Region.wanted o (yielded ops a.tmps) = true := by simp [Region.wanted, hg, hy', hpw]
            rw [if_pos hw]
            exact .inl (run _ (hE1 want hpw) (hW.1 hpw))
          · have hw : ¬ Region.wanted o (yielded ops a.tmps) = true := by simp [Region.wanted, hg, hy', hpw]
            rw [if_neg hw]
            have hpn : p = !want := by cases p <;> cases want <;> simp_all
            exact skip _ (hE1 _ hpn) (hW.2 hpn)
        · rename_i hp
          rw [hp] at hEd
          have hu := hy2 (undef_at hEd)
          have hw : ¬ Region.wanted o (yielded ops a.tmps) = true := by
            simp only [Region.wanted, hg]
            simpa using hu want
          rw [if_neg hw]
          exact skip s hE hW
        · exact hW.elim
    · obtain ⟨t, e, len, ps, ie, z, sh, es, d, ho, ho', hg, hg', hd, hdlt, hdlt', rfl, rfl, hu, he, hie, hz, hsz1, hpos, hzs, hlen1, hidx, hsmall, hes⟩ := isLit_spec hlit
      have hget : ops[pre.length]? = some o := by
        rw [← Array.getElem?_toList, hops, List.getElem?_append_right (Nat.le_refl _)]
        simp
      have hget' : ops[pre.length + 1]? = some o' := by
        rw [← Array.getElem?_toList, hops, List.getElem?_append_right (by omega)]
        simp
      have hops' : ops.toList = (pre ++ [o, o']) ++ l := by rw [hops]; simp
      have hlen : (pre ++ [o, o']).length = pre.length + 1 + 1 := by simp
      obtain ⟨C, x, hrun, hW', hrep, _⟩ := mksl_core ho hu hie hz hsz1 hpos hzs hlen1 hidx hsmall hes (K := fun y σ' => WO P rs (push o'.dst (ev ((d, y) :: s) (.t d)) ((d, y) :: s)) σ' K) hI hE (by simpa [WO, push, WOp] using hW)
      simp only [List.length_cons, List.range'_succ, wpOps, hget, hget']
      have hw : Region.wanted o (yielded ops a.tmps) = true := by simp [Region.wanted, hg]
      have hw' : ∀ tmps, Region.wanted o' (yielded ops tmps) = true := fun tmps => by simp [Region.wanted, hg']
      rw [if_pos hw]
      refine .inl ?_
      unfold Oper.wp
      rw [hrun]
      simp only [Oper.upon]
      rw [if_pos (hw' _)]
      refine .inl ?_
      have hval : (a.put o.dst (.slice (some ⟨w.heap.size, 0, none⟩) len len)).eval (.tmp d) = .slice (some ⟨w.heap.size, 0, none⟩) len len := by
        have hds : d < a.tmps.size := by omega
        simp [Act.eval, Act.put, hd, Array.getD, hds]
      have hrun2 : (execOp (a.put o.dst (.slice (some ⟨w.heap.size, 0, none⟩) len len)).eval o').run P (w.alloc (.cells C e)) = .ok (.value (.slice (some ⟨w.heap.size, 0, none⟩) len len)) (w.alloc (.cells C e (C.size, C.size + 1))) := by
        have hc := Lib.run_convert_bytes_const (P := P) w t e C len len hu he
        simp only [execOp, ho', hval, Sem.run_bind, hc, Result.andThen_ok, Sem.run_pure]
      rw [hrun2]
      dsimp only
      have hX : Ext m w m (w.alloc (.cells C e (C.size, C.size + 1))) := .alloc m w _
      have hE1 : EnvR m (w.alloc (.cells C e (C.size, C.size + 1))) ((d, .v x) :: s) (a.put o.dst (.slice (some ⟨w.heap.size, 0, none⟩) len len)).tmps := by
        have := push_rep (hE.mono hX) (dst := o.dst) (fun n hn => by rw [hd] at hn; cases hn; omega) (hrep (C.size, C.size + 1))
        simpa [hd, push] using this
      have hE2 := push_rep hE1 (dst := o'.dst) (fun n hn => by rw [put_size, hsz]; exact hdlt' n hn) (d := .v x) (u := .slice (some ⟨w.heap.size, 0, none⟩) len len) (hrep (C.size, C.size + 1))
      have hev : ev ((d, D.v x) :: s) (.t d) = .v x := by simp [ev, look]
      rw [hev] at hW'
      have := WO_sound l rs (pre ++ [o, o']) hops' hrs σ m _ _ _ K (hI.alloc _) hE2 (by rw [put_size, put_size]; exact hsz) (by rw [put_defers', put_defers']; exact hdf) hW' fun s'' σ'' m'' w'' a'' h1 h2 h3 h4 h5 h6 h7 => hk s'' σ'' m'' w'' a'' h1 h2 h3 h4 h5 (hX.trans h6) fun n hn => by
        have hn' : n ∉ dstsOf rs ∧ o.dst ≠ some n ∧ o'.dst ≠ some n := by
          rw [hd]
          simp only [dstsOf] at hn
          cases hd' : o'.dst with
          | none => rw [hd'] at hn; simp only [List.mem_cons, not_or] at hn; exact ⟨hn.2, fun e => hn.1 (Option.some.inj e).symm, by simp⟩
          | some k => rw [hd'] at hn; simp only [List.mem_cons, not_or] at hn; exact ⟨hn.2.2, fun e => hn.1 (Option.some.inj e).symm, fun e => hn.2.1 (Option.some.inj e).symm⟩
        rw [h7 n hn'.1, put_same _ _ _ n hn'.2.2, put_same _ _ _ n hn'.2.1]
      rw [hlen] at this
      exact this


end
end Go.Abs
