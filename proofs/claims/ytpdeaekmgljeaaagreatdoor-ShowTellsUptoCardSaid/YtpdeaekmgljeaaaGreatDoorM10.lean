/-
  Lexer: a program cut into tokens. (Own work.)
-/
import Derived.Test.YtpdeaekmgljeaaaGreatDoorM09
import Derived.Sort.Walk0
import Derived.Sort.OwnSorted
set_option linter.unusedVariables false
set_option linter.unusedSimpArgs false
namespace Go.Proofs.YtpdeaekmgljeaaaGreatDoor
open Go Go.Abs

theorem encK_shape (t : Tk) : (encK t).shape = some 4 := rfl
theorem span_lt {q : UInt8 → Bool} {b : Str} {i : Nat} {c : UInt8} (h : b[i]? = some c) (hq : q c = true) : i < spanE q b i ∧ spanE q b i ≤ b.length := by
  have hl := (List.getElem?_eq_some_iff.1 h).1
  have h1 := spanE_ge q b (i + 1)
  have h2 := spanE_le (q := q) (b := b) (i := i) (by omega)
  rw [← spanE_hit h hq] at h1
  omega
theorem textL_to : ∀ (n : Nat) (r : Str) (k : Nat) (out s : Str) (to : Nat), r.length ≤ n → textL r k out = .ok s to → k < to ∧ to ≤ k + r.length
  | n, [], k, out, s, to, _, h => by simp [textL] at h
  | 0, c :: r, k, out, s, to, hn, h => by simp at hn
  | n + 1, c :: r, k, out, s, to, hn, h => by
    simp only [List.length_cons] at hn
    by_cases h34 : c.toNat = 34
    · rw [textL_q h34] at h
      cases h
      simp
    · cases hp : plaB c with
      | false => rw [textL_odd h34 hp] at h; cases h
      | true =>
        by_cases h92 : c.toNat = 92
        · cases r with
          | nil => rw [textL_esc0 h92 hp] at h; cases h
          | cons d r =>
            simp only [List.length_cons] at hn
            by_cases h110 : d.toNat = 110
            · rw [textL_escn h92 hp h110] at h
              have := textL_to n r _ _ _ _ (by omega) h
              simp only [List.length_cons]
              omega
            · by_cases hd : d.toNat = 34 ∨ d.toNat = 92
              · rw [textL_escd h92 hp h110 hd] at h
                have := textL_to n r _ _ _ _ (by omega) h
                simp only [List.length_cons]
                omega
              · rw [textL_esco h92 hp h110 (fun h => hd (.inl h)) (fun h => hd (.inr h))] at h
                cases h
        · rw [textL_plain h34 hp h92] at h
          have := textL_to n r _ _ _ _ (by omega) h
          simp only [List.length_cons]
          omega
theorem sign_le {b : Str} {i : Nat} {l : List Str} (hi : i < b.length) (h : signF b i l ≠ []) : i + (signF b i l).length ≤ b.length := by
  unfold signF at h ⊢
  cases hf : l.find? fun s => decide (((b.drop i).take 2).take s.length = s) with
  | none => rw [hf] at h; simp at h
  | some s =>
    have := List.find?_some hf
    simp only [decide_eq_true_eq] at this
    have hl := congrArg List.length this
    simp only [List.length_take, List.length_drop] at hl
    simp only [Option.getD_some]
    omega
theorem oneL_to {b : Str} {i : Nat} {c : UInt8} {t : Tk} {to : Nat} (hc : b[i]? = some c) (h : oneL b i c = .tok t to) : i < to ∧ to ≤ b.length := by
  have hl := (List.getElem?_eq_some_iff.1 hc).1
  unfold oneL at h
  split at h
  · rename_i hlo
    unfold nameN at h
    split at h
    · cases h
    · cases h; exact span_lt hc (by simp [ldB, hlo])
  · split at h
    · rename_i hup
      unfold nameN at h
      split at h
      · cases h
      · cases h; exact span_lt hc (by simp [ludB, hup])
    · split at h
      · rename_i hdi
        unfold numN at h
        split at h
        · cases h
        · cases h; exact span_lt hc hdi
      · split at h
        · cases ht : textL (b.drop (i + 1)) (i + 1) [] with
          | bad q => rw [ht] at h; cases h
          | ok s e =>
            rw [ht] at h
            have h1 := textL_to _ _ _ _ _ _ (Nat.le_refl _) ht
            unfold textN at h
            split at h
            · cases h
            · rename_i heq
              split at h
              · cases h
              · cases h
                cases heq
                rw [List.length_drop] at h1
                omega
        · unfold signN at h
          split at h
          · cases h
          · rename_i hne
            cases h
            have := sign_le hl hne
            have h0 : (signF b i signsL).length ≠ 0 := fun h => hne (List.length_eq_zero_iff.1 h)
            omega
inductive CR where
  | ok (l : List Tk)
  | bad (q : Nat)
  | great
def cutF : Nat → Str → Nat → List Tk → CR
  | 0, _, _, _ => .great
  | f + 1, b, i, acc => match b[spanE blaB b i]? with
    | none => .ok acc
    | some c => match oneL b (spanE blaB b i) c with
      | .tok t to => cutF f b to (acc ++ [t])
      | .bad q => .bad q
/-- The tokens of bytes. -/
def cutL (b : Str) : CR := if 4000 < b.length then .great else cutF (b.length + 1) b 0 []
def CutPost (σ : Sg) (x : CR) (r : D) (σ' : Sg) : Prop := match x with
  | .ok l => r = .tup [.v (.sl (some 4) false (l.map encK)), .v .inil] ∧ σ' = σ
  | .bad q => ∃ o xs ts, r = .tup [.v .snil, .iface 56 (.ptr (σ.objs.length + o) 0)] ∧ σ' = ⟨σ.objs ++ xs, σ.toks ++ ts⟩ ∧ xs[o]? = some (spotO q 2)
  | .great => r = .tup [.v .snil, .v (.iface 32 (.int .i64 6))] ∧ σ' = σ
structure CSt where
  i : Nat
  acc : List Tk
structure CIn (b : Str) (x : CSt) : Prop where
  hi : x.i ≤ b.length
  ha : x.acc.length ≤ x.i
  he : ∃ f, b.length - x.i < f ∧ cutF (b.length + 1) b 0 [] = cutF f b x.i x.acc
theorem k_Cut {b : Str} {σ : Sg} (hb : b.length ≤ 1048576) : ACalls Tryz.prog 51 [.v (vBs b)] σ (CutPost σ (cutL b)) := by
  unfold cutL
  refine acalls_fit Tryz.func51 (by kernel_rfl) c51 rfl (by simp [a51]) fun hf => ?_
  clear hf
  simp -implicitDefEqProofs (maxSteps := 2000000) (disch := omega) [-getElem?_pos, a51]
  refine .mk (fun h => ?_) fun h => ?_
  · rw [if_pos (by omega)]
    simp -implicitDefEqProofs (maxSteps := 2000000) (disch := omega) [-getElem?_pos]
    exact .fin _ ⟨rfl, rfl⟩ (.refl _)
  rw [if_neg (by omega)]
  simp -implicitDefEqProofs (maxSteps := 2000000) (disch := omega) [-getElem?_pos]
  refine W_loop (α := CSt) ⟨0, []⟩ (fun x => b.length - x.i) (fun x => ⟨[(0, .v (vBs b)), (4, .ptr σ.objs.length 0), (5, .tsl σ.toks.length (some 4) (x.acc.map encK))], ⟨σ.objs ++ [cut b x.i], σ.toks ++ [x.acc.length]⟩⟩)
    (fun x => CIn b x) (.trans (b := ⟨[(0, .v (vBs b)), (4, .ptr σ.objs.length 0), (5, .tsl σ.toks.length (some 4) [])], _⟩) (.tok (i := 5) (sh := some 4) (by simp) (by simp)) (.eq2 rfl (by simp))) ⟨Nat.zero_le _, by simp, _, by omega, rfl⟩ fun ⟨i, acc⟩ ⟨hi, ha, f, hf, he⟩ => ?_
  dsimp only at hi ha hf he ⊢
  rw [he]
  obtain ⟨f, rfl⟩ : ∃ f', f = f' + 1 := ⟨f - 1, by omega⟩
  have hpg := k_Pass (fd := .v (.fn 81)) (q := blaB) (b := b) (i := i) (p := σ.objs.length) (σ := ⟨σ.objs ++ [cut b i], σ.toks ++ [acc.length]⟩) (by simp) hi hb (fun c τ => by rw [WCall_fn]; exact k_Blank) (fun n k => trivial)
  have hj := spanE_le (q := blaB) hi
  have hij := spanE_ge blaB b i
  rw [cutF]
  obtain ⟨j, hjd⟩ : ∃ j, spanE blaB b i = j := ⟨_, rfl⟩
  rw [hjd] at hpg hj hij ⊢
  simp -implicitDefEqProofs (maxSteps := 2000000) (disch := omega) [-getElem?_pos]
  refine hpg.mono fun r σ' hr => ?_
  obtain ⟨rfl, rfl⟩ := hr
  simp -implicitDefEqProofs (maxSteps := 2000000) (disch := omega) [-getElem?_pos]
  refine .mk (fun h => ?_) fun h => ?_
  · have hn : b[j]? = none := by rw [List.getElem?_eq_none_iff]; omega
    rw [hn]
    simp -implicitDefEqProofs (maxSteps := 2000000) (disch := omega) [-getElem?_pos, hn]
    exact .fin _ ⟨rfl, rfl⟩ (.tup2 .tsl (.refl _))
  · obtain ⟨c, hc⟩ : ∃ c, b[j]? = some c := ⟨b[j]'(by omega), List.getElem?_eq_getElem _⟩
    rw [hc]
    dsimp only
    simp -implicitDefEqProofs (maxSteps := 2000000) (disch := omega) [-getElem?_pos]
    refine (k_Next (b := b) (i := j) (p := σ.objs.length) (c := c) (σ := ⟨σ.objs ++ [cut b j], σ.toks ++ [acc.length]⟩) (by simp) hc hb).mono fun r σ' hr => ?_
    cases hx : oneL b j c with
    | tok t to =>
      rw [hx] at hr
      obtain ⟨rfl, rfl⟩ := hr
      have ht := oneL_to hc hx
      dsimp only
      have he' : cutF (b.length + 1) b 0 [] = cutF f b to (acc ++ [t]) := by
        rw [he, cutF, hjd, hc]
        dsimp only
        rw [hx]
      simp -implicitDefEqProofs (maxSteps := 2000000) (disch := omega) [-getElem?_pos, encK]
      refine ⟨by omega, ⟨to, acc ++ [t]⟩, ⟨ht.2, by simp; omega, f, by dsimp only; omega, he'⟩, by dsimp only; omega, .dropX (ys := [cut b to]) rfl (by simp) (by simp) (by simp [cut]) (by simp [encK]) (by simp)⟩
    | bad q =>
      rw [hx] at hr
      obtain ⟨o, xs, ts, e, rfl, rfl, hxs⟩ := hr
      dsimp only
      simp -implicitDefEqProofs (maxSteps := 2000000) (disch := omega) [-getElem?_pos]
      refine ⟨_, _, WeakR.refl _ _ _, 1 + o, cut b e :: (xs ++ [.cells [.v (.int .i64 0), .v (.int .i64 0), .v (.int .i64 0), .v (.str [])]]), acc.length :: ts, by rw [Nat.add_assoc], rfl, ?_⟩
      have hl : o < xs.length := (List.getElem?_eq_some_iff.1 hxs).1
      rw [Nat.add_comm, List.getElem?_cons_succ, List.getElem?_append_left hl]
      exact hxs
end Go.Proofs.YtpdeaekmgljeaaaGreatDoor

/-
  Lexer: the reference's tokens. (Own work.)
-/
set_option linter.unusedVariables false
set_option linter.unusedSimpArgs false
namespace Go.Proofs.YtpdeaekmgljeaaaGreatDoor
open Go Go.Abs

def qn (u : Bool) (d : UInt8) : Bool := lowB d || (digB d || (u && uppB d))
theorem qn_ld : qn false = ldB := by funext d; simp [qn, ldB]
theorem qn_lud : qn true = ludB := by funext d; simp only [qn, ludB, Bool.true_and]; rw [Bool.or_comm (digB d)]
theorem low_upp {c : UInt8} (h : lowB c = true) : uppB c = false := by
  simp only [lowB, uppB, Bool.and_eq_true, decide_eq_true_eq, Bool.and_eq_false_iff, decide_eq_false_iff_not] at h ⊢
  omega
theorem oneL_name {b : Str} {i : Nat} {c : UInt8} (h : (lowB c || uppB c) = true) : oneL b i c = nameN b i (if uppB c = true then 3 else if passS (qn (uppB c)) b i ∈ wordsL then 2 else 1) (qn (uppB c)) := by
  unfold oneL
  cases hl : lowB c with
  | true => simp [low_upp hl, qn_ld]
  | false =>
    cases hu : uppB c with
    | true => simp [qn_lud]
    | false => simp [hl, hu] at h
structure NSt where
  k : Nat
  n : Nat
  g : Bool
structure NIn (b : Str) (i : Nat) (x : NSt) : Prop where
  hik : i ≤ x.k
  hk : x.k ≤ b.length
  he : spanE digB b i = spanE digB b x.k
  h0 : x.g = false → x.n ≤ 9223372036854775807 ∧ numV (passS digB b i) 0 = numV (passS digB b x.k) x.n
  h1 : x.g = true → x.n = 0 ∧ 9223372036854775807 < numV (passS digB b i) 0
theorem passS_hit {q : UInt8 → Bool} {b : Str} {i : Nat} {c : UInt8} (h : b[i]? = some c) (hq : q c = true) : passS q b i = c :: passS q b (i + 1) := by
  unfold passS
  rw [drop_cons h, List.takeWhile_cons_of_pos hq]
theorem passS_miss {q : UInt8 → Bool} {b : Str} {i : Nat} {c : UInt8} (h : b[i]? = some c) (hq : q c = false) : passS q b i = [] := by
  unfold passS
  rw [drop_cons h, List.takeWhile_cons_of_neg (by simp [hq])]
theorem passS_end {q : UInt8 → Bool} {b : Str} {i : Nat} (h : b.length ≤ i) : passS q b i = [] := by
  unfold passS
  rw [List.drop_eq_nil_of_le h]
  rfl
theorem wrap_digit {n : Nat} {d : UInt8} (hd : 48 ≤ d.toNat ∧ d.toNat ≤ 57) (hn : n * 10 + (d.toNat - 48) ≤ 9223372036854775807) : IntKind.wrap .u64 (10 * (n : Int) + IntKind.wrap .u64 (IntKind.wrap .u8 ((d.toNat : Int) - 48))) = ((n * 10 + (d.toNat - 48) : Nat) : Int) := by
  have e1 : IntKind.wrap .u8 ((d.toNat : Int) - 48) = (d.toNat : Int) - 48 := wrap_u8 (by omega) (by omega)
  have e2 : IntKind.wrap .u64 ((d.toNat : Int) - 48) = (d.toNat : Int) - 48 := wrap_u64 (by omega) (by omega)
  rw [e1, e2, wrap_u64 (by omega) (by omega)]
  omega
def sgn (x : Str) : Str := (signsL.find? fun s => decide (x.take s.length = s)).getD []
theorem sgn_ones {c : UInt8} {r : Str} : ∀ l : List Str, (∀ s ∈ l, s.length = 1) → (l.find? fun s => decide ((c :: r).take s.length = s)).getD [] = if [c] ∈ l then [c] else []
  | [], _ => rfl
  | s :: l, h => by
    have h1 := h s (.head _)
    rw [List.find?_cons, h1]
    by_cases e : [c] = s
    · rw [show decide ((c :: r).take 1 = s) = true from decide_eq_true (by simpa using e), if_pos (by rw [e]; exact .head _)]
      exact e.symm
    · rw [show decide ((c :: r).take 1 = s) = false from decide_eq_false (by simpa using e)]
      rw [sgn_ones l fun s hs => h s (.tail _ hs)]
      simp [e]
theorem sgn_one {c : UInt8} : sgn [c] = if [c] ∈ onesL then [c] else [] := by
  have h := sgn_ones (c := c) (r := []) onesL (by decide)
  rw [← h]
  unfold sgn
  have k : ∀ x y : UInt8, decide (List.take 2 [c] = [x, y]) = false := fun x y => decide_eq_false (by simp)
  rw [show signsL = [45, 62] :: [61, 61] :: [58, 61] :: onesL from rfl]
  simp only [List.find?_cons, List.length_cons, List.length_nil, Nat.zero_add, Nat.reduceAdd, k]
theorem sgn_two {c e : UInt8} : sgn [c, e] = if [c, e] ∈ [[45, 62], [61, 61], [58, 61]] then [c, e] else if [c] ∈ onesL then [c] else [] := by
  have h := sgn_ones (c := c) (r := [e]) onesL (by decide)
  rw [← h]
  unfold sgn
  rw [show signsL = [45, 62] :: [61, 61] :: [58, 61] :: onesL from rfl]
  simp only [List.find?_cons, List.length_cons, List.length_nil, List.take, List.mem_cons, List.not_mem_nil, or_false]
  by_cases h1 : [c, e] = [45, 62]
  · simp [h1]
  by_cases h2 : [c, e] = [61, 61]
  · simp [h2]
  by_cases h3 : [c, e] = [58, 61]
  · simp [h3]
  simp only [h1, h2, h3, decide_false, or_self, if_false]
def OnePost (σ : Sg) (x : NR) (r : D) (σ' : Sg) : Prop := (match x with
  | .tok t to => r = .tup [.v (encK t), .v (.int .i64 to), .v (.int .i64 (-1))]
  | .bad q => ∃ (t : Tk) (e : Int), r = .tup [.v (encK t), .v (.int .i64 e), .v (.int .i64 q)]) ∧ σ' = σ
set_option maxHeartbeats 1000000 in
theorem k_ROne {b : Str} {i : Nat} {c : UInt8} {σ : Sg} (hc : b[i]? = some c) (hb : b.length ≤ 1048576) : ACalls Tryz.prog 135 [.v (vBs b), .v (.int .i64 i)] σ (OnePost σ (oneL b i c)) := by
  have hi : i < b.length := (List.getElem?_eq_some_iff.1 hc).1
  have cl := fun c σ => k_RLow (c := c) (σ := σ)
  have cu := fun c σ => k_RHigh (c := c) (σ := σ)
  have cd := fun c σ => k_RDigit (c := c) (σ := σ)
  unfold vB at cl cu cd
  obtain ⟨X, hX⟩ : ∃ X, X = oneL b i c := ⟨_, rfl⟩
  rw [← hX]
  refine acalls_fit Tryz.func135 (by kernel_rfl) c135 rfl (by simp [a135]) fun hf => ?_
  clear hf
  simp -implicitDefEqProofs (maxSteps := 2000000) (disch := omega) [-getElem?_pos, a135]
  refine ⟨by omega, fun c' hc' => ?_⟩
  rw [hc] at hc'
  cases hc'
  refine (cl _ _).then fun r hr => ?_
  subst hr
  simp -implicitDefEqProofs (maxSteps := 2000000) (disch := omega) [-getElem?_pos]
  refine (cu _ _).then fun r hr => ?_
  subst hr
  simp -implicitDefEqProofs (maxSteps := 2000000) (disch := omega) [-getElem?_pos]
  refine (cd _ _).then fun r hr => ?_
  subst hr
  cases hlo : lowB c with
  | true =>
    have hup := low_upp hlo
    have hq0 : qn false c = true := by simp [qn, hlo, hup]
    rw [oneL_name (by simp [hlo, hup]), hup] at hX
    simp -implicitDefEqProofs (maxSteps := 2000000) (disch := omega) [-getElem?_pos]
    refine W_loop (α := Nat) i (fun k => b.length - k) (fun k => ⟨[(0, .v (vBs b)), (1, .v (.int .i64 i)), (4, .ptr σ.objs.length 0), (8, .v (.int .i64 k)), (10, .v (.bool false))], ⟨σ.objs ++ [.cells [.v (.int .i64 0), .v (.int .i64 0), .v (.int .i64 0), .v (.str [])]], σ.toks⟩⟩)
      (fun k => i ≤ k ∧ k ≤ b.length ∧ spanE (qn false) b i = spanE (qn false) b k) (.eq2 (by simp [hup]) (by simp [hup])) ⟨Nat.le_refl _, by omega, rfl⟩ fun k ⟨hik, hk, he⟩ => ?_
    simp -implicitDefEqProofs (maxSteps := 2000000) (disch := omega) [-getElem?_pos]
    have upp : ∀ h : k < b.length, ∀ d, b[k]? = some d → qn false d = true → i ≤ k + 1 ∧ k + 1 ≤ b.length ∧ spanE (qn false) b i = spanE (qn false) b (k + 1) := fun h d hd hq => ⟨by omega, by omega, by rw [he, spanE_hit hd hq]⟩
    refine .mk (fun h => ?_) fun h => ?_
    · simp -implicitDefEqProofs (maxSteps := 2000000) (disch := omega) [-getElem?_pos]
      refine ⟨by omega, fun d hd => ?_⟩
      refine (cl _ _).then fun r hr => ?_
      subst hr
      cases hld : lowB d with
      | true =>
        simp -implicitDefEqProofs (maxSteps := 2000000) (disch := omega) [-getElem?_pos]
        exact ⟨k + 1, upp h d hd (by simp [qn, hld]), by show b.length - (k + 1) < b.length - k; omega, .eq (by simp)⟩
      | false =>
        simp -implicitDefEqProofs (maxSteps := 2000000) (disch := omega) [-getElem?_pos]
        refine ⟨by omega, fun d' hd' => ?_⟩
        rw [hd] at hd'
        cases hd'
        refine (cd _ _).then fun r hr => ?_
        subst hr
        cases hdd : digB d with
        | true =>
          simp -implicitDefEqProofs (maxSteps := 2000000) (disch := omega) [-getElem?_pos]
          exact ⟨k + 1, upp h d hd (by simp [qn, hld, hdd]), by show b.length - (k + 1) < b.length - k; omega, .eq (by simp)⟩
        | false =>
          simp -implicitDefEqProofs (maxSteps := 2000000) (disch := omega) [-getElem?_pos]
          have hE : spanE (qn false) b i = k := by rw [he]; exact spanE_miss hd (by simp [qn, hld, hdd])
          have hP : List.drop i (List.take k b) = passS (qn false) b i := by rw [← hE, passS_eq]
          have hL : (passS (qn false) b i).length = k - i := by rw [← hP]; simp; omega
          rw [hP]
          refine ⟨by omega, by omega, k_IsWord.then fun r hr => ?_⟩
          subst hr
          by_cases hw : passS (qn false) b i ∈ wordsL
          · simp -implicitDefEqProofs (maxSteps := 2000000) (disch := omega) [-getElem?_pos, hw]
            refine .mk (fun h20 => ?_) fun h20 => ?_
            · rw [show X = NR.bad i from by rw [hX, nameN, if_pos (by omega)]]
              simp -implicitDefEqProofs (maxSteps := 2000000) (disch := omega) [-getElem?_pos, hw]
              exact .fin _ ⟨⟨⟨0, 0, 0, []⟩, _, rfl⟩, rfl⟩ (.refl _)
            · rw [show X = NR.tok ⟨2, i, 0, passS (qn false) b i⟩ k from by rw [hX, nameN, if_neg (by omega), hE]; simp [hw]]
              simp -implicitDefEqProofs (maxSteps := 2000000) (disch := omega) [-getElem?_pos, hw]
              exact .fin _ ⟨rfl, rfl⟩ (.refl _)
          · simp -implicitDefEqProofs (maxSteps := 2000000) (disch := omega) [-getElem?_pos, hw]
            refine .mk (fun h20 => ?_) fun h20 => ?_
            · rw [show X = NR.bad i from by rw [hX, nameN, if_pos (by omega)]]
              simp -implicitDefEqProofs (maxSteps := 2000000) (disch := omega) [-getElem?_pos, hw]
              exact .fin _ ⟨⟨⟨0, 0, 0, []⟩, _, rfl⟩, rfl⟩ (.refl _)
            · rw [show X = NR.tok ⟨1, i, 0, passS (qn false) b i⟩ k from by rw [hX, nameN, if_neg (by omega), hE]; simp [hw]]
              simp -implicitDefEqProofs (maxSteps := 2000000) (disch := omega) [-getElem?_pos, hw]
              exact .fin _ ⟨rfl, rfl⟩ (.refl _)


    · simp -implicitDefEqProofs (maxSteps := 2000000) (disch := omega) [-getElem?_pos]
      have hE : spanE (qn false) b i = k := by rw [he, spanE_end (by omega)]; 
      have hP : List.drop i (List.take k b) = passS (qn false) b i := by rw [← hE, passS_eq]
      have hL : (passS (qn false) b i).length = k - i := by rw [← hP]; simp; omega
      rw [hP]
      refine ⟨by omega, by omega, k_IsWord.then fun r hr => ?_⟩
      subst hr
      by_cases hw : passS (qn false) b i ∈ wordsL
      · simp -implicitDefEqProofs (maxSteps := 2000000) (disch := omega) [-getElem?_pos, hw]
        refine .mk (fun h20 => ?_) fun h20 => ?_
        · rw [show X = NR.bad i from by rw [hX, nameN, if_pos (by omega)]]
          simp -implicitDefEqProofs (maxSteps := 2000000) (disch := omega) [-getElem?_pos, hw]
          exact .fin _ ⟨⟨⟨0, 0, 0, []⟩, _, rfl⟩, rfl⟩ (.refl _)
        · rw [show X = NR.tok ⟨2, i, 0, passS (qn false) b i⟩ k from by rw [hX, nameN, if_neg (by omega), hE]; simp [hw]]
          simp -implicitDefEqProofs (maxSteps := 2000000) (disch := omega) [-getElem?_pos, hw]
          exact .fin _ ⟨rfl, rfl⟩ (.refl _)
      · simp -implicitDefEqProofs (maxSteps := 2000000) (disch := omega) [-getElem?_pos, hw]
        refine .mk (fun h20 => ?_) fun h20 => ?_
        · rw [show X = NR.bad i from by rw [hX, nameN, if_pos (by omega)]]
          simp -implicitDefEqProofs (maxSteps := 2000000) (disch := omega) [-getElem?_pos, hw]
          exact .fin _ ⟨⟨⟨0, 0, 0, []⟩, _, rfl⟩, rfl⟩ (.refl _)
        · rw [show X = NR.tok ⟨1, i, 0, passS (qn false) b i⟩ k from by rw [hX, nameN, if_neg (by omega), hE]; simp [hw]]
          simp -implicitDefEqProofs (maxSteps := 2000000) (disch := omega) [-getElem?_pos, hw]
          exact .fin _ ⟨rfl, rfl⟩ (.refl _)


  | false =>
  cases hup : uppB c with
  | true =>
    have hq0 : qn true c = true := by simp [qn, hlo, hup]
    rw [oneL_name (by simp [hlo, hup]), hup] at hX
    simp -implicitDefEqProofs (maxSteps := 2000000) (disch := omega) [-getElem?_pos]
    refine W_loop (α := Nat) i (fun k => b.length - k) (fun k => ⟨[(0, .v (vBs b)), (1, .v (.int .i64 i)), (4, .ptr σ.objs.length 0), (8, .v (.int .i64 k)), (10, .v (.bool true))], ⟨σ.objs ++ [.cells [.v (.int .i64 0), .v (.int .i64 0), .v (.int .i64 0), .v (.str [])]], σ.toks⟩⟩)
      (fun k => i ≤ k ∧ k ≤ b.length ∧ spanE (qn true) b i = spanE (qn true) b k) (.eq2 (by simp [hup]) (by simp [hup])) ⟨Nat.le_refl _, by omega, rfl⟩ fun k ⟨hik, hk, he⟩ => ?_
    simp -implicitDefEqProofs (maxSteps := 2000000) (disch := omega) [-getElem?_pos]
    have upp : ∀ h : k < b.length, ∀ d, b[k]? = some d → qn true d = true → i ≤ k + 1 ∧ k + 1 ≤ b.length ∧ spanE (qn true) b i = spanE (qn true) b (k + 1) := fun h d hd hq => ⟨by omega, by omega, by rw [he, spanE_hit hd hq]⟩
    refine .mk (fun h => ?_) fun h => ?_
    · simp -implicitDefEqProofs (maxSteps := 2000000) (disch := omega) [-getElem?_pos]
      refine ⟨by omega, fun d hd => ?_⟩
      refine (cl _ _).then fun r hr => ?_
      subst hr
      cases hld : lowB d with
      | true =>
        simp -implicitDefEqProofs (maxSteps := 2000000) (disch := omega) [-getElem?_pos]
        exact ⟨k + 1, upp h d hd (by simp [qn, hld]), by show b.length - (k + 1) < b.length - k; omega, .eq (by simp)⟩
      | false =>
        simp -implicitDefEqProofs (maxSteps := 2000000) (disch := omega) [-getElem?_pos]
        refine ⟨by omega, fun d' hd' => ?_⟩
        rw [hd] at hd'
        cases hd'
        refine (cd _ _).then fun r hr => ?_
        subst hr
        cases hdd : digB d with
        | true =>
          simp -implicitDefEqProofs (maxSteps := 2000000) (disch := omega) [-getElem?_pos]
          exact ⟨k + 1, upp h d hd (by simp [qn, hld, hdd]), by show b.length - (k + 1) < b.length - k; omega, .eq (by simp)⟩
        | false =>
          simp -implicitDefEqProofs (maxSteps := 2000000) (disch := omega) [-getElem?_pos]
          refine ⟨by omega, fun d' hd' => ?_⟩
          rw [hd] at hd'
          cases hd'
          refine (cu _ _).then fun r hr => ?_
          subst hr
          cases hud : uppB d with
          | true =>
            simp -implicitDefEqProofs (maxSteps := 2000000) (disch := omega) [-getElem?_pos]
            exact ⟨k + 1, upp h d hd (by simp [qn, hld, hdd, hud]), by show b.length - (k + 1) < b.length - k; omega, .eq (by simp)⟩
          | false =>
            simp -implicitDefEqProofs (maxSteps := 2000000) (disch := omega) [-getElem?_pos]
            have hE : spanE (qn true) b i = k := by rw [he]; exact spanE_miss hd (by simp [qn, hld, hdd, hud])
            have hP : List.drop i (List.take k b) = passS (qn true) b i := by rw [← hE, passS_eq]
            have hL : (passS (qn true) b i).length = k - i := by rw [← hP]; simp; omega
            rw [hP]
            refine ⟨by omega, by omega, k_IsWord.then fun r hr => ?_⟩
            subst hr
            by_cases hw : passS (qn true) b i ∈ wordsL
            · simp -implicitDefEqProofs (maxSteps := 2000000) (disch := omega) [-getElem?_pos, hw]
              refine .mk (fun h20 => ?_) fun h20 => ?_
              · rw [show X = NR.bad i from by rw [hX, nameN, if_pos (by omega)]]
                simp -implicitDefEqProofs (maxSteps := 2000000) (disch := omega) [-getElem?_pos, hw]
                exact .fin _ ⟨⟨⟨0, 0, 0, []⟩, _, rfl⟩, rfl⟩ (.refl _)
              · rw [show X = NR.tok ⟨3, i, 0, passS (qn true) b i⟩ k from by rw [hX, nameN, if_neg (by omega), hE]; simp [hw]]
                simp -implicitDefEqProofs (maxSteps := 2000000) (disch := omega) [-getElem?_pos, hw]
                exact .fin _ ⟨rfl, rfl⟩ (.refl _)
            · simp -implicitDefEqProofs (maxSteps := 2000000) (disch := omega) [-getElem?_pos, hw]
              refine .mk (fun h20 => ?_) fun h20 => ?_
              · rw [show X = NR.bad i from by rw [hX, nameN, if_pos (by omega)]]
                simp -implicitDefEqProofs (maxSteps := 2000000) (disch := omega) [-getElem?_pos, hw]
                exact .fin _ ⟨⟨⟨0, 0, 0, []⟩, _, rfl⟩, rfl⟩ (.refl _)
              · rw [show X = NR.tok ⟨3, i, 0, passS (qn true) b i⟩ k from by rw [hX, nameN, if_neg (by omega), hE]; simp [hw]]
                simp -implicitDefEqProofs (maxSteps := 2000000) (disch := omega) [-getElem?_pos, hw]
                exact .fin _ ⟨rfl, rfl⟩ (.refl _)


    · simp -implicitDefEqProofs (maxSteps := 2000000) (disch := omega) [-getElem?_pos]
      have hE : spanE (qn true) b i = k := by rw [he, spanE_end (by omega)]; 
      have hP : List.drop i (List.take k b) = passS (qn true) b i := by rw [← hE, passS_eq]
      have hL : (passS (qn true) b i).length = k - i := by rw [← hP]; simp; omega
      rw [hP]
      refine ⟨by omega, by omega, k_IsWord.then fun r hr => ?_⟩
      subst hr
      by_cases hw : passS (qn true) b i ∈ wordsL
      · simp -implicitDefEqProofs (maxSteps := 2000000) (disch := omega) [-getElem?_pos, hw]
        refine .mk (fun h20 => ?_) fun h20 => ?_
        · rw [show X = NR.bad i from by rw [hX, nameN, if_pos (by omega)]]
          simp -implicitDefEqProofs (maxSteps := 2000000) (disch := omega) [-getElem?_pos, hw]
          exact .fin _ ⟨⟨⟨0, 0, 0, []⟩, _, rfl⟩, rfl⟩ (.refl _)
        · rw [show X = NR.tok ⟨3, i, 0, passS (qn true) b i⟩ k from by rw [hX, nameN, if_neg (by omega), hE]; simp [hw]]
          simp -implicitDefEqProofs (maxSteps := 2000000) (disch := omega) [-getElem?_pos, hw]
          exact .fin _ ⟨rfl, rfl⟩ (.refl _)
      · simp -implicitDefEqProofs (maxSteps := 2000000) (disch := omega) [-getElem?_pos, hw]
        refine .mk (fun h20 => ?_) fun h20 => ?_
        · rw [show X = NR.bad i from by rw [hX, nameN, if_pos (by omega)]]
          simp -implicitDefEqProofs (maxSteps := 2000000) (disch := omega) [-getElem?_pos, hw]
          exact .fin _ ⟨⟨⟨0, 0, 0, []⟩, _, rfl⟩, rfl⟩ (.refl _)
        · rw [show X = NR.tok ⟨3, i, 0, passS (qn true) b i⟩ k from by rw [hX, nameN, if_neg (by omega), hE]; simp [hw]]
          simp -implicitDefEqProofs (maxSteps := 2000000) (disch := omega) [-getElem?_pos, hw]
          exact .fin _ ⟨rfl, rfl⟩ (.refl _)


  | false =>
  cases hdi : digB c with
  | true =>
    rw [oneL, if_neg (by simp [hlo]), if_neg (by simp [hup]), if_pos hdi] at hX
    simp -implicitDefEqProofs (maxSteps := 2000000) (disch := omega) [-getElem?_pos]
    refine W_loop (α := NSt) ⟨i, 0, false⟩ (fun x => b.length - x.k) (fun x => ⟨[(0, .v (vBs b)), (1, .v (.int .i64 i)), (4, .ptr σ.objs.length 0), (7, .v (.int .u8 c.toNat)), (8, .v (.int .i64 x.k)), (14, .v (.int .u64 x.n)), (15, .v (.bool x.g))], ⟨σ.objs ++ [.cells [.v (.int .i64 0), .v (.int .i64 0), .v (.int .i64 0), .v (.str [])]], σ.toks⟩⟩)
      (fun x => NIn b i x) (.eq2 (by simp [hdi]) (by simp)) ⟨Nat.le_refl _, by dsimp only; omega, rfl, fun _ => ⟨by simp, rfl⟩, fun h => by cases h⟩ fun ⟨k, n, g⟩ ⟨hik, hk, he, h0, h1⟩ => ?_
    dsimp only at hik hk he h0 h1
    simp -implicitDefEqProofs (maxSteps := 2000000) (disch := omega) [-getElem?_pos]
    refine .mk (fun h => ?_) fun h => ?_
    · simp -implicitDefEqProofs (maxSteps := 2000000) (disch := omega) [-getElem?_pos]
      refine ⟨by omega, fun d hd => ?_⟩
      refine (cd _ _).then fun r hr => ?_
      subst hr
      cases hdd : digB d with
      | true =>
        have hdg : 48 ≤ d.toNat ∧ d.toNat ≤ 57 := by simpa [digB] using hdd
        have hrk : b.length - (k + 1) < b.length - k := by omega
        have hek : spanE digB b i = spanE digB b (k + 1) := by rw [he, spanE_hit hd hdd]
        cases g with
        | true =>
          simp -implicitDefEqProofs (maxSteps := 2000000) (disch := omega) [-getElem?_pos]
          exact ⟨by omega, fun d' hd' => ⟨⟨k + 1, 0, true⟩, ⟨by dsimp only; omega, h, hek, fun h => Bool.noConfusion h, fun _ => ⟨rfl, (h1 rfl).2⟩⟩, hrk, .eq (by simp)⟩⟩
        | false =>
          obtain ⟨hn, hv⟩ := h0 rfl
          rw [passS_hit hd hdd, numV_cons] at hv
          have hge := numV_ge (passS digB b (k + 1)) (n * 10 + (d.toNat - 48))
          simp -implicitDefEqProofs (maxSteps := 2000000) (disch := omega) [-getElem?_pos]
          refine .mk (fun h2 => ?_) fun h2 => ?_
          · simp -implicitDefEqProofs (maxSteps := 2000000) (disch := omega) [-getElem?_pos]
            refine .mk (fun h3 => ?_) fun h3 => ?_
            · simp -implicitDefEqProofs (maxSteps := 2000000) (disch := omega) [-getElem?_pos]
              refine ⟨by omega, fun d' hd' => ⟨by omega, fun d'' hd'' => ?_⟩⟩
              rw [hd] at hd' hd''
              cases hd'
              cases hd''
              refine .mk (fun h4 => ?_) fun h4 => ?_
              · simp -implicitDefEqProofs (maxSteps := 2000000) (disch := omega) [-getElem?_pos]
                exact ⟨⟨k + 1, 0, true⟩, ⟨by dsimp only; omega, h, hek, fun h => Bool.noConfusion h, fun _ => ⟨rfl, by omega⟩⟩, hrk, .eq (by simp; exact h4)⟩
              · have hw := wrap_digit (n := n) hdg (by omega)
                have h4' : decide (55 < (d.toNat : Int)) = false := decide_eq_false h4
                simp -implicitDefEqProofs (maxSteps := 2000000) (disch := omega) [-getElem?_pos, h4']
                exact ⟨⟨k + 1, n * 10 + (d.toNat - 48), false⟩, ⟨by dsimp only; omega, h, hek, fun _ => ⟨by dsimp only; omega, hv⟩, fun h => Bool.noConfusion h⟩, hrk, .eq (by simp [h4']; omega)⟩
            · simp -implicitDefEqProofs (maxSteps := 2000000) (disch := omega) [-getElem?_pos]
              refine ⟨by omega, fun d' hd' => ?_⟩
              rw [hd] at hd'
              cases hd'
              have hw := wrap_digit (n := n) hdg (by omega)
              exact ⟨⟨k + 1, n * 10 + (d.toNat - 48), false⟩, ⟨by dsimp only; omega, h, hek, fun _ => ⟨by dsimp only; omega, hv⟩, fun h => Bool.noConfusion h⟩, hrk, .eq (by simp [hw])⟩
          · simp -implicitDefEqProofs (maxSteps := 2000000) (disch := omega) [-getElem?_pos]
            refine ⟨by omega, fun d' hd' => ?_⟩
            exact ⟨⟨k + 1, 0, true⟩, ⟨by dsimp only; omega, h, hek, fun h => Bool.noConfusion h, fun _ => ⟨rfl, by omega⟩⟩, hrk, .eq (by simp)⟩
      | false =>
        have hE : spanE digB b i = k := by rw [he]; exact spanE_miss hd hdd
        have hP := passS_miss hd hdd
        cases g with
        | true =>
          rw [show X = NR.bad i from by rw [hX, numN, if_pos (.inl (h1 rfl).2)]]
          simp -implicitDefEqProofs (maxSteps := 2000000) (disch := omega) [-getElem?_pos]
          exact .fin _ ⟨⟨⟨0, 0, 0, []⟩, _, rfl⟩, rfl⟩ (.refl _)
        | false =>
          obtain ⟨hn, hv⟩ := h0 rfl
          rw [hP, numV_nil] at hv
          have hL : (passS digB b i).length = k - i := by rw [← passS_eq, hE]; simp; omega
          have hwn : IntKind.wrap .i64 (n : Int) = n := wrap_i64 (by omega) (by omega)
          simp -implicitDefEqProofs (maxSteps := 2000000) (disch := omega) [-getElem?_pos, hwn]
          refine .mk (fun h1 => ?_) fun h1 => ?_
          · simp -implicitDefEqProofs (maxSteps := 2000000) (disch := omega) [-getElem?_pos, hwn]
            refine .mk (fun h48 => ?_) fun h48 => ?_
            · rw [show X = NR.bad i from by rw [hX, numN, if_pos (.inr ⟨by omega, by omega⟩)]]
              simp -implicitDefEqProofs (maxSteps := 2000000) (disch := omega) [-getElem?_pos, hwn]
              exact .fin _ ⟨⟨⟨0, 0, 0, []⟩, _, rfl⟩, rfl⟩ (.refl _)
            · rw [show X = NR.tok ⟨4, i, n, []⟩ k from by rw [hX, numN, if_neg (by omega), hE, hv]]
              simp -implicitDefEqProofs (maxSteps := 2000000) (disch := omega) [-getElem?_pos, hwn]
              exact .fin _ ⟨rfl, rfl⟩ (.refl _)
          · rw [show X = NR.tok ⟨4, i, n, []⟩ k from by rw [hX, numN, if_neg (by omega), hE, hv]]
            simp -implicitDefEqProofs (maxSteps := 2000000) (disch := omega) [-getElem?_pos, hwn]
            exact .fin _ ⟨rfl, rfl⟩ (.refl _)

    · have hE : spanE digB b i = k := by rw [he]; exact spanE_end (by omega)
      have hP : passS digB b k = [] := passS_end (by omega)
      cases g with
      | true =>
        rw [show X = NR.bad i from by rw [hX, numN, if_pos (.inl (h1 rfl).2)]]
        simp -implicitDefEqProofs (maxSteps := 2000000) (disch := omega) [-getElem?_pos]
        exact .fin _ ⟨⟨⟨0, 0, 0, []⟩, _, rfl⟩, rfl⟩ (.refl _)
      | false =>
        obtain ⟨hn, hv⟩ := h0 rfl
        rw [hP, numV_nil] at hv
        have hL : (passS digB b i).length = k - i := by rw [← passS_eq, hE]; simp; omega
        have hwn : IntKind.wrap .i64 (n : Int) = n := wrap_i64 (by omega) (by omega)
        simp -implicitDefEqProofs (maxSteps := 2000000) (disch := omega) [-getElem?_pos, hwn]
        refine .mk (fun h1 => ?_) fun h1 => ?_
        · simp -implicitDefEqProofs (maxSteps := 2000000) (disch := omega) [-getElem?_pos, hwn]
          refine .mk (fun h48 => ?_) fun h48 => ?_
          · rw [show X = NR.bad i from by rw [hX, numN, if_pos (.inr ⟨by omega, by omega⟩)]]
            simp -implicitDefEqProofs (maxSteps := 2000000) (disch := omega) [-getElem?_pos, hwn]
            exact .fin _ ⟨⟨⟨0, 0, 0, []⟩, _, rfl⟩, rfl⟩ (.refl _)
          · rw [show X = NR.tok ⟨4, i, n, []⟩ k from by rw [hX, numN, if_neg (by omega), hE, hv]]
            simp -implicitDefEqProofs (maxSteps := 2000000) (disch := omega) [-getElem?_pos, hwn]
            exact .fin _ ⟨rfl, rfl⟩ (.refl _)
        · rw [show X = NR.tok ⟨4, i, n, []⟩ k from by rw [hX, numN, if_neg (by omega), hE, hv]]
          simp -implicitDefEqProofs (maxSteps := 2000000) (disch := omega) [-getElem?_pos, hwn]
          exact .fin _ ⟨rfl, rfl⟩ (.refl _)

  | false =>
    rw [oneL, if_neg (by simp [hlo]), if_neg (by simp [hup]), if_neg (by simp [hdi])] at hX
    simp -implicitDefEqProofs (maxSteps := 2000000) (disch := omega) [-getElem?_pos]
    refine .mk (fun h34 => ?_) fun h34 => ?_
    · rw [if_pos (by omega)] at hX
      simp -implicitDefEqProofs (maxSteps := 2000000) (disch := omega) [-getElem?_pos]
      refine (k_RText (b := b) (i := i + 1) (by omega) hb).then fun r hr => ?_
      cases ht : textL (b.drop (i + 1)) (i + 1) [] with
      | ok st to =>
        rw [ht] at hX
        simp only [ht] at hr
        subst hr
        have hlt := textL_to _ _ _ _ _ _ (Nat.le_refl _) ht
        simp -implicitDefEqProofs (maxSteps := 2000000) (disch := omega) [-getElem?_pos]
        refine .mk (fun h2 => ?_) fun h2 => ?_
        · rw [show X = NR.bad i from by rw [hX, textN, if_pos (by omega)]]
          simp -implicitDefEqProofs (maxSteps := 2000000) (disch := omega) [-getElem?_pos]
          exact .fin _ ⟨⟨⟨5, i, 0, st⟩, _, rfl⟩, rfl⟩ (.refl _)
        · rw [show X = NR.tok ⟨5, i, 0, st⟩ to from by rw [hX, textN, if_neg (by omega)]]
          simp -implicitDefEqProofs (maxSteps := 2000000) (disch := omega) [-getElem?_pos]
          exact .fin _ ⟨rfl, rfl⟩ (.refl _)
      | bad q =>
        rw [ht] at hX
        simp only [ht] at hr
        subst hr
        rw [show X = NR.bad q from hX]
        simp -implicitDefEqProofs (maxSteps := 2000000) (disch := omega) [-getElem?_pos]
        refine .mk (fun h2 => by omega) fun h2 => ?_
        simp -implicitDefEqProofs (maxSteps := 2000000) (disch := omega) [-getElem?_pos]
        exact .fin _ ⟨⟨⟨5, i, 0, []⟩, _, rfl⟩, rfl⟩ (.refl _)
    · rw [if_neg (by omega)] at hX
      have hone : List.drop i (List.take (i + 1) b) = [c] := by rw [List.drop_take, drop_cons hc]; simp
      simp -implicitDefEqProofs (maxSteps := 2000000) (disch := omega) [-getElem?_pos]
      refine .mk (fun h => ?_) fun h => ?_
      · obtain ⟨e, hce⟩ : ∃ e, b[i + 1]? = some e := ⟨b[i + 1]'(by omega), List.getElem?_eq_getElem _⟩
        have htwo : List.drop i (List.take (i + 2) b) = [c, e] := by rw [List.drop_take, drop_cons hc, drop_cons hce]; simp
        have hS : signF b i signsL = sgn [c, e] := by rw [signF, drop_cons hc, drop_cons hce]; rfl
        rw [sgn_two] at hS
        have ht2 : ((i : Int) + 2).toNat = i + 2 := by omega
        have h1i : ((i : Int) + 1).toNat = i + 1 := by omega
        by_cases hA : c = 45 ∧ e = 62
        · skip
          have hS2 : signF b i signsL = [c, e] := by rw [hS, if_pos (by simp [hA])]
          rw [show X = NR.tok ⟨6, i, 0, [c, e]⟩ (i + 2) from by rw [hX, signN, hS2, if_neg (by simp)]; rfl]
          obtain ⟨rfl, rfl⟩ := hA
          simp -implicitDefEqProofs (maxSteps := 2000000) (disch := omega) [-getElem?_pos, h1i, hone, ht2, htwo]
          refine ⟨by omega, by omega, ?_⟩
          exact .fin _ ⟨rfl, rfl⟩ (.refl _)

        by_cases hB : c = 61 ∧ e = 61
        · skip
          have hS2 : signF b i signsL = [c, e] := by rw [hS, if_pos (by simp [hB])]
          rw [show X = NR.tok ⟨6, i, 0, [c, e]⟩ (i + 2) from by rw [hX, signN, hS2, if_neg (by simp)]; rfl]
          obtain ⟨rfl, rfl⟩ := hB
          simp -implicitDefEqProofs (maxSteps := 2000000) (disch := omega) [-getElem?_pos, h1i, hone, ht2, htwo]
          refine ⟨by omega, by omega, ?_⟩
          exact .fin _ ⟨rfl, rfl⟩ (.refl _)

        by_cases hC : c = 58 ∧ e = 61
        · skip
          have hS2 : signF b i signsL = [c, e] := by rw [hS, if_pos (by simp [hC])]
          rw [show X = NR.tok ⟨6, i, 0, [c, e]⟩ (i + 2) from by rw [hX, signN, hS2, if_neg (by simp)]; rfl]
          obtain ⟨rfl, rfl⟩ := hC
          simp -implicitDefEqProofs (maxSteps := 2000000) (disch := omega) [-getElem?_pos, h1i, hone, ht2, htwo]
          refine ⟨by omega, by omega, ?_⟩
          exact .fin _ ⟨rfl, rfl⟩ (.refl _)

        rw [if_neg (by simp only [List.mem_cons, List.not_mem_nil, or_false, List.cons.injEq, and_true, not_or]; exact ⟨hA, hB, hC⟩)] at hS
        simp -implicitDefEqProofs (maxSteps := 2000000) (disch := omega) [-getElem?_pos, hone, ht2, htwo]
        refine ⟨by omega, by omega, ?_⟩
        refine .mk (fun h => absurd h hA) fun _ => ?_
        have hB' := not_and.1 hB
        have hC' := not_and.1 hC
        have hBb : (c == 61 && e == 61) = false := by simpa using hB'
        have hCb : (c == 58 && e == 61) = false := by simpa using hC'
        simp -implicitDefEqProofs (maxSteps := 2000000) (disch := omega) [-getElem?_pos, hone, ht2, htwo, hBb, hCb, h1i]
        refine ⟨by omega, by omega, ?_⟩
        refine ((k_RIn (l := onesL) (s := [c])).argA VLe.lax.d).then fun r hr => ?_
        subst hr
        by_cases ho : [c] ∈ onesL
        · rw [if_pos ho] at hS
          rw [show X = NR.tok ⟨6, i, 0, [c]⟩ (i + 1) from by rw [hX, signN, hS, if_neg (by simp)]; rfl]
          simp -implicitDefEqProofs (maxSteps := 2000000) (disch := omega) [-getElem?_pos, ho]
          exact .fin _ ⟨rfl, rfl⟩ (.refl _)
        · rw [if_neg ho] at hS
          rw [show X = NR.bad i from by rw [hX, signN, hS, if_pos rfl]]
          simp -implicitDefEqProofs (maxSteps := 2000000) (disch := omega) [-getElem?_pos, ho]
          exact .fin _ ⟨⟨⟨0, 0, 0, []⟩, _, rfl⟩, rfl⟩ (.refl _)

      · have hS : signF b i signsL = sgn [c] := by rw [signF, drop_cons hc, List.drop_eq_nil_of_le (by omega)]; rfl
        have h1i : ((i : Int) + 1).toNat = i + 1 := by omega
        rw [sgn_one] at hS
        simp -implicitDefEqProofs (maxSteps := 2000000) (disch := omega) [-getElem?_pos, hone, h1i]
        refine ⟨by omega, by omega, ?_⟩
        refine ((k_RIn (l := onesL) (s := [c])).argA VLe.lax.d).then fun r hr => ?_
        subst hr
        by_cases ho : [c] ∈ onesL
        · rw [if_pos ho] at hS
          rw [show X = NR.tok ⟨6, i, 0, [c]⟩ (i + 1) from by rw [hX, signN, hS, if_neg (by simp)]; rfl]
          simp -implicitDefEqProofs (maxSteps := 2000000) (disch := omega) [-getElem?_pos, ho]
          exact .fin _ ⟨rfl, rfl⟩ (.refl _)
        · rw [if_neg ho] at hS
          rw [show X = NR.bad i from by rw [hX, signN, hS, if_pos rfl]]
          simp -implicitDefEqProofs (maxSteps := 2000000) (disch := omega) [-getElem?_pos, ho]
          exact .fin _ ⟨⟨⟨0, 0, 0, []⟩, _, rfl⟩, rfl⟩ (.refl _)

end Go.Proofs.YtpdeaekmgljeaaaGreatDoor

/-
  Lexer: a text in quotes. (Own work.)
-/
set_option linter.unusedVariables false
set_option linter.unusedSimpArgs false
namespace Go.Proofs.YtpdeaekmgljeaaaGreatDoor
open Go Go.Abs

def qB (c : UInt8) : Option Str := if c.toNat = 10 then some [92, 110] else if plaB c = false then none else if c.toNat = 34 ∨ c.toNat = 92 then some [92, c] else some [c]
def qL : Str → Str → Option Str
  | [], out => some (out ++ [34])
  | c :: r, out => match qB c with
    | none => none
    | some s => qL r (out ++ s)
structure QSt where
  k : Nat
  out : Str
structure QIn (b : Str) (x : QSt) : Prop where
  hk : x.k ≤ b.length
  ho : x.out.length ≤ 1 + 2 * x.k
  he : qL b [34] = qL (b.drop x.k) x.out
def quoteE (t : Str) : Option Str := if 2000 < t.length then none else qL t [34]
def QPost (x : Option Str) (r : D) : Prop := match x with
  | some s => r = .tup [.v (.str s), .v .inil]
  | none => r = .tup [.v (.str []), .v (.iface 32 (.int .i64 1))]
theorem qL_step {b : Str} {k : Nat} {c : UInt8} {out : Str} (h : b[k]? = some c) : qL (b.drop k) out = match qB c with | none => none | some s => qL (b.drop (k + 1)) (out ++ s) := by
  rw [drop_cons h]
  rfl
@[simp] theorem qb1_0 {Q : XE → St → Prop} {st : St} : QBlk 1 Q (.exit 0) st = Q (.exit 0) st := QBlk_exit (by decide)
@[simp] theorem qb1_2 {Q : XE → St → Prop} {st : St} : QBlk 1 Q (.exit 2) st = Q (.exit 2) st := QBlk_exit (by decide)
@[simp] theorem qb1_3 {Q : XE → St → Prop} {st : St} : QBlk 1 Q (.exit 3) st = Q (.exit 3) st := QBlk_exit (by decide)
@[simp] theorem qb1_4 {Q : XE → St → Prop} {st : St} : QBlk 1 Q (.exit 4) st = Q (.exit 4) st := QBlk_exit (by decide)
@[simp] theorem qb1_5 {Q : XE → St → Prop} {st : St} : QBlk 1 Q (.exit 5) st = Q (.exit 5) st := QBlk_exit (by decide)
@[simp] theorem qb1_6 {Q : XE → St → Prop} {st : St} : QBlk 1 Q (.exit 6) st = Q (.exit 6) st := QBlk_exit (by decide)
@[simp] theorem qb2_0 {Q : XE → St → Prop} {st : St} : QBlk 2 Q (.exit 0) st = Q (.exit 0) st := QBlk_exit (by decide)
@[simp] theorem qb2_1 {Q : XE → St → Prop} {st : St} : QBlk 2 Q (.exit 1) st = Q (.exit 1) st := QBlk_exit (by decide)
@[simp] theorem qb2_3 {Q : XE → St → Prop} {st : St} : QBlk 2 Q (.exit 3) st = Q (.exit 3) st := QBlk_exit (by decide)
@[simp] theorem qb2_4 {Q : XE → St → Prop} {st : St} : QBlk 2 Q (.exit 4) st = Q (.exit 4) st := QBlk_exit (by decide)
@[simp] theorem qb2_5 {Q : XE → St → Prop} {st : St} : QBlk 2 Q (.exit 5) st = Q (.exit 5) st := QBlk_exit (by decide)
@[simp] theorem qb2_6 {Q : XE → St → Prop} {st : St} : QBlk 2 Q (.exit 6) st = Q (.exit 6) st := QBlk_exit (by decide)
@[simp] theorem qb3_0 {Q : XE → St → Prop} {st : St} : QBlk 3 Q (.exit 0) st = Q (.exit 0) st := QBlk_exit (by decide)
@[simp] theorem qb3_1 {Q : XE → St → Prop} {st : St} : QBlk 3 Q (.exit 1) st = Q (.exit 1) st := QBlk_exit (by decide)
@[simp] theorem qb3_2 {Q : XE → St → Prop} {st : St} : QBlk 3 Q (.exit 2) st = Q (.exit 2) st := QBlk_exit (by decide)
@[simp] theorem qb3_4 {Q : XE → St → Prop} {st : St} : QBlk 3 Q (.exit 4) st = Q (.exit 4) st := QBlk_exit (by decide)
@[simp] theorem qb3_5 {Q : XE → St → Prop} {st : St} : QBlk 3 Q (.exit 5) st = Q (.exit 5) st := QBlk_exit (by decide)
@[simp] theorem qb3_6 {Q : XE → St → Prop} {st : St} : QBlk 3 Q (.exit 6) st = Q (.exit 6) st := QBlk_exit (by decide)
@[simp] theorem qb4_0 {Q : XE → St → Prop} {st : St} : QBlk 4 Q (.exit 0) st = Q (.exit 0) st := QBlk_exit (by decide)
@[simp] theorem qb4_1 {Q : XE → St → Prop} {st : St} : QBlk 4 Q (.exit 1) st = Q (.exit 1) st := QBlk_exit (by decide)
@[simp] theorem qb4_2 {Q : XE → St → Prop} {st : St} : QBlk 4 Q (.exit 2) st = Q (.exit 2) st := QBlk_exit (by decide)
@[simp] theorem qb4_3 {Q : XE → St → Prop} {st : St} : QBlk 4 Q (.exit 3) st = Q (.exit 3) st := QBlk_exit (by decide)
@[simp] theorem qb4_5 {Q : XE → St → Prop} {st : St} : QBlk 4 Q (.exit 5) st = Q (.exit 5) st := QBlk_exit (by decide)
@[simp] theorem qb4_6 {Q : XE → St → Prop} {st : St} : QBlk 4 Q (.exit 6) st = Q (.exit 6) st := QBlk_exit (by decide)
@[simp] theorem qb5_0 {Q : XE → St → Prop} {st : St} : QBlk 5 Q (.exit 0) st = Q (.exit 0) st := QBlk_exit (by decide)
@[simp] theorem qb5_1 {Q : XE → St → Prop} {st : St} : QBlk 5 Q (.exit 1) st = Q (.exit 1) st := QBlk_exit (by decide)
@[simp] theorem qb5_2 {Q : XE → St → Prop} {st : St} : QBlk 5 Q (.exit 2) st = Q (.exit 2) st := QBlk_exit (by decide)
@[simp] theorem qb5_3 {Q : XE → St → Prop} {st : St} : QBlk 5 Q (.exit 3) st = Q (.exit 3) st := QBlk_exit (by decide)
@[simp] theorem qb5_4 {Q : XE → St → Prop} {st : St} : QBlk 5 Q (.exit 4) st = Q (.exit 4) st := QBlk_exit (by decide)
@[simp] theorem qb5_6 {Q : XE → St → Prop} {st : St} : QBlk 5 Q (.exit 6) st = Q (.exit 6) st := QBlk_exit (by decide)
@[simp] theorem qb6_0 {Q : XE → St → Prop} {st : St} : QBlk 6 Q (.exit 0) st = Q (.exit 0) st := QBlk_exit (by decide)
@[simp] theorem qb6_1 {Q : XE → St → Prop} {st : St} : QBlk 6 Q (.exit 1) st = Q (.exit 1) st := QBlk_exit (by decide)
@[simp] theorem qb6_2 {Q : XE → St → Prop} {st : St} : QBlk 6 Q (.exit 2) st = Q (.exit 2) st := QBlk_exit (by decide)
@[simp] theorem qb6_3 {Q : XE → St → Prop} {st : St} : QBlk 6 Q (.exit 3) st = Q (.exit 3) st := QBlk_exit (by decide)
@[simp] theorem qb6_4 {Q : XE → St → Prop} {st : St} : QBlk 6 Q (.exit 4) st = Q (.exit 4) st := QBlk_exit (by decide)
@[simp] theorem qb6_5 {Q : XE → St → Prop} {st : St} : QBlk 6 Q (.exit 5) st = Q (.exit 5) st := QBlk_exit (by decide)
theorem k_Quote {b : Str} {σ : Sg} (hb : b.length ≤ 1048576) : ACalls Tryz.prog 55 [.v (.str b)] σ fun r σ' => QPost (quoteE b) r ∧ σ' = σ := by
  unfold quoteE
  refine acalls_fit Tryz.func55 (by kernel_rfl) c55 rfl (by simp [a55]) fun hf => ?_
  clear hf
  simp -implicitDefEqProofs (maxSteps := 2000000) (disch := omega) [-getElem?_pos, a55]
  refine .mk (fun h => ?_) fun h => ?_
  · rw [if_pos (by omega)]
    simp -implicitDefEqProofs (maxSteps := 2000000) (disch := omega) [-getElem?_pos]
    exact .fin _ ⟨rfl, rfl⟩ (.refl _)
  rw [if_neg (by omega)]
  simp -implicitDefEqProofs (maxSteps := 2000000) (disch := omega) [-getElem?_pos]
  refine ⟨by omega, ?_⟩
  refine W_loop (α := QSt) ⟨0, [34]⟩ (fun x => b.length - x.k) (fun x => ⟨[(4, .tsl σ.toks.length none (bytesV x.out)), (13, .v (vBs b)), (14, .v (.int .i64 b.length)), (15, .v (.int .i64 x.k))], ⟨σ.objs, σ.toks ++ [x.out.length]⟩⟩)
    (fun x => QIn b x) (.tokF (i := 4) (sh := none) (xs := bytesV [34]) (by simp) (by rfl) (by decide)) ⟨Nat.zero_le _, by simp, rfl⟩ fun ⟨k, out⟩ ⟨hk, ho, he⟩ => ?_
  dsimp only at hk ho he ⊢
  have lo : (bytesV out).length = out.length := by simp [bytesV]
  have bA : bytesV out ++ [V.int .u8 92, V.int .u8 110] = bytesV (out ++ [92, 110]) := by simp [bytesV]
  have bB : ∀ c : UInt8, bytesV out ++ [V.int .u8 92, V.int .u8 c.toNat] = bytesV (out ++ [92, c]) := fun c => by simp [bytesV]
  have bC : bytesV out ++ [V.int .u8 34] = bytesV (out ++ [34]) := by simp [bytesV]
  have cp := fun c σ => k_Plain (c := c) (σ := σ)
  unfold vB at cp
  simp -implicitDefEqProofs (maxSteps := 2000000) (disch := omega) [-getElem?_pos]
  refine .mk (fun h => ?_) fun h => ?_
  · obtain ⟨c, hc⟩ : ∃ c, b[k]? = some c := ⟨b[k]'(by omega), List.getElem?_eq_getElem _⟩
    rw [qL_step hc] at he
    simp -implicitDefEqProofs (maxSteps := 2000000) (disch := omega) [-getElem?_pos]
    refine ⟨by omega, fun c' hc' => ?_⟩
    rw [hc] at hc'
    cases hc'
    refine .mk (fun h10 => ?_) fun h10 => ?_
    · rw [qB, if_pos (by omega)] at he
      simp -implicitDefEqProofs (maxSteps := 2000000) (disch := omega) [-getElem?_pos]
      exact ⟨by omega, ⟨k + 1, out ++ [92, 110]⟩, ⟨by show k + 1 ≤ b.length; omega, by simp; omega, he⟩, by show b.length - (k + 1) < b.length - k; omega, .eq2 (by simp) (by simp [bA])⟩
    · simp -implicitDefEqProofs (maxSteps := 2000000) (disch := omega) [-getElem?_pos]
      refine (cp _ _).then fun r hr => ?_
      subst hr
      cases hpc : plaB c with
      | false =>
        rw [qB, if_neg (by omega), if_pos hpc] at he
        rw [he]
        simp -implicitDefEqProofs (maxSteps := 2000000) (disch := omega) [-getElem?_pos]
        exact .fin _ ⟨rfl, rfl⟩ (.refl _)
      | true =>
        simp -implicitDefEqProofs (maxSteps := 2000000) (disch := omega) [-getElem?_pos]
        refine .mk (fun h34 => ?_) fun h34 => ?_
        · skip
          rw [qB, if_neg (by omega), if_neg (by simp [hpc]), if_pos (by omega)] at he
          simp -implicitDefEqProofs (maxSteps := 2000000) (disch := omega) [-getElem?_pos]
          exact ⟨by omega, by omega, ⟨k + 1, out ++ [92, c]⟩, ⟨by show k + 1 ≤ b.length; omega, by simp; omega, he⟩, by show b.length - (k + 1) < b.length - k; omega, .eq2 (by simp) (by simp [bB])⟩

        · simp -implicitDefEqProofs (maxSteps := 2000000) (disch := omega) [-getElem?_pos]
          refine .mk (fun h92 => ?_) fun h92 => ?_
          · skip
            rw [qB, if_neg (by omega), if_neg (by simp [hpc]), if_pos (by omega)] at he
            simp -implicitDefEqProofs (maxSteps := 2000000) (disch := omega) [-getElem?_pos]
            exact ⟨by omega, by omega, ⟨k + 1, out ++ [92, c]⟩, ⟨by show k + 1 ≤ b.length; omega, by simp; omega, he⟩, by show b.length - (k + 1) < b.length - k; omega, .eq2 (by simp) (by simp [bB])⟩

          · rw [qB, if_neg (by omega), if_neg (by simp [hpc]), if_neg (by omega)] at he
            simp -implicitDefEqProofs (maxSteps := 2000000) (disch := omega) [-getElem?_pos]
            exact ⟨by omega, ⟨k + 1, out ++ [c]⟩, ⟨by show k + 1 ≤ b.length; omega, by simp; omega, he⟩, by show b.length - (k + 1) < b.length - k; omega, .eq2 (by simp) (by simp [bytesV])⟩
  · rw [List.drop_eq_nil_of_le (by omega)] at he
    have he2 : qL b [34] = some (out ++ [34]) := he
    rw [he2]
    simp -implicitDefEqProofs (maxSteps := 2000000) (disch := omega) [-getElem?_pos, bC]
    exact ⟨by omega, .fin _ ⟨rfl, rfl⟩ (.refl _)⟩
theorem k_RQuote {b : Str} {σ : Sg} (hb : b.length ≤ 1048576) : ACalls Tryz.prog 36 [.v (.str b)] σ fun r σ' => r = (match qL b [34] with | some s => .tup [.v (.str s), .v (.bool (decide (b.length ≤ 2000)))] | none => .tup [.v (.str []), .v (.bool false)]) ∧ σ' = σ := by
  refine acalls_fit Tryz.func36 (by kernel_rfl) c36 rfl (by simp [a36]) fun hf => ?_
  clear hf
  simp -implicitDefEqProofs (maxSteps := 2000000) (disch := omega) [-getElem?_pos, a36]
  refine W_loop (α := QSt) ⟨0, [34]⟩ (fun x => b.length - x.k) (fun x => ⟨[(0, .v (.str b)), (4, .v (.str x.out)), (5, .v (.int .i64 x.k))], σ⟩)
    (fun x => QIn b x) (.eq (by simp)) ⟨Nat.zero_le _, by simp, rfl⟩ fun ⟨k, out⟩ ⟨hk, ho, he⟩ => ?_
  dsimp only at hk ho he ⊢
  simp -implicitDefEqProofs (maxSteps := 2000000) (disch := omega) [-getElem?_pos]
  refine .mk (fun h => ?_) fun h => ?_
  · obtain ⟨c, hc⟩ : ∃ c, b[k]? = some c := ⟨b[k]'(by omega), List.getElem?_eq_getElem _⟩
    rw [qL_step hc] at he
    have hone : List.drop k (List.take (k + 1) b) = [c] := by rw [List.drop_take, drop_cons hc]; simp
    have h1i : ((k : Int) + 1).toNat = k + 1 := by omega
    simp -implicitDefEqProofs (maxSteps := 2000000) (disch := omega) [-getElem?_pos]
    refine ⟨by omega, fun c' hc' => ?_⟩
    rw [hc] at hc'
    cases hc'
    refine .mk (fun h10 => ?_) fun h10 => ?_
    · rw [qB, if_pos (by omega)] at he
      simp -implicitDefEqProofs (maxSteps := 2000000) (disch := omega) [-getElem?_pos, hone, h1i]
      exact ⟨by omega, ⟨k + 1, out ++ [92, 110]⟩, ⟨by show k + 1 ≤ b.length; omega, by simp; omega, he⟩, by show b.length - (k + 1) < b.length - k; omega, .eq (by simp)⟩
    · simp -implicitDefEqProofs (maxSteps := 2000000) (disch := omega) [-getElem?_pos, hone, h1i]
      refine .mk (fun h32 => ?_) fun h32 => ?_
      rotate_left
      · rw [qB, if_neg (by omega), if_pos (by simp [plaB]; omega)] at he
        rw [he]
        simp -implicitDefEqProofs (maxSteps := 2000000) (disch := omega) [-getElem?_pos]
        exact .fin _ ⟨rfl, rfl⟩ (.refl _)
      simp -implicitDefEqProofs (maxSteps := 2000000) (disch := omega) [-getElem?_pos, hone, h1i]
      refine .mk (fun h126 => ?_) fun h126 => ?_
      · rw [qB, if_neg (by omega), if_pos (by simp [plaB]; omega)] at he
        rw [he]
        simp -implicitDefEqProofs (maxSteps := 2000000) (disch := omega) [-getElem?_pos]
        exact .fin _ ⟨rfl, rfl⟩ (.refl _)
      simp -implicitDefEqProofs (maxSteps := 2000000) (disch := omega) [-getElem?_pos, hone, h1i]
      refine .mk (fun h34 => ?_) fun h34 => ?_
      · skip
        rw [qB, if_neg (by omega), if_neg (by simp [plaB]; omega), if_pos (by omega)] at he
        simp -implicitDefEqProofs (maxSteps := 2000000) (disch := omega) [-getElem?_pos, hone, h1i]
        exact ⟨by omega, by omega, by omega, by omega, ⟨k + 1, out ++ [92, c]⟩, ⟨by show k + 1 ≤ b.length; omega, by simp; omega, he⟩, by show b.length - (k + 1) < b.length - k; omega, .eq (by simp)⟩

      · simp -implicitDefEqProofs (maxSteps := 2000000) (disch := omega) [-getElem?_pos, hone, h1i]
        refine .mk (fun h92 => ?_) fun h92 => ?_
        · skip
          rw [qB, if_neg (by omega), if_neg (by simp [plaB]; omega), if_pos (by omega)] at he
          simp -implicitDefEqProofs (maxSteps := 2000000) (disch := omega) [-getElem?_pos, hone, h1i]
          exact ⟨by omega, by omega, by omega, by omega, ⟨k + 1, out ++ [92, c]⟩, ⟨by show k + 1 ≤ b.length; omega, by simp; omega, he⟩, by show b.length - (k + 1) < b.length - k; omega, .eq (by simp)⟩

        · rw [qB, if_neg (by omega), if_neg (by simp [plaB]; omega), if_neg (by omega)] at he
          simp -implicitDefEqProofs (maxSteps := 2000000) (disch := omega) [-getElem?_pos, hone, h1i]
          exact ⟨by omega, by omega, by omega, ⟨k + 1, out ++ [c]⟩, ⟨by show k + 1 ≤ b.length; omega, by simp; omega, he⟩, by show b.length - (k + 1) < b.length - k; omega, .eq (by simp)⟩
  · rw [List.drop_eq_nil_of_le (by omega)] at he
    have he2 : qL b [34] = some (out ++ [34]) := he
    rw [he2]
    simp -implicitDefEqProofs (maxSteps := 2000000) (disch := omega) [-getElem?_pos]
    exact ⟨by omega, .fin _ ⟨by simp; omega, rfl⟩ (.refl _)⟩
end Go.Proofs.YtpdeaekmgljeaaaGreatDoor

/-
  Expressions: which may be: the code's own words for it, but for whole expressions. (Own work.)
-/
set_option linter.unusedVariables false
set_option linter.unusedSimpArgs false
namespace Go.Proofs.YtpdeaekmgljeaaaGreatDoor
open Go Go.Abs

/-- What a kind of expressions has: how many parts; whether its text is a name, a label, a tag, an operator. -/
structure FT where
  p : Int
  nm : Bool
  lb : Bool
  tg : Bool
  op : Bool
def encF (f : FT) : D := .v (.agg [.int .i64 f.p, .bool f.nm, .bool f.lb, .bool f.tg, .bool f.op])
def formsT : List (Int × FT) := [(1, ⟨0, false, false, false, false⟩), (2, ⟨0, false, false, false, false⟩), (3, ⟨0, true, false, false, false⟩), (22, ⟨0, false, false, false, false⟩), (4, ⟨1, true, false, false, false⟩), (5, ⟨2, false, false, false, false⟩), (6, ⟨2, true, false, false, false⟩), (7, ⟨2, true, false, false, false⟩), (9, ⟨1, false, true, false, false⟩), (10, ⟨2, false, true, false, false⟩), (11, ⟨1, false, true, false, false⟩), (12, ⟨2, false, true, false, false⟩), (13, ⟨1, false, false, true, false⟩), (15, ⟨3, false, false, false, false⟩), (16, ⟨2, false, false, false, true⟩), (17, ⟨1, false, false, false, false⟩), (18, ⟨1, false, false, false, false⟩), (19, ⟨2, false, false, false, false⟩), (20, ⟨1, false, false, false, false⟩), (21, ⟨1, false, false, false, false⟩)]
def formsE : List (V × D) := formsT.map fun q => (.int .i64 q.1, encF q.2)
def formT (k : Int) : Option FT := formsT.lookup k
theorem find_form (k : Int) : mfind (.int .i64 k) formsE = (formT k).map encF := by
  unfold formsE formT
  generalize formsT = l
  induction l with
  | nil => rfl
  | cons q l ih =>
    obtain ⟨a, f⟩ := q
    rw [List.map_cons, mfind, List.lookup_cons, ih]
    by_cases h : k = a
    · subst h; simp [keq]
    · have hb : (k == a) = false := by simp [h]
      simp [keq, h, hb]
theorem forms_ok : keysOk (.int .i64) formsE = true := by rfl
theorem k_Forms {σ : Sg} : ACalls Tryz.prog 142 [] σ fun r σ' => r = .map σ.objs.length ∧ σ' = ⟨σ.objs ++ [.map formsE], σ.toks⟩ := by
  refine acalls_fit Tryz.func142 (by kernel_rfl) c142 rfl (by simp [a142]) fun hf => ?_
  clear hf
  simp -implicitDefEqProofs (maxSteps := 2000000) (disch := omega) [-getElem?_pos, a142]
  exact ⟨_, _, WeakR.refl _ _ _, rfl, rfl⟩
def partsN (k labels : Int) (other : Bool) : Int := if k = 8 then labels else if k = 14 then labels + (if other = true then 1 else 0) + 1 else match formT k with
  | none => -1
  | some f => f.p
theorem k_Parts {k labels : Int} {o : Bool} {σ : Sg} (hl : 0 ≤ labels) (hl2 : labels ≤ 2000000) : ACalls Tryz.prog 106 [.v (.int .i64 k), .v (.int .i64 labels), .v (.bool o)] σ fun r σ' => r = .v (.int .i64 (partsN k labels o)) ∧ σ' = σ := by
  have kf := fun σ => k_Forms (σ := σ)
  refine acalls_fit Tryz.func106 (by kernel_rfl) c106 rfl (by simp [a106]) fun hf => ?_
  clear hf
  by_cases h8 : k = 8
  · subst h8
    simp -implicitDefEqProofs (maxSteps := 2000000) (disch := omega) [-getElem?_pos, a106]
    exact .fin _ ⟨rfl, rfl⟩ (.refl _)
  by_cases h14 : k = 14
  · subst h14
    cases o with
    | true =>
      simp -implicitDefEqProofs (maxSteps := 2000000) (disch := omega) [-getElem?_pos, a106]
      exact .fin _ ⟨rfl, rfl⟩ (.refl _)
    | false =>
      simp -implicitDefEqProofs (maxSteps := 2000000) (disch := omega) [-getElem?_pos, a106]
      exact .fin _ ⟨by simp [partsN], rfl⟩ (.refl _)
  simp -implicitDefEqProofs (maxSteps := 2000000) (disch := omega) [-getElem?_pos, a106, h8, h14]
  refine (kf _).mono fun r σ' hr => ?_
  obtain ⟨rfl, rfl⟩ := hr
  cases hk : formT k with
  | none =>
    simp -implicitDefEqProofs (maxSteps := 2000000) (disch := omega) [-getElem?_pos, find_form, forms_ok, hk]
    exact .fin _ ⟨by simp [partsN, h8, h14, hk], rfl⟩ (.refl _)
  | some f =>
    simp -implicitDefEqProofs (maxSteps := 2000000) (disch := omega) [-getElem?_pos, find_form, forms_ok, hk, encF]
    exact .fin _ ⟨by simp [partsN, h8, h14, hk], rfl⟩ (.refl _)
theorem beq_sd {a b : Str} : (a == b) = decide (a = b) := by cases h : decide (a = b) <;> simp at h <;> simp [h]
/-- Is a text one token of a kind? -/
def isL (s : Str) (k : Int) : Bool := if 20 < s.length then false else match cutL s with
  | .ok [t] => decide (t.k = k) && decide (t.s = s)
  | _ => false
theorem k_Is {s : Str} {k : Int} {σ : Sg} (hs : s.length ≤ 1048576) : ACalls Tryz.prog 110 [.v (.str s), .v (.int .i64 k)] σ fun r σ' => r = .v (.bool (isL s k)) ∧ σ' = σ := by
  have kc := k_Cut (b := s) (σ := σ) hs
  refine acalls_fit Tryz.func110 (by kernel_rfl) c110 rfl (by simp [a110]) fun hf => ?_
  clear hf
  simp -implicitDefEqProofs (maxSteps := 2000000) (disch := omega) [-getElem?_pos, a110]
  refine .mk (fun h => ?_) fun h => ?_
  · simp -implicitDefEqProofs (maxSteps := 2000000) (disch := omega) [-getElem?_pos]
    exact .fin _ ⟨by rw [isL, if_pos (by omega)], rfl⟩ (.refl _)
  have hI : isL s k = match cutL s with
    | .ok [t] => decide (t.k = k) && decide (t.s = s)
    | _ => false := by rw [isL, if_neg (by omega)]
  simp -implicitDefEqProofs (maxSteps := 2000000) (disch := omega) [-getElem?_pos]
  refine ⟨by omega, ?_⟩
  cases hx : cutL s with
  | ok l =>
    rw [hx] at kc hI
    refine (show ACalls Tryz.prog 51 [.v (vBs s)] σ fun r σ' => r = .tup [.v (.sl (some 4) false (l.map encK)), .v .inil] ∧ σ' = σ from kc).then fun r hr => ?_
    subst hr
    match l with
    | [] =>
      simp -implicitDefEqProofs (maxSteps := 2000000) (disch := omega) [-getElem?_pos]
      exact .fin _ ⟨by rw [hI], rfl⟩ (.refl _)
    | [t] =>
      simp -implicitDefEqProofs (maxSteps := 2000000) (disch := omega) [-getElem?_pos, encK]
      refine .mk (fun hq => ?_) fun hq => ?_
      · simp -implicitDefEqProofs (maxSteps := 2000000) (disch := omega) [-getElem?_pos]
        exact .fin _ ⟨by rw [hI]; simp [hq, beq_sd], rfl⟩ (.refl _)
      · simp -implicitDefEqProofs (maxSteps := 2000000) (disch := omega) [-getElem?_pos]
        exact .fin _ ⟨by rw [hI]; simp [hq], rfl⟩ (.refl _)
    | t :: t2 :: l =>
      simp -implicitDefEqProofs (maxSteps := 2000000) (disch := omega) [-getElem?_pos]
      refine .mk (fun hq => absurd hq (by omega)) fun hq => ?_
      simp -implicitDefEqProofs (maxSteps := 2000000) (disch := omega) [-getElem?_pos]
      exact .fin _ ⟨by rw [hI], rfl⟩ (.refl _)
  | bad q =>
    rw [hx] at kc hI
    refine kc.mono fun r σ' hr => ?_
    obtain ⟨o, xs, ts, rfl, rfl, hxs⟩ := hr
    simp -implicitDefEqProofs (maxSteps := 2000000) (disch := omega) [-getElem?_pos]
    exact .fin _ ⟨by rw [hI], rfl⟩ (.refl _)
  | great =>
    rw [hx] at kc hI
    refine (show ACalls Tryz.prog 51 [.v (vBs s)] σ fun r σ' => r = .tup [.v .snil, .v (.iface 32 (.int .i64 6))] ∧ σ' = σ from kc).then fun r hr => ?_
    subst hr
    simp -implicitDefEqProofs (maxSteps := 2000000) (disch := omega) [-getElem?_pos]
    exact .fin _ ⟨by rw [hI], rfl⟩ (.refl _)
theorem k_All1 {s : Str} {k : Int} {o : Nat} {σ : Sg} (hs : s.length ≤ 1048576) (ho : σ.objs[o]? = some (.cells [.v (.int .i64 k)])) : ACalls Tryz.prog 144 [.v (.str s), .ptr o 0] σ fun r σ' => r = .v (.bool (!isL s k)) ∧ σ' = σ := by
  refine acalls_fit Tryz.func144 (by kernel_rfl) c144 rfl (by simp [a144]) fun hf => ?_
  clear hf
  simp -implicitDefEqProofs (maxSteps := 2000000) (disch := omega) [-getElem?_pos, a144, ho]
  refine (k_Is hs).then fun r hr => ?_
  subst hr
  simp -implicitDefEqProofs (maxSteps := 2000000) (disch := omega) [-getElem?_pos]
  exact .fin _ ⟨by simp, rfl⟩ (.refl _)
theorem k_IndexFuncStr {xs : List V} {f : Bool} {fd : D} {p : V → Bool} {σ : Sg} (hp : ∀ x ∈ xs, WCall Tryz.prog fd [.v x] σ fun r σ' => r = .v (.bool (p x)) ∧ σ' = σ) :
    ACalls Tryz.prog 177 [.v (.sl none f xs), fd] σ fun r σ' => r = .v (.int .i64 ((xs.findIdx? p).elim (-1) fun i => (i : Int))) ∧ σ' = σ := by
  refine acalls_fit Tryz.func177 (by kernel_rfl) c177 rfl (by simp [a177]) fun hf => ?_
  simp at hf
  simp -implicitDefEqProofs (maxSteps := 2000000) (disch := omega) [-getElem?_pos, a177]
  refine W_loop (α := Nat) 0 (fun i => xs.length - i) (fun i => ⟨[(0, .v (.sl none f xs)), (1, fd), (7, .v (.int .i64 xs.length)), (8, .v (.int .i64 i))], σ⟩) (fun i => i ≤ xs.length ∧ xs.findIdx? p = ((xs.drop i).findIdx? p).map fun k => k + i)
    (.eq (by simp)) ⟨by omega, by simp⟩ fun i ⟨hi, he⟩ => ?_
  simp -implicitDefEqProofs (maxSteps := 2000000) (disch := omega) [-getElem?_pos]
  refine .mk (fun h => ?_) fun h => ?_
  · simp -implicitDefEqProofs (maxSteps := 2000000) (disch := omega) [-getElem?_pos]
    refine ⟨by omega, fun x hx => ?_⟩
    refine (hp x (List.mem_of_getElem? hx)).then fun r hr => ?_
    subst hr
    have hdc := drop_cons hx
    rw [hdc, List.findIdx?_cons] at he
    simp -implicitDefEqProofs (maxSteps := 2000000) (disch := omega) [-getElem?_pos]
    refine .mk (fun hq => ?_) fun hq => ?_
    · rw [if_pos hq] at he
      simp -implicitDefEqProofs (maxSteps := 2000000) (disch := omega) [-getElem?_pos]
      refine .fin _ ⟨?_, rfl⟩ (.refl _)
      rw [he]
      simp
    · rw [if_neg hq] at he
      simp -implicitDefEqProofs (maxSteps := 2000000) (disch := omega) [-getElem?_pos]
      refine ⟨i + 1, ⟨by omega, ?_⟩, by dsimp only; omega, .eq (by simp)⟩
      rw [he]
      simp only [Option.map_map]
      congr 1
      funext k
      simp only [Function.comp]
      omega
  · simp -implicitDefEqProofs (maxSteps := 2000000) (disch := omega) [-getElem?_pos]
    refine .fin _ ⟨?_, rfl⟩ (.refl _)
    rw [he, List.drop_eq_nil_of_le (by omega)]
    rfl
theorem k_ContainsFuncStr {xs : List V} {f : Bool} {fd : D} {p : V → Bool} {σ : Sg} (hp : ∀ x ∈ xs, WCall Tryz.prog fd [.v x] σ fun r σ' => r = .v (.bool (p x)) ∧ σ' = σ) :
    ACalls Tryz.prog 143 [.v (.sl none f xs), fd] σ fun r σ' => r = .v (.bool (xs.any p)) ∧ σ' = σ := by
  refine acalls_fit Tryz.func143 (by kernel_rfl) c143 rfl (by simp [a143]) fun hf => ?_
  simp -implicitDefEqProofs (maxSteps := 2000000) (disch := omega) [-getElem?_pos, a143]
  refine (k_IndexFuncStr hp).then fun r hr => ?_
  subst hr
  simp -implicitDefEqProofs (maxSteps := 2000000) (disch := omega) [-getElem?_pos]
  refine .fin _ ⟨?_, rfl⟩ (.refl _)
  congr 2
  cases h : xs.findIdx? p with
  | none =>
    have h2 := List.findIdx?_eq_none_iff.1 h
    simp
    exact fun x hx => by simpa using h2 x hx
  | some i =>
    have h2 := List.findIdx?_eq_some_iff_getElem.1 h
    obtain ⟨hlt, hq, _⟩ := h2
    simp
    exact ⟨_, List.getElem_mem hlt, hq⟩

def notIs (k : Int) : V → Bool
  | .str s => !isL s k
  | _ => false
theorem any_is (k : Int) : ∀ l : List Str, (l.map V.str).any (notIs k) = !(l.all fun s => isL s k)
  | [] => rfl
  | s :: l => by rw [List.map_cons, List.any_cons, List.all_cons, any_is k l, Bool.not_and]; rfl
theorem k_All {l : List Str} {k : Int} {σ : Sg} (hs : nsz l ≤ 1048576) : ACalls Tryz.prog 108 [.v (vS l), .v (.int .i64 k)] σ fun r σ' => r = .v (.bool (l.all fun s => isL s k)) ∧ σ' = σ := by
  have hsz : ∀ s ∈ l, s.length ≤ 1048576 := fun s h => by
    have : s.length + 1 ≤ nsz l := by
      clear hs
      induction l with
      | nil => cases h
      | cons x l ih =>
        simp only [nsz]
        rcases List.mem_cons.1 h with rfl | h
        · omega
        · have := ih h; omega
    omega
  refine acalls_fit Tryz.func108 (by kernel_rfl) c108 rfl (by simp [a108]) fun hf => ?_
  clear hf
  simp -implicitDefEqProofs (maxSteps := 2000000) (disch := omega) [-getElem?_pos, a108]
  refine (k_ContainsFuncStr (p := notIs k) (fun x hx => ?_)).then fun r hr => ?_
  · obtain ⟨s, hm, rfl⟩ := List.mem_map.1 hx
    rw [WCall_caps]
    exact k_All1 (hsz s hm) (by simp)
  · rw [any_is] at hr
    subst hr
    simp -implicitDefEqProofs (maxSteps := 2000000) (disch := omega) [-getElem?_pos]
    exact .fin _ ⟨by simp, rfl⟩ (.refl _)
/-- Do texts rise? -/
def riseL : List Str → Bool
  | [] => true
  | [_] => true
  | a :: b :: r => decide (a < b) && riseL (b :: r)
theorem riseL_iff : ∀ l : List Str, riseL l = true ↔ ∀ i a b, l[i]? = some a → l[i + 1]? = some b → a < b
  | [] => by simp [riseL]
  | [x] => by simp [riseL]
  | x :: y :: r => by
    rw [riseL, Bool.and_eq_true, decide_eq_true_iff, riseL_iff (y :: r)]
    constructor
    · rintro ⟨h1, h2⟩ i a b ha hb
      cases i with
      | zero => simp at ha hb; subst ha hb; exact h1
      | succ i => exact h2 i a b (by simpa using ha) (by simpa using hb)
    · intro h
      exact ⟨h 0 x y rfl rfl, fun i a b ha hb => h (i + 1) a b (by simpa using ha) (by simpa using hb)⟩
theorem less_eq (x y : Str) : Op.bytesLess x y = decide (x < y) := bytesLess_eq x y
theorem k_Rises {l : List Str} {σ : Sg} : ACalls Tryz.prog 109 [.v (vS l)] σ fun r σ' => r = .v (.bool (riseL l && decide (l.length ≤ 30))) ∧ σ' = σ := by
  refine acalls_fit Tryz.func109 (by kernel_rfl) c109 rfl (by simp [a109]) fun hf => ?_
  simp at hf
  simp -implicitDefEqProofs (maxSteps := 2000000) (disch := omega) [-getElem?_pos, a109]
  refine W_loop (α := Nat) 0 (fun i => l.length - i) (fun i => ⟨[(0, .v (vS l)), (5, .v (.int .i64 l.length)), (6, .v (.int .i64 i))], σ⟩) (fun i => i ≤ l.length ∧ ∀ j a b, j + 1 < i → l[j]? = some a → l[j + 1]? = some b → a < b)
    (.eq (by simp)) ⟨Nat.zero_le _, fun j a b h => by omega⟩ fun i ⟨hi, hr⟩ => ?_
  simp -implicitDefEqProofs (maxSteps := 2000000) (disch := omega) [-getElem?_pos]
  refine .mk (fun h => ?_) fun h => ?_
  · obtain ⟨x, hx⟩ : ∃ x, l[i]? = some x := ⟨l[i], List.getElem?_eq_getElem h⟩
    simp -implicitDefEqProofs (maxSteps := 2000000) (disch := omega) [-getElem?_pos, hx]
    refine .mk (fun h0 => ?_) fun h0 => ?_
    · obtain ⟨y, hy⟩ : ∃ y, l[i - 1]? = some y := ⟨l[i - 1], List.getElem?_eq_getElem (by omega)⟩
      have ei : ((i : Int) - 1).toNat = i - 1 := by omega
      simp -implicitDefEqProofs (maxSteps := 2000000) (disch := omega) [-getElem?_pos, hx, ei, hy]
      refine ⟨by omega, by omega, by omega, ?_⟩
      simp -implicitDefEqProofs (maxSteps := 2000000) (disch := omega) [-getElem?_pos, hx, less_eq]
      refine .mk (fun hq => ?_) fun hq => ?_
      · simp -implicitDefEqProofs (maxSteps := 2000000) (disch := omega) [-getElem?_pos]
        refine ⟨i + 1, ⟨by omega, fun j a b hj ha hb => ?_⟩, by dsimp only; omega, .eq (by simp)⟩
        by_cases hji : j + 1 < i
        · exact hr j a b hji ha hb
        · have : j = i - 1 := by omega
          subst this
          rw [hy] at ha
          rw [show i - 1 + 1 = i by omega, hx] at hb
          cases ha
          cases hb
          exact hq
      · simp -implicitDefEqProofs (maxSteps := 2000000) (disch := omega) [-getElem?_pos]
        have hR : riseL l = false := by
          cases hb : riseL l with
          | false => rfl
          | true => exact absurd ((riseL_iff l).1 hb (i - 1) y x hy (by rw [show i - 1 + 1 = i by omega]; exact hx)) hq
        exact .fin _ ⟨by rw [hR]; rfl, rfl⟩ (.refl _)
    · simp -implicitDefEqProofs (maxSteps := 2000000) (disch := omega) [-getElem?_pos, hx]
      refine ⟨i + 1, ⟨by omega, fun j a b hj => ?_⟩, by dsimp only; omega, .eq (by simp)⟩
      omega
  · simp -implicitDefEqProofs (maxSteps := 2000000) (disch := omega) [-getElem?_pos]
    have hR : riseL l = true := (riseL_iff l).2 fun j a b ha hb => hr j a b (by have := (List.getElem?_eq_some_iff.1 hb).1; omega) ha hb
    refine .fin _ ⟨?_, rfl⟩ (.refl _)
    rw [hR, Bool.true_and]
    congr 2
    simp
    omega
def opsL : List Str := [[43], [45], [42], [47], [60], [61, 61], [94], [35]]
/-- Is an expression's text as its kind asks for? -/
def textB (k : Int) (s : Str) : Bool := if k = 2 then (quoteE s).isSome else match formT k with
  | some f => if f.nm || f.lb then isL s 1 else if f.tg then isL s 3 else if f.op then decide (s ∈ opsL) else decide (s = [])
  | none => decide (s = [])
theorem k_SText {k p n : Int} {s t : Str} {ls ns : List Str} {l : List Ex} {σ : Sg} (hs : s.length ≤ 1048576) : ACalls Tryz.prog 107 [.v (encE (.mk k p n s t ls ns l))] σ fun r σ' => r = .v (.bool (textB k s)) ∧ σ' = σ := by
  have kf := fun σ => k_Forms (σ := σ)
  have kq := fun σ => k_Quote (b := s) (σ := σ) hs
  have ki := fun (k : Int) σ => k_Is (s := s) (k := k) (σ := σ) hs
  have ko : ∀ σ, ACalls Tryz.prog 118 [.v (.sl none true [.str [43], .str [45], .str [42], .str [47], .str [60], .str [61, 61], .str [94], .str [35]]), .v (.str s)] σ fun r σ' => r = .v (.bool (decide (s ∈ opsL))) ∧ σ' = σ := fun σ => (k_ContainsStr (l := opsL) (s := s) (σ := σ)).argA VLe.lax.d
  rw [encE_mk]
  refine acalls_fit Tryz.func107 (by kernel_rfl) c107 rfl (by simp [a107]) fun hf => ?_
  clear hf
  obtain ⟨X, hX⟩ : ∃ X, X = Ob.cells [.v (.int .i64 k), .v (.int .i64 p), .v (.int .i64 n), .v (.str s), .v (.str t), .v (.sl none false (ls.map .str)), .v (.sl none false (ns.map .str)), .v (.sl (some 8) false (l.map encE))] := ⟨_, rfl⟩
  simp -implicitDefEqProofs (maxSteps := 2000000) (disch := omega) [-getElem?_pos, a107]
  rw [← hX]
  have hk2 : textB k s = if k = 2 then (quoteE s).isSome else match formT k with
    | some f => if f.nm || f.lb then isL s 1 else if f.tg then isL s 3 else if f.op then decide (s ∈ opsL) else decide (s = [])
    | none => decide (s = []) := rfl
  generalize textB k s = B at hk2 ⊢
  refine ⟨(kf _).mono fun r σ' hr => ?_, (kf _).mono fun r σ' hr => ?_⟩
  all_goals
    obtain ⟨rfl, rfl⟩ := hr
    by_cases h2 : k = 2
    · subst h2
      rw [if_pos rfl] at hk2
      simp -implicitDefEqProofs (maxSteps := 2000000) (disch := omega) [-getElem?_pos, find_form, forms_ok, show formT 2 = some ⟨0, false, false, false, false⟩ from rfl, encF, hX]
      refine (kq _).then fun r hr => ?_
      cases hqe : quoteE s with
      | none =>
        rw [hqe] at hr hk2
        unfold QPost at hr
        dsimp only at hr
        subst hr
        simp -implicitDefEqProofs (maxSteps := 2000000) (disch := omega) [-getElem?_pos]
        exact .fin (.v (.bool false)) ⟨by rw [hk2]; rfl, rfl⟩ (.refl _)
      | some z =>
        rw [hqe] at hr hk2
        unfold QPost at hr
        dsimp only at hr
        subst hr
        simp -implicitDefEqProofs (maxSteps := 2000000) (disch := omega) [-getElem?_pos]
        exact .fin (.v (.bool true)) ⟨by rw [hk2]; rfl, rfl⟩ (.refl _)
    rw [if_neg h2] at hk2
    have hse : List.isEmpty s = decide (s = []) := by cases s <;> simp
    cases hk : formT k with
    | none =>
      rw [hk] at hk2
      simp -implicitDefEqProofs (maxSteps := 2000000) (disch := omega) [-getElem?_pos, find_form, forms_ok, hk, hX, h2]
      exact .fin (.v (.bool (List.isEmpty s))) ⟨by rw [hk2, hse], rfl⟩ (.refl _)
    | some f =>
      obtain ⟨q, nm, lb, tg, op⟩ := f
      rw [hk] at hk2
      cases nm with
      | true =>
        cases lb <;> cases tg <;> cases op
        all_goals
          simp only [Bool.or_false, Bool.or_true, Bool.or_self, Bool.true_or, Bool.false_or, Bool.false_eq_true, if_true, if_false] at hk2
          simp -implicitDefEqProofs (maxSteps := 2000000) (disch := omega) [-getElem?_pos, find_form, forms_ok, hk, encF, hX, h2]
          refine (ki 1 _).then fun r hr => ?_
          subst hr
          simp -implicitDefEqProofs (maxSteps := 2000000) (disch := omega) [-getElem?_pos]
          exact .fin (.v (.bool (isL s 1))) ⟨by rw [hk2], rfl⟩ (.refl _)
      | false =>
      cases lb with
      | true =>
        cases tg <;> cases op
        all_goals
          simp only [Bool.or_false, Bool.or_true, Bool.or_self, Bool.true_or, Bool.false_or, Bool.false_eq_true, if_true, if_false] at hk2
          simp -implicitDefEqProofs (maxSteps := 2000000) (disch := omega) [-getElem?_pos, find_form, forms_ok, hk, encF, hX, h2]
          refine (ki 1 _).then fun r hr => ?_
          subst hr
          simp -implicitDefEqProofs (maxSteps := 2000000) (disch := omega) [-getElem?_pos]
          exact .fin (.v (.bool (isL s 1))) ⟨by rw [hk2], rfl⟩ (.refl _)
      | false =>
      cases tg with
      | true =>
        cases op
        all_goals
          simp only [Bool.or_false, Bool.or_true, Bool.or_self, Bool.true_or, Bool.false_or, Bool.false_eq_true, if_true, if_false] at hk2
          simp -implicitDefEqProofs (maxSteps := 2000000) (disch := omega) [-getElem?_pos, find_form, forms_ok, hk, encF, hX, h2]
          refine (ki 3 _).then fun r hr => ?_
          subst hr
          simp -implicitDefEqProofs (maxSteps := 2000000) (disch := omega) [-getElem?_pos]
          exact .fin (.v (.bool (isL s 3))) ⟨by rw [hk2], rfl⟩ (.refl _)
      | false =>
      cases op with
      | true =>
        simp only [Bool.or_false, Bool.or_true, Bool.or_self, Bool.true_or, Bool.false_or, Bool.false_eq_true, if_true, if_false] at hk2
        simp -implicitDefEqProofs (maxSteps := 2000000) (disch := omega) [-getElem?_pos, find_form, forms_ok, hk, encF, hX, h2]
        refine (ko _).then fun r hr => ?_
        subst hr
        simp -implicitDefEqProofs (maxSteps := 2000000) (disch := omega) [-getElem?_pos]
        exact .fin (.v (.bool (decide (s ∈ opsL)))) ⟨by rw [hk2], rfl⟩ (.refl _)
      | false =>
        simp only [Bool.or_false, Bool.or_true, Bool.or_self, Bool.true_or, Bool.false_or, Bool.false_eq_true, if_true, if_false] at hk2
        simp -implicitDefEqProofs (maxSteps := 2000000) (disch := omega) [-getElem?_pos, find_form, forms_ok, hk, encF, hX, h2]
        exact .fin (.v (.bool (List.isEmpty s))) ⟨by rw [hk2, hse], rfl⟩ (.refl _)
end Go.Proofs.YtpdeaekmgljeaaaGreatDoor

/-
  Expressions: which may be: the code's own words. (Own work.)
-/
set_option linter.unusedVariables false
set_option linter.unusedSimpArgs false
namespace Go.Proofs.YtpdeaekmgljeaaaGreatDoor
open Go Go.Abs

/-- May an expression be, but for its parts? -/
def ownB : Ex → Bool
  | .mk k p n s t ls ns l =>
    if (l.length : Int) ≠ partsN k ls.length (decide (t ≠ [])) ∨ n < 0 ∨ (0 < n ∧ k ≠ 1) ∨ textB k s = false then false
    else if k = 8 then (ls.all fun s => isL s 1) && (riseL ls && decide (ls.length ≤ 30)) && decide (ns.length = 0) && decide (t = [])
    else if k = 14 then (ls.all fun s => isL s 3) && (riseL ls && decide (ls.length ≤ 30)) && decide (ns.length = ls.length) && (ns.all fun s => isL s 1) && (decide (t = []) || isL t 1) && decide (1 < l.length)
    else if k = 7 then isL t 1 && decide (ls.length + ns.length = 0)
    else decide (t = []) && decide (ls.length + ns.length = 0)
theorem k_Own {e : Ex} {σ : Sg} (he : csz e ≤ 1048576) : ACalls Tryz.prog 72 [.v (encE e)] σ fun r σ' => r = .v (.bool (ownB e)) ∧ σ' = σ := by
  cases e with
  | mk k p n s t ls ns l =>
  have hB : ownB (.mk k p n s t ls ns l) = if (l.length : Int) ≠ partsN k ls.length (decide (t ≠ [])) ∨ n < 0 ∨ (0 < n ∧ k ≠ 1) ∨ textB k s = false then false
    else if k = 8 then (ls.all fun s => isL s 1) && (riseL ls && decide (ls.length ≤ 30)) && decide (ns.length = 0) && decide (t = [])
    else if k = 14 then (ls.all fun s => isL s 3) && (riseL ls && decide (ls.length ≤ 30)) && decide (ns.length = ls.length) && (ns.all fun s => isL s 1) && (decide (t = []) || isL t 1) && decide (1 < l.length)
    else if k = 7 then isL t 1 && decide (ls.length + ns.length = 0)
    else decide (t = []) && decide (ls.length + ns.length = 0) := rfl
  simp only [csz] at he
  have hn1 := nsz_len ls
  have hn2 := nsz_len ns
  have hll := cszL_len l
  generalize ownB (.mk k p n s t ls ns l) = B at hB ⊢
  have kp := fun o σ => k_Parts (k := k) (labels := ls.length) (o := o) (σ := σ) (by omega) (by omega)
  have kt := fun σ => k_SText (k := k) (p := p) (n := n) (s := s) (t := t) (ls := ls) (ns := ns) (l := l) (σ := σ) (by omega)
  have ka := fun k σ => k_All (l := ls) (k := k) (σ := σ) (by omega)
  have kn := fun k σ => k_All (l := ns) (k := k) (σ := σ) (by omega)
  have kr := fun σ => k_Rises (l := ls) (σ := σ)
  have ki := fun k σ => k_Is (s := t) (k := k) (σ := σ) (by omega)
  rw [encE_mk] at kt ⊢
  have hte : (!List.isEmpty t) = decide (t ≠ []) := by cases t <;> simp
  have hte2 : List.isEmpty t = decide (t = []) := by cases t <;> simp
  have hz : ((ls.length : Int) + ns.length == 0) = decide (ls.length + ns.length = 0) := by rw [Bool.eq_iff_iff, beq_iff_eq, decide_eq_true_iff]; omega
  refine acalls_fit Tryz.func72 (by kernel_rfl) c72 rfl (by simp [a72]) fun hf => ?_
  clear hf
  rw [← hte] at hB
  simp -implicitDefEqProofs (maxSteps := 2000000) (disch := omega) [-getElem?_pos, a72]
  refine (kp _ _).then fun r hr => ?_
  subst hr
  obtain ⟨P, hP⟩ : ∃ P, P = partsN k ls.length (!List.isEmpty t) := ⟨_, rfl⟩
  rw [← hP] at hB ⊢
  by_cases h1 : (l.length : Int) = P
  rotate_left
  · rw [if_pos (.inl h1)] at hB
    simp -implicitDefEqProofs (maxSteps := 2000000) (disch := omega) [-getElem?_pos, h1]
    exact .fin (.v (.bool false)) ⟨by rw [hB], rfl⟩ (.refl _)
  by_cases h2 : n < 0
  · rw [if_pos (.inr (.inl h2))] at hB
    simp -implicitDefEqProofs (maxSteps := 2000000) (disch := omega) [-getElem?_pos, h1, h2]
    exact .fin (.v (.bool false)) ⟨by rw [hB], rfl⟩ (.refl _)
  by_cases h3 : 0 < n
  · by_cases h4 : k = 1
    rotate_left
    · rw [if_pos (.inr (.inr (.inl ⟨h3, h4⟩)))] at hB
      simp -implicitDefEqProofs (maxSteps := 2000000) (disch := omega) [-getElem?_pos, h1, h2, h3, h4]
      exact .fin (.v (.bool false)) ⟨by rw [hB], rfl⟩ (.refl _)
    subst h4
    simp -implicitDefEqProofs (maxSteps := 2000000) (disch := omega) [-getElem?_pos, h1, h2, h3]
    refine (kt _).then fun r hr => ?_
    subst hr
    cases hT : textB 1 s with
    | false =>
      rw [if_pos (.inr (.inr (.inr hT)))] at hB
      simp -implicitDefEqProofs (maxSteps := 2000000) (disch := omega) [-getElem?_pos]
      exact .fin (.v (.bool false)) ⟨by rw [hB], rfl⟩ (.refl _)
    | true =>
      rw [if_neg (by simp [h1, h2, hT]), if_neg (by decide), if_neg (by decide), if_neg (by decide)] at hB
      simp -implicitDefEqProofs (maxSteps := 2000000) (disch := omega) [-getElem?_pos]
      refine .mk (fun ht => ?_) fun ht => ?_
      · simp -implicitDefEqProofs (maxSteps := 2000000) (disch := omega) [-getElem?_pos, ht]
        exact .fin (.v (.bool ((ls.length : Int) + ns.length == 0))) ⟨by rw [hB, hz]; simp [ht], rfl⟩ (.refl _)
      · simp -implicitDefEqProofs (maxSteps := 2000000) (disch := omega) [-getElem?_pos, ht]
        exact .fin (.v (.bool false)) ⟨by rw [hB]; simp [ht], rfl⟩ (.refl _)
  · simp -implicitDefEqProofs (maxSteps := 2000000) (disch := omega) [-getElem?_pos, h1, h2, h3]
    refine (kt _).then fun r hr => ?_
    subst hr
    cases hT : textB k s with
    | false =>
      rw [if_pos (.inr (.inr (.inr hT)))] at hB
      simp -implicitDefEqProofs (maxSteps := 2000000) (disch := omega) [-getElem?_pos]
      exact .fin (.v (.bool false)) ⟨by rw [hB], rfl⟩ (.refl _)
    | true =>
      rw [if_neg (by simp [h1, h2, h3, hT])] at hB
      by_cases h8 : k = 8
      · rw [if_pos h8] at hB
        subst h8
        simp -implicitDefEqProofs (maxSteps := 2000000) (disch := omega) [-getElem?_pos]
        refine (ka 1 _).then fun r hr => ?_
        subst hr
        cases hc0 : ls.all fun s => isL s 1 with
        | false =>
          rw [hc0] at hB
          simp -implicitDefEqProofs (maxSteps := 2000000) (disch := omega) [-getElem?_pos]
          exact .fin (.v (.bool false)) ⟨by rw [hB]; simp, rfl⟩ (.refl _)
        | true =>
          rw [hc0] at hB
          simp -implicitDefEqProofs (maxSteps := 2000000) (disch := omega) [-getElem?_pos]
          refine (kr _).then fun r hr => ?_
          subst hr
          cases hc2 : riseL ls && decide (ls.length ≤ 30) with
          | false =>
            rw [hc2] at hB
            simp -implicitDefEqProofs (maxSteps := 2000000) (disch := omega) [-getElem?_pos]
            exact .fin (.v (.bool false)) ⟨by rw [hB]; simp, rfl⟩ (.refl _)
          | true =>
            rw [hc2] at hB
            simp -implicitDefEqProofs (maxSteps := 2000000) (disch := omega) [-getElem?_pos]
            refine .mk (fun hz1 => ?_) fun hz1 => ?_
            · simp -implicitDefEqProofs (maxSteps := 2000000) (disch := omega) [-getElem?_pos, hz1]
              exact .fin (.v (.bool (List.isEmpty t))) ⟨by rw [hB, hte2]; simp [hz1], rfl⟩ (.refl _)
            · simp -implicitDefEqProofs (maxSteps := 2000000) (disch := omega) [-getElem?_pos, hz1]
              exact .fin (.v (.bool false)) ⟨by rw [hB]; simp [hz1], rfl⟩ (.refl _)
      rw [if_neg h8] at hB
      by_cases h14 : k = 14
      · rw [if_pos h14] at hB
        subst h14
        simp -implicitDefEqProofs (maxSteps := 2000000) (disch := omega) [-getElem?_pos]
        refine (ka 3 _).then fun r hr => ?_
        subst hr
        cases hc0 : ls.all fun s => isL s 3 with
        | false =>
          rw [hc0] at hB
          simp -implicitDefEqProofs (maxSteps := 2000000) (disch := omega) [-getElem?_pos]
          exact .fin (.v (.bool false)) ⟨by rw [hB]; simp, rfl⟩ (.refl _)
        | true =>
          rw [hc0] at hB
          simp -implicitDefEqProofs (maxSteps := 2000000) (disch := omega) [-getElem?_pos]
          refine (kr _).then fun r hr => ?_
          subst hr
          cases hc2 : riseL ls && decide (ls.length ≤ 30) with
          | false =>
            rw [hc2] at hB
            simp -implicitDefEqProofs (maxSteps := 2000000) (disch := omega) [-getElem?_pos]
            exact .fin (.v (.bool false)) ⟨by rw [hB]; simp, rfl⟩ (.refl _)
          | true =>
            rw [hc2] at hB
            simp -implicitDefEqProofs (maxSteps := 2000000) (disch := omega) [-getElem?_pos]
            refine .mk (fun he1 => ?_) fun he1 => ?_
            rotate_left
            · simp -implicitDefEqProofs (maxSteps := 2000000) (disch := omega) [-getElem?_pos, he1]
              exact .fin (.v (.bool false)) ⟨by rw [hB]; have : ¬ ns.length = ls.length := fun h => he1 (by rw [h]); simp [this], rfl⟩ (.refl _)
            have he2 : ns.length = ls.length := by omega
            simp -implicitDefEqProofs (maxSteps := 2000000) (disch := omega) [-getElem?_pos, he1]
            refine (kn 1 _).then fun r hr => ?_
            subst hr
            cases hcn : ns.all fun s => isL s 1 with
            | false =>
              rw [hcn] at hB
              simp -implicitDefEqProofs (maxSteps := 2000000) (disch := omega) [-getElem?_pos]
              exact .fin (.v (.bool false)) ⟨by rw [hB]; simp, rfl⟩ (.refl _)
            | true =>
              rw [hcn] at hB
              simp -implicitDefEqProofs (maxSteps := 2000000) (disch := omega) [-getElem?_pos]
              refine .mk (fun ht => ?_) fun ht => ?_
              · simp -implicitDefEqProofs (maxSteps := 2000000) (disch := omega) [-getElem?_pos, ht]
                exact .fin (.v (.bool (decide (1 < (l.length : Int))))) ⟨by rw [hB]; simp [ht, he2]; omega, rfl⟩ (.refl _)
              · simp -implicitDefEqProofs (maxSteps := 2000000) (disch := omega) [-getElem?_pos, ht]
                refine (ki 1 _).then fun r hr => ?_
                subst hr
                cases hct : isL t 1 with
                | false =>
                  rw [hct] at hB
                  simp -implicitDefEqProofs (maxSteps := 2000000) (disch := omega) [-getElem?_pos]
                  exact .fin (.v (.bool false)) ⟨by rw [hB]; simp [ht], rfl⟩ (.refl _)
                | true =>
                  rw [hct] at hB
                  simp -implicitDefEqProofs (maxSteps := 2000000) (disch := omega) [-getElem?_pos]
                  exact .fin (.v (.bool (decide (1 < (l.length : Int))))) ⟨by rw [hB]; simp [he2]; omega, rfl⟩ (.refl _)
      rw [if_neg h14] at hB
      by_cases h7 : k = 7
      · rw [if_pos h7] at hB
        subst h7
        simp -implicitDefEqProofs (maxSteps := 2000000) (disch := omega) [-getElem?_pos]
        refine (ki 1 _).then fun r hr => ?_
        subst hr
        cases hc0 : isL t 1 with
        | false =>
          rw [hc0] at hB
          simp -implicitDefEqProofs (maxSteps := 2000000) (disch := omega) [-getElem?_pos]
          exact .fin (.v (.bool false)) ⟨by rw [hB]; simp, rfl⟩ (.refl _)
        | true =>
          rw [hc0] at hB
          simp -implicitDefEqProofs (maxSteps := 2000000) (disch := omega) [-getElem?_pos]
          exact .fin (.v (.bool ((ls.length : Int) + ns.length == 0))) ⟨by rw [hB, hz]; simp, rfl⟩ (.refl _)
      rw [if_neg h7] at hB
      simp -implicitDefEqProofs (maxSteps := 2000000) (disch := omega) [-getElem?_pos, h8, h14, h7]
      refine .mk (fun ht => ?_) fun ht => ?_
      · simp -implicitDefEqProofs (maxSteps := 2000000) (disch := omega) [-getElem?_pos, ht]
        exact .fin (.v (.bool ((ls.length : Int) + ns.length == 0))) ⟨by rw [hB, hz]; simp [ht], rfl⟩ (.refl _)
      · simp -implicitDefEqProofs (maxSteps := 2000000) (disch := omega) [-getElem?_pos, ht]
        exact .fin (.v (.bool false)) ⟨by rw [hB]; simp [ht], rfl⟩ (.refl _)
theorem k_IndexFuncEx {xs : List Ex} {f : Bool} {fd : D} {p : Ex → Bool} {σ : Sg} (hp : ∀ x ∈ xs, WCall Tryz.prog fd [.v (encE x)] σ fun r σ' => r = .v (.bool (p x)) ∧ σ' = σ) :
    ACalls Tryz.prog 111 [.v (.sl (some 8) f (xs.map encE)), fd] σ fun r σ' => r = .v (.int .i64 ((xs.findIdx? p).elim (-1) fun i => (i : Int))) ∧ σ' = σ := by
  refine acalls_fit Tryz.func111 (by kernel_rfl) c111 rfl (by simp [a111]) fun hf => ?_
  simp at hf
  simp -implicitDefEqProofs (maxSteps := 2000000) (disch := omega) [-getElem?_pos, a111]
  refine W_loop (α := Nat) 0 (fun i => xs.length - i) (fun i => ⟨[(0, .v (.sl (some 8) f (xs.map encE))), (1, fd), (7, .v (.int .i64 xs.length)), (8, .v (.int .i64 i))], σ⟩) (fun i => i ≤ xs.length ∧ xs.findIdx? p = ((xs.drop i).findIdx? p).map fun k => k + i)
    (.eq (by simp)) ⟨by omega, by simp⟩ fun i ⟨hi, he⟩ => ?_
  simp -implicitDefEqProofs (maxSteps := 2000000) (disch := omega) [-getElem?_pos]
  refine .mk (fun h => ?_) fun h => ?_
  · simp -implicitDefEqProofs (maxSteps := 2000000) (disch := omega) [-getElem?_pos]
    refine ⟨by omega, fun x hx => ?_⟩
    refine (hp x (List.mem_of_getElem? hx)).then fun r hr => ?_
    subst hr
    have hdc := drop_cons hx
    rw [hdc, List.findIdx?_cons] at he
    simp -implicitDefEqProofs (maxSteps := 2000000) (disch := omega) [-getElem?_pos]
    refine .mk (fun hq => ?_) fun hq => ?_
    · rw [if_pos hq] at he
      simp -implicitDefEqProofs (maxSteps := 2000000) (disch := omega) [-getElem?_pos]
      refine .fin _ ⟨?_, rfl⟩ (.refl _)
      rw [he]
      simp
    · rw [if_neg hq] at he
      simp -implicitDefEqProofs (maxSteps := 2000000) (disch := omega) [-getElem?_pos]
      refine ⟨i + 1, ⟨by omega, ?_⟩, by dsimp only; omega, .eq (by simp)⟩
      rw [he]
      simp only [Option.map_map]
      congr 1
      funext k
      simp only [Function.comp]
      omega
  · simp -implicitDefEqProofs (maxSteps := 2000000) (disch := omega) [-getElem?_pos]
    refine .fin _ ⟨?_, rfl⟩ (.refl _)
    rw [he, List.drop_eq_nil_of_le (by omega)]
    rfl
theorem k_ContainsFuncEx {xs : List Ex} {f : Bool} {fd : D} {p : Ex → Bool} {σ : Sg} (hp : ∀ x ∈ xs, WCall Tryz.prog fd [.v (encE x)] σ fun r σ' => r = .v (.bool (p x)) ∧ σ' = σ) :
    ACalls Tryz.prog 73 [.v (.sl (some 8) f (xs.map encE)), fd] σ fun r σ' => r = .v (.bool (xs.any p)) ∧ σ' = σ := by
  refine acalls_fit Tryz.func73 (by kernel_rfl) c73 rfl (by simp [a73]) fun hf => ?_
  simp -implicitDefEqProofs (maxSteps := 2000000) (disch := omega) [-getElem?_pos, a73]
  refine (k_IndexFuncEx hp).then fun r hr => ?_
  subst hr
  simp -implicitDefEqProofs (maxSteps := 2000000) (disch := omega) [-getElem?_pos]
  refine .fin _ ⟨?_, rfl⟩ (.refl _)
  congr 2
  cases h : xs.findIdx? p with
  | none =>
    have h2 := List.findIdx?_eq_none_iff.1 h
    simp
    exact fun x hx => by simpa using h2 x hx
  | some i =>
    have h2 := List.findIdx?_eq_some_iff_getElem.1 h
    obtain ⟨hlt, hq, _⟩ := h2
    simp
    exact ⟨_, List.getElem_mem hlt, hq⟩

mutual
def fineB : Ex → Bool
  | .mk k p n s t ls ns l => ownB (.mk k p n s t ls ns l) && fineLB l
def fineLB : List Ex → Bool
  | [] => true
  | x :: l => fineB x && fineLB l
end
theorem any_fine : ∀ l : List Ex, l.any (fun x => !fineB x) = !fineLB l
  | [] => rfl
  | x :: l => by rw [List.any_cons, any_fine l, fineLB, Bool.not_and]
theorem k_Fine1 {e : Ex} {σ : Sg} (hF : ∀ σ, ACalls Tryz.prog 47 [.v (encE e)] σ fun r σ' => r = .v (.bool (fineB e)) ∧ σ' = σ) : ACalls Tryz.prog 74 [.v (encE e)] σ fun r σ' => r = .v (.bool (!fineB e)) ∧ σ' = σ := by
  obtain ⟨b, hb⟩ : ∃ b, b = fineB e := ⟨_, rfl⟩
  rw [← hb] at hF ⊢
  cases e with
  | mk k p n s t ls ns l =>
  rw [encE_mk] at hF ⊢
  refine acalls_fit Tryz.func74 (by kernel_rfl) c74 rfl (by simp [a74]) fun hf => ?_
  clear hf
  simp -implicitDefEqProofs (maxSteps := 2000000) (disch := omega) [-getElem?_pos, a74]
  refine (hF _).then fun r hr => ?_
  subst hr
  simp -implicitDefEqProofs (maxSteps := 2000000) (disch := omega) [-getElem?_pos]
  exact .fin _ ⟨rfl, rfl⟩ (.refl _)
theorem k_Fine (e : Ex) : ∀ {σ : Sg}, csz e ≤ 1048576 → ACalls Tryz.prog 47 [.v (encE e)] σ fun r σ' => r = .v (.bool (fineB e)) ∧ σ' = σ := by
  refine Ex.ind (P := fun e => ∀ {σ : Sg}, csz e ≤ 1048576 → ACalls Tryz.prog 47 [.v (encE e)] σ fun r σ' => r = .v (.bool (fineB e)) ∧ σ' = σ) (fun k p n s t ls ns l ih => ?_) e
  intro σ he
  have ko := fun σ => k_Own (e := .mk k p n s t ls ns l) (σ := σ) he
  have hB : fineB (.mk k p n s t ls ns l) = (ownB (.mk k p n s t ls ns l) && fineLB l) := by rw [fineB]
  generalize fineB (.mk k p n s t ls ns l) = B at hB ⊢
  generalize ownB (.mk k p n s t ls ns l) = O at hB ko
  have hsz : ∀ x ∈ l, csz x ≤ 1048576 := fun x hx => by
    have := cszL_mem hx
    simp only [csz] at he
    omega
  have kc := fun σ => k_ContainsFuncEx (xs := l) (f := false) (fd := .v (.fn 74)) (p := fun x => !fineB x) (σ := σ) fun x hx => by
    rw [WCall_fn]
    exact k_Fine1 fun σ => ih x hx (hsz x hx)
  rw [encE_mk] at ko ⊢
  refine acalls_fit Tryz.func47 (by kernel_rfl) c47 rfl (by simp [a47]) fun hf => ?_
  clear hf
  simp -implicitDefEqProofs (maxSteps := 2000000) (disch := omega) [-getElem?_pos, a47]
  refine (ko _).then fun r hr => ?_
  subst hr
  cases O with
  | false =>
    simp -implicitDefEqProofs (maxSteps := 2000000) (disch := omega) [-getElem?_pos]
    exact .fin (.v (.bool false)) ⟨by rw [hB]; simp, rfl⟩ (.refl _)
  | true =>
    simp -implicitDefEqProofs (maxSteps := 2000000) (disch := omega) [-getElem?_pos]
    refine (kc _).then fun r hr => ?_
    rw [any_fine] at hr
    subst hr
    simp -implicitDefEqProofs (maxSteps := 2000000) (disch := omega) [-getElem?_pos]
    exact .fin (.v (.bool (fineLB l))) ⟨by rw [hB]; simp, rfl⟩ (by simp)
def mayB (e : Ex) : Bool := decide (dep e ≤ 60) && (decide (nds e ≤ 1500) && fineB e)
theorem k_May {e : Ex} {σ : Sg} (he : csz e ≤ 1048576) : ACalls Tryz.prog 23 [.v (encE e)] σ fun r σ' => r = .v (.bool (mayB e)) ∧ σ' = σ := by
  have kd := fun σ => k_Depth e (σ := σ) he
  have kn := fun σ => k_Nodes e (σ := σ) he
  have kf := fun σ => k_Fine e (σ := σ) he
  have hB : mayB e = (decide (dep e ≤ 60) && (decide (nds e ≤ 1500) && fineB e)) := rfl
  generalize mayB e = B at hB ⊢
  generalize fineB e = F at hB kf
  generalize dep e = d at hB kd
  generalize nds e = m at hB kn
  cases e with
  | mk k p n s t ls ns l =>
  rw [encE_mk] at kd kn kf ⊢
  refine acalls_fit Tryz.func23 (by kernel_rfl) c23 rfl (by simp [a23]) fun hf => ?_
  clear hf
  simp -implicitDefEqProofs (maxSteps := 2000000) (disch := omega) [-getElem?_pos, a23]
  refine (kd _).then fun r hr => ?_
  subst hr
  simp -implicitDefEqProofs (maxSteps := 2000000) (disch := omega) [-getElem?_pos]
  refine .mk (fun h1 => ?_) fun h1 => ?_
  rotate_left
  · simp -implicitDefEqProofs (maxSteps := 2000000) (disch := omega) [-getElem?_pos]
    exact .fin (.v (.bool false)) ⟨by rw [hB]; simp; intros; omega, rfl⟩ (.refl _)
  simp -implicitDefEqProofs (maxSteps := 2000000) (disch := omega) [-getElem?_pos]
  refine (kn _).then fun r hr => ?_
  subst hr
  simp -implicitDefEqProofs (maxSteps := 2000000) (disch := omega) [-getElem?_pos]
  refine .mk (fun h2 => ?_) fun h2 => ?_
  rotate_left
  · simp -implicitDefEqProofs (maxSteps := 2000000) (disch := omega) [-getElem?_pos]
    exact .fin (.v (.bool false)) ⟨by rw [hB]; simp; intros; omega, rfl⟩ (.refl _)
  simp -implicitDefEqProofs (maxSteps := 2000000) (disch := omega) [-getElem?_pos]
  refine (kf _).then fun r hr => ?_
  subst hr
  simp -implicitDefEqProofs (maxSteps := 2000000) (disch := omega) [-getElem?_pos]
  exact .fin (.v (.bool F)) ⟨by rw [hB, decide_eq_true (by omega : d ≤ 60), decide_eq_true (by omega : m ≤ 1500)]; simp, rfl⟩ (.refl _)
end Go.Proofs.YtpdeaekmgljeaaaGreatDoor

/-
  Expressions: which may be: the document's words are the code's. (Own work.)
-/
set_option linter.unusedVariables false
set_option linter.unusedSimpArgs false
namespace Go.Proofs.YtpdeaekmgljeaaaGreatDoor
open Go Go.Abs

theorem tok_name {b : Str} {i : Nat} {c : UInt8} {t : Tk} {to : Nat} (h : oneL b i c = .tok t to) (hk : t.k = 1 ∨ t.k = 3) : (lowB c = true ∨ uppB c = true) ∧ ∃ q, t.s = passS q b i ∧ to = spanE q b i := by
  unfold oneL at h
  split at h
  · rename_i hl
    unfold nameN at h
    split at h
    · cases h
    · cases h
      exact ⟨.inl hl, _, rfl, rfl⟩
  · split at h
    · rename_i hu
      unfold nameN at h
      split at h
      · cases h
      · cases h
        exact ⟨.inr hu, _, rfl, rfl⟩
    · split at h
      · unfold numN at h
        split at h
        · cases h
        · cases h
          rcases hk with hk | hk <;> (dsimp only at hk; omega)
      · split at h
        · cases ht : textL (b.drop (i + 1)) (i + 1) [] with
          | bad q => rw [ht] at h; cases h
          | ok s e =>
            rw [ht] at h
            unfold textN at h
            dsimp only at h
            split at h
            · cases h
            · cases h
              rcases hk with hk | hk <;> (dsimp only at hk; omega)
        · unfold signN at h
          split at h
          · cases h
          · cases h
            rcases hk with hk | hk <;> (dsimp only at hk; omega)
theorem letter_bla {c : UInt8} (h : lowB c = true ∨ uppB c = true) : blaB c = false := by
  unfold lowB uppB at h
  unfold blaB
  simp only [Bool.and_eq_true, decide_eq_true_eq, Bool.or_eq_false_iff, decide_eq_false_iff_not] at h ⊢
  omega
def Runs : Str → Nat → List Tk → Prop
  | b, i, [] => b[spanE blaB b i]? = none
  | b, i, t :: r => ∃ c to, b[spanE blaB b i]? = some c ∧ oneL b (spanE blaB b i) c = .tok t to ∧ Runs b to r
theorem cutF_runs {b : Str} : ∀ (f i : Nat) (acc l : List Tk), cutF f b i acc = .ok l → ∃ r, l = acc ++ r ∧ Runs b i r
  | 0, i, acc, l, h => by cases h
  | f + 1, i, acc, l, h => by
    rw [cutF] at h
    cases hc : b[spanE blaB b i]? with
    | none => rw [hc] at h; cases h; exact ⟨[], by simp, hc⟩
    | some c =>
      rw [hc] at h
      dsimp only at h
      cases ho : oneL b (spanE blaB b i) c with
      | bad q => rw [ho] at h; cases h
      | tok t to =>
        rw [ho] at h
        obtain ⟨r, hr, hR⟩ := cutF_runs f to _ l h
        exact ⟨t :: r, by rw [hr]; simp, c, to, hc, ho, hR⟩
def isR (s : Str) (k : Int) : Bool := match s with
  | [] => false
  | c :: r => if 20 < (c :: r).length then false else match oneL (c :: r) 0 c with
    | .tok t to => decide (to = (c :: r).length) && decide (t.k = k)
    | .bad _ => false
theorem passS_full {q : UInt8 → Bool} {b : Str} (h : (passS q b 0).length = b.length) : passS q b 0 = b := by
  have h1 : (passS q b 0) <+: b := by
    unfold passS
    rw [List.drop_zero]
    exact List.takeWhile_prefix q
  exact h1.eq_of_length h
theorem isR_imp {s : Str} {k : Int} (hk : k = 1 ∨ k = 3) (h : isR s k = true) : isL s k = true := by
  cases s with
  | nil => cases h
  | cons c r =>
    unfold isR at h
    dsimp only at h
    by_cases hl : 20 < (c :: r).length
    · rw [if_pos hl] at h
      cases h
    rw [if_neg hl] at h
    unfold isL
    rw [if_neg hl]
    have h0 : (c :: r)[0]? = some c := rfl
    have hpos : ∃ m, (c :: r).length = m + 1 := ⟨r.length, rfl⟩
    generalize c :: r = s at *
    cases ho : oneL s 0 c with
    | bad q => rw [ho] at h; cases h
    | tok t to =>
      rw [ho] at h
      simp only [Bool.and_eq_true, decide_eq_true_eq] at h
      obtain ⟨hto, htk⟩ := h
      obtain ⟨hlet, q, hts, hspan⟩ := tok_name ho (by rw [htk]; exact hk)
      have hfull : passS q s 0 = s := passS_full (by unfold spanE at hspan; unfold passS; omega)
      have hcut : cutL s = .ok [t] := by
        obtain ⟨m, hm⟩ := hpos
        unfold cutL
        rw [if_neg (by omega), cutF, spanE_miss h0 (letter_bla hlet), h0]
        dsimp only
        rw [ho]
        dsimp only
        rw [hm, cutF, spanE_end (by omega), List.getElem?_eq_none (by omega)]
        rfl
      rw [hcut]
      simp [htk, hts, hfull]
theorem isL_imp {s : Str} {k : Int} (hk : k = 1 ∨ k = 3) (h : isL s k = true) : isR s k = true := by
  unfold isL at h
  split at h
  · cases h
  rename_i hl
  split at h
  · rename_i t hcut
    simp only [Bool.and_eq_true, decide_eq_true_eq] at h
    obtain ⟨htk, hts⟩ := h
    unfold cutL at hcut
    split at hcut
    · cases hcut
    obtain ⟨r, hr, hR⟩ := cutF_runs _ 0 [] _ hcut
    rw [List.nil_append] at hr
    subst hr
    obtain ⟨c, to, hc, ho, _⟩ := hR
    obtain ⟨hlet, q, hp, hspan⟩ := tok_name ho (by rw [htk]; exact hk)
    have hlt := (List.getElem?_eq_some_iff.1 hc).1
    have hle : (passS q s (spanE blaB s 0)).length ≤ s.length - spanE blaB s 0 := by
      unfold passS
      have h1 : ((s.drop (spanE blaB s 0)).takeWhile q).length ≤ (s.drop (spanE blaB s 0)).length := (List.takeWhile_prefix q).length_le
      rw [List.length_drop] at h1
      exact h1
    rw [← hp, hts] at hle
    have hj : spanE blaB s 0 = 0 := by omega
    rw [hj] at hc ho hp hspan
    have hto : to = s.length := by
      have h1 : spanE q s 0 = 0 + (passS q s 0).length := rfl
      rw [← hp, hts] at h1
      omega
    cases s with
    | nil => simp at hlt
    | cons c' r =>
      have hcc : c' = c := Option.some.inj hc
      subst hcc
      unfold isR
      dsimp only
      rw [if_neg hl, ho]
      simp [hto, htk]
  · cases h
theorem is_eq {s : Str} {k : Int} (hk : k = 1 ∨ k = 3) : isR s k = isL s k := by
  rw [Bool.eq_iff_iff]
  exact ⟨isR_imp hk, isL_imp hk⟩
theorem k_RIs {s : Str} {k : Int} {σ : Sg} (hs : s.length ≤ 1048576) (hk : k = 1 ∨ k = 3) : ACalls Tryz.prog 96 [.v (.str s), .v (.int .i64 k)] σ fun r σ' => r = .v (.bool (isL s k)) ∧ σ' = σ := by
  rw [← is_eq hk]
  cases s with
  | nil =>
    refine acalls_fit Tryz.func96 (by kernel_rfl) c96 rfl (by simp [a96]) fun hf => ?_
    clear hf
    simp -implicitDefEqProofs (maxSteps := 2000000) (disch := omega) [-getElem?_pos, a96]
    exact .fin (.v (.bool false)) ⟨rfl, rfl⟩ (.refl _)
  | cons c r =>
  have ko := k_ROne (b := c :: r) (i := 0) (c := c) (σ := σ) rfl hs
  have hI : isR (c :: r) k = if 20 < (c :: r).length then false else match oneL (c :: r) 0 c with
    | .tok t to => decide (to = (c :: r).length) && decide (t.k = k)
    | .bad _ => false := rfl
  generalize isR (c :: r) k = B at hI ⊢
  have hne : ¬ (c :: r).length = 0 := by simp
  generalize hss : c :: r = s at *
  have hni : ¬ (s.length : Int) = 0 := by omega
  refine acalls_fit Tryz.func96 (by kernel_rfl) c96 rfl (by simp [a96]) fun hf => ?_
  clear hf
  simp -implicitDefEqProofs (maxSteps := 2000000) (disch := omega) [-getElem?_pos, a96, hne, hni]
  refine .mk (fun h => ?_) fun h => ?_
  · rw [if_pos (by omega)] at hI
    simp -implicitDefEqProofs (maxSteps := 2000000) (disch := omega) [-getElem?_pos]
    exact .fin (.v (.bool false)) ⟨by rw [hI], rfl⟩ (.refl _)
  rw [if_neg (by omega)] at hI
  simp -implicitDefEqProofs (maxSteps := 2000000) (disch := omega) [-getElem?_pos]
  refine ⟨by omega, ?_⟩
  refine (show ACalls Tryz.prog 135 [.v (vBs s), .v (.int .i64 0)] σ _ from ko).mono fun r σ' hr => ?_
  cases hx : oneL s 0 c with
  | bad q =>
    rw [hx] at hr hI
    obtain ⟨⟨t, e, rfl⟩, rfl⟩ := hr
    simp -implicitDefEqProofs (maxSteps := 2000000) (disch := omega) [-getElem?_pos, encK]
    refine .mk (fun h => absurd h (by omega)) fun _ => ?_
    simp -implicitDefEqProofs (maxSteps := 2000000) (disch := omega) [-getElem?_pos]
    exact .fin (.v (.bool false)) ⟨by rw [hI], rfl⟩ (.refl _)
  | tok t to =>
    rw [hx] at hr hI
    obtain ⟨rfl, rfl⟩ := hr
    simp -implicitDefEqProofs (maxSteps := 2000000) (disch := omega) [-getElem?_pos, encK]
    refine .mk (fun h => ?_) fun h => ?_
    · have ht : to = s.length := by omega
      simp -implicitDefEqProofs (maxSteps := 2000000) (disch := omega) [-getElem?_pos]
      exact .fin (.v (.bool (t.k == k))) ⟨by rw [hI]; simp [ht]; rfl, rfl⟩ (.refl _)
    · have ht : ¬ to = s.length := by omega
      simp -implicitDefEqProofs (maxSteps := 2000000) (disch := omega) [-getElem?_pos]
      exact .fin (.v (.bool false)) ⟨by rw [hI]; simp [ht], rfl⟩ (.refl _)
end Go.Proofs.YtpdeaekmgljeaaaGreatDoor

/-
  Expressions: the document's Oper, Parts, text. (Own work.)
-/
set_option linter.unusedVariables false
set_option linter.unusedSimpArgs false
namespace Go.Proofs.YtpdeaekmgljeaaaGreatDoor
open Go Go.Abs

theorem k_ROper {s : Str} {σ : Sg} : ACalls Tryz.prog 134 [.v (.str s)] σ fun r σ' => r = .v (.bool (decide (s ∈ opsL))) ∧ σ' = σ := by
  refine acalls_fit Tryz.func134 (by kernel_rfl) c134 rfl (by simp [a134]) fun hf => ?_
  clear hf
  by_cases hm : s ∈ opsL
  · have hm' := hm
    simp only [opsL, List.mem_cons, List.not_mem_nil, or_false] at hm'
    rcases hm' with rfl | rfl | rfl | rfl | rfl | rfl | rfl | rfl
    all_goals
      simp -implicitDefEqProofs (maxSteps := 2000000) (disch := omega) [-getElem?_pos, a134]
      exact .fin (.v (.bool true)) ⟨by rw [decide_eq_true hm], rfl⟩ (.refl _)
  · have hm' := hm
    simp only [opsL, List.mem_cons, List.not_mem_nil, or_false, not_or] at hm'
    obtain ⟨h1, h2, h3, h4, h5, h6, h7, h8⟩ := hm'
    simp -implicitDefEqProofs (maxSteps := 2000000) (disch := omega) [-getElem?_pos, a134, h1, h2, h3, h4, h5, h6, h7, h8]
    exact .fin (.v (.bool (s == [35]))) ⟨by rw [decide_eq_false hm]; simp [h8], rfl⟩ (.refl _)
theorem form_none {k : Int} (h : ∀ j ∈ formsT.map (·.1), k ≠ j) : formT k = none := by
  unfold formT
  generalize formsT = l at h
  induction l with
  | nil => rfl
  | cons q l ih =>
    obtain ⟨a, f⟩ := q
    have h1 : ¬ k = a := h a (by simp)
    have hb : (k == a) = false := by simp [h1]
    rw [List.lookup_cons, hb]
    exact ih fun j hj => h j (by simp at hj ⊢; exact .inr hj)
theorem k_RParts {k labels : Int} {o : Bool} {σ : Sg} (hl : 0 ≤ labels) (hl2 : labels ≤ 2000000) : ACalls Tryz.prog 94 [.v (.int .i64 k), .v (.int .i64 labels), .v (.bool o)] σ fun r σ' => r = .v (.int .i64 (partsN k labels o)) ∧ σ' = σ := by
  refine acalls_fit Tryz.func94 (by kernel_rfl) c94 rfl (by simp [a94]) fun hf => ?_
  clear hf
  by_cases h1 : k = 1
  · subst h1
    simp -implicitDefEqProofs (maxSteps := 2000000) (disch := omega) [-getElem?_pos, a94]
    exact .fin _ ⟨rfl, rfl⟩ (.refl _)
  by_cases h2 : k = 2
  · subst h2
    simp -implicitDefEqProofs (maxSteps := 2000000) (disch := omega) [-getElem?_pos, a94]
    exact .fin _ ⟨rfl, rfl⟩ (.refl _)
  by_cases h3 : k = 3
  · subst h3
    simp -implicitDefEqProofs (maxSteps := 2000000) (disch := omega) [-getElem?_pos, a94]
    exact .fin _ ⟨rfl, rfl⟩ (.refl _)
  by_cases h4 : k = 4
  · subst h4
    simp -implicitDefEqProofs (maxSteps := 2000000) (disch := omega) [-getElem?_pos, a94]
    exact .fin _ ⟨rfl, rfl⟩ (.refl _)
  by_cases h5 : k = 5
  · subst h5
    simp -implicitDefEqProofs (maxSteps := 2000000) (disch := omega) [-getElem?_pos, a94]
    exact .fin _ ⟨rfl, rfl⟩ (.refl _)
  by_cases h6 : k = 6
  · subst h6
    simp -implicitDefEqProofs (maxSteps := 2000000) (disch := omega) [-getElem?_pos, a94]
    exact .fin _ ⟨rfl, rfl⟩ (.refl _)
  by_cases h7 : k = 7
  · subst h7
    simp -implicitDefEqProofs (maxSteps := 2000000) (disch := omega) [-getElem?_pos, a94]
    exact .fin _ ⟨rfl, rfl⟩ (.refl _)
  by_cases h8 : k = 8
  · subst h8
    simp -implicitDefEqProofs (maxSteps := 2000000) (disch := omega) [-getElem?_pos, a94]
    exact .fin _ ⟨rfl, rfl⟩ (.refl _)
  by_cases h9 : k = 9
  · subst h9
    simp -implicitDefEqProofs (maxSteps := 2000000) (disch := omega) [-getElem?_pos, a94]
    exact .fin _ ⟨rfl, rfl⟩ (.refl _)
  by_cases h10 : k = 10
  · subst h10
    simp -implicitDefEqProofs (maxSteps := 2000000) (disch := omega) [-getElem?_pos, a94]
    exact .fin _ ⟨rfl, rfl⟩ (.refl _)
  by_cases h11 : k = 11
  · subst h11
    simp -implicitDefEqProofs (maxSteps := 2000000) (disch := omega) [-getElem?_pos, a94]
    exact .fin _ ⟨rfl, rfl⟩ (.refl _)
  by_cases h12 : k = 12
  · subst h12
    simp -implicitDefEqProofs (maxSteps := 2000000) (disch := omega) [-getElem?_pos, a94]
    exact .fin _ ⟨rfl, rfl⟩ (.refl _)
  by_cases h13 : k = 13
  · subst h13
    simp -implicitDefEqProofs (maxSteps := 2000000) (disch := omega) [-getElem?_pos, a94]
    exact .fin _ ⟨rfl, rfl⟩ (.refl _)
  by_cases h14 : k = 14
  · subst h14
    cases o with
    | true =>
      simp -implicitDefEqProofs (maxSteps := 2000000) (disch := omega) [-getElem?_pos, a94]
      exact .fin (.v (.int .i64 (labels + 2))) ⟨by simp [partsN]; omega, rfl⟩ (.refl _)
    | false =>
      simp -implicitDefEqProofs (maxSteps := 2000000) (disch := omega) [-getElem?_pos, a94]
      exact .fin (.v (.int .i64 (labels + 1))) ⟨by simp [partsN], rfl⟩ (.refl _)
  by_cases h15 : k = 15
  · subst h15
    simp -implicitDefEqProofs (maxSteps := 2000000) (disch := omega) [-getElem?_pos, a94]
    exact .fin _ ⟨rfl, rfl⟩ (.refl _)
  by_cases h16 : k = 16
  · subst h16
    simp -implicitDefEqProofs (maxSteps := 2000000) (disch := omega) [-getElem?_pos, a94]
    exact .fin _ ⟨rfl, rfl⟩ (.refl _)
  by_cases h17 : k = 17
  · subst h17
    simp -implicitDefEqProofs (maxSteps := 2000000) (disch := omega) [-getElem?_pos, a94]
    exact .fin _ ⟨rfl, rfl⟩ (.refl _)
  by_cases h18 : k = 18
  · subst h18
    simp -implicitDefEqProofs (maxSteps := 2000000) (disch := omega) [-getElem?_pos, a94]
    exact .fin _ ⟨rfl, rfl⟩ (.refl _)
  by_cases h19 : k = 19
  · subst h19
    simp -implicitDefEqProofs (maxSteps := 2000000) (disch := omega) [-getElem?_pos, a94]
    exact .fin _ ⟨rfl, rfl⟩ (.refl _)
  by_cases h20 : k = 20
  · subst h20
    simp -implicitDefEqProofs (maxSteps := 2000000) (disch := omega) [-getElem?_pos, a94]
    exact .fin _ ⟨rfl, rfl⟩ (.refl _)
  by_cases h21 : k = 21
  · subst h21
    simp -implicitDefEqProofs (maxSteps := 2000000) (disch := omega) [-getElem?_pos, a94]
    exact .fin _ ⟨rfl, rfl⟩ (.refl _)
  by_cases h22 : k = 22
  · subst h22
    simp -implicitDefEqProofs (maxSteps := 2000000) (disch := omega) [-getElem?_pos, a94]
    exact .fin _ ⟨rfl, rfl⟩ (.refl _)
  have hn : formT k = none := form_none (by simp [formsT, h1, h2, h3, h4, h5, h6, h7, h8, h9, h10, h11, h12, h13, h14, h15, h16, h17, h18, h19, h20, h21, h22])
  simp -implicitDefEqProofs (maxSteps := 2000000) (disch := omega) [-getElem?_pos, a94, h1, h2, h3, h4, h5, h6, h7, h8, h9, h10, h11, h12, h13, h14, h15, h16, h17, h18, h19, h20, h21, h22]
  exact .fin (.v (.int .i64 (-1))) ⟨by simp [partsN, hn, h8, h14], rfl⟩ (.refl _)
theorem k_REText {k p n : Int} {s t : Str} {ls ns : List Str} {l : List Ex} {σ : Sg} (hs : s.length ≤ 1048576) : ACalls Tryz.prog 93 [.v (encE (.mk k p n s t ls ns l))] σ fun r σ' => r = .v (.bool (textB k s)) ∧ σ' = σ := by
  have kq := fun σ => k_RQuote (b := s) (σ := σ) hs
  have k1 := fun σ => k_RIs (s := s) (k := 1) (σ := σ) hs (.inl rfl)
  have k3 := fun σ => k_RIs (s := s) (k := 3) (σ := σ) hs (.inr rfl)
  have ko := fun σ => k_ROper (s := s) (σ := σ)
  have hse : List.isEmpty s = decide (s = []) := by cases s <;> simp
  rw [encE_mk]
  refine acalls_fit Tryz.func93 (by kernel_rfl) c93 rfl (by simp [a93]) fun hf => ?_
  clear hf
  by_cases h1 : k = 1
  · subst h1
    simp -implicitDefEqProofs (maxSteps := 2000000) (disch := omega) [-getElem?_pos, a93]
    exact .fin (.v (.bool (List.isEmpty s))) ⟨by rw [hse]; rfl, rfl⟩ (.refl _)
  by_cases h2 : k = 2
  · subst h2
    simp -implicitDefEqProofs (maxSteps := 2000000) (disch := omega) [-getElem?_pos, a93]
    refine (kq _).then fun r hr => ?_
    have hB : textB 2 s = (quoteE s).isSome := rfl
    generalize textB 2 s = B at hB ⊢
    cases hq : qL s [34] with
    | none =>
      rw [hq] at hr
      subst hr
      simp -implicitDefEqProofs (maxSteps := 2000000) (disch := omega) [-getElem?_pos]
      exact .fin (.v (.bool false)) ⟨by rw [hB]; unfold quoteE; split <;> simp [hq], rfl⟩ (.refl _)
    | some z =>
      rw [hq] at hr
      subst hr
      simp -implicitDefEqProofs (maxSteps := 2000000) (disch := omega) [-getElem?_pos]
      exact .fin (.v (.bool (decide (s.length ≤ 2000)))) ⟨by rw [hB]; unfold quoteE; split <;> simp [hq] <;> omega, rfl⟩ (.refl _)
  by_cases h3 : k = 3
  · subst h3
    simp -implicitDefEqProofs (maxSteps := 2000000) (disch := omega) [-getElem?_pos, a93]
    refine (k1 _).then fun r hr => ?_
    subst hr
    simp -implicitDefEqProofs (maxSteps := 2000000) (disch := omega) [-getElem?_pos]
    exact .fin (.v (.bool (isL s 1))) ⟨rfl, rfl⟩ (.refl _)
  by_cases h4 : k = 4
  · subst h4
    simp -implicitDefEqProofs (maxSteps := 2000000) (disch := omega) [-getElem?_pos, a93]
    refine (k1 _).then fun r hr => ?_
    subst hr
    simp -implicitDefEqProofs (maxSteps := 2000000) (disch := omega) [-getElem?_pos]
    exact .fin (.v (.bool (isL s 1))) ⟨rfl, rfl⟩ (.refl _)
  by_cases h5 : k = 5
  · subst h5
    simp -implicitDefEqProofs (maxSteps := 2000000) (disch := omega) [-getElem?_pos, a93]
    exact .fin (.v (.bool (List.isEmpty s))) ⟨by rw [hse]; rfl, rfl⟩ (.refl _)
  by_cases h6 : k = 6
  · subst h6
    simp -implicitDefEqProofs (maxSteps := 2000000) (disch := omega) [-getElem?_pos, a93]
    refine (k1 _).then fun r hr => ?_
    subst hr
    simp -implicitDefEqProofs (maxSteps := 2000000) (disch := omega) [-getElem?_pos]
    exact .fin (.v (.bool (isL s 1))) ⟨rfl, rfl⟩ (.refl _)
  by_cases h7 : k = 7
  · subst h7
    simp -implicitDefEqProofs (maxSteps := 2000000) (disch := omega) [-getElem?_pos, a93]
    refine (k1 _).then fun r hr => ?_
    subst hr
    simp -implicitDefEqProofs (maxSteps := 2000000) (disch := omega) [-getElem?_pos]
    exact .fin (.v (.bool (isL s 1))) ⟨rfl, rfl⟩ (.refl _)
  by_cases h8 : k = 8
  · subst h8
    simp -implicitDefEqProofs (maxSteps := 2000000) (disch := omega) [-getElem?_pos, a93]
    exact .fin (.v (.bool (List.isEmpty s))) ⟨by rw [hse]; rfl, rfl⟩ (.refl _)
  by_cases h9 : k = 9
  · subst h9
    simp -implicitDefEqProofs (maxSteps := 2000000) (disch := omega) [-getElem?_pos, a93]
    refine (k1 _).then fun r hr => ?_
    subst hr
    simp -implicitDefEqProofs (maxSteps := 2000000) (disch := omega) [-getElem?_pos]
    exact .fin (.v (.bool (isL s 1))) ⟨rfl, rfl⟩ (.refl _)
  by_cases h10 : k = 10
  · subst h10
    simp -implicitDefEqProofs (maxSteps := 2000000) (disch := omega) [-getElem?_pos, a93]
    refine (k1 _).then fun r hr => ?_
    subst hr
    simp -implicitDefEqProofs (maxSteps := 2000000) (disch := omega) [-getElem?_pos]
    exact .fin (.v (.bool (isL s 1))) ⟨rfl, rfl⟩ (.refl _)
  by_cases h11 : k = 11
  · subst h11
    simp -implicitDefEqProofs (maxSteps := 2000000) (disch := omega) [-getElem?_pos, a93]
    refine (k1 _).then fun r hr => ?_
    subst hr
    simp -implicitDefEqProofs (maxSteps := 2000000) (disch := omega) [-getElem?_pos]
    exact .fin (.v (.bool (isL s 1))) ⟨rfl, rfl⟩ (.refl _)
  by_cases h12 : k = 12
  · subst h12
    simp -implicitDefEqProofs (maxSteps := 2000000) (disch := omega) [-getElem?_pos, a93]
    refine (k1 _).then fun r hr => ?_
    subst hr
    simp -implicitDefEqProofs (maxSteps := 2000000) (disch := omega) [-getElem?_pos]
    exact .fin (.v (.bool (isL s 1))) ⟨rfl, rfl⟩ (.refl _)
  by_cases h13 : k = 13
  · subst h13
    simp -implicitDefEqProofs (maxSteps := 2000000) (disch := omega) [-getElem?_pos, a93]
    refine (k3 _).then fun r hr => ?_
    subst hr
    simp -implicitDefEqProofs (maxSteps := 2000000) (disch := omega) [-getElem?_pos]
    exact .fin (.v (.bool (isL s 3))) ⟨rfl, rfl⟩ (.refl _)
  by_cases h14 : k = 14
  · subst h14
    simp -implicitDefEqProofs (maxSteps := 2000000) (disch := omega) [-getElem?_pos, a93]
    exact .fin (.v (.bool (List.isEmpty s))) ⟨by rw [hse]; rfl, rfl⟩ (.refl _)
  by_cases h15 : k = 15
  · subst h15
    simp -implicitDefEqProofs (maxSteps := 2000000) (disch := omega) [-getElem?_pos, a93]
    exact .fin (.v (.bool (List.isEmpty s))) ⟨by rw [hse]; rfl, rfl⟩ (.refl _)
  by_cases h16 : k = 16
  · subst h16
    simp -implicitDefEqProofs (maxSteps := 2000000) (disch := omega) [-getElem?_pos, a93]
    refine (ko _).then fun r hr => ?_
    subst hr
    simp -implicitDefEqProofs (maxSteps := 2000000) (disch := omega) [-getElem?_pos]
    exact .fin (.v (.bool (decide (s ∈ opsL)))) ⟨rfl, rfl⟩ (.refl _)
  by_cases h17 : k = 17
  · subst h17
    simp -implicitDefEqProofs (maxSteps := 2000000) (disch := omega) [-getElem?_pos, a93]
    exact .fin (.v (.bool (List.isEmpty s))) ⟨by rw [hse]; rfl, rfl⟩ (.refl _)
  by_cases h18 : k = 18
  · subst h18
    simp -implicitDefEqProofs (maxSteps := 2000000) (disch := omega) [-getElem?_pos, a93]
    exact .fin (.v (.bool (List.isEmpty s))) ⟨by rw [hse]; rfl, rfl⟩ (.refl _)
  by_cases h19 : k = 19
  · subst h19
    simp -implicitDefEqProofs (maxSteps := 2000000) (disch := omega) [-getElem?_pos, a93]
    exact .fin (.v (.bool (List.isEmpty s))) ⟨by rw [hse]; rfl, rfl⟩ (.refl _)
  by_cases h20 : k = 20
  · subst h20
    simp -implicitDefEqProofs (maxSteps := 2000000) (disch := omega) [-getElem?_pos, a93]
    exact .fin (.v (.bool (List.isEmpty s))) ⟨by rw [hse]; rfl, rfl⟩ (.refl _)
  by_cases h21 : k = 21
  · subst h21
    simp -implicitDefEqProofs (maxSteps := 2000000) (disch := omega) [-getElem?_pos, a93]
    exact .fin (.v (.bool (List.isEmpty s))) ⟨by rw [hse]; rfl, rfl⟩ (.refl _)
  by_cases h22 : k = 22
  · subst h22
    simp -implicitDefEqProofs (maxSteps := 2000000) (disch := omega) [-getElem?_pos, a93]
    exact .fin (.v (.bool (List.isEmpty s))) ⟨by rw [hse]; rfl, rfl⟩ (.refl _)
  have hn : formT k = none := form_none (by simp [formsT, h1, h2, h3, h4, h5, h6, h7, h8, h9, h10, h11, h12, h13, h14, h15, h16, h17, h18, h19, h20, h21, h22])
  simp -implicitDefEqProofs (maxSteps := 2000000) (disch := omega) [-getElem?_pos, a93, h1, h2, h3, h4, h5, h6, h7, h8, h9, h10, h11, h12, h13, h14, h15, h16, h17, h18, h19, h20, h21, h22]
  exact .fin (.v (.bool (List.isEmpty s))) ⟨by rw [hse]; unfold textB; rw [if_neg h2, hn], rfl⟩ (.refl _)
end Go.Proofs.YtpdeaekmgljeaaaGreatDoor
