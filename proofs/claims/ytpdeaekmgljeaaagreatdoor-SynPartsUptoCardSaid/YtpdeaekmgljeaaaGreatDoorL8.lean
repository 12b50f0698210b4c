/-
  Lexer: a program cut into tokens. (Own work.)
-/
import Derived.Test.YtpdeaekmgljeaaaGreatDoorL7
set_option linter.unusedVariables false
set_option linter.unusedSimpArgs false
namespace Go.Proofs.YtpdeaekmgljeaaaGreatDoor
open Go Go.Abs

theorem encK_shape (t : Tk) : (encK t).shape = some 4 := rfl
theorem span_lt {q : UInt8 → Bool} {b : Str} {i : Nat} {c : UInt8} (h : b[i]? = some c) (hq : q c = true) : i < spanE q b i ∧ spanE q b i ≤ b.length := by
  have hl := (List.getElem?_eq_some_iff.1 h).1
  have h1 := spanE_ge q b (i + 1)
  have h2 := spanE_le (q := q) (b := b) (i := i) (by omega)
  rw [← spanE_hit h hq] at h1
  omega
theorem textL_to : ∀ (n : Nat) (r : Str) (k : Nat) (out s : Str) (to : Nat), r.length ≤ n → textL r k out = .ok s to → k < to ∧ to ≤ k + r.length
  | n, [], k, out, s, to, _, h => by simp [textL] at h
  | 0, c :: r, k, out, s, to, hn, h => by simp at hn
  | n + 1, c :: r, k, out, s, to, hn, h => by
    simp only [List.length_cons] at hn
    by_cases h34 : c.toNat = 34
    · rw [textL_q h34] at h
      cases h
      simp
    · cases hp : plaB c with
      | false => rw [textL_odd h34 hp] at h; cases h
      | true =>
        by_cases h92 : c.toNat = 92
        · cases r with
          | nil => rw [textL_esc0 h92 hp] at h; cases h
          | cons d r =>
            simp only [List.length_cons] at hn
            by_cases h110 : d.toNat = 110
            · rw [textL_escn h92 hp h110] at h
              have := textL_to n r _ _ _ _ (by omega) h
              simp only [List.length_cons]
              omega
            · by_cases hd : d.toNat = 34 ∨ d.toNat = 92
              · rw [textL_escd h92 hp h110 hd] at h
                have := textL_to n r _ _ _ _ (by omega) h
                simp only [List.length_cons]
                omega
              · rw [textL_esco h92 hp h110 (fun h => hd (.inl h)) (fun h => hd (.inr h))] at h
                cases h
        · rw [textL_plain h34 hp h92] at h
          have := textL_to n r _ _ _ _ (by omega) h
          simp only [List.length_cons]
          omega
theorem sign_le {b : Str} {i : Nat} {l : List Str} (hi : i < b.length) (h : signF b i l ≠ []) : i + (signF b i l).length ≤ b.length := by
  unfold signF at h ⊢
  cases hf : l.find? fun s => decide (((b.drop i).take 2).take s.length = s) with
  | none => rw [hf] at h; simp at h
  | some s =>
    have := List.find?_some hf
    simp only [decide_eq_true_eq] at this
    have hl := congrArg List.length this
    simp only [List.length_take, List.length_drop] at hl
    simp only [Option.getD_some]
    omega
theorem oneL_to {b : Str} {i : Nat} {c : UInt8} {t : Tk} {to : Nat} (hc : b[i]? = some c) (h : oneL b i c = .tok t to) : i < to ∧ to ≤ b.length := by
  have hl := (List.getElem?_eq_some_iff.1 hc).1
  unfold oneL at h
  split at h
  · rename_i hlo
    unfold nameN at h
    split at h
    · cases h
    · cases h; exact span_lt hc (by simp [ldB, hlo])
  · split at h
    · rename_i hup
      unfold nameN at h
      split at h
      · cases h
      · cases h; exact span_lt hc (by simp [ludB, hup])
    · split at h
      · rename_i hdi
        unfold numN at h
        split at h
        · cases h
        · cases h; exact span_lt hc hdi
      · split at h
        · cases ht : textL (b.drop (i + 1)) (i + 1) [] with
          | bad q => rw [ht] at h; cases h
          | ok s e =>
            rw [ht] at h
            have h1 := textL_to _ _ _ _ _ _ (Nat.le_refl _) ht
            unfold textN at h
            split at h
            · cases h
            · rename_i heq
              split at h
              · cases h
              · cases h
                cases heq
                rw [List.length_drop] at h1
                omega
        · unfold signN at h
          split at h
          · cases h
          · rename_i hne
            cases h
            have := sign_le hl hne
            have h0 : (signF b i signsL).length ≠ 0 := fun h => hne (List.length_eq_zero_iff.1 h)
            omega
inductive CR where
  | ok (l : List Tk)
  | bad (q : Nat)
  | great
def cutF : Nat → Str → Nat → List Tk → CR
  | 0, _, _, _ => .great
  | f + 1, b, i, acc => match b[spanE blaB b i]? with
    | none => .ok acc
    | some c => match oneL b (spanE blaB b i) c with
      | .tok t to => cutF f b to (acc ++ [t])
      | .bad q => .bad q
/-- The tokens of bytes. -/
def cutL (b : Str) : CR := if 4000 < b.length then .great else cutF (b.length + 1) b 0 []
def CutPost (σ : Sg) (x : CR) (r : D) (σ' : Sg) : Prop := match x with
  | .ok l => r = .tup [.v (.sl (some 4) false (l.map encK)), .v .inil] ∧ σ' = σ
  | .bad q => ∃ o xs ts, r = .tup [.v .snil, .iface 56 (.ptr (σ.objs.length + o) 0)] ∧ σ' = ⟨σ.objs ++ xs, σ.toks ++ ts⟩ ∧ xs[o]? = some (spotO q 2)
  | .great => r = .tup [.v .snil, .v (.iface 32 (.int .i64 6))] ∧ σ' = σ
structure CSt where
  i : Nat
  acc : List Tk
structure CIn (b : Str) (x : CSt) : Prop where
  hi : x.i ≤ b.length
  ha : x.acc.length ≤ x.i
  he : ∃ f, b.length - x.i < f ∧ cutF (b.length + 1) b 0 [] = cutF f b x.i x.acc
theorem k_Cut {b : Str} {σ : Sg} (hb : b.length ≤ 1048576) : ACalls Tryz.prog 51 [.v (vBs b)] σ (CutPost σ (cutL b)) := by
  unfold cutL
  refine acalls_fit Tryz.func51 (by kernel_rfl) c51 rfl (by simp [a51]) fun hf => ?_
  clear hf
  simp -implicitDefEqProofs (maxSteps := 2000000) (disch := omega) [-getElem?_pos, a51]
  refine .mk (fun h => ?_) fun h => ?_
  · rw [if_pos (by omega)]
    simp -implicitDefEqProofs (maxSteps := 2000000) (disch := omega) [-getElem?_pos]
    exact .fin _ ⟨rfl, rfl⟩ (.refl _)
  rw [if_neg (by omega)]
  simp -implicitDefEqProofs (maxSteps := 2000000) (disch := omega) [-getElem?_pos]
  refine W_loop (α := CSt) ⟨0, []⟩ (fun x => b.length - x.i) (fun x => ⟨[(0, .v (vBs b)), (4, .ptr σ.objs.length 0), (5, .tsl σ.toks.length (some 4) (x.acc.map encK))], ⟨σ.objs ++ [cut b x.i], σ.toks ++ [x.acc.length]⟩⟩)
    (fun x => CIn b x) (.trans (b := ⟨[(0, .v (vBs b)), (4, .ptr σ.objs.length 0), (5, .tsl σ.toks.length (some 4) [])], _⟩) (.tok (i := 5) (sh := some 4) (by simp) (by simp)) (.eq2 rfl (by simp))) ⟨Nat.zero_le _, by simp, _, by omega, rfl⟩ fun ⟨i, acc⟩ ⟨hi, ha, f, hf, he⟩ => ?_
  dsimp only at hi ha hf he ⊢
  rw [he]
  obtain ⟨f, rfl⟩ : ∃ f', f = f' + 1 := ⟨f - 1, by omega⟩
  have hpg := k_Pass (fd := .v (.fn 81)) (q := blaB) (b := b) (i := i) (p := σ.objs.length) (σ := ⟨σ.objs ++ [cut b i], σ.toks ++ [acc.length]⟩) (by simp) hi hb (fun c τ => by rw [WCall_fn]; exact k_Blank) (fun n k => trivial)
  have hj := spanE_le (q := blaB) hi
  have hij := spanE_ge blaB b i
  rw [cutF]
  obtain ⟨j, hjd⟩ : ∃ j, spanE blaB b i = j := ⟨_, rfl⟩
  rw [hjd] at hpg hj hij ⊢
  simp -implicitDefEqProofs (maxSteps := 2000000) (disch := omega) [-getElem?_pos]
  refine hpg.mono fun r σ' hr => ?_
  obtain ⟨rfl, rfl⟩ := hr
  simp -implicitDefEqProofs (maxSteps := 2000000) (disch := omega) [-getElem?_pos]
  refine .mk (fun h => ?_) fun h => ?_
  · have hn : b[j]? = none := by rw [List.getElem?_eq_none_iff]; omega
    rw [hn]
    simp -implicitDefEqProofs (maxSteps := 2000000) (disch := omega) [-getElem?_pos, hn]
    exact .fin _ ⟨rfl, rfl⟩ (.tup2 .tsl (.refl _))
  · obtain ⟨c, hc⟩ : ∃ c, b[j]? = some c := ⟨b[j]'(by omega), List.getElem?_eq_getElem _⟩
    rw [hc]
    dsimp only
    simp -implicitDefEqProofs (maxSteps := 2000000) (disch := omega) [-getElem?_pos]
    refine (k_Next (b := b) (i := j) (p := σ.objs.length) (c := c) (σ := ⟨σ.objs ++ [cut b j], σ.toks ++ [acc.length]⟩) (by simp) hc hb).mono fun r σ' hr => ?_
    cases hx : oneL b j c with
    | tok t to =>
      rw [hx] at hr
      obtain ⟨rfl, rfl⟩ := hr
      have ht := oneL_to hc hx
      dsimp only
      have he' : cutF (b.length + 1) b 0 [] = cutF f b to (acc ++ [t]) := by
        rw [he, cutF, hjd, hc]
        dsimp only
        rw [hx]
      simp -implicitDefEqProofs (maxSteps := 2000000) (disch := omega) [-getElem?_pos, encK]
      refine ⟨by omega, ⟨to, acc ++ [t]⟩, ⟨ht.2, by simp; omega, f, by dsimp only; omega, he'⟩, by dsimp only; omega, .dropX (ys := [cut b to]) rfl (by simp) (by simp) (by simp [cut]) (by simp [encK]) (by simp)⟩
    | bad q =>
      rw [hx] at hr
      obtain ⟨o, xs, ts, e, rfl, rfl, hxs⟩ := hr
      dsimp only
      simp -implicitDefEqProofs (maxSteps := 2000000) (disch := omega) [-getElem?_pos]
      refine ⟨_, _, WeakR.refl _ _ _, 1 + o, cut b e :: (xs ++ [.cells [.v (.int .i64 0), .v (.int .i64 0), .v (.int .i64 0), .v (.str [])]]), acc.length :: ts, by rw [Nat.add_assoc], rfl, ?_⟩
      have hl : o < xs.length := (List.getElem?_eq_some_iff.1 hxs).1
      rw [Nat.add_comm, List.getElem?_cons_succ, List.getElem?_append_left hl]
      exact hxs
end Go.Proofs.YtpdeaekmgljeaaaGreatDoor
