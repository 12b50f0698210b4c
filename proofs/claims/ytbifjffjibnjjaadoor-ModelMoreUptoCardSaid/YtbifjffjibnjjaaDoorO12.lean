/-
  A value's text, walked: what is written, as long as there is room. (Own work.)
-/
import Derived.Test.YtbifjffjibnjjaaDoorO11
set_option linter.unusedVariables false
set_option linter.unusedSimpArgs false
set_option maxHeartbeats 1000000
namespace Go.Proofs.YtbifjffjibnjjaaDoor
open Go Go.Abs

/-- A writer, over a memory that stays. -/
structure Wr (B : Sg) (wo : Nat) (σ : Sg) (b : Str) : Prop where
  hi : B.objs.length ≤ wo
  ob : ∃ d, σ.objs[wo]? = some (.cells [d]) ∧ (d = .v .snil ∧ b = [] ∨ ∃ tk, B.toks.length ≤ tk ∧ d = .tsl tk none (bytesV b) ∧ σ.toks[tk]? = some b.length)
  objs : ∀ i, i < B.objs.length → σ.objs[i]? = B.objs[i]?
  toks : ∀ i, i < B.toks.length → σ.toks[i]? = B.toks[i]?
  len : b.length ≤ 2000
  tl : B.toks.length ≤ σ.toks.length
theorem Wr.lt {B : Sg} {wo : Nat} {σ : Sg} {b : Str} (h : Wr B wo σ b) : wo < σ.objs.length := by
  obtain ⟨d, hd, _⟩ := h.ob
  exact (List.getElem?_eq_some_iff.1 hd).1
theorem Wr.add {B : Sg} {wo : Nat} {σ : Sg} {b : Str} (h : Wr B wo σ b) (xs : List Ob) : Wr B wo ⟨σ.objs ++ xs, σ.toks⟩ b := by
  have hl := h.lt
  have h1 := h.hi
  obtain ⟨d, hd, h2⟩ := h.ob
  refine ⟨h.hi, ⟨d, (List.getElem?_append_left hl).trans hd, h2⟩, fun i hi => (List.getElem?_append_left (by omega)).trans (h.objs i hi), h.toks, h.len, h.tl⟩
theorem Wr.sto {B : Sg} {wo : Nat} {σ : Sg} {b : Str} {mo tt : Nat} {φ ψ : Nat → Nat} {m : Ms} (h : Wr B wo σ b) (hS : Sto mo tt φ ψ m B) : Sto mo tt φ ψ m σ :=
  hS.mono h.objs (h.toks tt (List.getElem?_eq_some_iff.1 hS.tok).1)
/-- What comes of writing. -/
def OutT (B : Sg) (wo : Nat) (b : Str) (r : D) (σ' : Sg) : Prop := r = .tup [] ∧ Wr B wo σ' b

theorem put_len (b s : Str) : b.length ≤ (putT b s).length ∧ (b.length ≤ 2000 → (putT b s).length ≤ 2000) := by
  unfold putT
  rw [List.length_append, List.length_take]
  omega
theorem put_lt {b s : Str} (h : b.length < 2000) (hs : s ≠ []) : b.length < (putT b s).length := by
  have : 0 < s.length := List.length_pos_iff.2 hs
  unfold putT
  rw [List.length_append, List.length_take]
  omega
theorem put_min (b s : Str) : s.take (min s.length (2000 - b.length)) = s.take (2000 - b.length) := by
  rw [List.take_eq_take_min (i := 2000 - b.length), Nat.min_comm]
theorem put_int (b s : Str) (hb : b.length ≤ 2000) : (if (2000 : Int) - b.length < s.length then (2000 : Int) - b.length else s.length) = ((min s.length (2000 - b.length) : Nat) : Int) := by
  split <;> omega
/-- The writer's object is set. -/
theorem Wr.set {B : Sg} {wo : Nat} {b b' : Str} {σ : Sg} (h : Wr B wo σ b) {tk : Nat} {ts : List Nat} (htk : B.toks.length ≤ tk) (hl : b'.length ≤ 2000) (ht : ts[tk]? = some b'.length) (hts : ∀ i, i < B.toks.length → ts[i]? = σ.toks[i]?) (htl : σ.toks.length ≤ ts.length) :
    Wr B wo ⟨σ.objs.set wo (.cells [.tsl tk none (bytesV b')]), ts⟩ b' := by
  have h1 := h.hi
  refine ⟨h.hi, ⟨_, List.getElem?_set_self h.lt, .inr ⟨tk, htk, rfl, ht⟩⟩, fun i hi => ?_, fun i hi => (hts i hi).trans (h.toks i hi), hl, Nat.le_trans h.tl htl⟩
  show (σ.objs.set wo _)[i]? = _
  rw [List.getElem?_set_ne (by omega)]
  exact h.objs i hi
theorem k_Put {B : Sg} {wo : Nat} {b s : Str} {σ : Sg} (h : Wr B wo σ b) (hs : s.length ≤ 8000000) : ACalls Tryd.prog 62 [.ptr wo 0, .v (.str s)] σ (OutT B wo (putT b s)) := by
  have hl := h.lt
  have hhi := h.hi
  have hbl := h.len
  have hp := put_len b s
  have htl := h.tl
  have hpi := put_int b s hbl
  have hpm := put_min b s
  have hpe : (putT b s).length = b.length + min s.length (2000 - b.length) := by unfold putT; rw [List.length_append, List.length_take]; omega
  obtain ⟨d, hd, ⟨rfl, rfl⟩ | ⟨tk, htk, rfl, ht⟩⟩ := h.ob
  · have hp0 : putT [] s = s.take 2000 := rfl
    simp only [List.length_nil, Int.natCast_zero, Int.sub_zero, Nat.sub_zero] at hpi hpm hpe
    refine acalls_fit Tryd.func62 (by kernel_rfl) c62 rfl (by simp [a62]) fun hf => ?_
    clear hf
    simp -implicitDefEqProofs (maxSteps := 2000000) (disch := omega) [-getElem?_pos, a62, hd, hl]
    rw [hpi, Int.toNat_natCast, hpm]
    refine ⟨by omega, by omega, by omega, ?_⟩
    refine ⟨_, _, WeakR.refl _ _ _, rfl, ?_⟩
    rw [hp0] at hp hpe ⊢
    exact h.set h.tl (hp.2 hbl) (by rw [List.getElem?_append_right (Nat.le_refl _), Nat.sub_self, hpe]; simp) (fun i hi => List.getElem?_append_left (by omega)) (by simp)
  · have htl2 := (List.getElem?_eq_some_iff.1 ht).1
    refine acalls_fit Tryd.func62 (by kernel_rfl) c62 rfl (by simp [a62]) fun hf => ?_
    clear hf
    simp -implicitDefEqProofs (maxSteps := 2000000) (disch := omega) [-getElem?_pos, a62, hd, hl, ht]
    rw [hpi, Int.toNat_natCast, hpm]
    refine ⟨by omega, by omega, by omega, ?_⟩
    refine ⟨_, _, WeakR.refl _ _ _, rfl, ?_⟩
    rw [← hpe]
    exact h.set htk (hp.2 hbl) (List.getElem?_set_self htl2) (fun i hi => List.getElem?_set_ne (by omega)) (by simp)
theorem k_Full {B : Sg} {wo : Nat} {b : Str} {σ : Sg} (h : Wr B wo σ b) : ACalls Tryd.prog 61 [.ptr wo 0] σ fun r σ' => r = .v (.bool (decide (2000 ≤ b.length))) ∧ σ' = σ := by
  obtain ⟨d, hd, ⟨rfl, rfl⟩ | ⟨tk, htk, rfl, ht⟩⟩ := h.ob
  · skip
    refine acalls_fit Tryd.func61 (by kernel_rfl) c61 rfl (by simp [a61]) fun hf => ?_
    clear hf
    simp -implicitDefEqProofs (maxSteps := 2000000) (disch := omega) [-getElem?_pos, a61, hd]
    exact .fin _ ⟨by simp, rfl⟩ (.refl _)
  · skip
    refine acalls_fit Tryd.func61 (by kernel_rfl) c61 rfl (by simp [a61]) fun hf => ?_
    clear hf
    simp -implicitDefEqProofs (maxSteps := 2000000) (disch := omega) [-getElem?_pos, a61, hd]
    refine .fin _ ⟨?_, rfl⟩ (.refl _)
    simp
    omega

theorem u8_eq {c : UInt8} {n : Nat} (hn : n < 256) : c = UInt8.ofNat n ↔ (c.toNat : Int) = n := by
  rw [← UInt8.toNat_inj, UInt8.toNat_ofNat_of_lt' hn]
  omega
theorem esc_len (b : Str) (c : UInt8) : b.length ≤ (escT b c).length ∧ (b.length ≤ 2000 → (escT b c).length ≤ 2000) := by
  unfold escT
  split
  · exact put_len _ _
  · split
    · exact put_len _ _
    · split
      · exact put_len _ _
      · exact ⟨Nat.le_refl _, id⟩
theorem escs_len : ∀ (s b : Str), b.length ≤ (s.foldl escT b).length
  | [], b => Nat.le_refl _
  | c :: s, b => Nat.le_trans (esc_len b c).1 (escs_len s _)
structure QS where
  i : Nat
  b : Str
  τ : Sg
theorem k_Quoted {B : Sg} {wo : Nat} {b s : Str} {σ : Sg} (h : Wr B wo σ b) (hs : s.length ≤ 4000000) : ACalls Tryd.prog 64 [.ptr wo 0, .v (.str s)] σ (OutT B wo (quotT b s)) := by
  refine acalls_fit Tryd.func64 (by kernel_rfl) c64 rfl (by simp [a64]) fun hf => ?_
  clear hf
  simp -implicitDefEqProofs (maxSteps := 2000000) (disch := omega) [-getElem?_pos, a64]
  refine (k_Put h (by simp)).mono fun r σ1 ⟨hr, h1⟩ => ?_
  subst hr
  simp -implicitDefEqProofs (maxSteps := 2000000) (disch := omega) [-getElem?_pos]
  refine ⟨by omega, ?_⟩
  refine W_loop (α := QS) ⟨0, putT b [34], σ1⟩ (fun x => s.length - x.i) (fun x => ⟨[(0, .ptr wo 0), (9, .v (.sl none false (bytesV s))), (10, .v (.int .i64 s.length)), (11, .v (.int .i64 x.i))], x.τ⟩) (fun x => x.i ≤ s.length ∧ Wr B wo x.τ x.b ∧ x.b = (s.take x.i).foldl escT (putT b [34])) (.eq (by simp)) ⟨by simp, h1, by simp⟩ fun ⟨i, b1, τ⟩ ⟨hi, hw, hb⟩ => ?_
  dsimp only at hi hw hb ⊢
  simp -implicitDefEqProofs (maxSteps := 2000000) (disch := omega) [-getElem?_pos]
  refine .mk (fun hlt => ?_) fun hlt => ?_
  · simp -implicitDefEqProofs (maxSteps := 2000000) (disch := omega) [-getElem?_pos]
    refine ⟨by omega, fun c hc => ?_⟩
    have ht : s.take (i + 1) = s.take i ++ [c] := by rw [List.take_add_one, hc]; rfl
    have hfo : (s.take (i + 1)).foldl escT (putT b [34]) = escT b1 c := by rw [ht, List.foldl_append, ← hb]; rfl
    have q10 : c = 10 ↔ (c.toNat : Int) = 10 := u8_eq (n := 10) (by omega)
    have q34 : c = 34 ↔ (c.toNat : Int) = 34 := u8_eq (n := 34) (by omega)
    have q92 : c = 92 ↔ (c.toNat : Int) = 92 := u8_eq (n := 92) (by omega)
    have q32 : 32 ≤ c ↔ (32 : Int) ≤ c.toNat := by rw [UInt8.le_iff_toNat_le]; simp; omega
    have q126 : c ≤ 126 ↔ (c.toNat : Int) ≤ 126 := by rw [UInt8.le_iff_toNat_le]; simp; omega
    refine .mk (fun c1 => ?_) fun c1 => ?_
    · have e1 : escT b1 c = putT b1 [92, 110] := by unfold escT; rw [if_pos (q10.2 c1)]
      simp -implicitDefEqProofs (maxSteps := 2000000) (disch := omega) [-getElem?_pos]
      refine (k_Put hw (by simp)).mono fun r σ2 ⟨hr, h2⟩ => ?_
      subst hr
      rw [← e1] at h2
      simp -implicitDefEqProofs (maxSteps := 2000000) (disch := omega) [-getElem?_pos]
      exact ⟨⟨i + 1, escT b1 c, σ2⟩, ⟨by dsimp only; omega, h2, hfo.symm⟩, by dsimp only; omega, .eq (by simp)⟩
    simp -implicitDefEqProofs (maxSteps := 2000000) (disch := omega) [-getElem?_pos]
    refine .mk (fun c2 => ?_) fun c2 => ?_
    · have e1 : escT b1 c = putT b1 [92, c] := by unfold escT; rw [if_neg (fun e => c1 (q10.1 e)), if_pos (.inl (q34.2 c2))]
      simp -implicitDefEqProofs (maxSteps := 2000000) (disch := omega) [-getElem?_pos]
      refine ⟨by omega, ?_⟩
      refine (k_Put hw (by simp)).mono fun r σ2 ⟨hr, h2⟩ => ?_
      subst hr
      rw [← e1] at h2
      simp -implicitDefEqProofs (maxSteps := 2000000) (disch := omega) [-getElem?_pos]
      exact ⟨⟨i + 1, escT b1 c, σ2⟩, ⟨by dsimp only; omega, h2, hfo.symm⟩, by dsimp only; omega, .eq (by simp)⟩
    simp -implicitDefEqProofs (maxSteps := 2000000) (disch := omega) [-getElem?_pos]
    refine .mk (fun c3 => ?_) fun c3 => ?_
    · have e1 : escT b1 c = putT b1 [92, c] := by unfold escT; rw [if_neg (fun e => c1 (q10.1 e)), if_pos (.inr (q92.2 c3))]
      simp -implicitDefEqProofs (maxSteps := 2000000) (disch := omega) [-getElem?_pos]
      refine ⟨by omega, ?_⟩
      refine (k_Put hw (by simp)).mono fun r σ2 ⟨hr, h2⟩ => ?_
      subst hr
      rw [← e1] at h2
      simp -implicitDefEqProofs (maxSteps := 2000000) (disch := omega) [-getElem?_pos]
      exact ⟨⟨i + 1, escT b1 c, σ2⟩, ⟨by dsimp only; omega, h2, hfo.symm⟩, by dsimp only; omega, .eq (by simp)⟩
    have e0 : escT b1 c = if 32 ≤ c ∧ c ≤ 126 then putT b1 [c] else b1 := by
      unfold escT
      rw [if_neg (fun e => c1 (q10.1 e)), if_neg (fun e => e.elim (fun e => c2 (q34.1 e)) fun e => c3 (q92.1 e))]
    simp -implicitDefEqProofs (maxSteps := 2000000) (disch := omega) [-getElem?_pos]
    refine .mk (fun c4 => ?_) fun c4 => ?_
    · simp -implicitDefEqProofs (maxSteps := 2000000) (disch := omega) [-getElem?_pos]
      refine .mk (fun c5 => ?_) fun c5 => ?_
      · have e1 : escT b1 c = putT b1 [c] := by rw [e0, if_pos ⟨q32.2 c4, q126.2 c5⟩]
        simp -implicitDefEqProofs (maxSteps := 2000000) (disch := omega) [-getElem?_pos]
        refine ⟨by omega, ?_⟩
        refine (k_Put hw (by simp)).mono fun r σ2 ⟨hr, h2⟩ => ?_
        subst hr
        rw [← e1] at h2
        simp -implicitDefEqProofs (maxSteps := 2000000) (disch := omega) [-getElem?_pos]
        exact ⟨⟨i + 1, escT b1 c, σ2⟩, ⟨by dsimp only; omega, h2, hfo.symm⟩, by dsimp only; omega, .eq (by simp)⟩
      · have e1 : escT b1 c = b1 := by rw [e0, if_neg (fun e => c5 (q126.1 e.2))]
        rw [← e1] at hw
        simp -implicitDefEqProofs (maxSteps := 2000000) (disch := omega) [-getElem?_pos]
        exact ⟨⟨i + 1, escT b1 c, τ⟩, ⟨by dsimp only; omega, hw, hfo.symm⟩, by dsimp only; omega, .eq (by simp)⟩
    · have e1 : escT b1 c = b1 := by rw [e0, if_neg (fun e => c4 (q32.1 e.1))]
      rw [← e1] at hw
      simp -implicitDefEqProofs (maxSteps := 2000000) (disch := omega) [-getElem?_pos]
      exact ⟨⟨i + 1, escT b1 c, τ⟩, ⟨by dsimp only; omega, hw, hfo.symm⟩, by dsimp only; omega, .eq (by simp)⟩
  · simp -implicitDefEqProofs (maxSteps := 2000000) (disch := omega) [-getElem?_pos]
    refine (k_Put hw (by simp)).mono fun r σ2 ⟨hr, h2⟩ => ?_
    subst hr
    simp -implicitDefEqProofs (maxSteps := 2000000) (disch := omega) [-getElem?_pos]
    rw [List.take_of_length_le (by omega)] at hb
    subst hb
    exact ⟨_, _, WeakR.refl _ _ _, rfl, h2⟩

def idxN (s : Int) : List Int → Nat → Option Nat
  | [], _ => none
  | x :: l, i => if x = s then some i else idxN s l (i + 1)
theorem idxN_some {s : Int} : ∀ {l : List Int} {i : Nat}, (idxN s l i).isSome = decide (s ∈ l)
  | [], i => by simp [idxN]
  | x :: l, i => by
    simp only [idxN]
    by_cases h : x = s
    · simp [h]
    · rw [if_neg h, idxN_some (l := l)]
      have : ¬ s = x := fun e => h e.symm
      simp [this]
theorem k_IndexI {ks : List Int} {k : Int} {f : Bool} {σ : Sg} (hl : ks.length ≤ 1000) : ACalls Tryd.prog 111 [.v (.sl none f (ks.map (.int .i64))), .v (.int .i64 k)] σ fun r σ' => r = .v (.int .i64 (idxI (idxN k ks 0))) ∧ σ' = σ := by
  refine acalls_fit Tryd.func111 (by kernel_rfl) c111 rfl (by simp [a111]) fun hf => ?_
  clear hf
  simp -implicitDefEqProofs (maxSteps := 2000000) (disch := omega) [-getElem?_pos, a111]
  refine W_loop (α := Nat) 0 (fun i => ks.length - i) (fun i => ⟨[(0, .v (.sl none f (ks.map (.int .i64)))), (1, .v (.int .i64 k)), (7, .v (.int .i64 ks.length)), (8, .v (.int .i64 i))], σ⟩) (fun i => i ≤ ks.length ∧ idxN k ks 0 = idxN k (ks.drop i) i) (.eq (by simp)) ⟨by simp, by simp⟩ fun i ⟨hi, he⟩ => ?_
  simp -implicitDefEqProofs (maxSteps := 2000000) (disch := omega) [-getElem?_pos]
  refine .mk (fun h => ?_) fun h => ?_
  · simp -implicitDefEqProofs (maxSteps := 2000000) (disch := omega) [-getElem?_pos]
    refine ⟨by omega, fun x hx => ?_⟩
    rw [drop_cons hx] at he
    simp only [idxN] at he
    refine .mk (fun hq => ?_) fun hq => ?_
    · simp -implicitDefEqProofs (maxSteps := 2000000) (disch := omega) [-getElem?_pos]
      refine .fin _ ⟨?_, rfl⟩ (.refl _)
      rw [he, if_pos hq.symm]
      rfl
    · simp -implicitDefEqProofs (maxSteps := 2000000) (disch := omega) [-getElem?_pos]
      rw [if_neg (fun e => hq e.symm)] at he
      exact ⟨i + 1, ⟨by omega, he⟩, by show ks.length - (i + 1) < ks.length - i; omega, .eq (by simp)⟩
  · simp -implicitDefEqProofs (maxSteps := 2000000) (disch := omega) [-getElem?_pos]
    refine .fin _ ⟨?_, rfl⟩ (.refl _)
    rw [he, List.drop_eq_nil_of_le (by omega)]
    rfl
theorem k_ContI {ks : List Int} {k : Int} {f : Bool} {σ : Sg} (hl : ks.length ≤ 1000) : ACalls Tryd.prog 93 [.v (.sl none f (ks.map (.int .i64))), .v (.int .i64 k)] σ fun r σ' => r = .v (.bool (decide (k ∈ ks))) ∧ σ' = σ := by
  refine acalls_fit Tryd.func93 (by kernel_rfl) c93 rfl (by simp [a93]) fun hf => ?_
  clear hf
  simp -implicitDefEqProofs (maxSteps := 2000000) (disch := omega) [-getElem?_pos, a93]
  refine (k_IndexI hl).then fun r hr => ?_
  subst hr
  simp -implicitDefEqProofs (maxSteps := 2000000) (disch := omega) [-getElem?_pos]
  refine .fin _ ⟨?_, rfl⟩ (.refl _)
  rw [← idxN_some (i := 0)]
  cases idxN k ks 0 with
  | none => rfl
  | some i => simp [idxI]

theorem quot_len (b s : Str) : b.length ≤ (quotT b s).length := by
  unfold quotT
  exact Nat.le_trans (put_len b [34]).1 (Nat.le_trans (escs_len s _) (put_len _ _).1)
theorem inner_len {T : Str → Vl → Str} (hT : ∀ b v, b.length ≤ (T b v).length) (ks : List Int) (b : Str) (v : Vl) : b.length ≤ (innerT T ks b v).length := by
  unfold innerT
  split
  · exact Nat.le_trans (put_len b [40]).1 (Nat.le_trans (hT _ _) (put_len _ _).1)
  · exact hT _ _
theorem flds_len {T : Str → Vl → Str} (hT : ∀ b v, b.length ≤ (T b v).length) (l : En) : ∀ (xs : List Str) (i : Nat) (b : Str), b.length ≤ (fldsT T l xs i b).length
  | [], i, b => Nat.le_refl _
  | x :: xs, i, b => by
    rw [fldsT]
    refine Nat.le_trans ?_ (flds_len hT l xs _ _)
    refine Nat.le_trans ?_ (hT _ _)
    refine Nat.le_trans ?_ (put_len _ _).1
    split
    · exact (put_len _ _).1
    · exact Nat.le_refl _
theorem text_len (st : List Vl) : ∀ (g : Nat) (b : Str) (v : Vl), b.length ≤ (textT st g b v).length
  | 0, b, v => Nat.le_refl _
  | g + 1, b, .int n => by
    rw [textT]
    split
    · exact Nat.le_refl _
    · exact (put_len _ _).1
  | g + 1, b, .text s => by
    rw [textT]
    split
    · exact Nat.le_refl _
    · exact quot_len _ _
  | g + 1, b, .fn _ _ _ _ _ => by
    rw [textT]
    split
    · exact Nat.le_refl _
    · exact (put_len _ _).1
  | g + 1, b, .rcd l => by
    rw [textT]
    split
    · exact Nat.le_refl _
    · exact Nat.le_trans (put_len b [123]).1 (Nat.le_trans (flds_len (text_len st g) l _ _ _) (put_len _ _).1)
  | g + 1, b, .tag s w => by
    rw [textT]
    split
    · exact Nat.le_refl _
    · exact Nat.le_trans (put_len _ _).1 (inner_len (text_len st g) _ _ _)
  | g + 1, b, .ref k => by
    rw [textT]
    split
    · exact Nat.le_refl _
    · exact Nat.le_trans (put_len _ _).1 (inner_len (text_len st g) _ _ _)
end Go.Proofs.YtbifjffjibnjjaaDoor
