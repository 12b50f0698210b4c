/-
  Layer 19: what was put is read as it was; what is read was put so. (Own work.)
-/
import Derived.Test.YtcbdnndgnbgnaaaC10
set_option linter.unusedVariables false
set_option linter.unusedSimpArgs false
namespace Go.Proofs.Ytcbdnndgnbgnaaa
open Go Go.Abs

theorem zag_zig {n : Int} : zag (zig n) = n := by
  unfold zag zig
  split <;> split <;> omega
theorem zig_zag {u : Nat} : zig (zag u) = u := by
  unfold zag zig
  split <;> split <;> omega
theorem zag_in {u : Nat} (h : u < 18446744073709551616) : -9223372036854775808 ≤ zag u ∧ zag u ≤ 9223372036854775807 := by
  unfold zag
  split <;> omega

theorem pow_split (k : Nat) (hk : k ≤ 9) : 2 * 128 ^ k * 2 ^ (7 * (9 - k)) = 18446744073709551616 := by
  rw [show (128 : Nat) = 2 ^ 7 from rfl, ← Nat.pow_mul, Nat.mul_assoc, ← Nat.pow_add, show 7 * k + 7 * (9 - k) = 63 by omega]
theorem pow_next (k : Nat) (hk : k + 1 ≤ 9) : 2 ^ (7 * (9 - k)) = 128 * 2 ^ (7 * (9 - (k + 1))) := by
  rw [show (128 : Nat) = 2 ^ 7 from rfl, ← Nat.pow_add]; congr 1; omega
theorem bl_nat {u : Nat} (h : u < 128) : (bl u).toNat = u := by
  unfold bl; rw [UInt8.toNat_ofNat_of_lt' (by simp [UInt8.size]; omega)]
theorem bh_nat {u : Nat} : (bh u).toNat = u % 128 + 128 := by
  unfold bh; rw [UInt8.toNat_ofNat_of_lt' (by simp [UInt8.size]; omega)]
theorem sum_lt {acc u k : Nat} (hk : k ≤ 9) (ha : acc < 2 ^ (7 * (9 - k))) (hu : u < 2 * 128 ^ k) : acc + u * 2 ^ (7 * (9 - k)) < 18446744073709551616 := by
  have h1 := pow_split k hk
  have h2 : (u + 1) * 2 ^ (7 * (9 - k)) ≤ 2 * 128 ^ k * 2 ^ (7 * (9 - k)) := Nat.mul_le_mul_right _ hu
  rw [Nat.add_mul, Nat.one_mul] at h2
  omega

theorem numF_put : ∀ (k acc u : Nat) (rest : List UInt8), k ≤ 9 → acc < 2 ^ (7 * (9 - k)) → u < 2 * 128 ^ k → (k = 9 ∨ u ≠ 0) →
    numF (k + 1) acc (lebF k u ++ rest) = ⟨zag (acc + u * 2 ^ (7 * (9 - k))), rest, false⟩
  | 0, acc, u, rest, hk, ha, hu, h0 => by
    have hs := sum_lt hk ha hu
    have hu' : u < 2 := by simpa using hu
    have hb := bl_nat (u := u) (by omega)
    simp only [lebF, List.cons_append, List.nil_append, numF, hb]
    rw [if_pos (by omega), Nat.mod_eq_of_lt (a := u) (b := 128) (by omega), Nat.mod_eq_of_lt hs]
    have h1 : u = 1 := by omega
    subst h1
    rfl
  | k + 1, acc, u, rest, hk, ha, hu, h0 => by
    have hs := sum_lt hk ha hu
    have hp := pow_next k hk
    simp only [lebF]
    by_cases h : u < 128
    · have hb := bl_nat (u := u) (by omega)
      rw [if_pos h]
      simp only [List.cons_append, List.nil_append, numF, hb]
      rw [if_pos h, Nat.mod_eq_of_lt h, Nat.mod_eq_of_lt hs]
      congr 2
      rw [Bool.eq_iff_iff]
      simp
      omega
    · rw [if_neg h, List.cons_append]
      simp only [numF, bh_nat]
      rw [if_neg (by omega)]
      have h1 : (u % 128 + 128) % 128 = u % 128 := by omega
      rw [h1]
      have h2 : u % 128 * 2 ^ (7 * (9 - (k + 1))) ≤ 127 * 2 ^ (7 * (9 - (k + 1))) := Nat.mul_le_mul_right _ (by omega)
      have h3 : 2 ^ (7 * (9 - k)) ≤ 2 ^ 63 := Nat.pow_le_pow_right (by omega) (by omega)
      have h4 : (2 : Nat) ^ 63 = 9223372036854775808 := by decide
      rw [Nat.mod_eq_of_lt (by omega)]
      have hu2 : u / 128 < 2 * 128 ^ k := by rw [Nat.pow_succ] at hu; omega
      rw [numF_put k _ (u / 128) rest (by omega) (by omega) hu2 (.inr (by omega))]
      have h5 : u * 2 ^ (7 * (9 - (k + 1))) = u % 128 * 2 ^ (7 * (9 - (k + 1))) + u / 128 * (128 * 2 ^ (7 * (9 - (k + 1)))) := by
        rw [← Nat.mul_assoc, ← Nat.add_mul]; congr 1; omega
      rw [hp, h5, Nat.add_assoc]

theorem numF_got : ∀ (k acc : Nat) (bs : List UInt8), k ≤ 9 → acc < 2 ^ (7 * (9 - k)) → (numF (k + 1) acc bs).r.bad = false →
    ∃ u, u < 2 * 128 ^ k ∧ bs = lebF k u ++ (numF (k + 1) acc bs).r.bs ∧ (k = 9 ∨ u ≠ 0) ∧ (numF (k + 1) acc bs).x = zag (acc + u * 2 ^ (7 * (9 - k)))
  | _, _, [], _, _, h => by simp [numF] at h
  | 0, acc, c :: bs, hk, ha, h => by
    simp only [numF] at h ⊢
    by_cases hc : c.toNat < 128
    · rw [if_pos hc] at h ⊢
      simp at h
      have hc1 : c.toNat = 1 := by
        omega
      have hc2 : c = 1 := UInt8.toNat_inj.1 (by simpa using hc1)
      subst hc2
      refine ⟨1, by decide, rfl, .inr (by decide), ?_⟩
      have hs := sum_lt (u := 1) hk ha (by decide)
      dsimp only
      have e : (1 : UInt8).toNat % 128 = 1 := by decide
      rw [e, Nat.mod_eq_of_lt hs]
    · rw [if_neg hc] at h
      simp at h
  | k + 1, acc, c :: bs, hk, ha, h => by
    have hp := pow_next k hk
    have hcl := c.toNat_lt
    have h2 : c.toNat % 128 * 2 ^ (7 * (9 - (k + 1))) ≤ 127 * 2 ^ (7 * (9 - (k + 1))) := Nat.mul_le_mul_right _ (by omega)
    have h3 : 2 ^ (7 * (9 - k)) ≤ 2 ^ 63 := Nat.pow_le_pow_right (by omega) (by omega)
    have h4 : (2 : Nat) ^ 63 = 9223372036854775808 := by decide
    rw [numF] at h ⊢
    rw [Nat.mod_eq_of_lt (a := acc + _) (by omega)] at h ⊢
    by_cases hc : c.toNat < 128
    · rw [if_pos hc] at h ⊢
      have hb : c = bl c.toNat := UInt8.toNat_inj.1 (bl_nat hc).symm
      have h0 : k + 1 = 9 ∨ c.toNat ≠ 0 := by
        simp at h
        rcases Nat.lt_or_ge (k + 1) 9 with h9 | h9
        · right
          intro e
          have := h e
          omega
        · left; omega
      refine ⟨c.toNat, ?_, ?_, h0, ?_⟩
      · have : 0 < 128 ^ k := Nat.pow_pos (by decide)
        rw [Nat.pow_succ]; omega
      · rw [lebF_last hc, ← hb]; rfl
      · rw [Nat.mod_eq_of_lt hc]
    · rw [if_neg hc] at h ⊢
      obtain ⟨u, h5, h6, h7, h8⟩ := numF_got k _ bs (by omega) (by omega) h
      have hu0 : u ≠ 0 := by rcases h7 with e | e <;> omega
      have hq : (c.toNat % 128 + 128 * u) / 128 = u := by omega
      have hm : (c.toNat % 128 + 128 * u) % 128 = c.toNat % 128 := by omega
      refine ⟨c.toNat % 128 + 128 * u, ?_, ?_, .inr (by omega), ?_⟩
      · rw [Nat.pow_succ]; omega
      · have hb : c = bh (c.toNat % 128 + 128 * u) := UInt8.toNat_inj.1 (by rw [bh_nat, hm]; omega)
        simp only [lebF]
        rw [if_neg (by omega), hq, List.cons_append, ← h6, ← hb]
      · rw [h8, hp, Nat.add_mul, Nat.add_assoc, Nat.mul_comm 128 u, Nat.mul_assoc]

def in64 (n : Int) : Prop := -9223372036854775808 ≤ n ∧ n ≤ 9223372036854775807
theorem rN_put {n : Int} (h : in64 n) (rest : List UInt8) : rN ⟨leb n ++ rest, false⟩ = ⟨n, rest, false⟩ := by
  have := numF_put 9 0 (zig n) rest (Nat.le_refl _) (by decide) (zig_lt h.1 h.2) (.inl rfl)
  simp only [rN, Bool.false_eq_true, if_false]
  rw [leb, this]
  simp [zag_zig]
theorem rN_got {r : R} (h : (rN r).r.bad = false) : r.bad = false ∧ r.bs = leb (rN r).x ++ (rN r).r.bs ∧ in64 (rN r).x := by
  obtain ⟨bs, bad⟩ := r
  cases bad with
  | true => simp [rN] at h
  | false =>
  simp only [rN, Bool.false_eq_true, if_false] at h ⊢
  obtain ⟨u, h1, h2, _, h4⟩ := numF_got 9 0 bs (Nat.le_refl _) (by decide) h
  have h5 : (numF 10 0 bs).x = zag u := by rw [h4]; simp
  have h6 : u < 18446744073709551616 := by
    have : (2 : Nat) * 128 ^ 9 = 18446744073709551616 := by decide
    omega
  refine ⟨trivial, ?_, ?_⟩
  · show bs = leb (numF 10 0 bs).x ++ _
    rw [h5, leb, zig_zag]
    exact h2
  · show in64 (numF 10 0 bs).x
    rw [h5]
    exact zag_in h6

/-- What is read is what was put. -/
structure Good {α : Type} (p : R → Rd α) (q : α → List UInt8) (P : α → Prop) : Prop where
  put : ∀ x rest, P x → p ⟨q x ++ rest, false⟩ = ⟨x, rest, false⟩
  got : ∀ r, (p r).r.bad = false → r.bad = false ∧ r.bs = q (p r).x ++ (p r).r.bs ∧ P (p r).x
  pos : ∀ x, 1 ≤ (q x).length
theorem lebF_pos : ∀ k u, 1 ≤ (lebF k u).length
  | 0, _ => Nat.le_refl _
  | k + 1, u => by simp only [lebF]; split <;> simp
theorem good_N : Good rN leb in64 := ⟨fun x rest h => rN_put h rest, fun r h => rN_got h, fun x => lebF_pos _ _⟩

theorem rM_put {n : Nat} {rest : List UInt8} (h : n ≤ rest.length) (h2 : n ≤ 9223372036854775807) : rM ⟨leb n ++ rest, false⟩ = ⟨n, rest, false⟩ := by
  have h1 := rN_put (n := n) ⟨by omega, by omega⟩ rest
  simp only [rM, h1]
  rw [if_neg (by omega)]
theorem rM_got {r : R} (h : (rM r).r.bad = false) : r.bad = false ∧ r.bs = leb ((rM r).x.toNat : Nat) ++ (rM r).r.bs := by
  have hl := rM_len r
  have hx : (((rM r).x.toNat : Nat) : Int) = (rM r).x := by omega
  rw [hx]
  unfold rM at h ⊢
  split at h
  · simp at h
  · rename_i hc
    rw [if_neg hc]
    have := rN_got h
    exact ⟨this.1, this.2.1⟩

theorem putL_len {α : Type} {q : α → List UInt8} (h : ∀ x, 1 ≤ (q x).length) : ∀ l, l.length ≤ (putL q l).length
  | [] => Nat.le_refl _
  | x :: l => by have := h x; have := putL_len h l; simp [putL]; omega
theorem rL_put {α : Type} {p : R → Rd α} {q : α → List UInt8} {P : α → Prop} (g : Good p q P) : ∀ (l : List α) (rest : List UInt8), (∀ x ∈ l, P x) → rL p l.length ⟨putL q l ++ rest, false⟩ = ⟨l, rest, false⟩
  | [], _, _ => rfl
  | x :: l, rest, h => by
    simp only [List.length_cons, rL, putL, List.append_assoc]
    rw [g.put x _ (h x (by simp)), rL_put g l rest fun y hy => h y (by simp [hy])]
theorem rL_got {α : Type} {p : R → Rd α} {q : α → List UInt8} {P : α → Prop} (g : Good p q P) : ∀ (n : Nat) (r : R), (rL p n r).r.bad = false → r.bad = false ∧ r.bs = putL q (rL p n r).x ++ (rL p n r).r.bs ∧ (rL p n r).x.length = n ∧ ∀ x ∈ (rL p n r).x, P x
  | 0, r, h => ⟨h, rfl, rfl, by simp [rL]⟩
  | n + 1, r, h => by
    simp only [rL] at h ⊢
    obtain ⟨h1, h2, h3, h4⟩ := rL_got g n _ h
    obtain ⟨k1, k2, k3⟩ := g.got r h1
    refine ⟨k1, ?_, by simp [h3], ?_⟩
    · simp only [putL, List.append_assoc]
      rw [← h2, ← k2]
    · intro x hx
      rcases List.mem_cons.1 hx with rfl | hx
      · exact k3
      · exact h4 x hx

/-- A list behind its length. -/
def rLM {α : Type} (p : R → Rd α) (r : R) : Rd (List α) := rL p (rM r).x.toNat (rM r).r
def putLM {α : Type} (q : α → List UInt8) (l : List α) : List UInt8 := leb l.length ++ putL q l
theorem rLM_put {α : Type} {p : R → Rd α} {q : α → List UInt8} {P : α → Prop} (g : Good p q P) {l : List α} {rest : List UInt8} (h : ∀ x ∈ l, P x) (hl : l.length ≤ 9223372036854775807) : rLM p ⟨putLM q l ++ rest, false⟩ = ⟨l, rest, false⟩ := by
  have h1 := putL_len g.pos l
  have h2 := rM_put (n := l.length) (rest := putL q l ++ rest) (by simp only [List.length_append]; omega) hl
  unfold rLM putLM
  rw [List.append_assoc, h2]
  exact rL_put g l rest h
theorem rLM_got {α : Type} {p : R → Rd α} {q : α → List UInt8} {P : α → Prop} (g : Good p q P) {r : R} (h : (rLM p r).r.bad = false) : r.bad = false ∧ r.bs = putLM q (rLM p r).x ++ (rLM p r).r.bs ∧ ∀ x ∈ (rLM p r).x, P x := by
  obtain ⟨h1, h2, h3, h4⟩ := rL_got g _ _ h
  obtain ⟨k1, k2⟩ := rM_got h1
  refine ⟨k1, ?_, h4⟩
  unfold putLM
  rw [List.append_assoc]
  show r.bs = leb ((rL p _ _).x.length : Nat) ++ _
  rw [h3]
  show r.bs = _ ++ (putL q (rL p _ _).x ++ (rL p _ _).r.bs)
  rw [← h2]
  exact k2

def rT (r : R) : Rd (List UInt8) := ⟨(rM r).r.bs.take (rM r).x.toNat, (rM r).r.bs.drop (rM r).x.toNat, (rM r).r.bad⟩
def okT (s : List UInt8) : Prop := s.length ≤ 9223372036854775807
def okI (x : Ins) : Prop := in64 x.op ∧ in64 x.a ∧ x.l.length ≤ 9223372036854775807 ∧ ∀ n ∈ x.l, in64 n
def okF (f : Fn) : Prop := in64 f.regs ∧ in64 f.caps ∧ f.code.length ≤ 9223372036854775807 ∧ ∀ x ∈ f.code, okI x
def okM (m : Img) : Prop := (m.ints.length ≤ 9223372036854775807 ∧ ∀ n ∈ m.ints, in64 n) ∧ (m.texts.length ≤ 9223372036854775807 ∧ ∀ s ∈ m.texts, okT s) ∧ (m.funs.length ≤ 9223372036854775807 ∧ ∀ f ∈ m.funs, okF f)

theorem rLM_len {α : Type} {p : R → Rd α} (r : R) : (rLM p r).x.length ≤ (rM r).r.bs.length := by
  have h : ∀ n r, (rL p n r).x.length = n := by
    intro n
    induction n with
    | zero => intro r; rfl
    | succ n ih => intro r; simp [rL, ih]
  have := rM_len r
  unfold rLM
  rw [h]
  omega
theorem good_T : Good rT putT okT := by
  refine ⟨fun s rest h => ?_, fun r h => ?_, fun s => ?_⟩
  · have h1 := rM_put (n := s.length) (rest := s ++ rest) (by simp) h
    simp only [rT, putT, List.append_assoc, h1]
    simp
  · obtain ⟨h1, h2⟩ := rM_got (r := r) h
    have hl := rM_len r
    refine ⟨h1, ?_, ?_⟩
    · simp only [rT, putT, List.append_assoc, List.take_append_drop]
      rw [List.length_take, Nat.min_eq_left (by omega)]
      exact h2
    · have hi := (rN_got (r := r) (by simp only [rT, rM] at h; split at h; simp at h; exact h)).2.2
      simp only [rT, okT, List.length_take]
      simp only [in64] at hi
      have : (rM r).x ≤ 9223372036854775807 := by unfold rM; split; simp; exact hi.2
      omega
  · have := lebF_pos 9 (zig s.length)
    simp only [putT, List.length_append, leb]
    omega
theorem rI_eq (r : R) : rI r = ⟨⟨(rN r).x, (rN (rN r).r).x, (rLM rN (rN (rN r).r).r).x⟩, (rLM rN (rN (rN r).r).r).r⟩ := rfl
theorem rF_eq (r : R) : rF r = ⟨⟨(rN r).x, (rN (rN r).r).x, (rLM rI (rN (rN r).r).r).x⟩, (rLM rI (rN (rN r).r).r).r⟩ := rfl
theorem putI_eq (x : Ins) : putI x = leb x.op ++ (leb x.a ++ putLM leb x.l) := rfl
theorem putF_eq (x : Fn) : putF x = leb x.regs ++ (leb x.caps ++ putLM putI x.code) := rfl
theorem leb_pos (n : Int) : 1 ≤ (leb n).length := lebF_pos _ _
theorem rLM_cnt {α : Type} {p : R → Rd α} {r : R} (h : (rM r).r.bad = false) : (rLM p r).x.length ≤ 9223372036854775807 := by
  have h' : ∀ n r, (rL p n r).x.length = n := by
    intro n
    induction n with
    | zero => intro r; rfl
    | succ n ih => intro r; simp [rL, ih]
  have hi := (rN_got (r := r) (by simp only [rM] at h; split at h; simp at h; exact h)).2.2
  simp only [in64] at hi
  have : (rM r).x ≤ 9223372036854775807 := by unfold rM; split; simp; exact hi.2
  unfold rLM
  rw [h']
  omega
theorem rLM_bad {α : Type} {p : R → Rd α} {q : α → List UInt8} {P : α → Prop} (g : Good p q P) {r : R} (h : (rLM p r).r.bad = false) : (rM r).r.bad = false := (rL_got g _ _ h).1
theorem good_I : Good rI putI okI := by
  refine ⟨fun x rest h => ?_, fun r h => ?_, fun x => ?_⟩
  · rw [putI_eq, List.append_assoc, List.append_assoc, rI_eq, rN_put h.1, rN_put h.2.1, rLM_put good_N h.2.2.2 h.2.2.1]
  · rw [rI_eq] at h ⊢
    obtain ⟨h1, h2, h3⟩ := rLM_got good_N h
    have hc := rLM_cnt (p := rN) (rLM_bad good_N h)
    obtain ⟨k1, k2, k3⟩ := rN_got h1
    obtain ⟨j1, j2, j3⟩ := rN_got k1
    refine ⟨j1, ?_, j3, k3, hc, h3⟩
    rw [putI_eq, List.append_assoc, List.append_assoc]
    dsimp only
    rw [← h2, ← k2, ← j2]
  · have := leb_pos x.op
    simp only [putI, List.length_append]
    omega
theorem good_F : Good rF putF okF := by
  refine ⟨fun x rest h => ?_, fun r h => ?_, fun x => ?_⟩
  · rw [putF_eq, List.append_assoc, List.append_assoc, rF_eq, rN_put h.1, rN_put h.2.1, rLM_put good_I h.2.2.2 h.2.2.1]
  · rw [rF_eq] at h ⊢
    obtain ⟨h1, h2, h3⟩ := rLM_got good_I h
    have hc := rLM_cnt (p := rI) (rLM_bad good_I h)
    obtain ⟨k1, k2, k3⟩ := rN_got h1
    obtain ⟨j1, j2, j3⟩ := rN_got k1
    refine ⟨j1, ?_, j3, k3, hc, h3⟩
    rw [putF_eq, List.append_assoc, List.append_assoc]
    dsimp only
    rw [← h2, ← k2, ← j2]
  · have := leb_pos x.regs
    simp only [putF, List.length_append]
    omega

@[reducible] def q1M (b : List UInt8) : Rd (List Int) := rLM rN ⟨b, false⟩
@[reducible] def q2M (b : List UInt8) : Rd (List (List UInt8)) := rLM rT (q1M b).r
@[reducible] def q3M (b : List UInt8) : Rd (List Fn) := rLM rF (q2M b).r
def rImg (b : List UInt8) : Rd Img := ⟨⟨(q1M b).x, (q2M b).x, (q3M b).x⟩, (q3M b).r⟩
theorem putM_eq (m : Img) : putM m = putLM leb m.ints ++ (putLM putT m.texts ++ putLM putF m.funs) := by simp only [putM, putLM, List.append_assoc]
theorem rImg_put {m : Img} (h : okM m) (rest : List UInt8) : rImg (putM m ++ rest) = ⟨m, rest, false⟩ := by
  unfold rImg q3M q2M q1M
  rw [putM_eq, List.append_assoc, List.append_assoc, rLM_put good_N h.1.2 h.1.1, rLM_put good_T h.2.1.2 h.2.1.1, rLM_put good_F h.2.2.2 h.2.2.1]
theorem rImg_got {b : List UInt8} (h : (rImg b).r.bad = false) : b = putM (rImg b).x ++ (rImg b).r.bs ∧ okM (rImg b).x := by
  simp only [rImg] at h ⊢
  obtain ⟨h1, h2, h3⟩ := rLM_got good_F h
  have c3 := rLM_cnt (p := rF) (rLM_bad good_F h)
  obtain ⟨k1, k2, k3⟩ := rLM_got good_T h1
  have c2 := rLM_cnt (p := rT) (rLM_bad good_T h1)
  obtain ⟨j1, j2, j3⟩ := rLM_got good_N k1
  have c1 := rLM_cnt (p := rN) (rLM_bad good_N k1)
  refine ⟨?_, ⟨c1, j3⟩, ⟨c2, k3⟩, c3, h3⟩
  rw [putM_eq, List.append_assoc, List.append_assoc]
  dsimp only
  rw [← h2, ← k2, ← j2]

/-- What is got of bytes. -/
def getS (b : List UInt8) : Option Img := if (rImg b).r.bad = false ∧ (rImg b).r.bs = [] ∧ checkS (rImg b).x = true then some (rImg b).x else none
theorem getS_put {m : Img} (h : okM m) (hc : checkS m = true) : getS (putM m) = some m := by
  have := rImg_put h []
  rw [List.append_nil] at this
  unfold getS
  rw [this]
  simp [hc]
theorem getS_more {m : Img} (h : okM m) (c : UInt8) : getS (putM m ++ [c]) = none := by
  have := rImg_put h [c]
  unfold getS
  rw [this]
  simp
theorem getS_got {b : List UInt8} {m : Img} (h : getS b = some m) : putM m = b ∧ checkS m = true ∧ okM m := by
  unfold getS at h
  split at h
  · rename_i hc
    cases h
    obtain ⟨h1, h2⟩ := rImg_got hc.1
    rw [hc.2.1, List.append_nil] at h1
    exact ⟨h1.symm, hc.2.2, h2⟩
  · cases h
end Go.Proofs.Ytcbdnndgnbgnaaa
