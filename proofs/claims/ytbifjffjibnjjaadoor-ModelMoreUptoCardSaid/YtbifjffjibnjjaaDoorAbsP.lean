/-
  A region whose order is drawn: one order stands for all. (Own work; seat-independent.)
-/
import Derived.Test.YtbifjffjibnjjaaDoorAbsO
set_option linter.unusedVariables false
set_option linter.unusedSimpArgs false
namespace Go.Abs
open Go

/-- Only what is looked up matters. -/
def Ext1 (K : List (Nat × D) → Sg → Prop) : Prop := ∀ s s' σ, (∀ n, look s n = look s' n) → K s σ → K s' σ

theorem look_push {dst : Option Nat} {d : D} {s : List (Nat × D)} {n : Nat} : look (push dst d s) n = if dst = some n then d else look s n := by
  cases dst with
  | none => simp [push]
  | some k => by_cases h : k = n <;> simp [push, look, h]

theorem look_shade {s : List (Nat × D)} {n : Nat} {d : D} (h : look s n = d) (k : Nat) : look ((n, d) :: s) k = look s k := by
  simp only [look]
  by_cases hk : n = k
  · subst hk; rw [if_pos rfl, h]
  · rw [if_neg hk]

def noDst (d : Option Nat) (l : List Nat) : Bool := match d with | some n => !l.contains n | none => true
def unlike : Option Nat → Option Nat → Bool
  | some a, some b => !(a == b)
  | _, _ => true
def apart (q i : RO) : Bool := noDst q.dst i.tmps && noDst i.dst q.tmps && unlike q.dst i.dst

theorem noDst_spec {d : Option Nat} {l : List Nat} (h : noDst d l = true) {n : Nat} (hn : n ∈ l) : d ≠ some n := by
  rintro rfl
  simp [noDst, hn] at h

theorem unlike_spec {a b : Option Nat} (h : unlike a b = true) {n : Nat} : ¬ (a = some n ∧ b = some n) := by
  rintro ⟨rfl, rfl⟩
  simp [unlike] at h

section
variable {P : Program}

theorem WO_ext : ∀ {ros : List RO} {s s' : List (Nat × D)} {σ : Sg} {K : List (Nat × D) → Sg → Prop}, Ext1 K → (∀ n, look s n = look s' n) → WO P ros s σ K → WO P ros s' σ K
  | [], s, s', σ, K, hK, hs, h => hK s s' σ hs h
  | ⟨dst, none, op⟩ :: r, s, s', σ, K, hK, hs, h => by
    simp only [WO] at h ⊢
    rw [WOp_on (s' := s') fun n _ => hs n] at h
    exact WOp_mono (fun d σ' h => WO_ext hK (fun n => by rw [look_push, look_push, hs n]) h) h
  | ⟨dst, some (n, want), op⟩ :: r, s, s', σ, K, hK, hs, h => by
    simp only [WO] at h ⊢
    rw [← hs n]
    generalize look s n = d at h
    have hsh : ∀ d k, look ((n, d) :: s) k = look ((n, d) :: s') k := fun d k => by simp only [look]; rw [hs k]
    cases d with
    | v x => cases x with
      | bool p =>
        refine ⟨fun e => ?_, fun e => ?_⟩
        · have h1 := h.1 e
          rw [WOp_on (s' := (n, .v (.bool want)) :: s') fun k _ => hsh _ k] at h1
          exact WOp_mono (fun d σ' h => WO_ext hK (fun k => by rw [look_push, look_push, hsh]) h) h1
        · exact WO_ext hK (fun k => by rw [look_push, look_push, hsh]) (h.2 e)
      | _ => exact h
    | tup ds => cases ds with
      | nil => exact WO_ext hK (fun k => by rw [look_push, look_push, hs k]) h
      | cons d ds => exact h
    | _ => exact h

theorem WOx_ext : ∀ {rds : Hist} {ros : List (RO × Bool)} {s s' : List (Nat × D)} {σ : Sg} {K : List (Nat × D) → Sg → Prop}, Ext1 K → (∀ n, look s n = look s' n) → WOx P rds ros s σ K → WOx P rds ros s' σ K
  | _, [], s, s', σ, K, hK, hs, h => hK s s' σ hs h
  | rds, (r, b) :: rs, s, s', σ, K, hK, hs, h => by
    simp only [WOx] at h ⊢
    rw [← reads_on (s := s) (s' := s') fun n _ => hs n]
    exact WO_ext (fun s1 s2 σ' hs' hh => ⟨hh.1, WOx_ext hK hs' hh.2⟩) hs h

theorem feeds_set {q : RO} {L L' : List Nat} (h : ∀ n, n ∈ L ↔ n ∈ L') : q.feeds L = q.feeds L' := by
  unfold RO.feeds
  cases q.dst with
  | none => rfl
  | some d =>
    have := h d
    by_cases h1 : d ∈ L
    · simp [h1, this.1 h1]
    · have h2 : d ∉ L' := fun h2 => h1 (this.2 h2)
      simp [h1, h2]
theorem loose_set : ∀ {h : Hist} {L L' : List Nat}, (∀ n, n ∈ L ↔ n ∈ L') → loose L h = loose L' h
  | [], _, _, _ => rfl
  | (q, rd) :: h, L, L', hs => by
    simp only [loose]
    rw [feeds_set hs, loose_set (h := h) hs, loose_set (h := h) (L := q.tmps ++ L) (L' := q.tmps ++ L') fun n => by simp only [List.mem_append, hs n]]
/-- What the second knows of, the first does. -/
def HSub (h h' : Hist) : Prop := ∀ L, ∀ o ∈ loose L h', o ∈ loose L h
theorem HSub.cons {h h' : Hist} (k : HSub h h') (x : RO × List Rd) : HSub (x :: h) (x :: h') := by
  intro L o ho
  obtain ⟨q, rd⟩ := x
  simp only [loose] at ho ⊢
  split at ho
  · rw [if_pos (by assumption)]
    exact k _ o ho
  · rw [if_neg (by assumption)]
    rcases List.mem_append.1 ho with ho | ho
    · exact List.mem_append.2 (.inl ho)
    · exact List.mem_append.2 (.inr (k _ o ho))
theorem feeds_app {q i : RO} (h : noDst q.dst i.tmps = true) (L : List Nat) : q.feeds (i.tmps ++ L) = q.feeds L := by
  unfold RO.feeds
  cases hd : q.dst with
  | none => rfl
  | some d =>
    rw [hd] at h
    simp only [noDst, Bool.not_eq_true', List.contains_eq_mem, decide_eq_false_iff_not] at h
    simp [h]
theorem HSub.swap {q i : RO} {a b : List Rd} (h1 : noDst q.dst i.tmps = true) (h2 : noDst i.dst q.tmps = true) (h : Hist) : HSub ((i, b) :: (q, a) :: h) ((q, a) :: (i, b) :: h) := by
  intro L o ho
  simp only [loose] at ho ⊢
  rw [feeds_app h1, loose_set (h := h) (L := q.tmps ++ (i.tmps ++ L)) (L' := i.tmps ++ (q.tmps ++ L)) fun n => by simp only [List.mem_append]; exact or_left_comm]
  rw [feeds_app h2] at ho
  by_cases hq : q.feeds L = true <;> by_cases hi : i.feeds L = true
  · rw [if_pos hq, if_pos hi] at ho
    rw [if_pos hi, if_pos hq]
    exact ho
  · rw [if_pos hq, if_neg hi] at ho
    rw [if_neg hi, if_pos hq]
    exact ho
  · rw [if_neg hq, if_pos hi] at ho
    rw [if_pos hi, if_neg hq]
    exact ho
  · rw [if_neg hq, if_neg hi] at ho
    rw [if_neg hi, if_neg hq]
    simp only [List.mem_append] at ho ⊢
    exact or_left_comm.1 ho
theorem loose_apart {q i : RO} {a : List Rd} (h1 : noDst q.dst i.tmps = true) (h : Hist) : loose i.tmps ((q, a) :: h) = a ++ loose i.tmps h := by
  have := feeds_app h1 []
  rw [List.append_nil] at this
  have h0 : q.feeds [] = false := by unfold RO.feeds; cases q.dst <;> rfl
  simp only [loose]
  rw [this, h0]
  rfl
theorem WOx_sub : ∀ {ros : List (RO × Bool)} {rds rds' : Hist} {s : List (Nat × D)} {σ : Sg} {K : List (Nat × D) → Sg → Prop}, HSub rds rds' → WOx P rds ros s σ K → WOx P rds' ros s σ K
  | [], _, _, s, σ, K, _, h => h
  | (r, b) :: rs, rds, rds', s, σ, K, hs, h => by
    simp only [WOx] at h ⊢
    exact WO_mono (fun s' σ' hh => ⟨hh.1.imp id (Or.imp id fun k => k.sub (hs _)), WOx_sub (hs.cons _) hh.2⟩) h

/-- What a quiet operation yields it yields at every later turn. -/
theorem ro_det {r : RO} (hq : r.op.quiet = true) {s : List (Nat × D)} {σ : Sg} {K : List (Nat × D) → Sg → Prop} (hK : Ext1 K) (h : WO P [r] s σ K) :
    ∃ d, K (push r.dst d s) σ ∧ ∀ s2 σ2 K2, Ext1 K2 → (∀ n ∈ r.tmps, look s n = look s2 n) → KeepOn (r.op.reads s) σ σ2 → K2 (push r.dst d s2) σ2 → WO P [r] s2 σ2 K2 := by
  obtain ⟨dst, g, op⟩ := r
  cases g with
  | none =>
    simp only [WO] at h
    obtain ⟨d, h1, h2⟩ := WOp_det hq h
    refine ⟨d, h1, fun s2 σ2 K2 hK2 hs hk hh => ?_⟩
    simp only [WO]
    rw [← WOp_on (s := s) fun n hn => hs n (by simp [RO.tmps, hn])]
    exact h2 σ2 _ hk hh
  | some nw =>
    obtain ⟨n, want⟩ := nw
    simp only [WO] at h
    have hn : ∀ s2 : List (Nat × D), (∀ n' ∈ (RO.mk dst (some (n, want)) op).tmps, look s n' = look s2 n') → look s n = look s2 n := fun s2 hs => hs n (by simp [RO.tmps])
    generalize hd : look s n = dn at h
    cases dn with
    | v x => cases x with
      | bool p =>
        by_cases hp : p = want
        · subst hp
          obtain ⟨d, h1, h2⟩ := WOp_det hq (h.1 rfl)
          refine ⟨d, hK _ _ _ (fun k => by rw [look_push, look_push, look_shade hd]) h1, fun s2 σ2 K2 hK2 hs hk hh => ?_⟩
          have hd2 : look s2 n = .v (.bool p) := by rw [← hn s2 hs]; exact hd
          simp only [WO]
          rw [hd2]
          refine ⟨fun _ => ?_, fun e => by cases p <;> cases e⟩
          rw [← WOp_on (s := (n, .v (.bool p)) :: s) fun k hk => by rw [look_shade hd, look_shade hd2]; exact hs k (by simp [RO.tmps, hk])]
          exact h2 σ2 _ (by rw [reads_on (s' := s) fun k _ => look_shade hd k]; exact hk) (hK2 _ _ _ (fun k => by rw [look_push, look_push, look_shade hd2]) hh)
        · have hp' : p = !want := by cases p <;> cases want <;> simp_all
          refine ⟨.undef, hK _ _ _ (fun k => by rw [look_push, look_push, look_shade (by rw [hd, hp'])]) (h.2 hp'), fun s2 σ2 K2 hK2 hs hk hh => ?_⟩
          have hd2 : look s2 n = .v (.bool p) := by rw [← hn s2 hs]; exact hd
          simp only [WO]
          rw [hd2]
          exact ⟨fun e => (hp e).elim, fun _ => hK2 _ _ _ (fun k => by rw [look_push, look_push, look_shade (by rw [hd2, hp'])]) hh⟩
      | _ => exact h.elim
    | tup ds => cases ds with
      | nil =>
        refine ⟨.undef, h, fun s2 σ2 K2 hK2 hs hk hh => ?_⟩
        have hd2 : look s2 n = .tup [] := by rw [← hn s2 hs]; exact hd
        simp only [WO]
        rw [hd2]
        exact hh
      | cons d ds => exact h.elim
    | _ => exact h.elim

theorem push_comm {a b : Option Nat} (h : unlike a b = true) {d e : D} {s : List (Nat × D)} (n : Nat) : look (push a d (push b e s)) n = look (push b e (push a d s)) n := by
  rw [look_push, look_push, look_push, look_push]
  have := unlike_spec h (n := n)
  by_cases ha : a = some n <;> by_cases hb : b = some n <;> simp_all

/-- An operation does not see what it does not look at. -/
theorem ro_frame {q i : RO} (ha : apart q i = true) {d : D} {s : List (Nat × D)} {σ : Sg} {K : List (Nat × D) → Sg → Prop} (hK : Ext1 K) (h : WO P [i] (push q.dst d s) σ K) :
    WO P [i] s σ fun s3 σ3 => K (push q.dst d s3) σ3 ∧ ∀ n ∈ q.tmps, look s n = look s3 n := by
  simp only [apart, Bool.and_eq_true] at ha
  obtain ⟨⟨h1, h2⟩, h3⟩ := ha
  have hl : ∀ n ∈ i.tmps, look (push q.dst d s) n = look s n := fun n hn => by rw [look_push, if_neg (noDst_spec h1 hn)]
  obtain ⟨dst, g, op⟩ := i
  have hq : ∀ (e : D) (s' : List (Nat × D)), (∀ n, look s' n = look s n) → ∀ n ∈ q.tmps, look s n = look (push dst e s') n := fun e s' hs' n hn => by rw [look_push, if_neg (noDst_spec h2 hn), hs' n]
  cases g with
  | none =>
    simp only [WO] at h ⊢
    rw [WOp_on (s' := s) fun n hn => hl n (by simp [RO.tmps, hn])] at h
    exact WOp_mono (fun e σ' hh => ⟨hK _ _ _ (fun n => (push_comm h3 n).symm) hh, hq e s fun _ => rfl⟩) h
  | some nw =>
    obtain ⟨n, want⟩ := nw
    simp only [WO] at h ⊢
    rw [hl n (by simp [RO.tmps])] at h
    generalize hd : look s n = dn at h
    have hd' : look (push q.dst d s) n = dn := by rw [hl n (by simp [RO.tmps])]; exact hd
    cases dn with
    | v x => cases x with
      | bool p =>
        refine ⟨fun e => ?_, fun e => ?_⟩
        · subst e
          have h4 := h.1 rfl
          rw [WOp_on (s' := (n, .v (.bool p)) :: s) fun k hk => by rw [look_shade hd', look_shade hd]; exact hl k (by simp [RO.tmps, hk])] at h4
          refine WOp_mono (fun e σ' hh => ⟨hK _ _ _ (fun k => ?_) hh, hq e _ (look_shade hd)⟩) h4
          rw [look_push, look_shade hd', look_push, look_push, look_push, look_shade hd]
          have := unlike_spec h3 (n := k)
          by_cases ha : q.dst = some k <;> by_cases hb : dst = some k <;> simp_all
        · subst e
          refine ⟨hK _ _ _ (fun k => ?_) (h.2 rfl), hq _ _ (look_shade hd)⟩
          rw [look_push, look_shade hd', look_push, look_push, look_push, look_shade hd]
          have := unlike_spec h3 (n := k)
          by_cases ha : q.dst = some k <;> by_cases hb : dst = some k <;> simp_all
      | _ => exact h
    | tup ds => cases ds with
      | nil => exact ⟨hK _ _ _ (fun k => (push_comm h3 k).symm) h, hq _ _ fun _ => rfl⟩
      | cons d ds => exact h
    | _ => exact h

theorem WOx_swap {rds : Hist} {q i : RO} {bq bi : Bool} {r : List (RO × Bool)} (hbl : bi = false ∨ q.op.blind = true) (hq : q.op.quiet = true) (ha : apart q i = true) {s : List (Nat × D)} {σ : Sg} {K : List (Nat × D) → Sg → Prop} (hK : Ext1 K)
    (h : WOx P rds ((q, bq) :: (i, bi) :: r) s σ K) : WOx P rds ((i, bi) :: (q, bq) :: r) s σ K := by
  have ha' := ha
  simp only [apart, Bool.and_eq_true] at ha'
  obtain ⟨⟨a1, a2⟩, _⟩ := ha'
  simp only [WOx, loose_apart a1] at h ⊢
  have hK2 : Ext1 fun s' σ' => (bi = true ∨ Keep σ σ' ∨ KeepOn (q.op.reads s ++ loose i.tmps rds) σ σ') ∧ WOx P ((i, i.op.reads s) :: (q, q.op.reads s) :: rds) r s' σ' K := fun s1 s2 σ' hs hh => ⟨hh.1, WOx_ext hK hs hh.2⟩
  obtain ⟨d, h1, h2⟩ := ro_det hq (K := fun s' σ' => (bq = true ∨ Keep σ σ' ∨ KeepOn (loose q.tmps rds) σ σ') ∧ WO P [i] s' σ' fun s'' σ'' => (bi = true ∨ Keep σ' σ'' ∨ KeepOn (q.op.reads s ++ loose i.tmps rds) σ' σ'') ∧ WOx P ((i, i.op.reads s') :: (q, q.op.reads s) :: rds) r s'' σ'' K)
    (fun s1 s2 σ' hs hh => ⟨hh.1, by rw [← reads_on (s := s1) (s' := s2) fun n _ => hs n]; exact WO_ext (fun s3 s4 σ3 hs3 h3 => ⟨h3.1, WOx_ext hK hs3 h3.2⟩) hs hh.2⟩) h
  have hri : i.op.reads (push q.dst d s) = i.op.reads s := reads_on fun n hn => by
    rw [look_push, if_neg (noDst_spec a1 (by simp [RO.tmps, hn]))]
  rw [hri] at h1
  refine WO_mono (fun s3 σ3 hh => ?_) (ro_frame ha hK2 h1.2)
  obtain ⟨⟨hk, hr⟩, hs⟩ := hh
  have hk1 : KeepOn (q.op.reads s) σ σ3 := by
    rcases hk with hk | hk | hk
    · rcases hbl with hb | hb
      · rw [hb] at hk; cases hk
      · rw [AOp.blind_reads hb]; intro o ho; cases ho
    · exact hk.on
    · exact hk.sub fun o ho => List.mem_append.2 (.inl ho)
  have hk2 : bi = true ∨ Keep σ σ3 ∨ KeepOn (loose i.tmps rds) σ σ3 := by
    rcases hk with hk | hk | hk
    · exact .inl hk
    · exact .inr (.inl hk)
    · exact .inr (.inr (hk.sub fun o ho => List.mem_append.2 (.inr ho)))
  have hrq : q.op.reads s = q.op.reads s3 := reads_on fun n hn => hs n (by simp [RO.tmps, hn])
  refine ⟨hk2, h2 s3 σ3 _ (fun s1 s2 σ' hs' hh => ⟨hh.1, WOx_ext hK hs' hh.2⟩) hs hk1 ⟨.inr (.inl (.refl _)), WOx_sub ?_ hr⟩⟩
  rw [← hrq]
  exact HSub.swap a1 a2 rds

theorem WOx_tail {a : RO × Bool} {l l' : List (RO × Bool)} (hl : ∀ rds s σ K, Ext1 K → WOx P rds l s σ K → WOx P rds l' s σ K) {rds : Hist} {s : List (Nat × D)} {σ : Sg} {K : List (Nat × D) → Sg → Prop} (hK : Ext1 K) (h : WOx P rds (a :: l) s σ K) : WOx P rds (a :: l') s σ K := by
  obtain ⟨r, b⟩ := a
  simp only [WOx] at h ⊢
  exact WO_mono (fun s' σ' hh => ⟨hh.1, hl _ _ _ _ hK hh.2⟩) h

theorem WOx_front {i : RO × Bool} {post : List (RO × Bool)} : ∀ (pre : List (RO × Bool)), (∀ q ∈ pre, q.1.op.quiet = true ∧ apart q.1 i.1 = true ∧ (i.2 = false ∨ q.1.op.blind = true)) →
    ∀ (rds : Hist) (s : List (Nat × D)) (σ : Sg) (K : List (Nat × D) → Sg → Prop), Ext1 K → WOx P rds (pre ++ i :: post) s σ K → WOx P rds (i :: (pre ++ post)) s σ K
  | [], _, rds, s, σ, K, _, h => h
  | q :: pre, hp, rds, s, σ, K, hK, h => by
    have h1 : WOx P rds (q :: i :: (pre ++ post)) s σ K := WOx_tail (fun rds s σ K hK h => WOx_front pre (fun q' hq' => hp q' (by simp [hq'])) rds s σ K hK h) hK h
    obtain ⟨hq, ha, hb⟩ := hp q (by simp)
    obtain ⟨i, bi⟩ := i
    obtain ⟨q, bq⟩ := q
    exact WOx_swap hb hq ha hK h1

/-- What does not hang on how the temporaries are kept, nor on more history than is told. -/
structure ExtH (K : Hist → List (Nat × D) → Sg → Prop) : Prop where
  env : ∀ h s s' σ, (∀ n, look s n = look s' n) → K h s σ → K h s' σ
  hist : ∀ h h' s σ, HSub h h' → K h s σ → K h' s σ
theorem WOxH_ext : ∀ {rds : Hist} {ros : List (RO × Bool)} {s s' : List (Nat × D)} {σ : Sg} {K : Hist → List (Nat × D) → Sg → Prop}, ExtH K → (∀ n, look s n = look s' n) → WOxH P rds ros s σ K → WOxH P rds ros s' σ K
  | _, [], s, s', σ, K, hK, hs, h => hK.env _ s s' σ hs h
  | rds, (r, b) :: rs, s, s', σ, K, hK, hs, h => by
    simp only [WOxH] at h ⊢
    rw [← reads_on (s := s) (s' := s') fun n _ => hs n]
    exact WO_ext (fun s1 s2 σ' hs' hh => ⟨hh.1, WOxH_ext hK hs' hh.2⟩) hs h
theorem WOxH_sub : ∀ {ros : List (RO × Bool)} {rds rds' : Hist} {s : List (Nat × D)} {σ : Sg} {K : Hist → List (Nat × D) → Sg → Prop}, ExtH K → HSub rds rds' → WOxH P rds ros s σ K → WOxH P rds' ros s σ K
  | [], _, _, s, σ, K, hK, hs, h => hK.hist _ _ _ _ hs h
  | (r, b) :: rs, rds, rds', s, σ, K, hK, hs, h => by
    simp only [WOxH] at h ⊢
    exact WO_mono (fun s' σ' hh => ⟨hh.1.imp id (Or.imp id fun k => k.sub (hs _)), WOxH_sub hK (hs.cons _) hh.2⟩) h
theorem WOxH_swap {rds : Hist} {q i : RO} {bq bi : Bool} {r : List (RO × Bool)} (hbl : bi = false ∨ q.op.blind = true) (hq : q.op.quiet = true) (ha : apart q i = true) {s : List (Nat × D)} {σ : Sg} {K : Hist → List (Nat × D) → Sg → Prop} (hK : ExtH K)
    (h : WOxH P rds ((q, bq) :: (i, bi) :: r) s σ K) : WOxH P rds ((i, bi) :: (q, bq) :: r) s σ K := by
  have ha' := ha
  simp only [apart, Bool.and_eq_true] at ha'
  obtain ⟨⟨a1, a2⟩, _⟩ := ha'
  simp only [WOxH, loose_apart a1] at h ⊢
  have hK2 : Ext1 fun s' σ' => (bi = true ∨ Keep σ σ' ∨ KeepOn (q.op.reads s ++ loose i.tmps rds) σ σ') ∧ WOxH P ((i, i.op.reads s) :: (q, q.op.reads s) :: rds) r s' σ' K := fun s1 s2 σ' hs hh => ⟨hh.1, WOxH_ext hK hs hh.2⟩
  obtain ⟨d, h1, h2⟩ := ro_det hq (K := fun s' σ' => (bq = true ∨ Keep σ σ' ∨ KeepOn (loose q.tmps rds) σ σ') ∧ WO P [i] s' σ' fun s'' σ'' => (bi = true ∨ Keep σ' σ'' ∨ KeepOn (q.op.reads s ++ loose i.tmps rds) σ' σ'') ∧ WOxH P ((i, i.op.reads s') :: (q, q.op.reads s) :: rds) r s'' σ'' K)
    (fun s1 s2 σ' hs hh => ⟨hh.1, by rw [← reads_on (s := s1) (s' := s2) fun n _ => hs n]; exact WO_ext (fun s3 s4 σ3 hs3 h3 => ⟨h3.1, WOxH_ext hK hs3 h3.2⟩) hs hh.2⟩) h
  have hri : i.op.reads (push q.dst d s) = i.op.reads s := reads_on fun n hn => by
    rw [look_push, if_neg (noDst_spec a1 (by simp [RO.tmps, hn]))]
  rw [hri] at h1
  refine WO_mono (fun s3 σ3 hh => ?_) (ro_frame ha hK2 h1.2)
  obtain ⟨⟨hk, hr⟩, hs⟩ := hh
  have hk1 : KeepOn (q.op.reads s) σ σ3 := by
    rcases hk with hk | hk | hk
    · rcases hbl with hb | hb
      · rw [hb] at hk; cases hk
      · rw [AOp.blind_reads hb]; intro o ho; cases ho
    · exact hk.on
    · exact hk.sub fun o ho => List.mem_append.2 (.inl ho)
  have hk2 : bi = true ∨ Keep σ σ3 ∨ KeepOn (loose i.tmps rds) σ σ3 := by
    rcases hk with hk | hk | hk
    · exact .inl hk
    · exact .inr (.inl hk)
    · exact .inr (.inr (hk.sub fun o ho => List.mem_append.2 (.inr ho)))
  have hrq : q.op.reads s = q.op.reads s3 := reads_on fun n hn => hs n (by simp [RO.tmps, hn])
  refine ⟨hk2, h2 s3 σ3 _ (fun s1 s2 σ' hs' hh => ⟨hh.1, WOxH_ext hK hs' hh.2⟩) hs hk1 ⟨.inr (.inl (.refl _)), WOxH_sub hK ?_ hr⟩⟩
  rw [← hrq]
  exact HSub.swap a1 a2 rds

theorem WOxH_tail {a : RO × Bool} {l l' : List (RO × Bool)} (hl : ∀ rds s σ K, ExtH K → WOxH P rds l s σ K → WOxH P rds l' s σ K) {rds : Hist} {s : List (Nat × D)} {σ : Sg} {K : Hist → List (Nat × D) → Sg → Prop} (hK : ExtH K) (h : WOxH P rds (a :: l) s σ K) : WOxH P rds (a :: l') s σ K := by
  obtain ⟨r, b⟩ := a
  simp only [WOxH] at h ⊢
  exact WO_mono (fun s' σ' hh => ⟨hh.1, hl _ _ _ _ hK hh.2⟩) h

theorem WOxH_front {i : RO × Bool} {post : List (RO × Bool)} : ∀ (pre : List (RO × Bool)), (∀ q ∈ pre, q.1.op.quiet = true ∧ apart q.1 i.1 = true ∧ (i.2 = false ∨ q.1.op.blind = true)) →
    ∀ (rds : Hist) (s : List (Nat × D)) (σ : Sg) (K : Hist → List (Nat × D) → Sg → Prop), ExtH K → WOxH P rds (pre ++ i :: post) s σ K → WOxH P rds (i :: (pre ++ post)) s σ K
  | [], _, rds, s, σ, K, _, h => h
  | q :: pre, hp, rds, s, σ, K, hK, h => by
    have h1 : WOxH P rds (q :: i :: (pre ++ post)) s σ K := WOxH_tail (fun rds s σ K hK h => WOxH_front pre (fun q' hq' => hp q' (by simp [hq'])) rds s σ K hK h) hK h
    obtain ⟨hq, ha, hb⟩ := hp q (by simp)
    obtain ⟨i, bi⟩ := i
    obtain ⟨q, bq⟩ := q
    exact WOxH_swap hb hq ha hK h1

/-! ### The orders that the machine may take -/

def bindsOf (ops : Array Oper) (i : Nat) : List Nat := match ops[i]? with
  | some o => (o.after.toList.filter fun e => Region.binds .any e).map (·.on)
  | none => []

def okT (ops : Array Oper) (T : List (List Nat)) : Bool := (List.range ops.size).all fun i =>
  (bindsOf ops i).all (fun e => decide (e < i)) && ((T.getD i []).all fun j => (bindsOf ops i).any fun e => e == j || (T.getD e []).contains j)

def okPair (ops : Array Oper) (T : List (List Nat)) (q i : Nat × RO × Bool) : Bool :=
  !(q.1 == i.1) && !(bindsOf ops q.1).contains i.1 && ((T.getD i.1 []).contains q.1 || (q.2.1.op.quiet && apart q.2.1 i.2.1 && (!i.2.2 || q.2.1.op.blind)))

def okPairs (ops : Array Oper) (T : List (List Nat)) : List (Nat × RO × Bool) → Bool
  | [] => true
  | q :: l => l.all (okPair ops T q) && okPairs ops T l

theorem okPairs_sub {ops : Array Oper} {T : List (List Nat)} : ∀ {pre : List (Nat × RO × Bool)} {x : Nat × RO × Bool} {post : List (Nat × RO × Bool)}, okPairs ops T (pre ++ x :: post) = true →
    okPairs ops T (pre ++ post) = true ∧ (∀ q ∈ pre, okPair ops T q x = true) ∧ (∀ y ∈ post, okPair ops T x y = true)
  | [], x, post, h => by
    simp only [List.nil_append, okPairs, Bool.and_eq_true] at h
    exact ⟨h.2, by simp, fun y hy => List.all_eq_true.1 h.1 y hy⟩
  | q :: pre, x, post, h => by
    simp only [List.cons_append, okPairs, Bool.and_eq_true] at h ⊢
    obtain ⟨h1, h2, h3⟩ := okPairs_sub h.2
    refine ⟨⟨List.all_eq_true.2 fun y hy => List.all_eq_true.1 h.1 y ?_, h1⟩, fun q' hq' => ?_, h3⟩
    · rcases List.mem_append.1 hy with hy | hy
      · exact List.mem_append.2 (.inl hy)
      · exact List.mem_append.2 (.inr (List.mem_cons_of_mem _ hy))
    · rcases List.mem_cons.1 hq' with rfl | hq'
      · exact List.all_eq_true.1 h.1 x (by simp)
      · exact h2 q' hq'

theorem okT_reach {ops : Array Oper} {T : List (List Nat)} (hT : okT ops T = true) {listed : Nat → Prop} (hdown : ∀ j, j < ops.size → listed j → ∀ e ∈ bindsOf ops j, listed e) :
    ∀ (i : Nat), i < ops.size → (∀ e ∈ bindsOf ops i, listed e) → ∀ j ∈ T.getD i [], listed j := by
  intro i
  induction i using Nat.strongRecOn with
  | _ i ih =>
    intro hi he j hj
    have h := List.all_eq_true.1 hT i (List.mem_range.2 hi)
    simp only [Bool.and_eq_true] at h
    have hj' := List.all_eq_true.1 h.2 j hj
    obtain ⟨e, hee, hor⟩ := List.any_eq_true.1 hj'
    have hlt : e < i := by simpa using List.all_eq_true.1 h.1 e hee
    simp only [Bool.or_eq_true, beq_iff_eq, List.contains_iff_mem] at hor
    rcases hor with rfl | hor
    · exact he _ hee
    · exact ih e hlt (by omega) (hdown e (by omega) (he e hee)) j hor

theorem mem_bindsOf {ops : Array Oper} {i : Nat} {o : Oper} (ho : ops[i]? = some o) {e : Nat} : e ∈ bindsOf ops i ↔ ∃ x ∈ o.after, Region.binds .any x = true ∧ x.on = e := by
  simp only [bindsOf, ho, List.mem_map, List.mem_filter]
  constructor
  · rintro ⟨x, ⟨h1, h2⟩, h3⟩; exact ⟨x, by simpa using h1, h2, h3⟩
  · rintro ⟨x, h1, h2, h3⟩; exact ⟨x, ⟨by simpa using h1, h2⟩, h3⟩

theorem ready_iff {ops : Array Oper} {listed : Array Bool} {i : Nat} : i ∈ Region.ready .any ops listed ↔ i < ops.size ∧ listed.getD i true = false ∧ ∀ e ∈ bindsOf ops i, listed.getD e false = true := by
  simp only [Region.ready, List.mem_filter, List.mem_range, Bool.and_eq_true, Bool.not_eq_true']
  constructor
  · rintro ⟨h1, h2, h3⟩
    refine ⟨h1, h2, fun e he => ?_⟩
    have ho : ops[i]? = some ops[i] := Array.getElem?_eq_getElem h1
    rw [ho] at h3
    obtain ⟨x, hx, hb, rfl⟩ := (mem_bindsOf ho).1 he
    simp only [Option.map_some, Option.getD_some] at h3
    have h4 := (Array.all_eq_true'.1 h3) x hx
    simpa [hb] using h4
  · rintro ⟨h1, h2, h3⟩
    refine ⟨h1, h2, ?_⟩
    have ho : ops[i]? = some ops[i] := Array.getElem?_eq_getElem h1
    rw [ho]
    simp only [Option.map_some, Option.getD_some]
    refine Array.all_eq_true'.2 fun x hx => ?_
    by_cases hb : Region.binds .any x = true
    · simp [hb, h3 x.on ((mem_bindsOf ho).2 ⟨x, hx, hb, rfl⟩)]
    · simp [hb]

theorem one_sound {nt : Nat} {ops : Array Oper} {ms : List Nat} {Q : Exit → Act → World → Prop} {i : Nat} {o : Oper} {r : RO} (hget : ops[i]? = some o) (hr : compRO P nt ops ms o = some r) (Kc : Act → World → Prop)
    {σ : Sg} {m : Gh} {w : World} {a : Act} {s : List (Nat × D)} {K : List (Nat × D) → Sg → Prop} (hI : Inv σ m w) (hE : EnvR m w s a.tmps) (hsz : a.tmps.size = nt) (hdf : a.defers = []) (hW : WO P [r] s σ K)
    (next : ∀ (s' : List (Nat × D)) (σ' : Sg) (m' : Gh) (w' : World) (a' : Act), K s' σ' → Inv σ' m' w' → EnvR m' w' s' a'.tmps → a'.tmps.size = nt → a'.defers = [] → Ext m w m' w' →
      (∀ n, r.dst ≠ some n → a'.tmps.getD n undef = a.tmps.getD n undef) → Kc a' w') : wpOp P ops Q i Kc a w := by
  obtain ⟨hcomp, hdst, hdlt, hg⟩ := compRO_spec hr
  have run : ∀ (s1 : List (Nat × D)), EnvR m w s1 a.tmps → WOp P r.op s1 σ (fun d σ' => K (push r.dst d s1) σ') → o.wp P a w Kc Q := by
    intro s1 hE1 hW1
    refine compT_ok hcomp σ m w a s1 _ hI hE1 hW1 _ Q fun d σ' m' w' u hW' hI' hX' hR' => ?_
    refine next _ σ' m' w' _ hW' hI' ?_ (by rw [put_size]; exact hsz) (by rw [put_defers']; exact hdf) hX' fun n hn => put_same a o.dst _ n (by rw [← hdst]; exact hn)
    rw [hdst]
    exact push_rep (hE1.mono hX') (fun n hn => by rw [hsz]; exact hdlt n hn) hR'
  have skip : ∀ (s1 : List (Nat × D)), EnvR m w s1 a.tmps → K (push r.dst .undef s1) σ → Kc (a.put o.dst undef) w := by
    intro s1 hE1 hW1
    refine next _ σ m w _ hW1 hI ?_ (by rw [put_size]; exact hsz) (by rw [put_defers']; exact hdf) (.refl m w) fun n hn => put_same a o.dst _ n (by rw [← hdst]; exact hn)
    rw [hdst]
    exact push_rep hE1 (fun n hn => by rw [hsz]; exact hdlt n hn) (.tup [] [] rfl (by simp))
  unfold wpOp
  rw [hget]
  dsimp only
  obtain ⟨rdst, rg, rop⟩ := r
  rcases hg with ⟨hg, hrg⟩ | ⟨j, want, d, hg, hjd, hrg⟩
  · have hrg' : rg = none := hrg
    subst hrg'
    have hw : Region.wanted o (yielded ops a.tmps) = true := by simp [Region.wanted, hg]
    rw [if_pos hw]
    exact .inl (run s hE hW)
  · have hrg' : rg = some (d, want) := hrg
    subst hrg'
    have hy1 : ∀ p, a.tmps[d]? = some (.bool p) → yielded ops a.tmps j = some p := by
      intro p hp
      simp [yielded, hjd, hp]
    have hy2 : (∀ b, a.tmps[d]? ≠ some (.bool b)) → ∀ q, yielded ops a.tmps j ≠ some q := by
      intro hn q
      simp only [yielded, hjd, Option.bind_some]
      cases ht : a.tmps[d]? with
      | none => simp
      | some v =>
        cases v with
        | bool b => exact absurd ht (hn b)
        | _ => simp
    simp only [WO] at hW
    have hEd := hE d
    split at hW
    · rename_i p hp
      rw [hp] at hEd
      have hy' := hy1 p (bool_at hEd)
      have hE1 : ∀ q : Bool, p = q → EnvR m w ((d, .v (.bool q)) :: s) a.tmps := by
        rintro q rfl k
        simp only [look]
        by_cases hdk : d = k
        · subst hdk; rw [if_pos rfl]; exact hEd
        · rw [if_neg hdk]; exact hE k
      by_cases hpw : p = want
      · have hw : Region.wanted o (yielded ops a.tmps) = true := by simp [Region.wanted, hg, hy', hpw]
        rw [if_pos hw]
        exact .inl (run _ (hE1 want hpw) (hW.1 hpw))
      · have hw : ¬ Region.wanted o (yielded ops a.tmps) = true := by simp [Region.wanted, hg, hy', hpw]
        rw [if_neg hw]
        have hpn : p = !want := by cases p <;> cases want <;> simp_all
        exact skip _ (hE1 _ hpn) (hW.2 hpn)
    · rename_i hp
      rw [hp] at hEd
      have hu := hy2 (undef_at hEd)
      have hw : ¬ Region.wanted o (yielded ops a.tmps) = true := by
        simp only [Region.wanted, hg]
        simpa using hu want
      rw [if_neg hw]
      exact skip s hE hW
    · exact hW.elim

theorem getD_set {l : Array Bool} {i j : Nat} {d : Bool} : (l.setIfInBounds i true).getD j d = if i = j ∧ j < l.size then true else l.getD j d := by
  rw [Array.getD_eq_getD_getElem?, Array.getElem?_setIfInBounds, Array.getD_eq_getD_getElem?]
  by_cases h : i = j
  · subst h
    by_cases h2 : i < l.size
    · simp [h2]
    · simp [h2]
  · simp [h]

theorem any_sound {nt : Nat} {ops : Array Oper} {ms : List Nat} {T : List (List Nat)} {Q : Exit → Act → World → Prop} (hT : okT ops T = true) : ∀ (fuel : Nat) (L : List (Nat × RO × Bool)) (listed : Array Bool), fuel = L.length → listed.size = ops.size →
    (∀ x ∈ L, x.1 < ops.size ∧ ∀ o, ops[x.1]? = some o → compRO P nt ops ms o = some x.2.1) → okPairs ops T L = true → (∀ i, i < ops.size → (listed.getD i true = false ↔ ∃ x ∈ L, x.1 = i)) →
    (∀ j, j < ops.size → listed.getD j false = true → ∀ e ∈ bindsOf ops j, listed.getD e false = true) →
    ∀ (rds : Hist) (σ : Sg) (m : Gh) (w : World) (a : Act) (s : List (Nat × D)) (K : List (Nat × D) → Sg → Prop), Ext1 K → Inv σ m w → EnvR m w s a.tmps → a.tmps.size = nt → a.defers = [] → WOx P rds (L.map (·.2)) s σ K →
      (∀ s' σ' m' w' a', K s' σ' → Inv σ' m' w' → EnvR m' w' s' a'.tmps → a'.tmps.size = nt → a'.defers = [] → Ext m w m' w' → (∀ n, (∀ x ∈ L, x.2.1.dst ≠ some n) → a'.tmps.getD n undef = a.tmps.getD n undef) → Q .normal a' w') →
      wpAny P .any ops Q fuel listed a w := by
  intro fuel
  induction fuel with
  | zero =>
    intro L listed hf hls hC hP hL hdown rds σ m w a s K hK hI hE hsz hdf hW hk
    have hnil : L = [] := List.length_eq_zero_iff.1 hf.symm
    subst hnil
    refine ⟨?_, hk s σ m w a hW hI hE hsz hdf (.refl m w) fun _ _ => rfl⟩
    refine List.eq_nil_iff_forall_not_mem.2 fun i hi => ?_
    obtain ⟨h1, h2, _⟩ := ready_iff.1 hi
    obtain ⟨x, hx, _⟩ := (hL i h1).1 h2
    simp at hx
  | succ fuel ih =>
    intro L listed hf hls hC hP hL hdown rds σ m w a s K hK hI hE hsz hdf hW hk
    have lst : ∀ i, i < ops.size → (listed.getD i false = true ↔ ¬ ∃ x ∈ L, x.1 = i) := by
      intro i hi
      rw [← hL i hi]
      have : ∀ d, listed.getD i d = listed[i]'(by omega) := fun d => by simp [Array.getD, hls, hi]
      rw [this, this]
      cases listed[i]'(by omega) <;> simp
    refine ⟨fun hnil => ?_, fun i hi => ?_⟩
    · -- something is ready
      exfalso
      cases L with
      | nil => simp at hf
      | cons x L =>
        have hx := hC x (by simp)
        have hxr : x.1 ∈ Region.ready .any ops listed := by
          refine ready_iff.2 ⟨hx.1, (hL x.1 hx.1).2 ⟨x, by simp, rfl⟩, fun e he => ?_⟩
          have h := List.all_eq_true.1 hT x.1 (List.mem_range.2 hx.1)
          simp only [Bool.and_eq_true] at h
          have hlt : e < x.1 := by simpa using List.all_eq_true.1 h.1 e he
          refine (lst e (by omega)).2 ?_
          rintro ⟨y, hy, rfl⟩
          rcases List.mem_cons.1 hy with rfl | hy
          · omega
          · simp only [okPairs, Bool.and_eq_true] at hP
            have h5 := List.all_eq_true.1 hP.1 y hy
            simp only [okPair, Bool.and_eq_true, Bool.not_eq_true'] at h5
            have h6 := h5.1.2
            simp [he] at h6
        rw [hnil] at hxr
        simp at hxr
    · obtain ⟨h1, h2, h3⟩ := ready_iff.1 hi
      obtain ⟨x, hx, hxi⟩ := (hL i h1).1 h2
      obtain ⟨pre, post, rfl⟩ := List.append_of_mem hx
      obtain ⟨hP', hpre, hpost⟩ := okPairs_sub hP
      have hget : ops[i]? = some ops[i] := Array.getElem?_eq_getElem h1
      have hcomp := (hC x hx).2 ops[i] (by rw [hxi]; exact hget)
      have hdown' : ∀ j, j < ops.size → listed.getD j false = true → ∀ e ∈ bindsOf ops j, listed.getD e false = true := hdown
      have hfront := WOx_front (P := P) (i := x.2) (post := post.map (·.2)) (pre.map (·.2)) (by
        intro q hq
        obtain ⟨y, hy, rfl⟩ := List.mem_map.1 hq
        have h5 := hpre y hy
        simp only [okPair, Bool.and_eq_true, Bool.or_eq_true, Bool.not_eq_true', List.contains_iff_mem] at h5
        rcases h5.2 with h6 | h6
        · exfalso
          rw [hxi] at h6
          have := okT_reach hT (listed := fun j => listed.getD j false = true) hdown i h1 h3 y.1 h6
          exact (lst y.1 (hC y (List.mem_append.2 (.inl hy))).1).1 this ⟨y, List.mem_append.2 (.inl hy), rfl⟩
        · exact ⟨h6.1.1, h6.1.2, h6.2⟩) rds s σ K hK (by simpa using hW)
      obtain ⟨xi, xr, xb⟩ := x
      dsimp only at hxi hcomp hfront
      subst hxi
      simp only [WOx] at hfront
      refine one_sound hget hcomp _ hI hE hsz hdf hfront fun s' σ' m' w' a' hK' hI' hE' hsz' hdf' hX' hsame => ?_
      have hne : ∀ y ∈ pre ++ post, y.1 ≠ xi := by
        intro y hy e
        rcases List.mem_append.1 hy with hy | hy
        · have h5 := hpre y hy
          simp [okPair, e] at h5
        · have h5 := hpost y hy
          simp [okPair, e] at h5
      refine ih (pre ++ post) (listed.setIfInBounds xi true) (by simp at hf ⊢; omega) (by simp [hls]) (fun y hy => hC y ?_) hP' (fun j hj => ?_) (fun j hj hjl e he => ?_) _ σ' m' w' a' s' K hK hI' hE' hsz' hdf' (by simpa using hK'.2)
        fun s'' σ'' m'' w'' a'' k1 k2 k3 k4 k5 k6 k7 => hk s'' σ'' m'' w'' a'' k1 k2 k3 k4 k5 (hX'.trans k6) fun n hn => ?_
      · rcases List.mem_append.1 hy with hy | hy
        · exact List.mem_append.2 (.inl hy)
        · exact List.mem_append.2 (.inr (List.mem_cons_of_mem _ hy))
      · rw [getD_set]
        by_cases hij : xi = j
        · subst hij
          rw [if_pos ⟨rfl, by omega⟩]
          simp only [Bool.true_eq_false, false_iff]
          rintro ⟨y, hy, e⟩
          exact hne y hy e
        · rw [if_neg (fun e => hij e.1), hL j hj]
          constructor
          · rintro ⟨y, hy, rfl⟩
            rcases List.mem_append.1 hy with hy | hy
            · exact ⟨y, List.mem_append.2 (.inl hy), rfl⟩
            · rcases List.mem_cons.1 hy with rfl | hy
              · exact (hij rfl).elim
              · exact ⟨y, List.mem_append.2 (.inr hy), rfl⟩
          · rintro ⟨y, hy, rfl⟩
            rcases List.mem_append.1 hy with hy | hy
            · exact ⟨y, List.mem_append.2 (.inl hy), rfl⟩
            · exact ⟨y, List.mem_append.2 (.inr (List.mem_cons_of_mem _ hy)), rfl⟩
      · have mono : ∀ e, listed.getD e false = true → (listed.setIfInBounds xi true).getD e false = true := by
          intro e he
          rw [getD_set]
          split
          · rfl
          · exact he
        rw [getD_set] at hjl
        split at hjl
        · rename_i hxj
          rw [← hxj.1] at he
          exact mono e (h3 e he)
        · exact mono e (hdown j hj hjl e he)
      · rw [k7 n fun y hy => hn y ?_, hsame n (hn (xi, xr, xb) (by simp))]
        rcases List.mem_append.1 hy with hy | hy
        · exact List.mem_append.2 (.inl hy)
        · exact List.mem_append.2 (.inr (List.mem_cons_of_mem _ hy))

/-! ### Two operations whose order is free, though both do something -/

theorem WOxH_app : ∀ {q ros : List (RO × Bool)} {rds : Hist} {s : List (Nat × D)} {σ : Sg} {K : List (Nat × D) → Sg → Prop} {K2 : Hist → List (Nat × D) → Sg → Prop}, (∀ h s σ, K2 h s σ → WOx P h ros s σ K) → WOxH P rds q s σ K2 → WOx P rds (q ++ ros) s σ K
  | [], ros, rds, s, σ, K, K2, hk, h => hk _ _ _ h
  | (r, b) :: q, ros, rds, s, σ, K, K2, hk, h => by
    simp only [WOx, WOxH, List.cons_append] at h ⊢
    exact WO_mono (fun s' σ' hh => ⟨hh.1, WOxH_app hk hh.2⟩) h

/-- One turn of a region whose order is drawn. -/
theorem any_step {nt : Nat} {ops : Array Oper} {ms : List Nat} {T : List (List Nat)} {Q : Exit → Act → World → Prop} (hT : okT ops T = true) {pre post : List (Nat × RO × Bool)} {x : Nat × RO × Bool} {listed : Array Bool}
    (hC : ∀ o, ops[x.1]? = some o → compRO P nt ops ms o = some x.2.1) (hpre : ∀ q ∈ pre, okPair ops T q x = true) (hun : ∀ y ∈ pre, listed.getD y.1 false ≠ true)
    (hdown : ∀ j, j < ops.size → listed.getD j false = true → ∀ e ∈ bindsOf ops j, listed.getD e false = true) (hi : x.1 ∈ Region.ready .any ops listed)
    {rds : Hist} {σ : Sg} {m : Gh} {w : World} {a : Act} {s : List (Nat × D)} {K : List (Nat × D) → Sg → Prop} (hK : Ext1 K) (hI : Inv σ m w) (hE : EnvR m w s a.tmps) (hsz : a.tmps.size = nt) (hdf : a.defers = []) (hW : WOx P rds ((pre ++ x :: post).map (·.2)) s σ K)
    (Kc : Act → World → Prop) (next : ∀ (rds' : Hist) (s' : List (Nat × D)) (σ' : Sg) (m' : Gh) (w' : World) (a' : Act), WOx P rds' ((pre ++ post).map (·.2)) s' σ' K → Inv σ' m' w' → EnvR m' w' s' a'.tmps → a'.tmps.size = nt → a'.defers = [] → Ext m w m' w' →
      (∀ n, x.2.1.dst ≠ some n → a'.tmps.getD n undef = a.tmps.getD n undef) → Kc a' w') : wpOp P ops Q x.1 Kc a w := by
  obtain ⟨h1, h2, h3⟩ := ready_iff.1 hi
  have hget : ops[x.1]? = some ops[x.1] := Array.getElem?_eq_getElem h1
  have hcomp := hC ops[x.1] hget
  have hfront := WOx_front (P := P) (i := x.2) (post := post.map (·.2)) (pre.map (·.2)) (by
    intro q hq
    obtain ⟨y, hy, rfl⟩ := List.mem_map.1 hq
    have h5 := hpre y hy
    simp only [okPair, Bool.and_eq_true, Bool.or_eq_true, Bool.not_eq_true', List.contains_iff_mem] at h5
    rcases h5.2 with h6 | h6
    · exact absurd (okT_reach hT (listed := fun j => listed.getD j false = true) hdown x.1 h1 h3 y.1 h6) (hun y hy)
    · exact ⟨h6.1.1, h6.1.2, h6.2⟩) rds s σ K hK (by simpa using hW)
  obtain ⟨xi, xr, xb⟩ := x
  dsimp only at hcomp hfront h1 hget ⊢
  simp only [WOx] at hfront
  exact one_sound hget hcomp _ hI hE hsz hdf hfront fun s' σ' m' w' a' hK' hI' hE' hsz' hdf' hX' hsame => next _ s' σ' m' w' a' (by simpa using hK'.2) hI' hE' hsz' hdf' hX' hsame

/-- .. with history. -/
theorem any_stepH {nt : Nat} {ops : Array Oper} {ms : List Nat} {T : List (List Nat)} {Q : Exit → Act → World → Prop} (hT : okT ops T = true) {pre post : List (Nat × RO × Bool)} {x : Nat × RO × Bool} {listed : Array Bool}
    (hC : ∀ o, ops[x.1]? = some o → compRO P nt ops ms o = some x.2.1) (hpre : ∀ q ∈ pre, okPair ops T q x = true) (hun : ∀ y ∈ pre, listed.getD y.1 false ≠ true)
    (hdown : ∀ j, j < ops.size → listed.getD j false = true → ∀ e ∈ bindsOf ops j, listed.getD e false = true) (hi : x.1 ∈ Region.ready .any ops listed)
    {rds : Hist} {σ : Sg} {m : Gh} {w : World} {a : Act} {s : List (Nat × D)} {K : Hist → List (Nat × D) → Sg → Prop} (hK : ExtH K) (hI : Inv σ m w) (hE : EnvR m w s a.tmps) (hsz : a.tmps.size = nt) (hdf : a.defers = []) (hW : WOxH P rds ((pre ++ x :: post).map (·.2)) s σ K)
    (Kc : Act → World → Prop) (next : ∀ (rds' : Hist) (s' : List (Nat × D)) (σ' : Sg) (m' : Gh) (w' : World) (a' : Act), WOxH P rds' ((pre ++ post).map (·.2)) s' σ' K → Inv σ' m' w' → EnvR m' w' s' a'.tmps → a'.tmps.size = nt → a'.defers = [] → Ext m w m' w' →
      (∀ n, x.2.1.dst ≠ some n → a'.tmps.getD n undef = a.tmps.getD n undef) → Kc a' w') : wpOp P ops Q x.1 Kc a w := by
  obtain ⟨h1, h2, h3⟩ := ready_iff.1 hi
  have hget : ops[x.1]? = some ops[x.1] := Array.getElem?_eq_getElem h1
  have hcomp := hC ops[x.1] hget
  have hfront := WOxH_front (P := P) (i := x.2) (post := post.map (·.2)) (pre.map (·.2)) (by
    intro q hq
    obtain ⟨y, hy, rfl⟩ := List.mem_map.1 hq
    have h5 := hpre y hy
    simp only [okPair, Bool.and_eq_true, Bool.or_eq_true, Bool.not_eq_true', List.contains_iff_mem] at h5
    rcases h5.2 with h6 | h6
    · exact absurd (okT_reach hT (listed := fun j => listed.getD j false = true) hdown x.1 h1 h3 y.1 h6) (hun y hy)
    · exact ⟨h6.1.1, h6.1.2, h6.2⟩) rds s σ K hK (by simpa using hW)
  obtain ⟨xi, xr, xb⟩ := x
  dsimp only at hcomp hfront h1 hget ⊢
  simp only [WOxH] at hfront
  exact one_sound hget hcomp _ hI hE hsz hdf hfront fun s' σ' m' w' a' hK' hI' hE' hsz' hdf' hX' hsame => next _ s' σ' m' w' a' (by simpa using hK'.2) hI' hE' hsz' hdf' hX' hsame

theorem listed_step {ops : Array Oper} {listed : Array Bool} {pre post : List (Nat × RO × Bool)} {x : Nat × RO × Bool} (hls : listed.size = ops.size) (h1 : x.1 < ops.size) (hne : ∀ y ∈ pre ++ post, y.1 ≠ x.1) (h3 : ∀ e ∈ bindsOf ops x.1, listed.getD e false = true)
    (hL : ∀ i, i < ops.size → (listed.getD i true = false ↔ ∃ y ∈ pre ++ x :: post, y.1 = i)) (hdown : ∀ j, j < ops.size → listed.getD j false = true → ∀ e ∈ bindsOf ops j, listed.getD e false = true) :
    (listed.setIfInBounds x.1 true).size = ops.size ∧ (∀ i, i < ops.size → ((listed.setIfInBounds x.1 true).getD i true = false ↔ ∃ y ∈ pre ++ post, y.1 = i)) ∧
    (∀ j, j < ops.size → (listed.setIfInBounds x.1 true).getD j false = true → ∀ e ∈ bindsOf ops j, (listed.setIfInBounds x.1 true).getD e false = true) := by
  refine ⟨by simp [hls], fun j hj => ?_, fun j hj hjl e he => ?_⟩
  · rw [getD_set]
    by_cases hij : x.1 = j
    · subst hij
      rw [if_pos ⟨rfl, by omega⟩]
      simp only [Bool.true_eq_false, false_iff]
      rintro ⟨y, hy, e⟩
      exact hne y hy e
    · rw [if_neg (fun e => hij e.1), hL j hj]
      constructor
      · rintro ⟨y, hy, rfl⟩
        rcases List.mem_append.1 hy with hy | hy
        · exact ⟨y, List.mem_append.2 (.inl hy), rfl⟩
        · rcases List.mem_cons.1 hy with rfl | hy
          · exact (hij rfl).elim
          · exact ⟨y, List.mem_append.2 (.inr hy), rfl⟩
      · rintro ⟨y, hy, rfl⟩
        rcases List.mem_append.1 hy with hy | hy
        · exact ⟨y, List.mem_append.2 (.inl hy), rfl⟩
        · exact ⟨y, List.mem_append.2 (.inr (List.mem_cons_of_mem _ hy)), rfl⟩
  · have mono : ∀ e, listed.getD e false = true → (listed.setIfInBounds x.1 true).getD e false = true := by
      intro e he
      rw [getD_set]
      split
      · rfl
      · exact he
    rw [getD_set] at hjl
    split at hjl
    · rename_i hxj
      rw [← hxj.1] at he
      exact mono e (h3 e he)
    · exact mono e (hdown j hj hjl e he)
theorem okPair_ne {ops : Array Oper} {T : List (List Nat)} {q i : Nat × RO × Bool} (h : okPair ops T q i = true) : q.1 ≠ i.1 ∧ i.1 ∉ bindsOf ops q.1 := by
  simp only [okPair, Bool.and_eq_true, Bool.not_eq_true', beq_eq_false_iff_ne, ne_eq] at h
  exact ⟨h.1.1, fun hm => by simp [hm] at h⟩

theorem any_alt {nt : Nat} {ops : Array Oper} {ms : List Nat} {T : List (List Nat)} {Q : Exit → Act → World → Prop} (hT : okT ops T = true) : ∀ (fuel : Nat) (q : List (Nat × RO × Bool)) (c al : Nat × RO × Bool) (l r : List (Nat × RO × Bool)) (listed : Array Bool), fuel = q.length + 2 + l.length + r.length → listed.size = ops.size →
    (∀ x ∈ q ++ c :: (l ++ al :: r), x.1 < ops.size ∧ ∀ o, ops[x.1]? = some o → compRO P nt ops ms o = some x.2.1) → okPairs ops T (q ++ c :: (l ++ r)) = true → okPairs ops T (q ++ (l ++ al :: r)) = true → c.2.1.op.quiet = false → c.1 ≠ al.1 → al.1 ∉ bindsOf ops c.1 →
    (∀ i, i < ops.size → (listed.getD i true = false ↔ ∃ x ∈ q ++ c :: (l ++ al :: r), x.1 = i)) → (∀ j, j < ops.size → listed.getD j false = true → ∀ e ∈ bindsOf ops j, listed.getD e false = true) →
    ∀ (rds : Hist) (σ : Sg) (m : Gh) (w : World) (a : Act) (s : List (Nat × D)) (K : List (Nat × D) → Sg → Prop), Ext1 K → Inv σ m w → EnvR m w s a.tmps → a.tmps.size = nt → a.defers = [] →
      WOxH P rds (q.map (·.2)) s σ (fun h s σ => WOx P h (c.2 :: (l.map (·.2) ++ al.2 :: r.map (·.2))) s σ K ∧ WOx P h (al.2 :: c.2 :: (l.map (·.2) ++ r.map (·.2))) s σ K) →
      (∀ s' σ' m' w' a', K s' σ' → Inv σ' m' w' → EnvR m' w' s' a'.tmps → a'.tmps.size = nt → a'.defers = [] → Ext m w m' w' → (∀ n, (∀ x ∈ q ++ c :: (l ++ al :: r), x.2.1.dst ≠ some n) → a'.tmps.getD n undef = a.tmps.getD n undef) → Q .normal a' w') →
      wpAny P .any ops Q fuel listed a w := by
  intro fuel
  induction fuel with
  | zero =>
    intro q c al l r listed hf
    omega
  | succ fuel ih =>
    intro q c al l r listed hf hls hC hP1 hP2 hcq hca hcb hL hdown rds σ m w a s K hK hI hE hsz hdf hW hk
    have lst : ∀ i, i < ops.size → (listed.getD i false = true ↔ ¬ ∃ x ∈ q ++ c :: (l ++ al :: r), x.1 = i) := by
      intro i hi
      rw [← hL i hi]
      have : ∀ d, listed.getD i d = listed[i]'(by omega) := fun d => by simp [Array.getD, hls, hi]
      rw [this, this]
      cases listed[i]'(by omega) <;> simp
    have hun : ∀ y ∈ q ++ c :: (l ++ al :: r), listed.getD y.1 false ≠ true := fun y hy h => (lst y.1 (hC y hy).1).1 h ⟨y, hy, rfl⟩
    -- of those that are after x none binds x
    have rdy : ∀ x ∈ q ++ c :: (l ++ al :: r), (∀ y ∈ q ++ c :: (l ++ al :: r), y.1 < x.1 → y.1 ∉ bindsOf ops x.1) → x.1 ∈ Region.ready .any ops listed := by
      intro x hx hno
      refine ready_iff.2 ⟨(hC x hx).1, (hL x.1 (hC x hx).1).2 ⟨x, hx, rfl⟩, fun e he => ?_⟩
      have h := List.all_eq_true.1 hT x.1 (List.mem_range.2 (hC x hx).1)
      simp only [Bool.and_eq_true] at h
      have hlt : e < x.1 := by simpa using List.all_eq_true.1 h.1 e he
      refine (lst e (by have := (hC x hx).1; omega)).2 ?_
      rintro ⟨y, hy, rfl⟩
      exact hno y hy hlt he
    have pairs1 : ∀ {pre : List (Nat × RO × Bool)} {x : Nat × RO × Bool} {post : List (Nat × RO × Bool)}, q ++ c :: (l ++ r) = pre ++ x :: post → okPairs ops T (pre ++ post) = true ∧ (∀ p ∈ pre, okPair ops T p x = true) ∧ (∀ y ∈ post, okPair ops T x y = true) := fun e => okPairs_sub (e ▸ hP1)
    have pairs2 : ∀ {pre : List (Nat × RO × Bool)} {x : Nat × RO × Bool} {post : List (Nat × RO × Bool)}, q ++ (l ++ al :: r) = pre ++ x :: post → okPairs ops T (pre ++ post) = true ∧ (∀ p ∈ pre, okPair ops T p x = true) ∧ (∀ y ∈ post, okPair ops T x y = true) := fun e => okPairs_sub (e ▸ hP2)
    have hc := pairs1 (pre := q) (x := c) (post := l ++ r) rfl
    have hal := pairs2 (pre := q ++ l) (x := al) (post := r) (by simp)
    refine ⟨fun hnil => ?_, fun i hi => ?_⟩
    · -- something is ready
      exfalso
      have : ∃ x, x ∈ Region.ready .any ops listed := by
        cases q with
        | nil =>
          refine ⟨c.1, rdy c (by simp) fun y hy hlt hb => ?_⟩
          simp only [List.nil_append, List.mem_cons, List.mem_append] at hy
          rcases hy with rfl | hy | rfl | hy
          · omega
          · exact (okPair_ne (hc.2.2 y (by simp [hy]))).2 hb
          · exact hcb hb
          · exact (okPair_ne (hc.2.2 y (by simp [hy]))).2 hb
        | cons x q =>
          have g1 := pairs1 (pre := []) (x := x) (post := q ++ c :: (l ++ r)) rfl
          have g2 := pairs2 (pre := []) (x := x) (post := q ++ (l ++ al :: r)) rfl
          refine ⟨x.1, rdy x (by simp) fun y hy hlt hb => ?_⟩
          simp only [List.cons_append, List.mem_cons, List.mem_append] at hy
          rcases hy with rfl | hy | rfl | hy | rfl | hy
          · omega
          · exact (okPair_ne (g1.2.2 y (by simp [hy]))).2 hb
          · exact (okPair_ne (g1.2.2 y (by simp))).2 hb
          · exact (okPair_ne (g1.2.2 y (by simp [hy]))).2 hb
          · exact (okPair_ne (g2.2.2 y (by simp))).2 hb
          · exact (okPair_ne (g1.2.2 y (by simp [hy]))).2 hb
      obtain ⟨x, hx⟩ := this
      rw [hnil] at hx
      cases hx
    · obtain ⟨h1, h2, h3⟩ := ready_iff.1 hi
      obtain ⟨x, hx, rfl⟩ := (hL i h1).1 h2
      have hx' := hx
      simp only [List.mem_append, List.mem_cons] at hx'
      have hx'' : x ∈ q ∨ x = c ∨ x = al ∨ x ∈ l ++ r := by
        simp only [List.mem_append]
        rcases hx' with h | h | h | h | h <;> simp [h]
      rcases hx'' with hq | rfl | rfl | hr
      · obtain ⟨pre, post, rfl⟩ := List.append_of_mem hq
        have g1 := pairs1 (pre := pre) (x := x) (post := post ++ c :: (l ++ r)) (by simp)
        have g2 := pairs2 (pre := pre) (x := x) (post := post ++ (l ++ al :: r)) (by simp)
        have hne : ∀ y ∈ pre ++ (post ++ c :: (l ++ al :: r)), y.1 ≠ x.1 := by
          intro y hy
          simp only [List.mem_append, List.mem_cons] at hy
          rcases hy with hy | hy | rfl | hy | rfl | hy
          · exact (okPair_ne (g1.2.1 y hy)).1
          · exact (okPair_ne (g1.2.2 y (by simp [hy]))).1.symm
          · exact (okPair_ne (g1.2.2 y (by simp))).1.symm
          · exact (okPair_ne (g1.2.2 y (by simp [hy]))).1.symm
          · exact (okPair_ne (g2.2.2 y (by simp))).1.symm
          · exact (okPair_ne (g1.2.2 y (by simp [hy]))).1.symm
        obtain ⟨n1, n2, n3⟩ := listed_step hls h1 hne h3 (fun i hi => by rw [hL i hi]; simp) hdown
        refine any_stepH hT (hC x hx).2 g1.2.1 (fun y hy => hun y (by simp [hy])) hdown hi ⟨fun _ s1 s2 σ hs hh => ⟨WOx_ext hK hs hh.1, WOx_ext hK hs hh.2⟩, fun _ _ _ _ hs hh => ⟨WOx_sub hs hh.1, WOx_sub hs hh.2⟩⟩ hI hE hsz hdf hW _ fun rds' s' σ' m' w' a' hW' hI' hE' hsz' hdf' hX' hsame => ?_
        refine ih (pre ++ post) c al l r _ (by simp at hf ⊢; omega) n1 (fun y hy => hC y (by simp only [List.mem_append, List.mem_cons] at hy ⊢; rcases hy with (hy | hy) | hy <;> simp [hy])) (by simpa using g1.1) (by simpa using g2.1) hcq hca hcb (fun i hi => by rw [n2 i hi]; simp) n3 rds' σ' m' w' a' s' K hK hI' hE' hsz' hdf' hW'
          fun s'' σ'' m'' w'' a'' k1 k2 k3 k4 k5 k6 k7 => hk s'' σ'' m'' w'' a'' k1 k2 k3 k4 k5 (hX'.trans k6) fun n hn => ?_
        rw [k7 n fun y hy => hn y (by simp only [List.mem_append, List.mem_cons] at hy ⊢; rcases hy with (hy | hy) | hy <;> simp [hy]), hsame n (hn x hx)]
      · have hne : ∀ y ∈ q ++ (l ++ al :: r), y.1 ≠ x.1 := by
          intro y hy
          simp only [List.mem_append, List.mem_cons] at hy
          rcases hy with hy | hy | rfl | hy
          · exact (okPair_ne (hc.2.1 y hy)).1
          · exact (okPair_ne (hc.2.2 y (by simp [hy]))).1.symm
          · exact hca.symm
          · exact (okPair_ne (hc.2.2 y (by simp [hy]))).1.symm
        obtain ⟨n1, n2, n3⟩ := listed_step hls h1 hne h3 hL hdown
        have hW1 : WOx P rds ((q ++ x :: (l ++ al :: r)).map (·.2)) s σ K := by
          rw [List.map_append]
          exact WOxH_app (fun _ s σ h => by simpa using h.1) hW
        refine any_step hT (hC x hx).2 hc.2.1 (fun y hy => hun y (by simp [hy])) hdown hi hK hI hE hsz hdf hW1 _ fun rds' s' σ' m' w' a' hW' hI' hE' hsz' hdf' hX' hsame => ?_
        refine any_sound hT fuel (q ++ (l ++ al :: r)) _ (by simp at hf ⊢; omega) n1 (fun y hy => hC y (by simp only [List.mem_append, List.mem_cons] at hy ⊢; rcases hy with hy | hy | hy | hy <;> simp [hy])) hP2 n2 n3 rds' σ' m' w' a' s' K hK hI' hE' hsz' hdf' hW'
          fun s'' σ'' m'' w'' a'' k1 k2 k3 k4 k5 k6 k7 => hk s'' σ'' m'' w'' a'' k1 k2 k3 k4 k5 (hX'.trans k6) fun n hn => ?_
        rw [k7 n fun y hy => hn y (by simp only [List.mem_append, List.mem_cons] at hy ⊢; rcases hy with hy | hy | hy | hy <;> simp [hy]), hsame n (hn x hx)]
      · have hne : ∀ y ∈ (q ++ c :: l) ++ r, y.1 ≠ x.1 := by
          intro y hy
          simp only [List.mem_append, List.mem_cons] at hy
          rcases hy with (hy | rfl | hy) | hy
          · exact (okPair_ne (hal.2.1 y (by simp [hy]))).1
          · exact hca
          · exact (okPair_ne (hal.2.1 y (by simp [hy]))).1
          · exact (okPair_ne (hal.2.2 y hy)).1.symm
        obtain ⟨n1, n2, n3⟩ := listed_step (pre := q ++ c :: l) hls h1 hne h3 (fun i hi => by rw [hL i hi]; simp) hdown
        have hW1 : WOx P rds ((q ++ x :: (c :: (l ++ r))).map (·.2)) s σ K := by
          rw [List.map_append]
          exact WOxH_app (fun _ s σ h => by simpa using h.2) hW
        refine any_step hT (hC x hx).2 (fun y hy => hal.2.1 y (by simp [hy])) (fun y hy => hun y (by simp [hy])) hdown hi hK hI hE hsz hdf hW1 _ fun rds' s' σ' m' w' a' hW' hI' hE' hsz' hdf' hX' hsame => ?_
        refine any_sound hT fuel (q ++ c :: (l ++ r)) _ (by simp at hf ⊢; omega) n1 (fun y hy => hC y (by simp only [List.mem_append, List.mem_cons] at hy ⊢; rcases hy with hy | hy | hy | hy <;> simp [hy])) hP1 (fun i hi => by rw [n2 i hi]; simp) n3 rds' σ' m' w' a' s' K hK hI' hE' hsz' hdf' hW'
          fun s'' σ'' m'' w'' a'' k1 k2 k3 k4 k5 k6 k7 => hk s'' σ'' m'' w'' a'' k1 k2 k3 k4 k5 (hX'.trans k6) fun n hn => ?_
        rw [k7 n fun y hy => hn y (by simp only [List.mem_append, List.mem_cons] at hy ⊢; rcases hy with hy | hy | hy | hy <;> simp [hy]), hsame n (hn x hx)]
      · exfalso
        have h5 := hc.2.2 x hr
        simp only [okPair, Bool.and_eq_true, Bool.or_eq_true, Bool.not_eq_true', List.contains_iff_mem, hcq, Bool.false_eq_true, false_and, or_false] at h5
        exact hun c (by simp) (okT_reach hT (listed := fun j => listed.getD j false = true) hdown x.1 h1 h3 c.1 h5.2)
end
end Go.Abs
