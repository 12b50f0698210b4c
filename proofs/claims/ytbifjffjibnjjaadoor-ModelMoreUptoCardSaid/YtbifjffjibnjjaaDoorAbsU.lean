/-
  The laws by which 'simp' steps through a body: one operation after the other, nothing ahead of its turn. (Own work; seat-independent.)
-/
import Derived.Test.YtbifjffjibnjjaaDoorAbsT
set_option linter.unusedVariables false
set_option linter.unusedSimpArgs false
namespace Go.Abs
open Go

theorem get_app0 {α : Type} (l r : List α) : (l ++ r)[l.length]? = r[0]? := by rw [List.getElem?_append_right (Nat.le_refl _), Nat.sub_self]
theorem get_app {α : Type} (l r : List α) (k : Nat) : (l ++ r)[l.length + k]? = r[k]? := by rw [List.getElem?_append_right (Nat.le_add_right _ _), Nat.add_sub_cancel_left]
theorem set_app0 {α : Type} (l r : List α) (x : α) : (l ++ r).set l.length x = l ++ r.set 0 x := by rw [List.set_append_right _ _ (Nat.le_refl _), Nat.sub_self]
theorem set_app {α : Type} (l r : List α) (k : Nat) (x : α) : (l ++ r).set (l.length + k) x = l ++ r.set k x := by
  rw [List.set_append_right _ _ (Nat.le_add_right _ _), Nat.add_sub_cancel_left]
theorem get_c0 {α : Type} (a : α) (l : List α) : (a :: l)[0]? = some a := by simp
theorem get_c1 {α : Type} (a b : α) (l : List α) : (a :: b :: l)[1]? = some b := by simp
theorem get_c2 {α : Type} (a b c : α) (l : List α) : (a :: b :: c :: l)[2]? = some c := by simp
theorem get_c3 {α : Type} (a b c d : α) (l : List α) : (a :: b :: c :: d :: l)[3]? = some d := by simp
theorem get_c4 {α : Type} (a b c d e : α) (l : List α) : (a :: b :: c :: d :: e :: l)[4]? = some e := by simp
theorem get_c5 {α : Type} (a b c d e f : α) (l : List α) : (a :: b :: c :: d :: e :: f :: l)[5]? = some f := by simp
theorem get_c6 {α : Type} (a b c d e f g : α) (l : List α) : (a :: b :: c :: d :: e :: f :: g :: l)[6]? = some g := by simp
theorem get_c7 {α : Type} (a b c d e f g h : α) (l : List α) : (a :: b :: c :: d :: e :: f :: g :: h :: l)[7]? = some h := by simp
attribute [simp] get_c0 get_c1 get_c2 get_c3 get_c4 get_c5 get_c6 get_c7
attribute [simp] get_app0 get_app set_app0 set_app

/-- Two ways on; what follows waits for its turn. -/
def Br (p : Prop) (A C : Unit → Prop) : Prop := (p → A ()) ∧ (¬ p → C ())
theorem Br.mk {p : Prop} {A C : Unit → Prop} (h : p → A ()) (k : ¬ p → C ()) : Br p A C := ⟨h, k⟩
@[simp] theorem Br_true {A C : Unit → Prop} : Br True A C = A () := by simp [Br]
@[simp] theorem Br_not {p : Prop} {A C : Unit → Prop} : Br (¬ p) A C = Br p C A := by
  unfold Br
  apply propext
  constructor
  · rintro ⟨h, k⟩; exact ⟨fun hp => k (fun hn => hn hp), fun hn => h hn⟩
  · rintro ⟨h, k⟩; exact ⟨fun hn => k hn, fun hnn => h (Classical.byContradiction hnn)⟩
@[simp] theorem Br_bfalse {b : Bool} {A C : Unit → Prop} : Br (b = false) A C = Br (b = true) C A := by
  rw [← Br_not]
  simp
@[simp] theorem Br_false {A C : Unit → Prop} : Br False A C = C () := by simp [Br]

def TO (P : Program) (r : List RO) (s : List (Nat × D)) (σ : Sg) (K : List (Nat × D) → Sg → Prop) (_ : Unit) : Prop := WO P r s σ K
@[simp] theorem TO_go {P : Program} {r : List RO} {s : List (Nat × D)} {σ : Sg} {K : List (Nat × D) → Sg → Prop} {u : Unit} : TO P r s σ K u = WO P r s σ K := rfl
def TW (P : Program) (B : Sg) (x : X) (Q : XE → St → Prop) (st : St) (_ : Unit) : Prop := W P B x Q st
@[simp] theorem TW_go {P : Program} {B : Sg} {x : X} {Q : XE → St → Prop} {st : St} {u : Unit} : TW P B x Q st u = W P B x Q st := rfl
def KV (P : Program) (dst : Option Nat) (r : List RO) (s : List (Nat × D)) (σ : Sg) (K : List (Nat × D) → Sg → Prop) (v : V) : Prop := WO P r (push dst (.v v) s) σ K
@[simp] theorem KV_go {P : Program} {dst : Option Nat} {r : List RO} {s : List (Nat × D)} {σ : Sg} {K : List (Nat × D) → Sg → Prop} {v : V} : KV P dst r s σ K v = WO P r (push dst (.v v) s) σ K := rfl
def KD (P : Program) (dst : Option Nat) (r : List RO) (s : List (Nat × D)) (σ : Sg) (K : List (Nat × D) → Sg → Prop) (d : D) : Prop := WO P r (push dst d s) σ K
@[simp] theorem KD_go {P : Program} {dst : Option Nat} {r : List RO} {s : List (Nat × D)} {σ : Sg} {K : List (Nat × D) → Sg → Prop} {d : D} : KD P dst r s σ K d = WO P r (push dst d s) σ K := rfl
def KB (P : Program) (dst : Option Nat) (r : List RO) (s : List (Nat × D)) (σ : Sg) (K : List (Nat × D) → Sg → Prop) (cs : List D) : Prop := WO P r (push dst (mkAgg cs) s) σ K
@[simp] theorem KB_go {P : Program} {dst : Option Nat} {r : List RO} {s : List (Nat × D)} {σ : Sg} {K : List (Nat × D) → Sg → Prop} {cs : List D} : KB P dst r s σ K cs = WO P r (push dst (mkAgg cs) s) σ K := rfl
def KO (P : Program) (dst : Option Nat) (r : List RO) (s : List (Nat × D)) (K : List (Nat × D) → Sg → Prop) (d : D) (σ : Sg) : Prop := WO P r (push dst d s) σ K
@[simp] theorem KO_go {P : Program} {dst : Option Nat} {r : List RO} {s : List (Nat × D)} {σ : Sg} {K : List (Nat × D) → Sg → Prop} {d : D} : KO P dst r s K d σ = WO P r (push dst d s) σ K := rfl
def KReg (os : List Nat) (env : List (Nat × D)) (Q : XE → St → Prop) (s : List (Nat × D)) (σ : Sg) : Prop := Q .normal ⟨outs os s env, σ⟩
@[simp] theorem KReg_go {os : List Nat} {env : List (Nat × D)} {Q : XE → St → Prop} {s : List (Nat × D)} {σ : Sg} : KReg os env Q s σ = Q .normal ⟨outs os s env, σ⟩ := rfl
def KX' (P : Program) (σ : Sg) (b : Bool) (r : RO) (h : Hist) (h' : Hist) (rs : List (RO × Bool)) (K : List (Nat × D) → Sg → Prop) (s : List (Nat × D)) (σ' : Sg) : Prop := (b = true ∨ Keep σ σ' ∨ KeepOn (loose r.tmps h) σ σ') ∧ WOx P h' rs s σ' K
def KeepOr (σ σ' : Sg) (r : RO) (h : Hist) : Prop := Keep σ σ' ∨ KeepOn (loose r.tmps h) σ σ'
@[simp] theorem KX_true {P : Program} {σ : Sg} {r : RO} {h h' : Hist} {rs : List (RO × Bool)} {K : List (Nat × D) → Sg → Prop} {s : List (Nat × D)} {σ' : Sg} : KX' P σ true r h h' rs K s σ' = WOx P h' rs s σ' K := by simp [KX']
@[simp] theorem KX_false {P : Program} {σ : Sg} {r : RO} {h h' : Hist} {rs : List (RO × Bool)} {K : List (Nat × D) → Sg → Prop} {s : List (Nat × D)} {σ' : Sg} : KX' P σ false r h h' rs K s σ' = (KeepOr σ σ' r h ∧ WOx P h' rs s σ' K) := by simp [KX', KeepOr]
@[simp] theorem KeepOn_nil {σ σ' : Sg} : KeepOn [] σ σ' = True := eq_true fun o h => by simp at h
@[simp] theorem KeepOn_cons {r : Rd} {rds : List Rd} {σ σ' : Sg} : KeepOn (r :: rds) σ σ' = (r.ok σ σ' ∧ KeepOn rds σ σ') := by
  simp [KeepOn]
@[simp] theorem Rd_whole {o : Nat} {σ σ' : Sg} : Rd.ok ⟨o, none⟩ σ σ' = ∀ ob, σ.objs[o]? = some ob → σ'.objs[o]? = some ob := by
  simp [Rd.ok]
@[simp] theorem Rd_part {o off : Nat} {sh : Sh} {σ σ' : Sg} : Rd.ok ⟨o, some (sh, off)⟩ σ σ' = ∀ ob, σ.objs[o]? = some ob → σ'.objs[o]? = some ob ∨ ∃ cs cs', ob = .cells cs ∧ σ'.objs[o]? = some (.cells cs') ∧ KeepRd sh off cs cs' := rfl
attribute [simp] rdD rdL rdH AOp.reads KeepRd loose RO.feeds RO.tmps AOp.tmps E.tmps E.otmps
def KXH (P : Program) (σ : Sg) (b : Bool) (r : RO) (h : Hist) (h' : Hist) (rs : List (RO × Bool)) (K : Hist → List (Nat × D) → Sg → Prop) (s : List (Nat × D)) (σ' : Sg) : Prop := (b = true ∨ Keep σ σ' ∨ KeepOn (loose r.tmps h) σ σ') ∧ WOxH P h' rs s σ' K
@[simp] theorem KXH_true {P : Program} {σ : Sg} {r : RO} {h h' : Hist} {rs : List (RO × Bool)} {K : Hist → List (Nat × D) → Sg → Prop} {s : List (Nat × D)} {σ' : Sg} : KXH P σ true r h h' rs K s σ' = WOxH P h' rs s σ' K := by simp [KXH]
@[simp] theorem KXH_false {P : Program} {σ : Sg} {r : RO} {h h' : Hist} {rs : List (RO × Bool)} {K : Hist → List (Nat × D) → Sg → Prop} {s : List (Nat × D)} {σ' : Sg} : KXH P σ false r h h' rs K s σ' = (KeepOr σ σ' r h ∧ WOxH P h' rs s σ' K) := by simp [KXH, KeepOr]
@[simp] theorem WOxH_nil {P : Program} {h : Hist} {s : List (Nat × D)} {σ : Sg} {K : Hist → List (Nat × D) → Sg → Prop} : WOxH P h [] s σ K = K h s σ := rfl
@[simp] theorem WOxH_cons {P : Program} {h : Hist} {r : RO} {b : Bool} {rs : List (RO × Bool)} {s : List (Nat × D)} {σ : Sg} {K : Hist → List (Nat × D) → Sg → Prop} : WOxH P h ((r, b) :: rs) s σ K = WO P [r] s σ (KXH P σ b r h ((r, r.op.reads s) :: h) rs K) := rfl
def KAlt (P : Program) (A C : List (RO × Bool)) (K : List (Nat × D) → Sg → Prop) (h : Hist) (s : List (Nat × D)) (σ : Sg) : Prop := WOx P h A s σ K ∧ WOx P h C s σ K
@[simp] theorem KAlt_go {P : Program} {A C : List (RO × Bool)} {K : List (Nat × D) → Sg → Prop} {h : Hist} {s : List (Nat × D)} {σ : Sg} : KAlt P A C K h s σ = (WOx P h A s σ K ∧ WOx P h C s σ K) := rfl

def WGd (d : D) (want : Bool) (A C U : Unit → Prop) : Prop :=
  match d with
  | .v (.bool p) => Br (p = want) A C
  | .tup [] => U ()
  | _ => False
@[simp] theorem WGd_bool {p want : Bool} {A C U : Unit → Prop} : WGd (.v (.bool p)) want A C U = Br (p = want) A C := rfl
@[simp] theorem WGd_undef {want : Bool} {A C U : Unit → Prop} : WGd (.tup []) want A C U = U () := rfl
@[simp] theorem undef_eq : D.undef = .tup [] := rfl

section
variable {P : Program} {B : Sg}


@[simp] theorem W_skip {Q : XE → St → Prop} {st : St} : W P B .skip Q st = Q .normal st := rfl
@[simp] theorem W_ret {Q : XE → St → Prop} {st : St} : W P B .ret Q st = Q .ret st := rfl
@[simp] theorem W_exit {id : Nat} {Q : XE → St → Prop} {st : St} : W P B (.exit id) Q st = Q (.exit id) st := rfl
@[simp] theorem W_reg {os : List Nat} {ops : List RO} {Q : XE → St → Prop} {st : St} : W P B (.reg os ops) Q st = WO P ops st.env st.σ (KReg os st.env Q) := rfl

def QSeq (P : Program) (B : Sg) (b : X) (Q : XE → St → Prop) (e : XE) (st : St) : Prop := match e with | .normal => W P B b Q st | e => Q e st
@[simp] theorem QSeq_normal {b : X} {Q : XE → St → Prop} {st : St} : QSeq P B b Q .normal st = W P B b Q st := rfl
@[simp] theorem QSeq_ret {b : X} {Q : XE → St → Prop} {st : St} : QSeq P B b Q .ret st = Q .ret st := rfl
@[simp] theorem QSeq_exit {b : X} {Q : XE → St → Prop} {st : St} {id : Nat} : QSeq P B b Q (.exit id) st = Q (.exit id) st := rfl
@[simp] theorem W_seq {a b : X} {Q : XE → St → Prop} {st : St} : W P B (.seq a b) Q st = W P B a (QSeq P B b Q) st := rfl

def QBlk (id : Nat) (Q : XE → St → Prop) (e : XE) (st : St) : Prop := match e with | .exit j => if j = id then Q .normal st else Q (.exit j) st | e => Q e st
@[simp] theorem QBlk_normal {id : Nat} {Q : XE → St → Prop} {st : St} : QBlk id Q .normal st = Q .normal st := rfl
@[simp] theorem QBlk_ret {id : Nat} {Q : XE → St → Prop} {st : St} : QBlk id Q .ret st = Q .ret st := rfl
@[simp] theorem QBlk_exit_same {id : Nat} {Q : XE → St → Prop} {st : St} : QBlk id Q (.exit id) st = Q .normal st := by simp [QBlk]
theorem QBlk_exit {id j : Nat} {Q : XE → St → Prop} {st : St} (h : ¬ j = id) : QBlk id Q (.exit j) st = Q (.exit j) st := by simp [QBlk, h]
@[simp] theorem QBlk_exit' {id j : Nat} {Q : XE → St → Prop} {st : St} (h : (j == id) = false) : QBlk id Q (.exit j) st = Q (.exit j) st := QBlk_exit (by simpa using h)
@[simp] theorem W_block {id : Nat} {a : X} {Q : XE → St → Prop} {st : St} : W P B (.block id a) Q st = W P B a (QBlk id Q) st := rfl

def WCd (d : D) (A C : Unit → Prop) : Prop :=
  match d with
  | .v (.bool p) => Br (p = true) A C
  | _ => False
@[simp] theorem WCd_bool {p : Bool} {A C : Unit → Prop} : WCd (.v (.bool p)) A C = Br (p = true) A C := rfl
@[simp] theorem W_cond {c : E} {a b : X} {Q : XE → St → Prop} {st : St} : W P B (.cond c a b) Q st = WCd (ev st.env c) (TW P B a Q st) (TW P B b Q st) := by
  show (match ev st.env c with | .v (.bool p) => (p = true → W P B a Q st) ∧ (p = false → W P B b Q st) | _ => False) = _
  unfold WCd
  split <;> simp [Br, TW]

@[simp] theorem W_alt {os : List Nat} {q : List (RO × Bool)} {c al : RO × Bool} {l r : List (RO × Bool)} {Q : XE → St → Prop} {st : St} : W P B (.alt os q c al l r) Q st = WOxH P [] q st.env st.σ (KAlt P (c :: (l ++ al :: r)) (al :: c :: (l ++ r)) (KReg os st.env Q)) := rfl
@[simp] theorem W_any {os : List Nat} {ops : List (RO × Bool)} {Q : XE → St → Prop} {st : St} : W P B (.any os ops) Q st = WOx P [] ops st.env st.σ (KReg os st.env Q) := rfl
@[simp] theorem WOx_nil {rds : Hist} {s : List (Nat × D)} {σ : Sg} {K : List (Nat × D) → Sg → Prop} : WOx P rds [] s σ K = K s σ := rfl
@[simp] theorem WOx_cons {h : Hist} {r : RO} {b : Bool} {rs : List (RO × Bool)} {s : List (Nat × D)} {σ : Sg} {K : List (Nat × D) → Sg → Prop} : WOx P h ((r, b) :: rs) s σ K = WO P [r] s σ (KX' P σ b r h ((r, r.op.reads s) :: h) rs K) := rfl
@[simp] theorem KeepOr_same {σ : Sg} {r : RO} {h : Hist} : KeepOr σ σ r h = True := eq_true (.inl (.refl _))
@[simp] theorem KeepOr_toks {os : List Ob} {ts ts' : List Nat} {r : RO} {h : Hist} : KeepOr ⟨os, ts⟩ ⟨os, ts'⟩ r h = True := eq_true (.inl fun _ _ h => h)
@[simp] theorem KeepOr_more {os xs : List Ob} {ts ts' : List Nat} {r : RO} {h : Hist} : KeepOr ⟨os, ts⟩ ⟨os ++ xs, ts'⟩ r h = True :=
  eq_true (.inl fun o ob h => by
    dsimp only at h ⊢
    rw [List.getElem?_append_left (List.getElem?_eq_some_iff.1 h).1]; exact h)
@[simp low] theorem KeepOr_gen {σ σ' : Sg} {r : RO} {h : Hist} : KeepOr σ σ' r h = (Keep σ σ' ∨ KeepOn (loose r.tmps h) σ σ') := rfl
@[simp] theorem Keep_toks {os : List Ob} {ts ts' : List Nat} : Keep ⟨os, ts⟩ ⟨os, ts'⟩ = True := eq_true fun _ _ h => h
@[simp] theorem Keep_more {os xs : List Ob} {ts ts' : List Nat} : Keep ⟨os, ts⟩ ⟨os ++ xs, ts'⟩ = True :=
  eq_true fun o ob h => by
    have := (List.getElem?_eq_some_iff.1 h).1
    simp only at *
    rw [List.getElem?_append_left this]
    exact h
def KeepL (xs ys : List Ob) : Prop := ∀ (o : Nat) ob, xs[o]? = some ob → ys[o]? = some ob
@[simp] theorem KeepL_nil {ys : List Ob} : KeepL [] ys = True := eq_true fun o ob h => by simp at h
@[simp] theorem KeepL_cons {a : Ob} {xs ys : List Ob} : KeepL (a :: xs) (a :: ys) = KeepL xs ys :=
  propext ⟨fun h o ob e => by simpa using h (o + 1) ob (by simpa using e), fun h o ob e => by
    cases o with
    | zero => simpa using e
    | succ o => simpa using h o ob (by simpa using e)⟩
@[simp] theorem Keep_app {os xs ys : List Ob} {ts ts' : List Nat} : Keep ⟨os ++ xs, ts⟩ ⟨os ++ ys, ts'⟩ = KeepL xs ys :=
  propext ⟨fun h o ob e => by
    have := h (os.length + o) ob (by simp only; rw [List.getElem?_append_right (by omega)]; simpa using e)
    simp only at this
    rw [List.getElem?_append_right (by omega)] at this
    simpa using this, fun h o ob e => by
    simp only at e ⊢
    rcases Nat.lt_or_ge o os.length with hlt | hge
    · rw [List.getElem?_append_left hlt] at e ⊢; exact e
    · rw [List.getElem?_append_right hge] at e ⊢; exact h _ ob e⟩
@[simp] theorem Keep_toks1 {σ : Sg} {ts : List Nat} : Keep σ ⟨σ.objs, ts⟩ = True := eq_true fun _ _ h => h
@[simp] theorem Keep_more1 {σ : Sg} {xs : List Ob} {ts : List Nat} : Keep σ ⟨σ.objs ++ xs, ts⟩ = True :=
  eq_true fun o ob h => by
    have := (List.getElem?_eq_some_iff.1 h).1
    simp only at *
    rw [List.getElem?_append_left this]
    exact h
@[simp] theorem Keep_refl {σ : Sg} : Keep σ σ = True := eq_true (.refl σ)

/-- Once more round a loop. -/
def Again {α : Type} (B : Sg) (rank : α → Nat) (state : α → St) (I : α → Prop) (x : α) (st2 : St) : Prop := ∃ x', I x' ∧ rank x' < rank x ∧ Weak B st2 (state x')
def QLp {α : Type} (B : Sg) (rank : α → Nat) (state : α → St) (I : α → Prop) (x : α) (Q : XE → St → Prop) (e : XE) (st : St) : Prop := match e with | .normal => Again B rank state I x st | e => Q e st
section
variable {α : Type} {rank : α → Nat} {state : α → St} {I : α → Prop} {x : α} {Q : XE → St → Prop} {st : St}
@[simp] theorem QLp_normal : QLp B rank state I x Q .normal st = Again B rank state I x st := rfl
@[simp] theorem QLp_ret : QLp B rank state I x Q .ret st = Q .ret st := rfl
@[simp] theorem QLp_exit {id : Nat} : QLp B rank state I x Q (.exit id) st = Q (.exit id) st := rfl
end

/-- A loop: what is known at its head, told by a family of states with a rank that goes down. -/
theorem W_loop {α : Type} (x0 : α) (rank : α → Nat) (state : α → St) (I : α → Prop) {a : X} {Q : XE → St → Prop} {st : St} (h0 : Weak B st (state x0)) (hI : I x0)
    (step : ∀ x, I x → W P B a (QLp B rank state I x Q) (state x)) : W P B (.loop a) Q st := by
  refine ⟨fun n st' => ∃ x, I x ∧ st' = state x ∧ n = rank x, ⟨_, _, h0, x0, hI, rfl, rfl⟩, ?_⟩
  rintro n st' ⟨x, hx, rfl, rfl⟩
  have := step x hx
  refine cast ?_ this
  congr 1
  funext e st2
  cases e with
  | normal =>
    refine propext ⟨fun ⟨x', h1, h2, h3⟩ => ⟨_, _, h2, h3, x', h1, rfl, rfl⟩, fun ⟨n', st3, h1, h2, x', h3, h4, h5⟩ => ⟨x', h3, by omega, by rw [← h4]; exact h2⟩⟩
  | exit => rfl
  | ret => rfl

/-! ### Operations -/

@[simp] theorem WO_nil {s : List (Nat × D)} {σ : Sg} {K : List (Nat × D) → Sg → Prop} : WO P [] s σ K = K s σ := rfl

theorem WO_g {dst : Option Nat} {n : Nat} {want : Bool} {op : AOp} {r : List RO} {s : List (Nat × D)} {σ : Sg} {K : List (Nat × D) → Sg → Prop} :
    WO P (⟨dst, some (n, want), op⟩ :: r) s σ K = WGd (look s n) want (TO P (⟨dst, none, op⟩ :: r) ((n, .v (.bool want)) :: s) σ K) (TO P r (push dst .undef ((n, .v (.bool (!want))) :: s)) σ K) (TO P r (push dst .undef s) σ K) := by
  simp only [WO, WGd]
  generalize look s n = d
  cases d with
  | v x =>
    cases x with
    | bool p => cases p <;> cases want <;> simp [Br, TO, WO]
    | _ => rfl
  | tup ds => cases ds <;> rfl
  | _ => rfl
attribute [simp] WO_g

variable {dst : Option Nat} {r : List RO} {s : List (Nat × D)} {σ : Sg} {K : List (Nat × D) → Sg → Prop}
@[simp] theorem WO_mv {x : E} : WO P (⟨dst, none, .mv x⟩ :: r) s σ K = WO P r (push dst (ev s x) s) σ K := rfl
def WPk (c : D) (A C : Unit → Prop) : Prop := match c with | .v (.bool p) => Br (p = true) A C | _ => False
@[simp] theorem WPk_bool {p : Bool} {A C : Unit → Prop} : WPk (.v (.bool p)) A C = Br (p = true) A C := rfl
@[simp] theorem WO_pick {c a b : E} : WO P (⟨dst, none, .pick c a b⟩ :: r) s σ K = WPk (ev s c) (TO P r (push dst (ev s a) s) σ K) (TO P r (push dst (ev s b) s) σ K) := by
  show (match ev s c with | .v (.bool p) => (p = true → WO P r (push dst (ev s a) s) σ K) ∧ (p = false → WO P r (push dst (ev s b) s) σ K) | _ => False) = _
  unfold WPk
  split <;> simp [Br, TO]
@[simp] theorem WO_alloc {zs : List V} : WO P (⟨dst, none, .alloc zs⟩ :: r) s σ K = WO P r (push dst (.ptr σ.objs.length 0) s) (σ.add (.cells (zs.map .v))) K := rfl
@[simp] theorem WO_box {x : E} : WO P (⟨dst, none, .box x⟩ :: r) s σ K = ((ev s x).lies = true ∧ WO P r (push dst (.ptr σ.objs.length 0) s) (σ.add (.cells (ev s x).cells)) K) := rfl
def WSome {α : Type} (o : Option α) (K : α → Prop) : Prop := match o with | some x => K x | none => False
@[simp] theorem WSome_some {α : Type} {x : α} {K : α → Prop} : WSome (some x) K = K x := rfl
@[simp] theorem WO_build {zs : List V} {ps : List (Nat × Nat × E)} : WO P (⟨dst, none, .build zs ps⟩ :: r) s σ K =
    WSome (fillD (zs.map .v) (ps.map fun p => (p.1, p.2.1, ev s p.2.2))) (KB P dst r s σ K) := by
  show (match fillD (zs.map .v) (ps.map fun p => (p.1, p.2.1, ev s p.2.2)) with | some cs => WO P r (push dst (mkAgg cs) s) σ K | none => False) = _
  unfold WSome
  generalize fillD (zs.map .v) (ps.map fun p => (p.1, p.2.1, ev s p.2.2)) = o
  cases o <;> rfl
@[simp] theorem WO_mksl {sh : Sh} {xs : List E} : WO P (⟨dst, none, .mksl sh xs⟩ :: r) s σ K = WMksl sh (xs.map (ev s)) (KV P dst r s σ K) := rfl
@[simp] theorem WO_load {sh : Sh} {a : E} : WO P (⟨dst, none, .load sh a⟩ :: r) s σ K = WLoad sh (ev s a) σ (KD P dst r s σ K) := rfl
@[simp] theorem WO_store {n : Nat} {a x : E} : WO P (⟨dst, none, .store n a x⟩ :: r) s σ K = WStore n (ev s a) (ev s x) σ (KO P dst r s K) := rfl
@[simp] theorem WO_nilck {x : E} : WO P (⟨dst, none, .nilck x⟩ :: r) s σ K = WNil (ev s x) (KD P dst r s σ K) := rfl
@[simp] theorem WO_bin {op : BinOp} {k : EqK} {c : Bool} {x y : E} : WO P (⟨dst, none, .bin op k c x y⟩ :: r) s σ K = WBin P op k c (ev s x) (ev s y) (KV P dst r s σ K) := rfl
@[simp] theorem WO_un {op : UnOp} {x : E} : WO P (⟨dst, none, .un op x⟩ :: r) s σ K = WUn op (ev s x) (KV P dst r s σ K) := rfl
@[simp] theorem WO_conv {c : ConvK} {x : E} : WO P (⟨dst, none, .conv c x⟩ :: r) s σ K = WConv c (ev s x) (KV P dst r s σ K) := rfl
@[simp] theorem WO_mkif {t : Nat} {x : E} : WO P (⟨dst, none, .mkif t x⟩ :: r) s σ K = WO P r (push dst (mkIface t (ev s x)) s) σ K := rfl
@[simp] theorem WO_mkfn {f : Nat} {caps : List E} : WO P (⟨dst, none, .mkfn f caps⟩ :: r) s σ K = WO P r (push dst (match caps with | [] => .v (.fn f) | caps => .fn f (caps.map (ev s))) s) σ K := rfl
@[simp] theorem WO_slice {k : SlK} {x : E} {lo hi mx : Option E} : WO P (⟨dst, none, .slice k x lo hi mx⟩ :: r) s σ K =
    WSl k (ev s x) (lo.map (ev s)) (hi.map (ev s)) (mx.map (ev s)) (KD P dst r s σ K) := rfl
@[simp] theorem WO_faddr {off : Nat} {x : E} : WO P (⟨dst, none, .faddr off x⟩ :: r) s σ K = WFaddr off (ev s x) (KD P dst r s σ K) := rfl
@[simp] theorem WO_field {sh : Sh} {off : Nat} {x : E} : WO P (⟨dst, none, .field sh off x⟩ :: r) s σ K = WField sh off (ev s x) (KD P dst r s σ K) := rfl
@[simp] theorem WO_iaddr {sh : Sh} {x i : E} : WO P (⟨dst, none, .iaddr sh x i⟩ :: r) s σ K = WIaddr sh (ev s x) (ev s i) (KD P dst r s σ K) := rfl
@[simp] theorem WO_index {x i : E} : WO P (⟨dst, none, .index x i⟩ :: r) s σ K = WIndex (ev s x) (ev s i) (KV P dst r s σ K) := rfl
@[simp] theorem WO_extract {x : E} {i : Nat} : WO P (⟨dst, none, .extract x i⟩ :: r) s σ K = WExtract (ev s x) i (KD P dst r s σ K) := rfl
@[simp] theorem WO_len {k : LenK} {x : E} : WO P (⟨dst, none, .len k x⟩ :: r) s σ K = WLen k (ev s x) σ (KV P dst r s σ K) := rfl
@[simp] theorem WO_append {sh : Sh} {bytes : Nat} {a x : E} : WO P (⟨dst, none, .append sh bytes a x⟩ :: r) s σ K = WAppend sh bytes (ev s a) (ev s x) σ (KO P dst r s K) := rfl
@[simp] theorem WO_min {xs : List E} : WO P (⟨dst, none, .min xs⟩ :: r) s σ K = WMin (xs.map (ev s)) (KV P dst r s σ K) := rfl
def WCall (P : Program) (f : D) (args : List D) (σ : Sg) (R : D → Sg → Prop) : Prop :=
  match f with
  | .v (.fn g) => ACalls P g args σ R
  | .fn g caps => ACalls P g (args ++ caps) σ R
  | .bfn g d => ACalls P g (d :: args) σ R
  | _ => False
@[simp] theorem WCall_fn {g : Nat} {ds : List D} {R : D → Sg → Prop} : WCall P (.v (.fn g)) ds σ R = ACalls P g ds σ R := rfl
@[simp] theorem WCall_caps {g : Nat} {caps ds : List D} {R : D → Sg → Prop} : WCall P (.fn g caps) ds σ R = ACalls P g (ds ++ caps) σ R := rfl
@[simp] theorem WCall_bfn {g : Nat} {d : D} {ds : List D} {R : D → Sg → Prop} : WCall P (.bfn g d) ds σ R = ACalls P g (d :: ds) σ R := rfl
@[simp] theorem WX_sto {n : Nat} {a x : D} {ds : List D} {R : D → Sg → Prop} : WX (.sto n) (x :: a :: ds) σ R = WStore n a x σ R := rfl
@[simp] theorem WX_bind {g : Nat} {d : D} {R : D → Sg → Prop} : WX (.bind g) [d] σ R = R (.bfn g d) σ := rfl
@[simp] theorem WO_inv {name : String} {x : E} {args : List E} : WO P (⟨dst, none, .inv name x args⟩ :: r) s σ K = WInv P name (ev s x) (args.map (ev s)) σ (KO P dst r s K) := rfl
@[simp] theorem WInv_ptr {name : String} {t o off : Nat} {ds : List D} {R : D → Sg → Prop} : WInv P name (.iface t (.ptr o off)) ds σ R = ∃ g, MethP P t name g ∧ ACalls P g (.ptr o off :: ds) σ R := rfl
@[simp] theorem WInv_int {name : String} {t : Nat} {k : IntKind} {n : Int} {ds : List D} {R : D → Sg → Prop} : WInv P name (.v (.iface t (.int k n))) ds σ R = ∃ g, MethI P t name g ∧ ACalls P g (.v (.int k n) :: ds) σ R := rfl
@[simp] theorem WO_call {f : E} {args : List E} : WO P (⟨dst, none, .call f args⟩ :: r) s σ K = WCall P (ev s f) (args.map (ev s)) σ (KO P dst r s K) := by
  show (match ev s f with | .v (.fn g) => _ | .fn g caps => _ | .bfn g d => _ | _ => False) = _
  unfold WCall
  split <;> rfl
end

/-! ### Bits: not reckoned by 'simp' -/
def ishl (k : IntKind) (a b : Int) : Int := k.wrap (a * 2 ^ (min b.toNat k.bits))
def ishr (k : IntKind) (a b : Int) : Int := a.fdiv (2 ^ (min b.toNat k.bits))
def iand (k : IntKind) (a b : Int) : Int := k.wrap (BitVec.ofInt k.bits a &&& BitVec.ofInt k.bits b).toNat
def ior (k : IntKind) (a b : Int) : Int := k.wrap (BitVec.ofInt k.bits a ||| BitVec.ofInt k.bits b).toNat
def ixor (k : IntKind) (a b : Int) : Int := k.wrap (BitVec.ofInt k.bits a ^^^ BitVec.ofInt k.bits b).toNat
def inot (k : IntKind) (a : Int) : Int := k.wrap (BitVec.ofInt k.bits (if k.signed then -1 else k.max) ^^^ BitVec.ofInt k.bits a).toNat

/-! ### Nothing of what follows before its turn -/
section
variable {P : Program} {x x' y y' : D} {σ σ' : Sg}

variable {K : V → Prop} {k l : IntKind} {a b : Int}
@[simp] theorem WBin_int {op : BinOp} {q : EqK} {c : Bool} : WBin P op q c (.v (.int k a)) (.v (.int l b)) K = WInt op k a l b K := rfl
@[simp] theorem WBin_str {op : BinOp} {q : EqK} {c : Bool} {s t : List UInt8} : WBin P op q c (.v (.str s)) (.v (.str t)) K = WStr op s t K := rfl
@[simp] theorem WInt_add : WInt .add k a k b K = K (.int k (k.wrap (a + b))) := by simp [WInt]
@[simp] theorem WInt_sub : WInt .sub k a k b K = K (.int k (k.wrap (a - b))) := by simp [WInt]
@[simp] theorem WInt_mul : WInt .mul k a k b K = K (.int k (k.wrap (a * b))) := by simp [WInt]
@[simp] theorem WInt_quo : WInt .quo k a k b K = (b ≠ 0 ∧ K (.int k (k.wrap (a.tdiv b)))) := by simp [WInt]
@[simp] theorem WInt_rem : WInt .rem k a k b K = (b ≠ 0 ∧ K (.int k (a.tmod b))) := by simp [WInt]
@[simp] theorem WInt_eql : WInt .eql k a k b K = K (.bool (a == b)) := by simp [WInt]
@[simp] theorem WInt_neq : WInt .neq k a k b K = K (.bool (a != b)) := by simp [WInt]
@[simp] theorem WInt_lss : WInt .lss k a k b K = K (.bool (decide (a < b))) := by simp [WInt]
@[simp] theorem WInt_leq : WInt .leq k a k b K = K (.bool (decide (a ≤ b))) := by simp [WInt]
@[simp] theorem WInt_gtr : WInt .gtr k a k b K = K (.bool (decide (a > b))) := by simp [WInt]
@[simp] theorem WInt_geq : WInt .geq k a k b K = K (.bool (decide (a ≥ b))) := by simp [WInt]
@[simp] theorem WInt_shl : WInt .shl k a l b K = (0 ≤ b ∧ K (.int k (ishl k a b))) := rfl
@[simp] theorem WInt_shr : WInt .shr k a l b K = (0 ≤ b ∧ K (.int k (ishr k a b))) := rfl
@[simp] theorem WInt_and : WInt .and k a k b K = K (.int k (iand k a b)) := by simp [WInt, iand]
@[simp] theorem WInt_or : WInt .or k a k b K = K (.int k (ior k a b)) := by simp [WInt, ior]
@[simp] theorem WInt_xor : WInt .xor k a k b K = K (.int k (ixor k a b)) := by simp [WInt, ixor]
@[simp] theorem WUn_xor : WUn .xor (.v (.int k a)) K = K (.int k (inot k a)) := rfl
@[simp] theorem WUn_not {b : Bool} : WUn .not (.v (.bool b)) K = K (.bool (!b)) := rfl
@[simp] theorem WUn_neg : WUn .neg (.v (.int k a)) K = K (.int k (k.wrap (0 - a))) := rfl
@[simp] theorem WConv_int : WConv (.toInt l) (.v (.int k a)) K = K (.int l (l.wrap a)) := rfl
@[simp] theorem WConv_strs {s : List UInt8} : WConv .strs (.v (.str s)) K = K (.str s) := rfl
@[simp] theorem WConv_toBytes {s : List UInt8} : WConv .toBytes (.v (.str s)) K = (s.length ≤ maxLen ∧ K (.sl none false (bytesV s))) := rfl
end

section
variable {σ : Sg} {xs : List V} {n : Int} {k : IntKind} {sh : Sh}
@[simp] theorem WLoad_imm_same {x : V} {K : D → Prop} : WLoad sh (.imm sh x 0) σ K = K (.v x) := by simp [WLoad]
@[simp] theorem WLoad_imm_cell {n off : Nat} {x : V} {K : D → Prop} : WLoad none (.imm (some n) x off) σ K = WSome x.cells[off]? fun c => K (.v c) := by
  simp only [WLoad, WSome]
  rw [if_neg (by simp)]
  generalize x.cells[off]? = o
  cases o <;> rfl
def KVD (K : D → Prop) (v : V) : Prop := K (.v v)
@[simp] theorem KVD_go {K : D → Prop} {v : V} : KVD K v = K (.v v) := rfl
@[simp] theorem WSl_str {x : D} {lo hi mx : Option D} {K : D → Prop} : WSl .str x lo hi mx K = WSlice .str x lo hi mx (KVD K) := rfl
@[simp] theorem WSl_v {x : V} {lo hi mx : Option D} {K : D → Prop} : WSl (.sl sh) (.v x) lo hi mx K = WSlice (.sl sh) (.v x) lo hi mx (KVD K) := rfl
@[simp] theorem WSl_tsl {t : Nat} {sh' : Sh} {xs : List V} {lo hi mx : Option D} {K : D → Prop} : WSl (.sl sh) (.tsl t sh' xs) lo hi mx K = WSlice (.sl sh) (.tsl t sh' xs) lo hi mx (KVD K) := rfl
def WBdM (sh : Sh) (o off c : Nat) (b : Option (Int × Int × Option Int)) (K : D → Prop) : Prop := match b with
  | some (l, h, none) => 0 ≤ l ∧ l ≤ h ∧ h ≤ c ∧ K (.msl o (off + l.toNat * shn sh) (h - l).toNat sh (some (c - l.toNat)))
  | some (l, h, some m) => 0 ≤ l ∧ l ≤ h ∧ h ≤ m ∧ m ≤ c ∧ K (.msl o (off + l.toNat * shn sh) (h - l).toNat sh (some (m - l).toNat))
  | none => False
@[simp] theorem WSl_msl {o off len c : Nat} {lo hi mx : Option D} {K : D → Prop} : WSl (.sl sh) (.msl o off len sh (some c)) lo hi mx K = WBdM sh o off c (bounds len lo hi mx) K := by
  simp only [WSl, WSlM, WBdM, true_and]
  generalize bounds len lo hi mx = o
  rcases o with _ | ⟨l, h', _ | m⟩ <;> rfl
@[simp] theorem WBdM_two {o off c : Nat} {l h : Int} {K : D → Prop} : WBdM sh o off c (some (l, h, none)) K = (0 ≤ l ∧ l ≤ h ∧ h ≤ c ∧ K (.msl o (off + l.toNat * shn sh) (h - l).toNat sh (some (c - l.toNat)))) := rfl
@[simp] theorem WBdM_three {o off c : Nat} {l h m : Int} {K : D → Prop} : WBdM sh o off c (some (l, h, some m)) K = (0 ≤ l ∧ l ≤ h ∧ h ≤ m ∧ m ≤ c ∧ K (.msl o (off + l.toNat * shn sh) (h - l).toNat sh (some (m - l).toNat))) := rfl
def WBds (sh : Sh) (xs : List V) (o : Option (Int × Int × Option Int)) (K : V → Prop) : Prop := match o with
  | some (l, h, none) => 0 ≤ l ∧ l ≤ h ∧ h ≤ xs.length ∧ K (.sl sh false ((xs.take h.toNat).drop l.toNat))
  | some (l, h, some m) => 0 ≤ l ∧ l ≤ h ∧ h = m ∧ m ≤ xs.length ∧ K (.sl sh true ((xs.take h.toNat).drop l.toNat))
  | none => False
def WBdS (s : List UInt8) (o : Option (Int × Int × Option Int)) (K : V → Prop) : Prop := match o with
  | some (l, h, none) => 0 ≤ l ∧ l ≤ h ∧ h ≤ s.length ∧ K (.str ((s.take h.toNat).drop l.toNat))
  | _ => False
def WCells (ob : Option Ob) (K : List D → Prop) : Prop := match ob with | some (.cells cs) => K cs | _ => False
@[simp] theorem WCells_some {cs : List D} {K : List D → Prop} : WCells (some (.cells cs)) K = K cs := rfl
@[simp] theorem WLoad_ptr_cell {o off : Nat} {K : D → Prop} : WLoad none (.ptr o off) σ K = WCells σ.objs[o]? fun cs => WSome cs[off]? K := by
  simp only [WLoad, WCells]
  generalize σ.objs[o]? = ob
  rcases ob with _ | (cs | es | _) <;> try rfl
  dsimp only [WSome]
  generalize cs[off]? = c
  cases c <;> rfl
@[simp] theorem WLoad_ptr_row {o off n : Nat} {K : D → Prop} : WLoad (some n) (.ptr o off) σ K = WCells σ.objs[o]? fun cs => 0 < n ∧ off + n ≤ cs.length ∧ K (mkAgg ((cs.drop off).take n)) := by
  simp only [WLoad, WCells]
  generalize σ.objs[o]? = ob
  rcases ob with _ | (cs | es | _) <;> rfl
@[simp] theorem WStore_ptr {o off n : Nat} {x : D} {K : D → Sg → Prop} : WStore n (.ptr o off) x σ K =
    WCells σ.objs[o]? fun cs => x.lies = true ∧ x.cells.length = n ∧ 0 < n ∧ off + n ≤ cs.length ∧ K (.tup []) (σ.put o (.cells (putAt cs off x.cells))) := by
  simp only [WStore, WCells, D.undef]
  generalize σ.objs[o]? = ob
  rcases ob with _ | (cs | es | _) <;> rfl
@[simp] theorem WFaddr_ptr {o off p : Nat} {K : D → Prop} : WFaddr off (.ptr o p) K = K (.ptr o (p + off)) := rfl
@[simp] theorem WFaddr_imm {off p : Nat} {x : V} {K : D → Prop} : WFaddr off (.imm sh x p) K = K (.imm sh x (p + off)) := rfl
@[simp] theorem WIaddr_sl {f : Bool} {K : D → Prop} : WIaddr sh (.v (.sl sh f xs)) (.v (.int k n)) K = (0 ≤ n ∧ n < xs.length ∧ ∀ y, xs[n.toNat]? = some y → K (.imm sh y 0)) := by simp [WIaddr]
@[simp] theorem WIaddr_tsl {t : Nat} {K : D → Prop} : WIaddr sh (.tsl t sh xs) (.v (.int k n)) K = (0 ≤ n ∧ n < xs.length ∧ ∀ y, xs[n.toNat]? = some y → K (.imm sh y 0)) := by simp [WIaddr]
@[simp] theorem WIaddr_msl {o off len : Nat} {c : Option Nat} {K : D → Prop} : WIaddr sh (.msl o off len sh c) (.v (.int k n)) K = (0 ≤ n ∧ n < len ∧ K (.ptr o (off + n.toNat * shn sh))) := by simp [WIaddr]
@[simp] theorem WIndex_str {s : List UInt8} {K : V → Prop} : WIndex (.v (.str s)) (.v (.int k n)) K = (0 ≤ n ∧ n < s.length ∧ ∀ b, s[n.toNat]? = some b → K (.int .u8 b.toNat)) := rfl
@[simp] theorem WExtract_tup {ds : List D} {i : Nat} {K : D → Prop} : WExtract (.tup ds) i K = WSome ds[i]? K := by
  simp only [WExtract, WSome]
  generalize ds[i]? = o
  cases o <;> rfl
@[simp] theorem WLen_str {s : List UInt8} {K : V → Prop} : WLen .str (.v (.str s)) σ K = K (.int .i64 s.length) := rfl
@[simp] theorem WLen_snil {K : V → Prop} : WLen .sl (.v .snil) σ K = K (.int .i64 0) := rfl
@[simp] theorem WLen_sl {f : Bool} {K : V → Prop} : WLen .sl (.v (.sl sh f xs)) σ K = K (.int .i64 xs.length) := rfl
@[simp] theorem WLen_msl {o off len : Nat} {c : Option Nat} {K : V → Prop} : WLen .sl (.msl o off len sh c) σ K = K (.int .i64 len) := rfl
@[simp] theorem WLen_tsl {t : Nat} {K : V → Prop} : WLen .sl (.tsl t sh xs) σ K = K (.int .i64 xs.length) := rfl
@[simp] theorem WSlice_sl {f : Bool} {lo hi mx : Option D} {K : V → Prop} : WSlice (.sl sh) (.v (.sl sh f xs)) lo hi mx K = WBds sh xs (bounds xs.length lo hi mx) K := by
  simp only [WSlice, WBds, true_and]
  generalize bounds xs.length lo hi mx = o
  rcases o with _ | ⟨l, h', _ | m⟩ <;> rfl
@[simp] theorem WSlice_tsl {t : Nat} {lo hi mx : Option D} {K : V → Prop} : WSlice (.sl sh) (.tsl t sh xs) lo hi mx K = WBds sh xs (bounds xs.length lo hi mx) K := by
  simp only [WSlice, WBds, true_and]
  generalize bounds xs.length lo hi mx = o
  rcases o with _ | ⟨l, h', _ | m⟩ <;> rfl
@[simp] theorem WSlice_str {s : List UInt8} {lo hi mx : Option D} {K : V → Prop} : WSlice .str (.v (.str s)) lo hi mx K = WBdS s (bounds s.length lo hi mx) K := by
  simp only [WSlice, WBdS]
  generalize bounds s.length lo hi mx = o
  rcases o with _ | ⟨l, h', _ | m⟩ <;> rfl
def WBd0 (sh : Sh) (b : Option (Int × Int × Option Int)) (K : V → Prop) : Prop := match b with
  | some (l, h, q) => l = 0 ∧ h = 0 ∧ (q = none ∨ q = some 0) ∧ K (.sl sh true [])
  | none => False
@[simp] theorem WSlice_snil {lo hi mx : Option D} {K : V → Prop} : WSlice (.sl sh) (.v .snil) lo hi mx K = WBd0 sh (bounds 0 lo hi mx) K := by
  simp only [WSlice, WBd0]
  generalize bounds 0 lo hi mx = o
  rcases o with _ | ⟨l, h', q⟩ <;> rfl
@[simp] theorem WBd0_some {l h : Int} {q : Option Int} {K : V → Prop} : WBd0 sh (some (l, h, q)) K = (l = 0 ∧ h = 0 ∧ (q = none ∨ q = some 0) ∧ K (.sl sh true [])) := rfl
@[simp] theorem WBds_two {l h : Int} {K : V → Prop} : WBds sh xs (some (l, h, none)) K = (0 ≤ l ∧ l ≤ h ∧ h ≤ xs.length ∧ K (.sl sh false ((xs.take h.toNat).drop l.toNat))) := rfl
@[simp] theorem WBds_three {l h m : Int} {K : V → Prop} : WBds sh xs (some (l, h, some m)) K = (0 ≤ l ∧ l ≤ h ∧ h = m ∧ m ≤ xs.length ∧ K (.sl sh true ((xs.take h.toNat).drop l.toNat))) := rfl
@[simp] theorem WBdS_two {s : List UInt8} {l h : Int} {K : V → Prop} : WBdS s (some (l, h, none)) K = (0 ≤ l ∧ l ≤ h ∧ h ≤ s.length ∧ K (.str ((s.take h.toNat).drop l.toNat))) := rfl
@[simp] theorem WX_max {a b : Int} {σ : Sg} {K : D → Sg → Prop} : WX .max [.v (.int k a), .v (.int k b)] σ K = K (.v (.int k (if a < b then b else a))) σ := by simp [WX]
@[simp] theorem WMin_two {a b : Int} {K : V → Prop} : WMin [.v (.int k a), .v (.int k b)] K = K (.int k (if b < a then b else a)) := by simp [WMin]
@[simp] theorem WMksl_def {ds : List D} {K : V → Prop} : WMksl sh ds K = WSome (D.toVs ds) fun xs => (∀ x ∈ xs, x.shape = sh ∧ (x.cells.all V.one) = true) ∧ K (.sl sh true xs) := by
  simp only [WMksl, WSome]
  generalize D.toVs ds = o
  cases o <;> rfl
@[simp] theorem srcV_snil : srcV sh (.v .snil) = some [] := rfl
@[simp] theorem srcV_sl {f : Bool} : srcV sh (.v (.sl sh f xs)) = some xs := by simp [srcV]
@[simp] theorem srcV_tsl {t : Nat} : srcV sh (.tsl t sh xs) = some xs := by simp [srcV]
@[simp] theorem srcV_str {s : List UInt8} : srcV none (.v (.str s)) = some (bytesV s) := by simp [srcV]
@[simp] theorem srcM_v {x : V} : srcM σ sh (.v x) = srcV sh (.v x) := rfl
@[simp] theorem srcM_tsl {t : Nat} : srcM σ sh (.tsl t sh xs) = some xs := by simp [srcM, srcV]
def WSrcM (sh : Sh) (o off len : Nat) (σ : Sg) (K : List V → Prop) (_ : Unit) : Prop := WCells σ.objs[o]? fun cs => cs.length ≠ 0 ∧ off + len * shn sh ≤ cs.length ∧ WSome (allV ((cs.drop off).take (len * shn sh))) fun vs => K (rowsV sh len vs)
@[simp] theorem WSrcM_go {o off len : Nat} {K : List V → Prop} {u : Unit} : WSrcM sh o off len σ K u = WCells σ.objs[o]? fun cs => cs.length ≠ 0 ∧ off + len * shn sh ≤ cs.length ∧ WSome (allV ((cs.drop off).take (len * shn sh))) fun vs => K (rowsV sh len vs) := rfl
def WSrc0 (K : List V → Prop) (_ : Unit) : Prop := K []
@[simp] theorem WSrc0_go {K : List V → Prop} {u : Unit} : WSrc0 K u = K [] := rfl
@[simp] theorem srcM_msl {o off len : Nat} {c : Option Nat} {K : List V → Prop} : WSome (srcM σ sh (.msl o off len sh c)) K = Br (len = 0) (WSrc0 K) (WSrcM sh o off len σ K) := by
  by_cases hz : len = 0
  · subst hz
    simp [srcM, WSome, WSrc0]
  · have hb : ∀ A C : Unit → Prop, Br (len = 0) A C = C () := fun A C => by simp [Br, hz]
    rw [hb]
    simp only [srcM, WCells, if_neg hz, WSrcM]
    generalize σ.objs[o]? = ob
    rcases ob with _ | (cs | es | _) <;> try rfl
    dsimp only
    split
    · rename_i h
      obtain ⟨_, h1, h2, h3⟩ := h
      simp only [h2, h3, ne_eq, not_false_eq_true, true_and]
      generalize allV _ = q
      cases q <;> rfl
    · rename_i h
      simp only [true_and] at h
      refine propext ⟨fun h => h.elim, fun h' => h ⟨hz, h'.1, h'.2.1⟩⟩
@[simp] theorem WAppend_snil {b : Nat} {x : D} {K : D → Sg → Prop} : WAppend sh b (.v .snil) x σ K = WSome (srcM σ sh x) fun ys => ys.length * b ≤ 140737488355328 ∧ K (.tsl σ.toks.length sh ys) (σ.tadd ys.length) := by
  simp only [WAppend, WSome]
  generalize srcM σ sh x = o
  cases o <;> simp
@[simp] theorem WAppend_full {b : Nat} {x : D} {K : D → Sg → Prop} : WAppend sh b (.v (.sl sh true xs)) x σ K =
    WSome (srcM σ sh x) fun ys => (xs.length + ys.length) * b ≤ 140737488355328 ∧ K (.tsl σ.toks.length sh (xs ++ ys)) (σ.tadd (xs.length + ys.length)) := by
  simp only [WAppend, WSome]
  generalize srcM σ sh x = o
  cases o <;> simp
@[simp] theorem WAppend_tsl {b t : Nat} {x : D} {K : D → Sg → Prop} : WAppend sh b (.tsl t sh xs) x σ K =
    WSome (srcM σ sh x) fun ys => σ.toks[t]? = some xs.length ∧ (xs.length + ys.length) * b ≤ 140737488355328 ∧ K (.tsl t sh (xs ++ ys)) (σ.tput t (xs.length + ys.length)) := by
  simp only [WAppend, WSome]
  generalize srcM σ sh x = o
  cases o <;> simp

def TM0 (sh : Sh) (ys : List V) (σ : Sg) (K : D → Sg → Prop) (c : Nat) : Prop := ys.length ≤ c → c ≤ maxLen → K (.msl σ.objs.length 0 ys.length sh (some c)) (σ.add (.cells ((V.flat ys).map .v ++ List.replicate ((c - ys.length) * shn sh) .junk)))
@[simp] theorem TM0_go {ys : List V} {K : D → Sg → Prop} {c : Nat} : TM0 sh ys σ K c = (ys.length ≤ c → c ≤ maxLen → K (.msl σ.objs.length 0 ys.length sh (some c)) (σ.add (.cells ((V.flat ys).map .v ++ List.replicate ((c - ys.length) * shn sh) .junk)))) := rfl
/-- Without any, or with some. -/
def TMn (sh : Sh) (σ : Sg) (K : D → Sg → Prop) (_ : Unit) : Prop := K (.v (.sl sh true [])) σ
@[simp] theorem TMn_go {K : D → Sg → Prop} {u : Unit} : TMn sh σ K u = K (.v (.sl sh true [])) σ := rfl
def TMs (sh : Sh) (b : Nat) (ys : List V) (σ : Sg) (K : D → Sg → Prop) (_ : Unit) : Prop := ys.length * b ≤ 140737488355328 ∧ ∀ c : Nat, TM0 sh ys σ K c
@[simp] theorem TMs_go {b : Nat} {ys : List V} {K : D → Sg → Prop} {u : Unit} : TMs sh b ys σ K u = (ys.length * b ≤ 140737488355328 ∧ ∀ c : Nat, TM0 sh ys σ K c) := rfl
def WM0 (sh : Sh) (b : Nat) (σ : Sg) (K : D → Sg → Prop) (ys : List V) : Prop := Br (ys = []) (TMn sh σ K) (TMs sh b ys σ K)
@[simp] theorem WM0_go {b : Nat} {ys : List V} {K : D → Sg → Prop} : WM0 sh b σ K ys = Br (ys = []) (TMn sh σ K) (TMs sh b ys σ K) := rfl
@[simp] theorem WApmV_snil {b : Nat} {ys : List V} {K : D → Sg → Prop} : WApmV sh b (.v .snil) ys σ K = WM0 sh b σ K ys := rfl
@[simp] theorem WApmV_full {b : Nat} {ys : List V} {K : D → Sg → Prop} : WApmV sh b (.v (.sl sh true [])) ys σ K = WM0 sh b σ K ys := by simp only [WApmV, true_and]; rfl
@[simp] theorem WX_appm {b : Nat} {s x : D} {K : D → Sg → Prop} : WX (.appm sh b) [s, x] σ K = WSome (srcM σ sh x) fun ys => WApmV sh b s ys σ K := by
  simp only [WX, WApm, WSome]
  generalize srcM σ sh x = o
  cases o <;> rfl
@[simp] theorem WX_appz {b : Nat} {zs : List V} {s : D} {k : IntKind} {n : Int} {K : D → Sg → Prop} : WX (.appz sh b zs) [s, .v (.int k n)] σ K = (0 ≤ n ∧ n * b ≤ 140737488355328 ∧ WApmV sh b s (List.replicate n.toNat (zrow sh zs)) σ K) := rfl
@[simp] theorem WX_give {o len : Nat} {c : Option Nat} {K : D → Sg → Prop} : WX .give [.msl o 0 len none c] σ K = WGive o len σ K := rfl
@[simp] theorem WX_clear_snil {zs : List V} {K : D → Sg → Prop} : WX (.clear zs) [.v .snil] σ K = K (.tup []) σ := rfl
@[simp] theorem WX_clear_nil {zs : List V} {f : Bool} {K : D → Sg → Prop} : WX (.clear zs) [.v (.sl sh f [])] σ K = K (.tup []) σ := rfl
@[simp] theorem WX_clear_msl {zs : List V} {o off len : Nat} {c : Option Nat} {K : D → Sg → Prop} : WX (.clear zs) [.msl o off len sh c] σ K = WCells σ.objs[o]? fun cs =>
    zs.length = shn sh ∧ cs.length ≠ 0 ∧ off + len * shn sh ≤ cs.length ∧ K (.tup []) (σ.put o (.cells (putAt cs off ((zerosV zs len).map .v)))) := by
  simp only [WX, WClear, WCells]
  generalize σ.objs[o]? = ob
  rcases ob with _ | (cs | es | _) <;> rfl
def TR1 (sh : Sh) (o off len c : Nat) (ys : List V) (cs : List D) (σ : Sg) (K : D → Sg → Prop) (_ : Unit) : Prop :=
  off + (len + ys.length) * shn sh ≤ cs.length ∧ K (.msl o off (len + ys.length) sh (some c)) (σ.put o (.cells (putAt cs (off + len * shn sh) ((V.flat ys).map .v))))
@[simp] theorem TR1_go {o off len c : Nat} {ys : List V} {cs : List D} {K : D → Sg → Prop} {u : Unit} : TR1 sh o off len c ys cs σ K u =
  (off + (len + ys.length) * shn sh ≤ cs.length ∧ K (.msl o off (len + ys.length) sh (some c)) (σ.put o (.cells (putAt cs (off + len * shn sh) ((V.flat ys).map .v))))) := rfl
def TG1 (sh : Sh) (b off len : Nat) (ys : List V) (cs : List D) (σ : Sg) (K : D → Sg → Prop) (_ : Unit) : Prop :=
  off + len * shn sh ≤ cs.length ∧ (len + ys.length) * b ≤ 140737488355328 ∧ ∀ c' : Nat, len + ys.length ≤ c' → c' ≤ maxLen →
    K (.msl σ.objs.length 0 (len + ys.length) sh (some c')) (σ.add (.cells ((cs.drop off).take (len * shn sh) ++ ((V.flat ys).map .v ++ List.replicate ((c' - (len + ys.length)) * shn sh) .junk))))
@[simp] theorem TG1_go {b off len : Nat} {ys : List V} {cs : List D} {K : D → Sg → Prop} {u : Unit} : TG1 sh b off len ys cs σ K u =
  (off + len * shn sh ≤ cs.length ∧ (len + ys.length) * b ≤ 140737488355328 ∧ ∀ c' : Nat, len + ys.length ≤ c' → c' ≤ maxLen →
    K (.msl σ.objs.length 0 (len + ys.length) sh (some c')) (σ.add (.cells ((cs.drop off).take (len * shn sh) ++ ((V.flat ys).map .v ++ List.replicate ((c' - (len + ys.length)) * shn sh) .junk))))) := rfl
def WM1 (sh : Sh) (b o off len c : Nat) (σ : Sg) (K : D → Sg → Prop) (ys : List V) : Prop :=
  WCells σ.objs[o]? fun cs => Br (len + ys.length ≤ c) (TR1 sh o off len c ys cs σ K) (TG1 sh b off len ys cs σ K)
@[simp] theorem WM1_go {b o off len c : Nat} {ys : List V} {K : D → Sg → Prop} : WM1 sh b o off len c σ K ys =
  WCells σ.objs[o]? fun cs => Br (len + ys.length ≤ c) (TR1 sh o off len c ys cs σ K) (TG1 sh b off len ys cs σ K) := rfl
@[simp] theorem WApmV_msl {b o off len c : Nat} {ys : List V} {K : D → Sg → Prop} : WApmV sh b (.msl o off len sh (some c)) ys σ K = WM1 sh b o off len c σ K ys := by
  simp only [WApmV, true_and, WM1, WApm1, WCells]
  generalize σ.objs[o]? = ob
  rcases ob with _ | (cs | es | _) <;> rfl
/-! Rows whose cells may lead into memory. -/
def WS2 (x : Option (Nat × List D)) (K : Nat → List D → Prop) : Prop := match x with | none => False | some q => K q.1 q.2
@[simp] theorem WS2_some {n : Nat} {yd : List D} {K : Nat → List D → Prop} : WS2 (some (n, yd)) K = K n yd := rfl
@[simp] theorem srcD_snil : srcD σ sh (.v .snil) = some (0, []) := rfl
@[simp] theorem srcD_nil {f : Bool} : srcD σ sh (.v (.sl sh f [])) = some (0, []) := by simp [srcD]
def WSrcD (sh : Sh) (o off len : Nat) (σ : Sg) (K : Nat → List D → Prop) (_ : Unit) : Prop := WCells σ.objs[o]? fun cs => cs.length ≠ 0 ∧ off + len * shn sh ≤ cs.length ∧ K len ((cs.drop off).take (len * shn sh))
@[simp] theorem WSrcD_go {o off len : Nat} {K : Nat → List D → Prop} {u : Unit} : WSrcD sh o off len σ K u = WCells σ.objs[o]? fun cs => cs.length ≠ 0 ∧ off + len * shn sh ≤ cs.length ∧ K len ((cs.drop off).take (len * shn sh)) := rfl
def WSrcD0 (K : Nat → List D → Prop) (_ : Unit) : Prop := K 0 []
@[simp] theorem WSrcD0_go {K : Nat → List D → Prop} {u : Unit} : WSrcD0 K u = K 0 [] := rfl
@[simp] theorem srcD_msl {o off len : Nat} {c : Option Nat} {K : Nat → List D → Prop} : WS2 (srcD σ sh (.msl o off len sh c)) K = Br (len = 0) (WSrcD0 K) (WSrcD sh o off len σ K) := by
  by_cases hz : len = 0
  · subst hz
    simp [srcD, WS2, WSrcD0]
  · have hb : ∀ A C : Unit → Prop, Br (len = 0) A C = C () := fun A C => by simp [Br, hz]
    rw [hb]
    simp only [srcD, WCells, if_neg hz, WSrcD]
    generalize σ.objs[o]? = ob
    rcases ob with _ | (cs | es | _) <;> try rfl
    dsimp only
    rw [if_pos trivial]
    by_cases h : cs.length ≠ 0 ∧ off + len * shn sh ≤ cs.length
    · rw [if_pos h]
      exact propext ⟨fun h' => ⟨h.1, h.2, h'⟩, fun h' => h'.2.2⟩
    · rw [if_neg h]
      exact propext ⟨fun h' => h'.elim, fun h' => h ⟨h'.1, h'.2.1⟩⟩
@[simp] theorem WX_appd {b : Nat} {s x : D} {K : D → Sg → Prop} : WX (.appd sh b) [s, x] σ K = WS2 (srcD σ sh x) fun n yd => WApdV sh b s n yd σ K := by
  simp only [WX, WApd, WS2]
  generalize srcD σ sh x = o
  rcases o with _ | ⟨n, yd⟩ <;> rfl
def TD0 (sh : Sh) (n : Nat) (yd : List D) (σ : Sg) (K : D → Sg → Prop) (c : Nat) : Prop := n ≤ c → c ≤ maxLen → K (.msl σ.objs.length 0 n sh (some c)) (σ.add (.cells (yd ++ List.replicate ((c - n) * shn sh) .junk)))
@[simp] theorem TD0_go {n : Nat} {yd : List D} {K : D → Sg → Prop} {c : Nat} : TD0 sh n yd σ K c = (n ≤ c → c ≤ maxLen → K (.msl σ.objs.length 0 n sh (some c)) (σ.add (.cells (yd ++ List.replicate ((c - n) * shn sh) .junk)))) := rfl
def TDs (sh : Sh) (b n : Nat) (yd : List D) (σ : Sg) (K : D → Sg → Prop) (_ : Unit) : Prop := n * b ≤ 140737488355328 ∧ ∀ c : Nat, TD0 sh n yd σ K c
@[simp] theorem TDs_go {b n : Nat} {yd : List D} {K : D → Sg → Prop} {u : Unit} : TDs sh b n yd σ K u = (n * b ≤ 140737488355328 ∧ ∀ c : Nat, TD0 sh n yd σ K c) := rfl
@[simp] theorem WApdV_snil {b n : Nat} {yd : List D} {K : D → Sg → Prop} : WApdV sh b (.v .snil) n yd σ K = Br (n = 0) (TMn sh σ K) (TDs sh b n yd σ K) := rfl
@[simp] theorem WApdV_full {b n : Nat} {yd : List D} {K : D → Sg → Prop} : WApdV sh b (.v (.sl sh true [])) n yd σ K = Br (n = 0) (TMn sh σ K) (TDs sh b n yd σ K) := by simp only [WApdV, true_and]; rfl
def TDr (sh : Sh) (o off len c n : Nat) (yd cs : List D) (σ : Sg) (K : D → Sg → Prop) (_ : Unit) : Prop :=
  off + (len + n) * shn sh ≤ cs.length ∧ K (.msl o off (len + n) sh (some c)) (σ.put o (.cells (putAt cs (off + len * shn sh) yd)))
@[simp] theorem TDr_go {o off len c n : Nat} {yd cs : List D} {K : D → Sg → Prop} {u : Unit} : TDr sh o off len c n yd cs σ K u =
  (off + (len + n) * shn sh ≤ cs.length ∧ K (.msl o off (len + n) sh (some c)) (σ.put o (.cells (putAt cs (off + len * shn sh) yd)))) := rfl
def TDg (sh : Sh) (b off len n : Nat) (yd cs : List D) (σ : Sg) (K : D → Sg → Prop) (_ : Unit) : Prop :=
  off + len * shn sh ≤ cs.length ∧ (len + n) * b ≤ 140737488355328 ∧ ∀ c' : Nat, len + n ≤ c' → c' ≤ maxLen →
    K (.msl σ.objs.length 0 (len + n) sh (some c')) (σ.add (.cells ((cs.drop off).take (len * shn sh) ++ (yd ++ List.replicate ((c' - (len + n)) * shn sh) .junk))))
@[simp] theorem TDg_go {b off len n : Nat} {yd cs : List D} {K : D → Sg → Prop} {u : Unit} : TDg sh b off len n yd cs σ K u =
  (off + len * shn sh ≤ cs.length ∧ (len + n) * b ≤ 140737488355328 ∧ ∀ c' : Nat, len + n ≤ c' → c' ≤ maxLen →
    K (.msl σ.objs.length 0 (len + n) sh (some c')) (σ.add (.cells ((cs.drop off).take (len * shn sh) ++ (yd ++ List.replicate ((c' - (len + n)) * shn sh) .junk))))) := rfl
@[simp] theorem WApdV_msl {b o off len c n : Nat} {yd : List D} {K : D → Sg → Prop} : WApdV sh b (.msl o off len sh (some c)) n yd σ K =
    WCells σ.objs[o]? fun cs => Br (len + n ≤ c) (TDr sh o off len c n yd cs σ K) (TDg sh b off len n yd cs σ K) := by
  simp only [WApdV, true_and, WApd1, WCells]
  generalize σ.objs[o]? = ob
  rcases ob with _ | (cs | es | _) <;> rfl
@[simp] theorem WX_mksld {ds : List D} {K : D → Sg → Prop} : WX (.mksld sh) ds σ K = (ds ≠ [] ∧ (∀ d ∈ ds, d.lies = true ∧ d.cells.length = shn sh) ∧ K (.msl σ.objs.length 0 ds.length sh (some ds.length)) (σ.add (.cells (ds.flatMap D.cells)))) := rfl
def TV1 (sh : Sh) (zs : List V) (n c : Int) (σ : Sg) (K : D → Sg → Prop) (_ : Unit) : Prop := K (.msl σ.objs.length 0 n.toNat sh (some c.toNat)) (σ.add (.cells ((zerosV zs c.toNat).map .v)))
@[simp] theorem TV1_go {zs : List V} {n c : Int} {K : D → Sg → Prop} {u : Unit} : TV1 sh zs n c σ K u = K (.msl σ.objs.length 0 n.toNat sh (some c.toNat)) (σ.add (.cells ((zerosV zs c.toNat).map .v))) := rfl
@[simp] theorem WX_mkvec {b : Nat} {zs : List V} {k l : IntKind} {n c : Int} {K : D → Sg → Prop} : WX (.mkvec sh b zs) [.v (.int k n), .v (.int l c)] σ K =
    (0 ≤ n ∧ n ≤ c ∧ c * b ≤ 140737488355328 ∧ Br (c = 0) (TMn sh σ K) (TV1 sh zs n c σ K)) := rfl
def WMs (sh : Sh) (σ : Sg) (K : D → Sg → Prop) (v : V) : Prop := match v with
  | .sl _ _ xs => xs ≠ [] ∧ K (.msl σ.objs.length 0 xs.length sh (some xs.length)) (σ.add (.cells ((V.flat xs).map .v)))
  | _ => False
@[simp] theorem WMs_sl {f : Bool} {sh' : Sh} {xs : List V} {K : D → Sg → Prop} : WMs sh σ K (.sl sh' f xs) = (xs ≠ [] ∧ K (.msl σ.objs.length 0 xs.length sh (some xs.length)) (σ.add (.cells ((V.flat xs).map .v)))) := rfl
@[simp] theorem WX_mkslm {ds : List D} {K : D → Sg → Prop} : WX (.mkslm sh) ds σ K = WMksl sh ds (WMs sh σ K) := rfl
@[simp] theorem WX_copy {o off len : Nat} {c : Option Nat} {x : D} {K : D → Sg → Prop} : WX (.copy sh) [.msl o off len sh c, x] σ K = WSome (srcM σ sh x) fun ys => WCells σ.objs[o]? fun cs =>
    cs.length ≠ 0 ∧ ys.length ≤ len ∧ off + ys.length * shn sh ≤ cs.length ∧ K (.v (.int .i64 ys.length)) (σ.put o (.cells (putAt cs off ((V.flat ys).map .v)))) := by
  simp only [WX, WCopy, WSome]
  generalize srcM σ sh x = q
  cases q with
  | none => rfl
  | some ys =>
    dsimp only [WCells]
    generalize σ.objs[o]? = ob
    rcases ob with _ | (cs | es | _) <;> simp
@[simp] theorem WX_cap_snil {K : D → Sg → Prop} : WX .cap [.v .snil] σ K = K (.v (.int .i64 0)) σ := rfl
@[simp] theorem WX_cap_full {K : D → Sg → Prop} : WX .cap [.v (.sl sh true xs)] σ K = K (.v (.int .i64 xs.length)) σ := rfl
@[simp] theorem WX_cap_msl {o off len c : Nat} {K : D → Sg → Prop} : WX .cap [.msl o off len sh (some c)] σ K = K (.v (.int .i64 c)) σ := rfl
@[simp] theorem allV_map_v {xs : List V} : allV (xs.map .v) = some xs := by
  induction xs with
  | nil => rfl
  | cons x xs ih => simp only [List.map_cons, allV, ih]
@[simp] theorem rowsV_none {k : Nat} : rowsV none k xs = xs.take k := rfl
@[simp] theorem flat_str {l : List (List UInt8)} : V.flat (l.map .str) = l.map .str := by
  induction l with
  | nil => rfl
  | cons a l ih => simp only [List.map_cons, V.flat, List.flatMap_cons, V.cells] at ih ⊢; rw [ih]; rfl
@[simp] theorem flat_int {k : IntKind} {l : List Int} : V.flat (l.map (.int k)) = l.map (.int k) := by
  induction l with
  | nil => rfl
  | cons a l ih => simp only [List.map_cons, V.flat, List.flatMap_cons, V.cells] at ih ⊢; rw [ih]; rfl
@[simp] theorem flat_nil' : V.flat [] = [] := rfl
end

section
variable {P : Program} {c : Bool} {K : V → Prop}
attribute [simp] eqCells
def NB (K : V → Prop) (b : Bool) : Prop := K (.bool (!b))
@[simp] theorem NB_go {K : V → Prop} {b : Bool} : NB K b = K (.bool (!b)) := rfl
def PB (K : V → Prop) (b : Bool) : Prop := K (.bool b)
@[simp] theorem PB_go {K : V → Prop} {b : Bool} : PB K b = K (.bool b) := rfl
@[simp] theorem WBin_bool_eql {a b : Bool} : WBin P .eql .bool c (.v (.bool a)) (.v (.bool b)) K = K (.bool (a == b)) := by simp [WBin, WEq]
@[simp] theorem WBin_bool_neq {a b : Bool} : WBin P .neq .bool c (.v (.bool a)) (.v (.bool b)) K = K (.bool (!(a == b))) := by simp [WBin, WEq]
@[simp] theorem WBin_pp_eql : WBin P .eql .ptr c (.v .pnil) (.v .pnil) K = K (.bool true) := by simp [WBin, WEq]
@[simp] theorem WBin_pp_neq : WBin P .neq .ptr c (.v .pnil) (.v .pnil) K = K (.bool false) := by simp [WBin, WEq]
@[simp] theorem WBin_po_eql {o p : Nat} : WBin P .eql .ptr c (.v .pnil) (.ptr o p) K = K (.bool false) := by simp [WBin, WEq]
@[simp] theorem WBin_po_neq {o p : Nat} : WBin P .neq .ptr c (.v .pnil) (.ptr o p) K = K (.bool true) := by simp [WBin, WEq]
@[simp] theorem WBin_op_eql {o p : Nat} : WBin P .eql .ptr c (.ptr o p) (.v .pnil) K = K (.bool false) := by simp [WBin, WEq]
@[simp] theorem WBin_op_neq {o p : Nat} : WBin P .neq .ptr c (.ptr o p) (.v .pnil) K = K (.bool true) := by simp [WBin, WEq]
@[simp] theorem WBin_ip_eql {sh : Sh} {x : V} {p : Nat} : WBin P .eql .ptr c (.imm sh x p) (.v .pnil) K = K (.bool false) := by simp [WBin, WEq]
@[simp] theorem WBin_ip_neq {sh : Sh} {x : V} {p : Nat} : WBin P .neq .ptr c (.imm sh x p) (.v .pnil) K = K (.bool true) := by simp [WBin, WEq]
@[simp] theorem WBin_nn_eql : WBin P .eql .ifc true (.v .inil) (.v .inil) K = K (.bool true) := by simp [WBin, WEq]
@[simp] theorem WBin_nn_neq : WBin P .neq .ifc true (.v .inil) (.v .inil) K = K (.bool false) := by simp [WBin, WEq]
@[simp] theorem WBin_ni_eql {t : Nat} {x : V} : WBin P .eql .ifc c (.v .inil) (.v (.iface t x)) K = K (.bool false) := by simp [WBin, WEq]
@[simp] theorem WBin_ni_neq {t : Nat} {x : V} : WBin P .neq .ifc c (.v .inil) (.v (.iface t x)) K = K (.bool true) := by simp [WBin, WEq]
@[simp] theorem WBin_in_eql {t : Nat} {x : V} : WBin P .eql .ifc c (.v (.iface t x)) (.v .inil) K = K (.bool false) := by simp [WBin, WEq]
@[simp] theorem WBin_in_neq {t : Nat} {x : V} : WBin P .neq .ifc c (.v (.iface t x)) (.v .inil) K = K (.bool true) := by simp [WBin, WEq]
@[simp] theorem WBin_nd_eql {t : Nat} {x : D} : WBin P .eql .ifc c (.v .inil) (.iface t x) K = K (.bool false) := by simp [WBin, WEq]
@[simp] theorem WBin_nd_neq {t : Nat} {x : D} : WBin P .neq .ifc c (.v .inil) (.iface t x) K = K (.bool true) := by simp [WBin, WEq]
@[simp] theorem WBin_dn_eql {t : Nat} {x : D} : WBin P .eql .ifc c (.iface t x) (.v .inil) K = K (.bool false) := by simp [WBin, WEq]
@[simp] theorem WBin_dn_neq {t : Nat} {x : D} : WBin P .neq .ifc c (.iface t x) (.v .inil) K = K (.bool true) := by simp [WBin, WEq]
@[simp] theorem WBin_ii_eql {t : Nat} {p : IntKind} {a b : Int} : WBin P .eql .ifc c (.v (.iface t (.int p a))) (.v (.iface t (.int p b))) K = (intTy P t = true ∧ K (.bool (a == b))) := by simp [WBin, WEq]
@[simp] theorem WBin_ii_neq {t : Nat} {p : IntKind} {a b : Int} : WBin P .neq .ifc c (.v (.iface t (.int p a))) (.v (.iface t (.int p b))) K = (intTy P t = true ∧ K (.bool (!(a == b)))) := by simp [WBin, WEq]
@[simp] theorem WBin_ss_eql : WBin P .eql .sl c (.v .snil) (.v .snil) K = K (.bool true) := by simp [WBin, WEq]
@[simp] theorem WBin_ss_neq : WBin P .neq .sl c (.v .snil) (.v .snil) K = K (.bool false) := by simp [WBin, WEq]
@[simp] theorem WBin_ls_eql {sh : Sh} {f : Bool} {xs : List V} : WBin P .eql .sl c (.v (.sl sh f xs)) (.v .snil) K = ∀ b : Bool, (xs ≠ [] → b = false) → PB K b := by simp [WBin, WEq]
@[simp] theorem WBin_ls_neq {sh : Sh} {f : Bool} {xs : List V} : WBin P .neq .sl c (.v (.sl sh f xs)) (.v .snil) K = ∀ b : Bool, (xs ≠ [] → b = false) → NB K b := by simp [WBin, WEq]
@[simp] theorem WBin_ts_eql {t : Nat} {sh : Sh} {xs : List V} : WBin P .eql .sl c (.tsl t sh xs) (.v .snil) K = ∀ b : Bool, (xs ≠ [] → b = false) → PB K b := by simp [WBin, WEq]
@[simp] theorem WBin_ms_eql {o off len : Nat} {sh : Sh} {q : Option Nat} : WBin P .eql .sl c (.msl o off len sh q) (.v .snil) K = ∀ b : Bool, (len ≠ 0 → b = false) → PB K b := by simp [WBin, WEq]
@[simp] theorem WBin_ms_neq {o off len : Nat} {sh : Sh} {q : Option Nat} : WBin P .neq .sl c (.msl o off len sh q) (.v .snil) K = ∀ b : Bool, (len ≠ 0 → b = false) → NB K b := by simp [WBin, WEq]
@[simp] theorem low_msl {n k o off len : Nat} {sh : Sh} {q : Option Nat} : D.low n k (.msl o off len sh q) = (o < n) := rfl
@[simp] theorem WBin_ts_neq {t : Nat} {sh : Sh} {xs : List V} : WBin P .neq .sl c (.tsl t sh xs) (.v .snil) K = ∀ b : Bool, (xs ≠ [] → b = false) → NB K b := by simp [WBin, WEq]
@[simp] theorem WBin_agg_eql {ks : List SK} {as bs : List V} : WBin P .eql (.struct ks) c (.v (.agg as)) (.v (.agg bs)) K = WSome (eqCells ks as bs) (PB K) := by
  simp only [WBin, WEq, WSome]
  generalize eqCells ks as bs = o
  cases o <;> rfl
@[simp] theorem WBin_agg_neq {ks : List SK} {as bs : List V} : WBin P .neq (.struct ks) c (.v (.agg as)) (.v (.agg bs)) K = WSome (eqCells ks as bs) (NB K) := by
  simp only [WBin, WEq, WSome]
  generalize eqCells ks as bs = o
  cases o <;> rfl
@[simp] theorem WStr_add {s t : List UInt8} : WStr .add s t K = (s.length + t.length ≤ 9223372036854775807 ∧ K (.str (s ++ t))) := rfl
@[simp] theorem WStr_eql {s t : List UInt8} : WStr .eql s t K = K (.bool (s == t)) := rfl
@[simp] theorem WStr_neq {s t : List UInt8} : WStr .neq s t K = K (.bool (!(s == t))) := rfl
@[simp] theorem WStr_lss {s t : List UInt8} : WStr .lss s t K = K (.bool (Op.bytesLess s t)) := rfl
@[simp] theorem WStr_leq {s t : List UInt8} : WStr .leq s t K = K (.bool (Op.bytesLess s t || s == t)) := rfl
@[simp] theorem WStr_gtr {s t : List UInt8} : WStr .gtr s t K = K (.bool (!(Op.bytesLess s t || s == t))) := rfl
@[simp] theorem WStr_geq {s t : List UInt8} : WStr .geq s t K = K (.bool (!Op.bytesLess s t)) := rfl
@[simp] theorem WConv_rune {k : IntKind} {n : Int} : WConv .rune (.v (.int k n)) K = ((0 ≤ n ∧ n < 128) ∧ K (.str [UInt8.ofNat n.toNat])) := rfl
@[simp] theorem WConv_ofSnil : WConv .ofBytes (.v .snil) K = K (.str []) := rfl
@[simp] theorem WConv_ofBytes {sh : Sh} {f : Bool} {s : List UInt8} : WConv .ofBytes (.v (.sl sh f (bytesV s))) K = ∃ s', bytesV s = bytesV s' ∧ K (.str s') := rfl
@[simp] theorem WConv_ofTsl {t : Nat} {sh : Sh} {s : List UInt8} : WConv .ofBytes (.tsl t sh (bytesV s)) K = ∃ s', bytesV s = bytesV s' ∧ K (.str s') := rfl
section
variable {KD' : D → Prop}
@[simp] theorem WNil_ptr {o p : Nat} : WNil (.ptr o p) KD' = KD' (.ptr o p) := rfl
@[simp] theorem WNil_imm {sh : Sh} {x : V} {p : Nat} : WNil (.imm sh x p) KD' = KD' (.imm sh x p) := rfl
@[simp] theorem WNil_fn {f : Nat} {cs : List D} : WNil (.fn f cs) KD' = KD' (.fn f cs) := rfl
@[simp] theorem WNil_bfn {f : Nat} {d : D} : WNil (.bfn f d) KD' = KD' (.bfn f d) := rfl
@[simp] theorem WNil_vfn {f : Nat} : WNil (.v (.fn f)) KD' = KD' (.v (.fn f)) := rfl
@[simp] theorem WNil_if {t : Nat} {x : V} : WNil (.v (.iface t x)) KD' = KD' (.v (.iface t x)) := rfl
@[simp] theorem WNil_dif {t : Nat} {x : D} : WNil (.iface t x) KD' = KD' (.iface t x) := rfl
@[simp] theorem WField_cell {off : Nat} {cs : List V} : WField none off (.v (.agg cs)) KD' = WSome cs[off]? fun x => KD' (.v x) := by
  simp only [WField, WSome]
  generalize cs[off]? = o
  cases o <;> rfl
@[simp] theorem WField_row {off n : Nat} {cs : List V} : WField (some n) off (.v (.agg cs)) KD' = (off + n ≤ cs.length ∧ KD' (.v (.agg ((cs.drop off).take n)))) := rfl
@[simp] theorem WField_dcell {off : Nat} {cs : List D} : WField none off (.agg cs) KD' = WSome cs[off]? KD' := by
  simp only [WField, WSome]
  generalize cs[off]? = o
  cases o <;> rfl
@[simp] theorem WField_drow {off n : Nat} {cs : List D} : WField (some n) off (.agg cs) KD' = (off + n ≤ cs.length ∧ KD' (mkAgg ((cs.drop off).take n))) := rfl
theorem WLoad_imm_row {sh : Sh} {x : V} {off n : Nat} {σ : Sg} (h : ¬ (off = 0 ∧ some n = sh)) : WLoad (some n) (.imm sh x off) σ KD' = (off + n ≤ shn sh ∧ KD' (.v (.agg ((x.cells.drop off).take n)))) := by
  simp only [WLoad]
  rw [if_neg h]
@[simp] theorem WLoad_imm_row' {m : Nat} {x : V} {off n : Nat} {σ : Sg} (h : ¬ (off = 0 ∧ n = m)) : WLoad (some n) (.imm (some m) x off) σ KD' = (off + n ≤ m ∧ KD' (.v (.agg ((x.cells.drop off).take n)))) :=
  WLoad_imm_row (by simpa using h)
end
end

@[simp] theorem take_map_self {α β : Type} {f : α → β} {l : List α} : (l.map f).take l.length = l.map f := List.take_of_length_le (by simp)

/-! ### Bytes -/
@[simp] theorem bytesV_length {s : List UInt8} : (bytesV s).length = s.length := by simp [bytesV]
@[simp] theorem bytesV_drop {s : List UInt8} {n : Nat} : (bytesV s).drop n = bytesV (s.drop n) := by simp [bytesV]
@[simp] theorem bytesV_take {s : List UInt8} {n : Nat} : (bytesV s).take n = bytesV (s.take n) := by simp [bytesV]
@[simp] theorem bytesV_append {s t : List UInt8} : bytesV s ++ bytesV t = bytesV (s ++ t) := by simp [bytesV]
@[simp] theorem bytesV_snoc {s : List UInt8} {c : UInt8} : bytesV s ++ [V.int .u8 c.toNat] = bytesV (s ++ [c]) := by simp [bytesV]
@[simp] theorem bytesV_nil : bytesV [] = [] := rfl
theorem bytesV_inj {s t : List UInt8} (h : bytesV s = bytesV t) : s = t := by
  induction s generalizing t with
  | nil => cases t with
    | nil => rfl
    | cons b t => simp [bytesV] at h
  | cons a s ih =>
    cases t with
    | nil => simp [bytesV] at h
    | cons b t =>
      simp only [bytesV, List.map_cons, List.cons.injEq, V.int.injEq, true_and] at h
      rw [ih h.2]
      have := h.1
      congr 1
      exact UInt8.toNat_inj.1 (by omega)
@[simp] theorem bytesV_inj_iff {s t : List UInt8} : bytesV s = bytesV t ↔ s = t := ⟨bytesV_inj, fun h => h ▸ rfl⟩
@[simp] theorem bytesV_get_all {s : List UInt8} {i : Nat} {Q : V → Prop} : (∀ y, (bytesV s)[i]? = some y → Q y) ↔ ∀ c, s[i]? = some c → Q (.int .u8 c.toNat) := by
  simp only [bytesV, List.getElem?_map, Option.map_eq_some_iff]
  exact ⟨fun h c hc => h _ ⟨c, hc, rfl⟩, fun h y ⟨c, hc, he⟩ => he ▸ h c hc⟩

/-! ### Looking up -/
def lookM : Bool → D → List (Nat × D) → Nat → D
  | true, d, _, _ => d
  | false, _, r, n => look r n
@[simp] theorem look_nil {n : Nat} : look [] n = .junk := rfl
@[simp] theorem look_cons {k n : Nat} {d : D} {r : List (Nat × D)} : look ((k, d) :: r) n = lookM (k == n) d r n := by
  simp only [look]
  by_cases h : k = n
  · subst h; simp [lookM]
  · simp [h, lookM, beq_eq_false_iff_ne.2 h]
@[simp] theorem lookM_true {n : Nat} {d : D} {r : List (Nat × D)} : lookM true d r n = d := rfl
@[simp] theorem lookM_false {n : Nat} {d : D} {r : List (Nat × D)} : lookM false d r n = look r n := rfl
def updM : Bool → Nat → D → D → List (Nat × D) → Nat → List (Nat × D)
  | true, _, _, d, r, n => (n, d) :: r
  | false, k, x, d, r, n => (k, x) :: upd r n d
@[simp] theorem upd_nil {n : Nat} {d : D} : upd [] n d = [(n, d)] := rfl
@[simp] theorem upd_cons {k n : Nat} {x d : D} {r : List (Nat × D)} : upd ((k, x) :: r) n d = updM (k == n) k x d r n := by
  simp only [upd]
  by_cases h : k = n
  · subst h; simp [updM]
  · simp [h, updM, beq_eq_false_iff_ne.2 h]
@[simp] theorem updM_true {k n : Nat} {x d : D} {r : List (Nat × D)} : updM true k x d r n = (n, d) :: r := rfl
@[simp] theorem updM_false {k n : Nat} {x d : D} {r : List (Nat × D)} : updM false k x d r n = (k, x) :: upd r n d := rfl

/-! ### Maps -/
section
variable {P : Program} {dst : Option Nat} {r : List RO} {s : List (Nat × D)} {σ : Sg} {K : List (Nat × D) → Sg → Prop}
@[simp] theorem WO_xop {x : XOp} {xs : List E} : WO P (⟨dst, none, .ext x xs⟩ :: r) s σ K = WX x (xs.map (ev s)) σ (KO P dst r s K) := rfl
end
section
variable {σ : Sg} {K : D → Sg → Prop}
def WMap (ob : Option Ob) (K : List (V × D) → Prop) : Prop := match ob with | some (.map es) => K es | _ => False
@[simp] theorem WMap_some {es : List (V × D)} {K : List (V × D) → Prop} : WMap (some (.map es)) K = K es := rfl
@[simp] theorem WX_mkmap {ds : List D} : WX .mkmap ds σ K = K (.map σ.objs.length) (σ.add (.map [])) := rfl
@[simp] theorem WX_mput {kk : KK} {o : Nat} {k : V} {d : D} : WX (.mput kk) [.map o, .v k, d] σ K = WMap σ.objs[o]? fun es => keyOk kk k = true ∧ keysOk kk es = true ∧ K (.tup []) (σ.put o (.map (mset k d es))) := by
  simp only [WX, WMap]
  generalize σ.objs[o]? = ob
  rcases ob with _ | (cs | es | _) <;> rfl
attribute [simp] dense_is
@[simp] theorem WX_mdel {kk : KK} {o : Nat} {k : V} : WX (.mdel kk) [.map o, .v k] σ K = WMap σ.objs[o]? fun es => dense = false ∧ keyOk kk k = true ∧ keysOk kk es = true ∧ K (.tup []) (σ.put o (.map (merase k es))) := by
  simp only [WX, WMap]
  generalize σ.objs[o]? = ob
  rcases ob with _ | (cs | es | _) <;> rfl
def WIter (ob : Option Ob) (K0 : Prop) (K : Nat → Nat → List Nat → Prop) : Prop := match ob with
  | some (.iter none _ _) => K0
  | some (.iter (some o) since seen) => K o since seen
  | _ => False
@[simp] theorem WIter_none {since : Nat} {seen : List Nat} {K0 : Prop} {K : Nat → Nat → List Nat → Prop} : WIter (some (.iter none since seen)) K0 K = K0 := rfl
@[simp] theorem WIter_some {o since : Nat} {seen : List Nat} {K0 : Prop} {K : Nat → Nat → List Nat → Prop} : WIter (some (.iter (some o) since seen)) K0 K = K o since seen := rfl
@[simp] theorem WX_mrange_nil : WX .mrange [.v .mnil] σ K = K (.ptr σ.objs.length 0) (σ.add (.iter none 0 [])) := rfl
@[simp] theorem WX_mrange {o : Nat} : WX .mrange [.map o] σ K = WMap σ.objs[o]? fun es => dense = true ∧ K (.ptr σ.objs.length 0) (σ.add (.iter (some o) es.length [])) := by
  simp only [WX, WMap]
  generalize σ.objs[o]? = ob
  rcases ob with _ | (cs | es | _) <;> rfl
def WNx (i o since : Nat) (seen : List Nat) (σ : Sg) (K : D → Sg → Prop) (es : List (V × D)) : Prop :=
  dense = true ∧ es.length = since ∧ ((∀ j, j < es.length → j ∈ seen) → K (.tup [.v (.bool false)]) σ) ∧ ∀ (j : Nat) x, es[j]? = some x → j ∉ seen → K (.tup [.v (.bool true), .v x.1, x.2]) (σ.put i (.iter (some o) since (seen ++ [j])))
@[simp] theorem WX_mnext {i : Nat} : WX .mnext [.ptr i 0] σ K = WIter σ.objs[i]? (K (.tup [.v (.bool false)]) σ) fun o since seen => WMap σ.objs[o]? (WNx i o since seen σ K) := by
  simp only [WX, WIter]
  generalize hob : σ.objs[i]? = ob
  rcases ob with _ | (cs | es | ⟨_ | o, since, seen⟩) <;> rfl
def WEn (since : Nat) (seen : List Nat) (σ : Sg) (K : D → Sg → Prop) (es : List (V × D)) : Prop :=
  dense = true ∧ es.length = since ∧ ∃ pre j x, seen = pre ++ [j] ∧ es[j]? = some x ∧ K (.tup [.v x.1, x.2]) σ
@[simp] theorem WEn_snoc {since j : Nat} {pre : List Nat} {σ : Sg} {K : D → Sg → Prop} {es : List (V × D)} {x : V × D} (h : es[j]? = some x) : WEn since (pre ++ [j]) σ K es = (dense = true ∧ es.length = since ∧ K (.tup [.v x.1, x.2]) σ) := by
  simp only [WEn, eq_iff_iff]
  constructor
  · rintro ⟨h0, h1, p, i, y, h2, h3, h4⟩
    have := List.append_inj' h2 rfl
    obtain ⟨rfl, h5⟩ := this
    cases h5
    rw [h] at h3; cases h3
    exact ⟨h0, h1, h4⟩
  · rintro ⟨h0, h1, h2⟩
    exact ⟨h0, h1, pre, j, x, rfl, h, h2⟩
@[simp] theorem WX_mentry {i : Nat} : WX .mentry [.ptr i 0] σ K = WIter σ.objs[i]? False fun o since seen => WMap σ.objs[o]? (WEn since seen σ K) := by
  simp only [WX, WIter]
  generalize hob : σ.objs[i]? = ob
  rcases ob with _ | (cs | es | ⟨_ | o, since, seen⟩) <;> rfl
@[simp] theorem WX_mget {kk : KK} {ok : Bool} {z : V} {o : Nat} {k : V} : WX (.mget kk ok z) [.map o, .v k] σ K = WMap σ.objs[o]? fun es => keyOk kk k = true ∧ keysOk kk es = true ∧ K (mgot ok z (mfind k es)) σ := by
  simp only [WX, WMap]
  generalize σ.objs[o]? = ob
  rcases ob with _ | (cs | es | _) <;> rfl
@[simp] theorem WX_mget_fmap {kk : KK} {ok : Bool} {z k : V} {es : List (V × V)} {K : D → Sg → Prop} : WX (.mget kk ok z) [.v (.fmap es), .v k] σ K = (keyOk kk k = true ∧ keysOk kk (fmD es) = true ∧ K (mgot ok z (mfind k (fmD es))) σ) := rfl
@[simp] theorem WX_mget_nil {kk : KK} {ok : Bool} {z k : V} : WX (.mget kk ok z) [.v .mnil, .v k] σ K = (keyOk kk k = true ∧ K (mgot ok z none) σ) := rfl
@[simp] theorem mgot_ok {z : V} {r : Option D} : mgot true z r = .tup [r.getD (.v z), .v (.bool r.isSome)] := rfl
@[simp] theorem mgot_one {z : V} {r : Option D} : mgot false z r = r.getD (.v z) := rfl
@[simp] theorem keysOk_nil {kk : KK} : keysOk kk [] = true := rfl
@[simp] theorem keysOk_cons {kk : KK} {e : V × D} {es : List (V × D)} : keysOk kk (e :: es) = (keyOk kk e.1 && keysOk kk es) := rfl
@[simp] theorem mset_nil {x : V} {d : D} : mset x d [] = [(x, d)] := rfl
def msetM : Bool → V → D → V → D → List (V × D) → List (V × D)
  | true, x, d, _, _, r => (x, d) :: r
  | false, x, d, k, e, r => (k, e) :: mset x d r
@[simp] theorem mset_cons {x k : V} {d e : D} {r : List (V × D)} : mset x d ((k, e) :: r) = msetM (keq x k) x d k e r := by
  simp only [mset]
  by_cases h : keq x k = true
  · simp [h, msetM]
  · simp [h, msetM]
@[simp] theorem msetM_true {x k : V} {d e : D} {r : List (V × D)} : msetM true x d k e r = (x, d) :: r := rfl
@[simp] theorem msetM_false {x k : V} {d e : D} {r : List (V × D)} : msetM false x d k e r = (k, e) :: mset x d r := rfl
end
attribute [simp] keyOk keq
@[simp] theorem low_map {n k o : Nat} : D.low n k (.map o) = (o < n) := rfl

/-! ### What computes -/
attribute [simp] bounds loI hiI mxI asI
attribute [simp] ev push outs envOf Sg.add Sg.put Sg.tput Sg.tadd D.cells V.cells D.lies mkAgg allV mkIface fillD putAt V.shape V.one D.toV D.toVs rvD rvDs tupD shn

/-- The end of a function. -/
def PostV (B : Sg) (r : D) (σ : Sg) (R : D → Sg → Prop) : Prop := ∃ r' σ', WeakR B r σ r' σ' ∧ R r' σ'
theorem PostR_def {B : Sg} {res : List RV} {R : D → Sg → Prop} {st : St} : PostR B res R st = WSome (rvDs st.env st.σ res) fun ds => PostV B (tupD ds) st.σ R := by
  unfold PostR WSome PostV
  generalize rvDs st.env st.σ res = o
  cases o <;> rfl
@[simp] theorem Post_ret {B : Sg} {res : List RV} {R : D → Sg → Prop} {st : St} : Post B res R .ret st = WSome (rvDs st.env st.σ res) fun ds => PostV B (tupD ds) st.σ R := PostR_def
@[simp] theorem Post_normal {B : Sg} {res : List RV} {R : D → Sg → Prop} {st : St} : Post B res R .normal st = WSome (rvDs st.env st.σ res) fun ds => PostV B (tupD ds) st.σ R := PostR_def

theorem PostV.mk {B : Sg} {r : D} {R : D → Sg → Prop} (r' : D) {os : List Ob} {ts : List Nat} (h : R r' B) (hr : D.Le r r') (hb : r'.low B.objs.length B.toks.length) : PostV B r ⟨B.objs ++ os, B.toks ++ ts⟩ R :=
  ⟨r', B, WeakR.all hr hb, h⟩
theorem PostV.mkO {B : Sg} {r : D} {R : D → Sg → Prop} (r' : D) {os : List Ob} (h : R r' B) (hr : D.Le r r') (hb : r'.low B.objs.length B.toks.length) : PostV B r ⟨B.objs ++ os, B.toks⟩ R := by
  have := PostV.mk (ts := []) (os := os) r' h hr hb; simpa using this
theorem PostV.mkT {B : Sg} {r : D} {R : D → Sg → Prop} (r' : D) {ts : List Nat} (h : R r' B) (hr : D.Le r r') (hb : r'.low B.objs.length B.toks.length) : PostV B r ⟨B.objs, B.toks ++ ts⟩ R := by
  have := PostV.mk (ts := ts) (os := []) r' h hr hb; simpa using this
theorem PostV.mk0 {B : Sg} {r : D} {R : D → Sg → Prop} (r' : D) (h : R r' B) (hr : D.Le r r') (hb : r'.low B.objs.length B.toks.length) : PostV B r B R := by
  have := PostV.mk (ts := []) (os := []) r' h hr hb; simpa using this

theorem D.Le.tsl {t : Nat} {sh : Sh} {xs : List V} : D.Le (.tsl t sh xs) (.v (.sl sh false xs)) := by
  intro m w u h
  cases h with
  | tsl _ _ _ a len cap tk hv => exact .v _ _ hv
theorem D.Le.tup {ds ds' : List D} (hl : ds.length = ds'.length) (h : ∀ (i : Nat) d d', ds[i]? = some d → ds'[i]? = some d' → D.Le d d') : D.Le (.tup ds) (.tup ds') := by
  rintro m w u (_ | _)
  rename_i us hl' hr
  refine .tup _ _ (by omega) fun i d' u hd' hu => ?_
  have hlt : i < ds.length := by rw [hl]; exact (List.getElem?_eq_some_iff.1 hd').1
  exact h i ds[i] d' (List.getElem?_eq_getElem hlt) hd' m w u (hr i _ u (List.getElem?_eq_getElem hlt) hu)
theorem D.Le.tup2 {a b a' b' : D} (h : D.Le a a') (k : D.Le b b') : D.Le (.tup [a, b]) (.tup [a', b']) :=
  .tup rfl fun i d d' h1 h2 => by
    match i with
    | 0 => cases h1; cases h2; exact h
    | 1 => cases h1; cases h2; exact k
    | n + 2 => simp at h1
theorem D.Le.tup3 {a b c a' b' c' : D} (h : D.Le a a') (k : D.Le b b') (j : D.Le c c') : D.Le (.tup [a, b, c]) (.tup [a', b', c']) :=
  .tup rfl fun i d d' h1 h2 => by
    match i with
    | 0 => cases h1; cases h2; exact h
    | 1 => cases h1; cases h2; exact k
    | 2 => cases h1; cases h2; exact j
    | n + 3 => simp at h1

/-- The end of a function that leaves its caller's memory alone. -/
theorem PostV.fin {B : Sg} {r : D} {R : D → Sg → Prop} (r' : D) {σ : Sg} (h : R r' B) (hr : D.Le r r') (hb : r'.low B.objs.length B.toks.length := by simp) (ho : σ.objs = B.objs ++ σ.objs.drop B.objs.length := by simp)
    (ht : σ.toks = B.toks ++ σ.toks.drop B.toks.length := by simp) : PostV B r σ R := by
  obtain ⟨os, ts⟩ := σ
  dsimp only at ho ht
  rw [ho, ht]
  exact .mk r' h hr hb

@[simp] theorem low_v {n k : Nat} {x : V} : D.low n k (.v x) = True := rfl
@[simp] theorem low_tup {n k : Nat} {ds : List D} : D.low n k (.tup ds) = D.lows n k ds := rfl
@[simp] theorem lows_nil {n k : Nat} : D.lows n k [] = True := rfl
@[simp] theorem lows_cons {n k : Nat} {d : D} {ds : List D} : D.lows n k (d :: ds) = (D.low n k d ∧ D.lows n k ds) := rfl

/-- What the second environment tells the first tells too. -/
def EnvEq (env : List (Nat × D)) : List (Nat × D) → Prop
  | [] => True
  | (i, d) :: r => look env i = d ∧ EnvEq env r
def EnvLow (n k : Nat) : List (Nat × D) → Prop
  | [] => True
  | (_, d) :: r => D.low n k d ∧ EnvLow n k r

theorem EnvEq.spec {env : List (Nat × D)} : ∀ {env' : List (Nat × D)}, EnvEq env env' → ∀ i, look env' i = look env i ∨ look env' i = .junk
  | [], _, i => .inr rfl
  | (j, d) :: r, h, i => by
    simp only [look]
    by_cases hij : j = i
    · subst hij; rw [if_pos rfl]; exact .inl h.1.symm
    · rw [if_neg hij]; exact h.2.spec i

theorem EnvEq.of_look {env1 env2 : List (Nat × D)} : ∀ {env' : List (Nat × D)}, EnvEq env1 env' → (∀ n, look env1 n = look env2 n) → EnvEq env2 env'
  | [], _, _ => trivial
  | (i, d) :: r, h, l => ⟨by rw [← l]; exact h.1, h.2.of_look l⟩

theorem Weak.trans {B : Sg} {a b c : St} (h : Weak B a b) (k : Weak B b c) : Weak B a c :=
  ⟨fun n hn => k.1 n (h.1 n hn), fun m0 m w0 w tmps hB hX hI hE => by
    obtain ⟨m1, h1, h2, h3⟩ := h.2 m0 m w0 w tmps hB hX hI hE
    exact k.2 m0 m1 w0 w tmps hB h3 h1 h2⟩

theorem EnvEq.ok {n k : Nat} {env : List (Nat × D)} : ∀ {env' : List (Nat × D)}, EnvEq env env' → EnvLow n k env' → EnvOk n k env env'
  | [], _, _ => trivial
  | (i, d) :: r, h, l => ⟨by rw [h.1]; exact .refl _, l.1, fun e => by rw [← h.1]; exact e, h.2.ok l.2⟩

theorem Weak.eq {B : Sg} {env env' : List (Nat × D)} {σ : Sg} (h : EnvEq env env') : Weak B ⟨env, σ⟩ ⟨env', σ⟩ := by
  refine ⟨fun n hn => ?_, fun m0 m w0 w tmps hB hX hI hE => ⟨m, hI, fun n => ?_, hX⟩⟩
  · rcases h.spec n with e | e
    · exact e.trans hn
    · exact e
  · rcases h.spec n with e | e
    · rw [show look (St.mk env' σ).env n = look env' n from rfl, e]; exact hE n
    · rw [show look (St.mk env' σ).env n = look env' n from rfl, e]; exact .junk _

theorem Weak.eq2 {B : Sg} {env env' : List (Nat × D)} {σ σ' : Sg} (hσ : σ = σ') (h : EnvEq env env') : Weak B ⟨env, σ⟩ ⟨env', σ'⟩ := hσ ▸ .eq h

@[simp] theorem lows_map_v {n k : Nat} {xs : List V} : D.lows n k (xs.map .v) = True := by
  induction xs with
  | nil => rfl
  | cons x xs ih => simp only [List.map_cons, lows_cons, low_v, ih, true_and]
/-- New objects are forgotten. -/
theorem Weak.dropO {B : Sg} {env env' : List (Nat × D)} {xs : List Ob} {ts ts' : List Nat} (ht : ts = ts') (hts : B.toks.length ≤ ts'.length) (h : EnvEq env env') (l : EnvLow B.objs.length ts'.length env') : Weak B ⟨env, ⟨B.objs ++ xs, ts⟩⟩ ⟨env', ⟨B.objs, ts'⟩⟩ := by
  subst ht
  have := Weak.drop (B := B) (os := B.objs) (xs := xs) (ts := ts) (ts' := []) (Nat.le_refl _) hts (fun _ h => .inl h) (h.ok l)
  simpa using this
@[simp] theorem low_tsl {n k t : Nat} {sh : Sh} {xs : List V} : D.low n k (.tsl t sh xs) = (t < k) := rfl
@[simp] theorem low_ptr {n k o p : Nat} : D.low n k (.ptr o p) = (o < n) := rfl
@[simp] theorem low_imm {n k p : Nat} {sh : Sh} {x : V} : D.low n k (.imm sh x p) = True := rfl
@[simp] theorem low_junk {n k : Nat} : D.low n k .junk = True := rfl
@[simp] theorem low_agg {n k : Nat} {ds : List D} : D.low n k (.agg ds) = D.lows n k ds := rfl
@[simp] theorem low_iface {n k t : Nat} {d : D} : D.low n k (.iface t d) = D.low n k d := rfl
@[simp] theorem low_bfn {n k f : Nat} {d : D} : D.low n k (.bfn f d) = D.low n k d := rfl
@[simp] theorem low_fn {n k f : Nat} {ds : List D} : D.low n k (.fn f ds) = D.lows n k ds := rfl

/-- The last objects are forgotten; the function's own first ones are kept. -/
theorem Weak.dropX {B : Sg} {env env' : List (Nat × D)} {zs ys xs : List Ob} {ts ts' : List Nat} (hz : zs = ys ++ xs) (ht : ts = ts') (hts : B.toks.length ≤ ts'.length) (hlow : ∀ ob ∈ ys, ob.low (B.objs ++ ys).length ts'.length) (h : EnvEq env env')
    (l : EnvLow (B.objs ++ ys).length ts'.length env') : Weak B ⟨env, ⟨B.objs ++ zs, ts⟩⟩ ⟨env', ⟨B.objs ++ ys, ts'⟩⟩ := by
  subst ht hz
  have := Weak.drop (B := B) (os := B.objs ++ ys) (xs := xs) (ts := ts) (ts' := []) (by simp) hts (fun ob hob => (List.mem_append.1 hob).imp id (hlow ob)) (h.ok l)
  simpa using this
attribute [simp] Ob.low

/-- A slice that is nil, or whose room is full, may be appended to: it gets its place. -/
theorem Weak.tokF {B : Sg} {env env' : List (Nat × D)} {σ : Sg} {i : Nat} {sh : Sh} {xs : List V} (h : EnvEq ((i, .tsl σ.toks.length sh xs) :: env) env') (hi : look env i = .v (.sl sh true xs)) (hm : xs.length ≤ maxLen) :
    Weak B ⟨env, σ⟩ ⟨env', σ.tadd xs.length⟩ := by
  refine ⟨fun n hn => ?_, fun m0 m w0 w tmps hB hX hI hE => ?_⟩
  · rcases h.spec n with e | e
    · simp only [look] at e
      by_cases hin : i = n
      · subst hin; rw [show look (St.mk env σ).env i = look env i from rfl, hi] at hn; cases hn
      · rw [if_neg hin] at e; exact e.trans hn
    · exact e
  · obtain ⟨hI', hX'⟩ := hI.tadd sh xs.length hm
    refine ⟨_, hI', fun n => ?_, hX.trans hX'⟩
    show RepD _ w (look env' n) _
    rcases h.spec n with e | e
    · rw [e]
      simp only [look]
      by_cases hin : i = n
      · subst hin
        rw [if_pos rfl]
        have hr := hE i
        rw [show look (St.mk env σ).env i = look env i from rfl, hi] at hr
        generalize tmps.getD i undef = u at hr
        cases hr with
        | v _ _ hv =>
          obtain ⟨a, cap, rfl, _⟩ := hv.sl_inv
          have := hv.tokd hX'
          rw [show σ.toks.length = m.toks.length from hI.tok_len.symm]
          exact this
      · rw [if_neg hin]; exact (hE n).mono hX'
    · rw [e]; exact .junk _

theorem Weak.tok {B : Sg} {env env' : List (Nat × D)} {σ : Sg} {i : Nat} {sh : Sh} (h : EnvEq ((i, .tsl σ.toks.length sh []) :: env) env') (hi : look env i = .v .snil) : Weak B ⟨env, σ⟩ ⟨env', σ.tadd 0⟩ := by
  have key : Weak B ⟨env, σ⟩ ⟨upd env i (.v (.sl sh true [])), σ⟩ := by
    refine ⟨fun n hn => ?_, fun m0 m w0 w tmps hB hX hI hE => ⟨m, hI, fun n => ?_, hX⟩⟩
    · show look (upd env i _) n = _
      rw [look_upd]
      by_cases hin : n = i
      · subst hin; rw [show look (St.mk env σ).env n = look env n from rfl, hi] at hn; cases hn
      · rw [if_neg hin]; exact hn
    · show RepD m w (look (upd env i _) n) _
      rw [look_upd]
      by_cases hin : n = i
      · subst hin
        rw [if_pos rfl]
        have hr := hE n
        rw [show look (St.mk env σ).env n = look env n from rfl, hi] at hr
        generalize tmps.getD n undef = u at hr
        cases hr with
        | v _ _ hv => cases hv; exact .v _ _ (.slNil sh true _)
      · rw [if_neg hin]; exact hE n
  refine key.trans (Weak.tokF (i := i) (sh := sh) (xs := []) (h.of_look fun n => ?_) (by rw [look_upd, if_pos rfl]) (Nat.zero_le _))
  simp only [look]
  by_cases hin : i = n
  · rw [if_pos hin, if_pos hin]
  · rw [if_neg hin, if_neg hin, look_upd, if_neg (Ne.symm hin)]

theorem ACalls.args {P : Program} {f : Nat} {ds ds' : List D} {σ : Sg} {R : D → Sg → Prop} (h : ACalls P f ds' σ R) (hl : ds.length = ds'.length) (hd : ∀ (i : Nat) d d', ds[i]? = some d → ds'[i]? = some d' → D.Le d d') : ACalls P f ds σ R :=
  ⟨h.1, fun m w us hI hlen hr => h.2 m w us hI (by omega) fun i d' u hd' hu => by
    have hlt : i < ds.length := by rw [hl]; exact (List.getElem?_eq_some_iff.1 hd').1
    exact hd i ds[i] d' (List.getElem?_eq_getElem hlt) hd' m w u (hr i _ u (List.getElem?_eq_getElem hlt) hu)⟩
theorem ACalls.arg1 {P : Program} {f : Nat} {d d' : D} {σ : Sg} {R : D → Sg → Prop} (h : ACalls P f [d'] σ R) (hd : D.Le d d') : ACalls P f [d] σ R :=
  h.args rfl fun i a b h1 h2 => by
    match i with
    | 0 => cases h1; cases h2; exact hd
    | n + 1 => simp at h1
theorem ACalls.argA {P : Program} {f : Nat} {d d' e : D} {σ : Sg} {R : D → Sg → Prop} (h : ACalls P f [d', e] σ R) (hd : D.Le d d') : ACalls P f [d, e] σ R :=
  h.args rfl fun i a b h1 h2 => by
    match i with
    | 0 => cases h1; cases h2; exact hd
    | 1 => cases h1; cases h2; exact .refl _
    | n + 2 => simp at h1
theorem D.Le.lax {sh : Sh} {f : Bool} {xs : List V} : D.Le (.v (.sl sh f xs)) (.v (.sl sh false xs)) := by
  intro m w u h
  cases h with
  | v _ _ hv => exact .v _ _ hv.lax
theorem D.Le.snil {sh : Sh} {f : Bool} : D.Le (.v .snil) (.v (.sl sh f [])) := by
  intro m w u h
  cases h with
  | v _ _ hv => cases hv; exact .v _ _ (.slNil sh f _)

theorem ACalls.then {P : Program} {f : Nat} {ds : List D} {σ : Sg} {R : D → Sg → Prop} {T : D → Prop} (h : ACalls P f ds σ fun r σ' => T r ∧ σ' = σ) (k : ∀ r, T r → R r σ) : ACalls P f ds σ R :=
  h.mono fun r σ' ⟨h1, h2⟩ => by rw [h2]; exact k r h1

theorem ACalls.then2 {P : Program} {f : Nat} {ds : List D} {σ : Sg} {R : D → Sg → Prop} {T S : D → Prop} (h : ACalls P f ds σ fun r σ' => T r ∧ S r ∧ σ' = σ) (k : ∀ r, T r → S r → R r σ) : ACalls P f ds σ R :=
  h.mono fun r σ' ⟨h1, h2, h3⟩ => by rw [h3]; exact k r h1 h2

theorem WCall.mono {P : Program} {f : D} {ds : List D} {σ : Sg} {R R' : D → Sg → Prop} (h : WCall P f ds σ R) (k : ∀ r σ', R r σ' → R' r σ') : WCall P f ds σ R' := by
  unfold WCall at h ⊢
  split at h
  · exact ACalls.mono h k
  · exact ACalls.mono h k
  · exact ACalls.mono h k
  · exact h
theorem WCall.then {P : Program} {f : D} {ds : List D} {σ : Sg} {R : D → Sg → Prop} {T : D → Prop} (h : WCall P f ds σ fun r σ' => T r ∧ σ' = σ) (k : ∀ r, T r → R r σ) : WCall P f ds σ R :=
  h.mono fun r σ' ⟨h1, h2⟩ => by rw [h2]; exact k r h1

/-! ### What is known -/
attribute [simp] V.fits V.fitsL D.fits D.fitsL EnvEq EnvLow
@[simp] theorem inR_i64 {n : Int} : inR .i64 n ↔ -9223372036854775808 ≤ n ∧ n ≤ 9223372036854775807 := by simp [inR, IntKind.min, IntKind.max, IntKind.bits, IntKind.signed]
@[simp] theorem inR_u64 {n : Int} : inR .u64 n ↔ 0 ≤ n ∧ n ≤ 18446744073709551615 := by simp [inR, IntKind.min, IntKind.max, IntKind.bits, IntKind.signed]
@[simp] theorem inR_u8 {n : Int} : inR .u8 n ↔ 0 ≤ n ∧ n ≤ 255 := by simp [inR, IntKind.min, IntKind.max, IntKind.bits, IntKind.signed]
@[simp] theorem inR_i32 {n : Int} : inR .i32 n ↔ -2147483648 ≤ n ∧ n ≤ 2147483647 := by simp [inR, IntKind.min, IntKind.max, IntKind.bits, IntKind.signed]
@[simp] theorem maxLen_eq : maxLen = 9223372036854775807 := rfl
@[simp] theorem fitsL_map {α : Type} {f : α → V} {l : List α} : V.fitsL (l.map f) ↔ ∀ a ∈ l, (f a).fits := by simp [V.fitsL_iff]

/-! ### Integers -/
theorem wrap_i64 {n : Int} (h : -9223372036854775808 ≤ n) (k : n ≤ 9223372036854775807) : IntKind.wrap .i64 n = n := by
  unfold IntKind.wrap
  simp [IntKind.bits, IntKind.signed, IntKind.max, IntKind.min] at *
  try omega
theorem wrap_u64 {n : Int} (h : 0 ≤ n) (k : n < 18446744073709551616) : IntKind.wrap .u64 n = n := by
  unfold IntKind.wrap
  simp [IntKind.bits, IntKind.signed] at *
  try omega
theorem wrap_u8 {n : Int} (h : 0 ≤ n) (k : n < 256) : IntKind.wrap .u8 n = n := by
  unfold IntKind.wrap
  simp [IntKind.bits, IntKind.signed] at *
  try omega
attribute [simp] wrap_i64 wrap_u64 wrap_u8

end Go.Abs
