/-
  The laws by which 'simp' steps through a body: one operation after the other, nothing ahead of its turn. (Own work; seat-independent.)
-/
import Derived.Test.YtpdeaekmgljeaaaGreatDoorQ03
import Derived.Test.YtpdeaekmgljeaaaGreatDoorChecked
set_option linter.unusedVariables false
set_option linter.unusedSimpArgs false
namespace Go.Abs
open Go
theorem get_app0 {α : Type} (l r : List α) : (l ++ r)[l.length]? = r[0]? := by rw [List.getElem?_append_right (Nat.le_refl _), Nat.sub_self]
theorem get_app {α : Type} (l r : List α) (k : Nat) : (l ++ r)[l.length + k]? = r[k]? := by rw [List.getElem?_append_right (Nat.le_add_right _ _), Nat.add_sub_cancel_left]
theorem set_app0 {α : Type} (l r : List α) (x : α) : (l ++ r).set l.length x = l ++ r.set 0 x := by rw [List.set_append_right _ _ (Nat.le_refl _), Nat.sub_self]
theorem set_app {α : Type} (l r : List α) (k : Nat) (x : α) : (l ++ r).set (l.length + k) x = l ++ r.set k x := by
  rw [List.set_append_right _ _ (Nat.le_add_right _ _), Nat.add_sub_cancel_left]
theorem get_c0 {α : Type} (a : α) (l : List α) : (a :: l)[0]? = some a := by simp
theorem get_c1 {α : Type} (a b : α) (l : List α) : (a :: b :: l)[1]? = some b := by simp
theorem get_c2 {α : Type} (a b c : α) (l : List α) : (a :: b :: c :: l)[2]? = some c := by simp
theorem get_c3 {α : Type} (a b c d : α) (l : List α) : (a :: b :: c :: d :: l)[3]? = some d := by simp
theorem get_c4 {α : Type} (a b c d e : α) (l : List α) : (a :: b :: c :: d :: e :: l)[4]? = some e := by simp
theorem get_c5 {α : Type} (a b c d e f : α) (l : List α) : (a :: b :: c :: d :: e :: f :: l)[5]? = some f := by simp
theorem get_c6 {α : Type} (a b c d e f g : α) (l : List α) : (a :: b :: c :: d :: e :: f :: g :: l)[6]? = some g := by simp
theorem get_c7 {α : Type} (a b c d e f g h : α) (l : List α) : (a :: b :: c :: d :: e :: f :: g :: h :: l)[7]? = some h := by simp
attribute [simp] get_c0 get_c1 get_c2 get_c3 get_c4 get_c5 get_c6 get_c7
attribute [simp] get_app0 get_app set_app0 set_app
def Br (p : Prop) (A C : Unit → Prop) : Prop := (p → A ()) ∧ (¬ p → C ())
theorem Br.mk {p : Prop} {A C : Unit → Prop} (h : p → A ()) (k : ¬ p → C ()) : Br p A C := ⟨h, k⟩
@[simp] theorem Br_true {A C : Unit → Prop} : Br True A C = A () := by simp [Br]
@[simp] theorem Br_not {p : Prop} {A C : Unit → Prop} : Br (¬ p) A C = Br p C A := by
  unfold Br
  apply propext
  constructor
  · rintro ⟨h, k⟩; exact ⟨fun hp => k (fun hn => hn hp), fun hn => h hn⟩
  · rintro ⟨h, k⟩; exact ⟨fun hn => k hn, fun hnn => h (Classical.byContradiction hnn)⟩
@[simp] theorem Br_bfalse {b : Bool} {A C : Unit → Prop} : Br (b = false) A C = Br (b = true) C A := by
  rw [← Br_not]
  simp
@[simp] theorem Br_false {A C : Unit → Prop} : Br False A C = C () := by simp [Br]
def TO (P : Program) (r : List RO) (s : List (Nat × D)) (σ : Sg) (K : List (Nat × D) → Sg → Prop) (_ : Unit) : Prop := WO P r s σ K
@[simp] theorem TO_go {P : Program} {r : List RO} {s : List (Nat × D)} {σ : Sg} {K : List (Nat × D) → Sg → Prop} {u : Unit} : TO P r s σ K u = WO P r s σ K := rfl
def TW (P : Program) (B : Sg) (x : X) (Q : XE → St → Prop) (st : St) (_ : Unit) : Prop := W P B x Q st
@[simp] theorem TW_go {P : Program} {B : Sg} {x : X} {Q : XE → St → Prop} {st : St} {u : Unit} : TW P B x Q st u = W P B x Q st := rfl
def KV (P : Program) (dst : Option Nat) (r : List RO) (s : List (Nat × D)) (σ : Sg) (K : List (Nat × D) → Sg → Prop) (v : V) : Prop := WO P r (push dst (.v v) s) σ K
@[simp] theorem KV_go {P : Program} {dst : Option Nat} {r : List RO} {s : List (Nat × D)} {σ : Sg} {K : List (Nat × D) → Sg → Prop} {v : V} : KV P dst r s σ K v = WO P r (push dst (.v v) s) σ K := rfl
def KD (P : Program) (dst : Option Nat) (r : List RO) (s : List (Nat × D)) (σ : Sg) (K : List (Nat × D) → Sg → Prop) (d : D) : Prop := WO P r (push dst d s) σ K
@[simp] theorem KD_go {P : Program} {dst : Option Nat} {r : List RO} {s : List (Nat × D)} {σ : Sg} {K : List (Nat × D) → Sg → Prop} {d : D} : KD P dst r s σ K d = WO P r (push dst d s) σ K := rfl
def KB (P : Program) (dst : Option Nat) (r : List RO) (s : List (Nat × D)) (σ : Sg) (K : List (Nat × D) → Sg → Prop) (cs : List D) : Prop := WO P r (push dst (mkAgg cs) s) σ K
@[simp] theorem KB_go {P : Program} {dst : Option Nat} {r : List RO} {s : List (Nat × D)} {σ : Sg} {K : List (Nat × D) → Sg → Prop} {cs : List D} : KB P dst r s σ K cs = WO P r (push dst (mkAgg cs) s) σ K := rfl
def KO (P : Program) (dst : Option Nat) (r : List RO) (s : List (Nat × D)) (K : List (Nat × D) → Sg → Prop) (d : D) (σ : Sg) : Prop := WO P r (push dst d s) σ K
@[simp] theorem KO_go {P : Program} {dst : Option Nat} {r : List RO} {s : List (Nat × D)} {σ : Sg} {K : List (Nat × D) → Sg → Prop} {d : D} : KO P dst r s K d σ = WO P r (push dst d s) σ K := rfl
def KReg (os : List Nat) (env : List (Nat × D)) (Q : XE → St → Prop) (s : List (Nat × D)) (σ : Sg) : Prop := Q .normal ⟨outs os s env, σ⟩
@[simp] theorem KReg_go {os : List Nat} {env : List (Nat × D)} {Q : XE → St → Prop} {s : List (Nat × D)} {σ : Sg} : KReg os env Q s σ = Q .normal ⟨outs os s env, σ⟩ := rfl
def KX' (P : Program) (σ : Sg) (b : Bool) (r : RO) (h : Hist) (h' : Hist) (rs : List (RO × Bool)) (K : List (Nat × D) → Sg → Prop) (s : List (Nat × D)) (σ' : Sg) : Prop := (b = true ∨ Keep σ σ' ∨ KeepOn (loose r.tmps h) σ σ') ∧ WOx P h' rs s σ' K
def KeepOr (σ σ' : Sg) (r : RO) (h : Hist) : Prop := Keep σ σ' ∨ KeepOn (loose r.tmps h) σ σ'
@[simp] theorem KX_true {P : Program} {σ : Sg} {r : RO} {h h' : Hist} {rs : List (RO × Bool)} {K : List (Nat × D) → Sg → Prop} {s : List (Nat × D)} {σ' : Sg} : KX' P σ true r h h' rs K s σ' = WOx P h' rs s σ' K := by simp [KX']
@[simp] theorem KX_false {P : Program} {σ : Sg} {r : RO} {h h' : Hist} {rs : List (RO × Bool)} {K : List (Nat × D) → Sg → Prop} {s : List (Nat × D)} {σ' : Sg} : KX' P σ false r h h' rs K s σ' = (KeepOr σ σ' r h ∧ WOx P h' rs s σ' K) := by simp [KX', KeepOr]
@[simp] theorem KeepOn_nil {σ σ' : Sg} : KeepOn [] σ σ' = True := eq_true fun o h => by simp at h
@[simp] theorem KeepOn_cons {r : Rd} {rds : List Rd} {σ σ' : Sg} : KeepOn (r :: rds) σ σ' = (r.ok σ σ' ∧ KeepOn rds σ σ') := by
  simp [KeepOn]
@[simp] theorem Rd_whole {o : Nat} {σ σ' : Sg} : Rd.ok ⟨o, none⟩ σ σ' = ∀ ob, σ.objs[o]? = some ob → σ'.objs[o]? = some ob := by
  simp [Rd.ok]
@[simp] theorem Rd_part {o off : Nat} {sh : Sh} {σ σ' : Sg} : Rd.ok ⟨o, some (sh, off)⟩ σ σ' = ∀ ob, σ.objs[o]? = some ob → σ'.objs[o]? = some ob ∨ ∃ cs cs', ob = .cells cs ∧ σ'.objs[o]? = some (.cells cs') ∧ KeepRd sh off cs cs' := rfl
attribute [simp] rdD rdL rdH AOp.reads KeepRd loose RO.feeds RO.tmps AOp.tmps E.tmps E.otmps
def KXH (P : Program) (σ : Sg) (b : Bool) (r : RO) (h : Hist) (h' : Hist) (rs : List (RO × Bool)) (K : Hist → List (Nat × D) → Sg → Prop) (s : List (Nat × D)) (σ' : Sg) : Prop := (b = true ∨ Keep σ σ' ∨ KeepOn (loose r.tmps h) σ σ') ∧ WOxH P h' rs s σ' K
@[simp] theorem KXH_true {P : Program} {σ : Sg} {r : RO} {h h' : Hist} {rs : List (RO × Bool)} {K : Hist → List (Nat × D) → Sg → Prop} {s : List (Nat × D)} {σ' : Sg} : KXH P σ true r h h' rs K s σ' = WOxH P h' rs s σ' K := by simp [KXH]
@[simp] theorem KXH_false {P : Program} {σ : Sg} {r : RO} {h h' : Hist} {rs : List (RO × Bool)} {K : Hist → List (Nat × D) → Sg → Prop} {s : List (Nat × D)} {σ' : Sg} : KXH P σ false r h h' rs K s σ' = (KeepOr σ σ' r h ∧ WOxH P h' rs s σ' K) := by simp [KXH, KeepOr]
@[simp] theorem WOxH_nil {P : Program} {h : Hist} {s : List (Nat × D)} {σ : Sg} {K : Hist → List (Nat × D) → Sg → Prop} : WOxH P h [] s σ K = K h s σ := rfl
@[simp] theorem WOxH_cons {P : Program} {h : Hist} {r : RO} {b : Bool} {rs : List (RO × Bool)} {s : List (Nat × D)} {σ : Sg} {K : Hist → List (Nat × D) → Sg → Prop} : WOxH P h ((r, b) :: rs) s σ K = WO P [r] s σ (KXH P σ b r h ((r, r.op.reads s) :: h) rs K) := rfl
def KAlt (P : Program) (A C : List (RO × Bool)) (K : List (Nat × D) → Sg → Prop) (h : Hist) (s : List (Nat × D)) (σ : Sg) : Prop := WOx P h A s σ K ∧ WOx P h C s σ K
@[simp] theorem KAlt_go {P : Program} {A C : List (RO × Bool)} {K : List (Nat × D) → Sg → Prop} {h : Hist} {s : List (Nat × D)} {σ : Sg} : KAlt P A C K h s σ = (WOx P h A s σ K ∧ WOx P h C s σ K) := rfl
def WGd (d : D) (want : Bool) (A C U : Unit → Prop) : Prop :=
  match d with
  | .v (.bool p) => Br (p = want) A C
  | .tup [] => U ()
  | _ => False
@[simp] theorem WGd_bool {p want : Bool} {A C U : Unit → Prop} : WGd (.v (.bool p)) want A C U = Br (p = want) A C := rfl
@[simp] theorem WGd_undef {want : Bool} {A C U : Unit → Prop} : WGd (.tup []) want A C U = U () := rfl
@[simp] theorem undef_eq : D.undef = .tup [] := rfl
section
variable {P : Program} {B : Sg}
@[simp] theorem W_skip {Q : XE → St → Prop} {st : St} : W P B .skip Q st = Q .normal st := rfl
@[simp] theorem W_ret {Q : XE → St → Prop} {st : St} : W P B .ret Q st = Q .ret st := rfl
@[simp] theorem W_exit {id : Nat} {Q : XE → St → Prop} {st : St} : W P B (.exit id) Q st = Q (.exit id) st := rfl
@[simp] theorem W_reg {os : List Nat} {ops : List RO} {Q : XE → St → Prop} {st : St} : W P B (.reg os ops) Q st = WO P ops st.env st.σ (KReg os st.env Q) := rfl
def QSeq (P : Program) (B : Sg) (b : X) (Q : XE → St → Prop) (e : XE) (st : St) : Prop := match e with | .normal => W P B b Q st | e => Q e st
@[simp] theorem QSeq_normal {b : X} {Q : XE → St → Prop} {st : St} : QSeq P B b Q .normal st = W P B b Q st := rfl
@[simp] theorem QSeq_ret {b : X} {Q : XE → St → Prop} {st : St} : QSeq P B b Q .ret st = Q .ret st := rfl
@[simp] theorem QSeq_exit {b : X} {Q : XE → St → Prop} {st : St} {id : Nat} : QSeq P B b Q (.exit id) st = Q (.exit id) st := rfl
@[simp] theorem W_seq {a b : X} {Q : XE → St → Prop} {st : St} : W P B (.seq a b) Q st = W P B a (QSeq P B b Q) st := rfl
def QBlk (id : Nat) (Q : XE → St → Prop) (e : XE) (st : St) : Prop := match e with | .exit j => if j = id then Q .normal st else Q (.exit j) st | e => Q e st
@[simp] theorem QBlk_normal {id : Nat} {Q : XE → St → Prop} {st : St} : QBlk id Q .normal st = Q .normal st := rfl
@[simp] theorem QBlk_ret {id : Nat} {Q : XE → St → Prop} {st : St} : QBlk id Q .ret st = Q .ret st := rfl
@[simp] theorem QBlk_exit_same {id : Nat} {Q : XE → St → Prop} {st : St} : QBlk id Q (.exit id) st = Q .normal st := by simp [QBlk]
theorem QBlk_exit {id j : Nat} {Q : XE → St → Prop} {st : St} (h : ¬ j = id) : QBlk id Q (.exit j) st = Q (.exit j) st := by simp [QBlk, h]
@[simp] theorem QBlk_exit' {id j : Nat} {Q : XE → St → Prop} {st : St} (h : (j == id) = false) : QBlk id Q (.exit j) st = Q (.exit j) st := QBlk_exit (by simpa using h)
@[simp] theorem W_block {id : Nat} {a : X} {Q : XE → St → Prop} {st : St} : W P B (.block id a) Q st = W P B a (QBlk id Q) st := rfl
def WCd (d : D) (A C : Unit → Prop) : Prop :=
  match d with
  | .v (.bool p) => Br (p = true) A C
  | _ => False
@[simp] theorem WCd_bool {p : Bool} {A C : Unit → Prop} : WCd (.v (.bool p)) A C = Br (p = true) A C := rfl
@[simp] theorem W_cond {c : E} {a b : X} {Q : XE → St → Prop} {st : St} : W P B (.cond c a b) Q st = WCd (ev st.env c) (TW P B a Q st) (TW P B b Q st) := by
  show (match ev st.env c with | .v (.bool p) => (p = true → W P B a Q st) ∧ (p = false → W P B b Q st) | _ => False) = _
  unfold WCd
  split <;> simp [Br, TW]
@[simp] theorem W_alt {os : List Nat} {q : List (RO × Bool)} {c al : RO × Bool} {l r : List (RO × Bool)} {Q : XE → St → Prop} {st : St} : W P B (.alt os q c al l r) Q st = WOxH P [] q st.env st.σ (KAlt P (c :: (l ++ al :: r)) (al :: c :: (l ++ r)) (KReg os st.env Q)) := rfl
@[simp] theorem W_any {os : List Nat} {ops : List (RO × Bool)} {Q : XE → St → Prop} {st : St} : W P B (.any os ops) Q st = WOx P [] ops st.env st.σ (KReg os st.env Q) := rfl
@[simp] theorem WOx_nil {rds : Hist} {s : List (Nat × D)} {σ : Sg} {K : List (Nat × D) → Sg → Prop} : WOx P rds [] s σ K = K s σ := rfl
@[simp] theorem WOx_cons {h : Hist} {r : RO} {b : Bool} {rs : List (RO × Bool)} {s : List (Nat × D)} {σ : Sg} {K : List (Nat × D) → Sg → Prop} : WOx P h ((r, b) :: rs) s σ K = WO P [r] s σ (KX' P σ b r h ((r, r.op.reads s) :: h) rs K) := rfl
@[simp] theorem KeepOr_same {σ : Sg} {r : RO} {h : Hist} : KeepOr σ σ r h = True := eq_true (.inl (.refl _))
@[simp] theorem KeepOr_toks {os : List Ob} {ts ts' : List Nat} {r : RO} {h : Hist} : KeepOr ⟨os, ts⟩ ⟨os, ts'⟩ r h = True := eq_true (.inl fun _ _ h => h)
@[simp] theorem KeepOr_more {os xs : List Ob} {ts ts' : List Nat} {r : RO} {h : Hist} : KeepOr ⟨os, ts⟩ ⟨os ++ xs, ts'⟩ r h = True :=
  eq_true (.inl fun o ob h => by
    dsimp only at h ⊢
    rw [List.getElem?_append_left (List.getElem?_eq_some_iff.1 h).1]; exact h)
@[simp low] theorem KeepOr_gen {σ σ' : Sg} {r : RO} {h : Hist} : KeepOr σ σ' r h = (Keep σ σ' ∨ KeepOn (loose r.tmps h) σ σ') := rfl
@[simp] theorem Keep_toks {os : List Ob} {ts ts' : List Nat} : Keep ⟨os, ts⟩ ⟨os, ts'⟩ = True := eq_true fun _ _ h => h
@[simp] theorem Keep_more {os xs : List Ob} {ts ts' : List Nat} : Keep ⟨os, ts⟩ ⟨os ++ xs, ts'⟩ = True :=
  eq_true fun o ob h => by
    have := (List.getElem?_eq_some_iff.1 h).1
    simp only at *
    rw [List.getElem?_append_left this]
    exact h
def KeepL (xs ys : List Ob) : Prop := ∀ (o : Nat) ob, xs[o]? = some ob → ys[o]? = some ob
@[simp] theorem KeepL_nil {ys : List Ob} : KeepL [] ys = True := eq_true fun o ob h => by simp at h
@[simp] theorem KeepL_cons {a : Ob} {xs ys : List Ob} : KeepL (a :: xs) (a :: ys) = KeepL xs ys :=
  propext ⟨fun h o ob e => by simpa using h (o + 1) ob (by simpa using e), fun h o ob e => by
    cases o with
    | zero => simpa using e
    | succ o => simpa using h o ob (by simpa using e)⟩
@[simp] theorem Keep_app {os xs ys : List Ob} {ts ts' : List Nat} : Keep ⟨os ++ xs, ts⟩ ⟨os ++ ys, ts'⟩ = KeepL xs ys :=
  propext ⟨fun h o ob e => by
    have := h (os.length + o) ob (by simp only; rw [List.getElem?_append_right (by omega)]; simpa using e)
    simp only at this
    rw [List.getElem?_append_right (by omega)] at this
    simpa using this, fun h o ob e => by
    simp only at e ⊢
    rcases Nat.lt_or_ge o os.length with hlt | hge
    · rw [List.getElem?_append_left hlt] at e ⊢; exact e
    · rw [List.getElem?_append_right hge] at e ⊢; exact h _ ob e⟩
@[simp] theorem Keep_toks1 {σ : Sg} {ts : List Nat} : Keep σ ⟨σ.objs, ts⟩ = True := eq_true fun _ _ h => h
@[simp] theorem Keep_more1 {σ : Sg} {xs : List Ob} {ts : List Nat} : Keep σ ⟨σ.objs ++ xs, ts⟩ = True :=
  eq_true fun o ob h => by
    have := (List.getElem?_eq_some_iff.1 h).1
    simp only at *
    rw [List.getElem?_append_left this]
    exact h
@[simp] theorem Keep_refl {σ : Sg} : Keep σ σ = True := eq_true (.refl σ)
def Again {α : Type} (B : Sg) (rank : α → Nat) (state : α → St) (I : α → Prop) (x : α) (st2 : St) : Prop := ∃ x', I x' ∧ rank x' < rank x ∧ Weak B st2 (state x')
def QLp {α : Type} (B : Sg) (rank : α → Nat) (state : α → St) (I : α → Prop) (x : α) (Q : XE → St → Prop) (e : XE) (st : St) : Prop := match e with | .normal => Again B rank state I x st | e => Q e st
section
variable {α : Type} {rank : α → Nat} {state : α → St} {I : α → Prop} {x : α} {Q : XE → St → Prop} {st : St}
@[simp] theorem QLp_normal : QLp B rank state I x Q .normal st = Again B rank state I x st := rfl
@[simp] theorem QLp_ret : QLp B rank state I x Q .ret st = Q .ret st := rfl
@[simp] theorem QLp_exit {id : Nat} : QLp B rank state I x Q (.exit id) st = Q (.exit id) st := rfl
end
theorem W_loop {α : Type} (x0 : α) (rank : α → Nat) (state : α → St) (I : α → Prop) {a : X} {Q : XE → St → Prop} {st : St} (h0 : Weak B st (state x0)) (hI : I x0)
    (step : ∀ x, I x → W P B a (QLp B rank state I x Q) (state x)) : W P B (.loop a) Q st := by
  refine ⟨fun n st' => ∃ x, I x ∧ st' = state x ∧ n = rank x, ⟨_, _, h0, x0, hI, rfl, rfl⟩, ?_⟩
  rintro n st' ⟨x, hx, rfl, rfl⟩
  have := step x hx
  refine cast ?_ this
  congr 1
  funext e st2
  cases e with
  | normal =>
    refine propext ⟨fun ⟨x', h1, h2, h3⟩ => ⟨_, _, h2, h3, x', h1, rfl, rfl⟩, fun ⟨n', st3, h1, h2, x', h3, h4, h5⟩ => ⟨x', h3, by omega, by rw [← h4]; exact h2⟩⟩
  | exit => rfl
  | ret => rfl
@[simp] theorem WO_nil {s : List (Nat × D)} {σ : Sg} {K : List (Nat × D) → Sg → Prop} : WO P [] s σ K = K s σ := rfl
theorem WO_g {dst : Option Nat} {n : Nat} {want : Bool} {op : AOp} {r : List RO} {s : List (Nat × D)} {σ : Sg} {K : List (Nat × D) → Sg → Prop} :
    WO P (⟨dst, some (n, want), op⟩ :: r) s σ K = WGd (look s n) want (TO P (⟨dst, none, op⟩ :: r) ((n, .v (.bool want)) :: s) σ K) (TO P r (push dst .undef ((n, .v (.bool (!want))) :: s)) σ K) (TO P r (push dst .undef s) σ K) := by
  simp only [WO, WGd]
  generalize look s n = d
  cases d with
  | v x =>
    cases x with
    | bool p => cases p <;> cases want <;> simp [Br, TO, WO]
    | _ => rfl
  | tup ds => cases ds <;> rfl
  | _ => rfl
attribute [simp] WO_g
variable {dst : Option Nat} {r : List RO} {s : List (Nat × D)} {σ : Sg} {K : List (Nat × D) → Sg → Prop}
@[simp] theorem WO_mv {x : E} : WO P (⟨dst, none, .mv x⟩ :: r) s σ K = WO P r (push dst (ev s x) s) σ K := rfl
def WPk (c : D) (A C : Unit → Prop) : Prop := match c with | .v (.bool p) => Br (p = true) A C | _ => False
@[simp] theorem WPk_bool {p : Bool} {A C : Unit → Prop} : WPk (.v (.bool p)) A C = Br (p = true) A C := rfl
@[simp] theorem WO_pick {c a b : E} : WO P (⟨dst, none, .pick c a b⟩ :: r) s σ K = WPk (ev s c) (TO P r (push dst (ev s a) s) σ K) (TO P r (push dst (ev s b) s) σ K) := by
  show (match ev s c with | .v (.bool p) => (p = true → WO P r (push dst (ev s a) s) σ K) ∧ (p = false → WO P r (push dst (ev s b) s) σ K) | _ => False) = _
  unfold WPk
  split <;> simp [Br, TO]
@[simp] theorem WO_alloc {zs : List V} : WO P (⟨dst, none, .alloc zs⟩ :: r) s σ K = WO P r (push dst (.ptr σ.objs.length 0) s) (σ.add (.cells (zs.map .v))) K := rfl
@[simp] theorem WO_box {x : E} : WO P (⟨dst, none, .box x⟩ :: r) s σ K = ((ev s x).lies = true ∧ WO P r (push dst (.ptr σ.objs.length 0) s) (σ.add (.cells (ev s x).cells)) K) := rfl
def WSome {α : Type} (o : Option α) (K : α → Prop) : Prop := match o with | some x => K x | none => False
@[simp] theorem WSome_some {α : Type} {x : α} {K : α → Prop} : WSome (some x) K = K x := rfl
@[simp] theorem WO_build {zs : List V} {ps : List (Nat × Nat × E)} : WO P (⟨dst, none, .build zs ps⟩ :: r) s σ K =
    WSome (fillD (zs.map .v) (ps.map fun p => (p.1, p.2.1, ev s p.2.2))) (KB P dst r s σ K) := by
  show (match fillD (zs.map .v) (ps.map fun p => (p.1, p.2.1, ev s p.2.2)) with | some cs => WO P r (push dst (mkAgg cs) s) σ K | none => False) = _
  unfold WSome
  generalize fillD (zs.map .v) (ps.map fun p => (p.1, p.2.1, ev s p.2.2)) = o
  cases o <;> rfl
@[simp] theorem WO_mksl {sh : Sh} {xs : List E} : WO P (⟨dst, none, .mksl sh xs⟩ :: r) s σ K = WMksl sh (xs.map (ev s)) (KV P dst r s σ K) := rfl
@[simp] theorem WO_load {sh : Sh} {a : E} : WO P (⟨dst, none, .load sh a⟩ :: r) s σ K = WLoad sh (ev s a) σ (KD P dst r s σ K) := rfl
@[simp] theorem WO_store {n : Nat} {a x : E} : WO P (⟨dst, none, .store n a x⟩ :: r) s σ K = WStore n (ev s a) (ev s x) σ (KO P dst r s K) := rfl
@[simp] theorem WO_nilck {x : E} : WO P (⟨dst, none, .nilck x⟩ :: r) s σ K = WNil (ev s x) (KD P dst r s σ K) := rfl
@[simp] theorem WO_bin {op : BinOp} {k : EqK} {c : Bool} {x y : E} : WO P (⟨dst, none, .bin op k c x y⟩ :: r) s σ K = WBin P op k c (ev s x) (ev s y) (KV P dst r s σ K) := rfl
@[simp] theorem WO_un {op : UnOp} {x : E} : WO P (⟨dst, none, .un op x⟩ :: r) s σ K = WUn op (ev s x) (KV P dst r s σ K) := rfl
@[simp] theorem WO_conv {c : ConvK} {x : E} : WO P (⟨dst, none, .conv c x⟩ :: r) s σ K = WConv c (ev s x) (KV P dst r s σ K) := rfl
@[simp] theorem WO_mkif {t : Nat} {x : E} : WO P (⟨dst, none, .mkif t x⟩ :: r) s σ K = WO P r (push dst (mkIface t (ev s x)) s) σ K := rfl
@[simp] theorem WO_mkfn {f : Nat} {caps : List E} : WO P (⟨dst, none, .mkfn f caps⟩ :: r) s σ K = WO P r (push dst (match caps with | [] => .v (.fn f) | caps => .fn f (caps.map (ev s))) s) σ K := rfl
@[simp] theorem WO_slice {k : SlK} {x : E} {lo hi mx : Option E} : WO P (⟨dst, none, .slice k x lo hi mx⟩ :: r) s σ K =
    WSl k (ev s x) (lo.map (ev s)) (hi.map (ev s)) (mx.map (ev s)) (KD P dst r s σ K) := rfl
@[simp] theorem WO_faddr {off : Nat} {x : E} : WO P (⟨dst, none, .faddr off x⟩ :: r) s σ K = WFaddr off (ev s x) (KD P dst r s σ K) := rfl
@[simp] theorem WO_field {sh : Sh} {off : Nat} {x : E} : WO P (⟨dst, none, .field sh off x⟩ :: r) s σ K = WField sh off (ev s x) (KD P dst r s σ K) := rfl
@[simp] theorem WO_iaddr {sh : Sh} {x i : E} : WO P (⟨dst, none, .iaddr sh x i⟩ :: r) s σ K = WIaddr sh (ev s x) (ev s i) (KD P dst r s σ K) := rfl
@[simp] theorem WO_index {x i : E} : WO P (⟨dst, none, .index x i⟩ :: r) s σ K = WIndex (ev s x) (ev s i) (KV P dst r s σ K) := rfl
@[simp] theorem WO_extract {x : E} {i : Nat} : WO P (⟨dst, none, .extract x i⟩ :: r) s σ K = WExtract (ev s x) i (KD P dst r s σ K) := rfl
@[simp] theorem WO_len {k : LenK} {x : E} : WO P (⟨dst, none, .len k x⟩ :: r) s σ K = WLen k (ev s x) σ (KV P dst r s σ K) := rfl
@[simp] theorem WO_append {sh : Sh} {bytes : Nat} {a x : E} : WO P (⟨dst, none, .append sh bytes a x⟩ :: r) s σ K = WAppend sh bytes (ev s a) (ev s x) σ (KO P dst r s K) := rfl
@[simp] theorem WO_min {xs : List E} : WO P (⟨dst, none, .min xs⟩ :: r) s σ K = WMin (xs.map (ev s)) (KV P dst r s σ K) := rfl
def WCall (P : Program) (f : D) (args : List D) (σ : Sg) (R : D → Sg → Prop) : Prop :=
  match f with
  | .v (.fn g) => ACalls P g args σ R
  | .fn g caps => ACalls P g (args ++ caps) σ R
  | .bfn g d => ACalls P g (d :: args) σ R
  | _ => False
@[simp] theorem WCall_fn {g : Nat} {ds : List D} {R : D → Sg → Prop} : WCall P (.v (.fn g)) ds σ R = ACalls P g ds σ R := rfl
@[simp] theorem WCall_caps {g : Nat} {caps ds : List D} {R : D → Sg → Prop} : WCall P (.fn g caps) ds σ R = ACalls P g (ds ++ caps) σ R := rfl
@[simp] theorem WCall_bfn {g : Nat} {d : D} {ds : List D} {R : D → Sg → Prop} : WCall P (.bfn g d) ds σ R = ACalls P g (d :: ds) σ R := rfl
@[simp] theorem WX_sto {n : Nat} {a x : D} {ds : List D} {R : D → Sg → Prop} : WX (.sto n) (x :: a :: ds) σ R = WStore n a x σ R := rfl
@[simp] theorem WX_bind {g : Nat} {d : D} {R : D → Sg → Prop} : WX (.bind g) [d] σ R = R (.bfn g d) σ := rfl
@[simp] theorem WO_inv {name : String} {x : E} {args : List E} : WO P (⟨dst, none, .inv name x args⟩ :: r) s σ K = WInv P name (ev s x) (args.map (ev s)) σ (KO P dst r s K) := rfl
@[simp] theorem WInv_ptr {name : String} {t o off : Nat} {ds : List D} {R : D → Sg → Prop} : WInv P name (.iface t (.ptr o off)) ds σ R = ∃ g, MethP P t name g ∧ ACalls P g (.ptr o off :: ds) σ R := rfl
@[simp] theorem WInv_int {name : String} {t : Nat} {k : IntKind} {n : Int} {ds : List D} {R : D → Sg → Prop} : WInv P name (.v (.iface t (.int k n))) ds σ R = ∃ g, MethI P t name g ∧ ACalls P g (.v (.int k n) :: ds) σ R := rfl
@[simp] theorem WO_call {f : E} {args : List E} : WO P (⟨dst, none, .call f args⟩ :: r) s σ K = WCall P (ev s f) (args.map (ev s)) σ (KO P dst r s K) := by
  show (match ev s f with | .v (.fn g) => _ | .fn g caps => _ | .bfn g d => _ | _ => False) = _
  unfold WCall
  split <;> rfl
end
def ishl (k : IntKind) (a b : Int) : Int := k.wrap (a * 2 ^ (min b.toNat k.bits))
def ishr (k : IntKind) (a b : Int) : Int := a.fdiv (2 ^ (min b.toNat k.bits))
def iand (k : IntKind) (a b : Int) : Int := k.wrap (BitVec.ofInt k.bits a &&& BitVec.ofInt k.bits b).toNat
def ior (k : IntKind) (a b : Int) : Int := k.wrap (BitVec.ofInt k.bits a ||| BitVec.ofInt k.bits b).toNat
def ixor (k : IntKind) (a b : Int) : Int := k.wrap (BitVec.ofInt k.bits a ^^^ BitVec.ofInt k.bits b).toNat
def inot (k : IntKind) (a : Int) : Int := k.wrap (BitVec.ofInt k.bits (if k.signed then -1 else k.max) ^^^ BitVec.ofInt k.bits a).toNat
section
variable {P : Program} {x x' y y' : D} {σ σ' : Sg}
variable {K : V → Prop} {k l : IntKind} {a b : Int}
@[simp] theorem WBin_int {op : BinOp} {q : EqK} {c : Bool} : WBin P op q c (.v (.int k a)) (.v (.int l b)) K = WInt op k a l b K := rfl
@[simp] theorem WBin_str {op : BinOp} {q : EqK} {c : Bool} {s t : List UInt8} : WBin P op q c (.v (.str s)) (.v (.str t)) K = WStr op s t K := rfl
@[simp] theorem WInt_add : WInt .add k a k b K = K (.int k (k.wrap (a + b))) := by simp [WInt]
@[simp] theorem WInt_sub : WInt .sub k a k b K = K (.int k (k.wrap (a - b))) := by simp [WInt]
@[simp] theorem WInt_mul : WInt .mul k a k b K = K (.int k (k.wrap (a * b))) := by simp [WInt]
@[simp] theorem WInt_quo : WInt .quo k a k b K = (b ≠ 0 ∧ K (.int k (k.wrap (a.tdiv b)))) := by simp [WInt]
@[simp] theorem WInt_rem : WInt .rem k a k b K = (b ≠ 0 ∧ K (.int k (a.tmod b))) := by simp [WInt]
@[simp] theorem WInt_eql : WInt .eql k a k b K = K (.bool (a == b)) := by simp [WInt]
@[simp] theorem WInt_neq : WInt .neq k a k b K = K (.bool (a != b)) := by simp [WInt]
@[simp] theorem WInt_lss : WInt .lss k a k b K = K (.bool (decide (a < b))) := by simp [WInt]
@[simp] theorem WInt_leq : WInt .leq k a k b K = K (.bool (decide (a ≤ b))) := by simp [WInt]
@[simp] theorem WInt_gtr : WInt .gtr k a k b K = K (.bool (decide (a > b))) := by simp [WInt]
@[simp] theorem WInt_geq : WInt .geq k a k b K = K (.bool (decide (a ≥ b))) := by simp [WInt]
@[simp] theorem WInt_shl : WInt .shl k a l b K = (0 ≤ b ∧ K (.int k (ishl k a b))) := rfl
@[simp] theorem WInt_shr : WInt .shr k a l b K = (0 ≤ b ∧ K (.int k (ishr k a b))) := rfl
@[simp] theorem WInt_and : WInt .and k a k b K = K (.int k (iand k a b)) := by simp [WInt, iand]
@[simp] theorem WInt_or : WInt .or k a k b K = K (.int k (ior k a b)) := by simp [WInt, ior]
@[simp] theorem WInt_xor : WInt .xor k a k b K = K (.int k (ixor k a b)) := by simp [WInt, ixor]
@[simp] theorem WUn_xor : WUn .xor (.v (.int k a)) K = K (.int k (inot k a)) := rfl
@[simp] theorem WUn_not {b : Bool} : WUn .not (.v (.bool b)) K = K (.bool (!b)) := rfl
@[simp] theorem WUn_neg : WUn .neg (.v (.int k a)) K = K (.int k (k.wrap (0 - a))) := rfl
@[simp] theorem WConv_int : WConv (.toInt l) (.v (.int k a)) K = K (.int l (l.wrap a)) := rfl
@[simp] theorem WConv_strs {s : List UInt8} : WConv .strs (.v (.str s)) K = K (.str s) := rfl
@[simp] theorem WConv_toBytes {s : List UInt8} : WConv .toBytes (.v (.str s)) K = (s.length ≤ maxLen ∧ K (.sl none false (bytesV s))) := rfl
end
section
variable {σ : Sg} {xs : List V} {n : Int} {k : IntKind} {sh : Sh}
@[simp] theorem WLoad_imm_same {x : V} {K : D → Prop} : WLoad sh (.imm sh x 0) σ K = K (.v x) := by simp [WLoad]
@[simp] theorem WLoad_imm_cell {n off : Nat} {x : V} {K : D → Prop} : WLoad none (.imm (some n) x off) σ K = WSome x.cells[off]? fun c => K (.v c) := by
  simp only [WLoad, WSome]
  rw [if_neg (by simp)]
  generalize x.cells[off]? = o
  cases o <;> rfl
def KVD (K : D → Prop) (v : V) : Prop := K (.v v)
@[simp] theorem KVD_go {K : D → Prop} {v : V} : KVD K v = K (.v v) := rfl
@[simp] theorem WSl_str {x : D} {lo hi mx : Option D} {K : D → Prop} : WSl .str x lo hi mx K = WSlice .str x lo hi mx (KVD K) := rfl
@[simp] theorem WSl_v {x : V} {lo hi mx : Option D} {K : D → Prop} : WSl (.sl sh) (.v x) lo hi mx K = WSlice (.sl sh) (.v x) lo hi mx (KVD K) := rfl
@[simp] theorem WSl_tsl {t : Nat} {sh' : Sh} {xs : List V} {lo hi mx : Option D} {K : D → Prop} : WSl (.sl sh) (.tsl t sh' xs) lo hi mx K = WSlice (.sl sh) (.tsl t sh' xs) lo hi mx (KVD K) := rfl
def WBdM (sh : Sh) (o off c : Nat) (b : Option (Int × Int × Option Int)) (K : D → Prop) : Prop := match b with
  | some (l, h, none) => 0 ≤ l ∧ l ≤ h ∧ h ≤ c ∧ K (.msl o (off + l.toNat * shn sh) (h - l).toNat sh (some (c - l.toNat)))
  | some (l, h, some m) => 0 ≤ l ∧ l ≤ h ∧ h ≤ m ∧ m ≤ c ∧ K (.msl o (off + l.toNat * shn sh) (h - l).toNat sh (some (m - l).toNat))
  | none => False
@[simp] theorem WSl_msl {o off len c : Nat} {lo hi mx : Option D} {K : D → Prop} : WSl (.sl sh) (.msl o off len sh (some c)) lo hi mx K = WBdM sh o off c (bounds len lo hi mx) K := by
  simp only [WSl, WSlM, WBdM, true_and]
  generalize bounds len lo hi mx = o
  rcases o with _ | ⟨l, h', _ | m⟩ <;> rfl
@[simp] theorem WBdM_two {o off c : Nat} {l h : Int} {K : D → Prop} : WBdM sh o off c (some (l, h, none)) K = (0 ≤ l ∧ l ≤ h ∧ h ≤ c ∧ K (.msl o (off + l.toNat * shn sh) (h - l).toNat sh (some (c - l.toNat)))) := rfl
@[simp] theorem WBdM_three {o off c : Nat} {l h m : Int} {K : D → Prop} : WBdM sh o off c (some (l, h, some m)) K = (0 ≤ l ∧ l ≤ h ∧ h ≤ m ∧ m ≤ c ∧ K (.msl o (off + l.toNat * shn sh) (h - l).toNat sh (some (m - l).toNat))) := rfl
def WBds (sh : Sh) (xs : List V) (o : Option (Int × Int × Option Int)) (K : V → Prop) : Prop := match o with
  | some (l, h, none) => 0 ≤ l ∧ l ≤ h ∧ h ≤ xs.length ∧ K (.sl sh false ((xs.take h.toNat).drop l.toNat))
  | some (l, h, some m) => 0 ≤ l ∧ l ≤ h ∧ h = m ∧ m ≤ xs.length ∧ K (.sl sh true ((xs.take h.toNat).drop l.toNat))
  | none => False
def WBdS (s : List UInt8) (o : Option (Int × Int × Option Int)) (K : V → Prop) : Prop := match o with
  | some (l, h, none) => 0 ≤ l ∧ l ≤ h ∧ h ≤ s.length ∧ K (.str ((s.take h.toNat).drop l.toNat))
  | _ => False
def WCells (ob : Option Ob) (K : List D → Prop) : Prop := match ob with | some (.cells cs) => K cs | _ => False
@[simp] theorem WCells_some {cs : List D} {K : List D → Prop} : WCells (some (.cells cs)) K = K cs := rfl
@[simp] theorem WLoad_ptr_cell {o off : Nat} {K : D → Prop} : WLoad none (.ptr o off) σ K = WCells σ.objs[o]? fun cs => WSome cs[off]? K := by
  simp only [WLoad, WCells]
  generalize σ.objs[o]? = ob
  rcases ob with _ | (cs | es | _) <;> try rfl
  dsimp only [WSome]
  generalize cs[off]? = c
  cases c <;> rfl
@[simp] theorem WLoad_ptr_row {o off n : Nat} {K : D → Prop} : WLoad (some n) (.ptr o off) σ K = WCells σ.objs[o]? fun cs => 0 < n ∧ off + n ≤ cs.length ∧ K (mkAgg ((cs.drop off).take n)) := by
  simp only [WLoad, WCells]
  generalize σ.objs[o]? = ob
  rcases ob with _ | (cs | es | _) <;> rfl
@[simp] theorem WStore_ptr {o off n : Nat} {x : D} {K : D → Sg → Prop} : WStore n (.ptr o off) x σ K =
    WCells σ.objs[o]? fun cs => x.lies = true ∧ x.cells.length = n ∧ 0 < n ∧ off + n ≤ cs.length ∧ K (.tup []) (σ.put o (.cells (putAt cs off x.cells))) := by
  simp only [WStore, WCells, D.undef]
  generalize σ.objs[o]? = ob
  rcases ob with _ | (cs | es | _) <;> rfl
@[simp] theorem WFaddr_ptr {o off p : Nat} {K : D → Prop} : WFaddr off (.ptr o p) K = K (.ptr o (p + off)) := rfl
@[simp] theorem WFaddr_imm {off p : Nat} {x : V} {K : D → Prop} : WFaddr off (.imm sh x p) K = K (.imm sh x (p + off)) := rfl
@[simp] theorem WIaddr_sl {f : Bool} {K : D → Prop} : WIaddr sh (.v (.sl sh f xs)) (.v (.int k n)) K = (0 ≤ n ∧ n < xs.length ∧ ∀ y, xs[n.toNat]? = some y → K (.imm sh y 0)) := by simp [WIaddr]
@[simp] theorem WIaddr_tsl {t : Nat} {K : D → Prop} : WIaddr sh (.tsl t sh xs) (.v (.int k n)) K = (0 ≤ n ∧ n < xs.length ∧ ∀ y, xs[n.toNat]? = some y → K (.imm sh y 0)) := by simp [WIaddr]
@[simp] theorem WIaddr_msl {o off len : Nat} {c : Option Nat} {K : D → Prop} : WIaddr sh (.msl o off len sh c) (.v (.int k n)) K = (0 ≤ n ∧ n < len ∧ K (.ptr o (off + n.toNat * shn sh))) := by simp [WIaddr]
@[simp] theorem WIndex_str {s : List UInt8} {K : V → Prop} : WIndex (.v (.str s)) (.v (.int k n)) K = (0 ≤ n ∧ n < s.length ∧ ∀ b, s[n.toNat]? = some b → K (.int .u8 b.toNat)) := rfl
@[simp] theorem WExtract_tup {ds : List D} {i : Nat} {K : D → Prop} : WExtract (.tup ds) i K = WSome ds[i]? K := by
  simp only [WExtract, WSome]
  generalize ds[i]? = o
  cases o <;> rfl
@[simp] theorem WLen_str {s : List UInt8} {K : V → Prop} : WLen .str (.v (.str s)) σ K = K (.int .i64 s.length) := rfl
@[simp] theorem WLen_snil {K : V → Prop} : WLen .sl (.v .snil) σ K = K (.int .i64 0) := rfl
@[simp] theorem WLen_sl {f : Bool} {K : V → Prop} : WLen .sl (.v (.sl sh f xs)) σ K = K (.int .i64 xs.length) := rfl
@[simp] theorem WLen_msl {o off len : Nat} {c : Option Nat} {K : V → Prop} : WLen .sl (.msl o off len sh c) σ K = K (.int .i64 len) := rfl
@[simp] theorem WLen_tsl {t : Nat} {K : V → Prop} : WLen .sl (.tsl t sh xs) σ K = K (.int .i64 xs.length) := rfl
@[simp] theorem WSlice_sl {f : Bool} {lo hi mx : Option D} {K : V → Prop} : WSlice (.sl sh) (.v (.sl sh f xs)) lo hi mx K = WBds sh xs (bounds xs.length lo hi mx) K := by
  simp only [WSlice, WBds, true_and]
  generalize bounds xs.length lo hi mx = o
  rcases o with _ | ⟨l, h', _ | m⟩ <;> rfl
@[simp] theorem WSlice_tsl {t : Nat} {lo hi mx : Option D} {K : V → Prop} : WSlice (.sl sh) (.tsl t sh xs) lo hi mx K = WBds sh xs (bounds xs.length lo hi mx) K := by
  simp only [WSlice, WBds, true_and]
  generalize bounds xs.length lo hi mx = o
  rcases o with _ | ⟨l, h', _ | m⟩ <;> rfl
@[simp] theorem WSlice_str {s : List UInt8} {lo hi mx : Option D} {K : V → Prop} : WSlice .str (.v (.str s)) lo hi mx K = WBdS s (bounds s.length lo hi mx) K := by
  simp only [WSlice, WBdS]
  generalize bounds s.length lo hi mx = o
  rcases o with _ | ⟨l, h', _ | m⟩ <;> rfl
def WBd0 (sh : Sh) (b : Option (Int × Int × Option Int)) (K : V → Prop) : Prop := match b with
  | some (l, h, q) => l = 0 ∧ h = 0 ∧ (q = none ∨ q = some 0) ∧ K (.sl sh true [])
  | none => False
@[simp] theorem WSlice_snil {lo hi mx : Option D} {K : V → Prop} : WSlice (.sl sh) (.v .snil) lo hi mx K = WBd0 sh (bounds 0 lo hi mx) K := by
  simp only [WSlice, WBd0]
  generalize bounds 0 lo hi mx = o
  rcases o with _ | ⟨l, h', q⟩ <;> rfl
@[simp] theorem WBd0_some {l h : Int} {q : Option Int} {K : V → Prop} : WBd0 sh (some (l, h, q)) K = (l = 0 ∧ h = 0 ∧ (q = none ∨ q = some 0) ∧ K (.sl sh true [])) := rfl
@[simp] theorem WBds_two {l h : Int} {K : V → Prop} : WBds sh xs (some (l, h, none)) K = (0 ≤ l ∧ l ≤ h ∧ h ≤ xs.length ∧ K (.sl sh false ((xs.take h.toNat).drop l.toNat))) := rfl
@[simp] theorem WBds_three {l h m : Int} {K : V → Prop} : WBds sh xs (some (l, h, some m)) K = (0 ≤ l ∧ l ≤ h ∧ h = m ∧ m ≤ xs.length ∧ K (.sl sh true ((xs.take h.toNat).drop l.toNat))) := rfl
@[simp] theorem WBdS_two {s : List UInt8} {l h : Int} {K : V → Prop} : WBdS s (some (l, h, none)) K = (0 ≤ l ∧ l ≤ h ∧ h ≤ s.length ∧ K (.str ((s.take h.toNat).drop l.toNat))) := rfl
@[simp] theorem WX_max {a b : Int} {σ : Sg} {K : D → Sg → Prop} : WX .max [.v (.int k a), .v (.int k b)] σ K = K (.v (.int k (if a < b then b else a))) σ := by simp [WX]
@[simp] theorem WMin_two {a b : Int} {K : V → Prop} : WMin [.v (.int k a), .v (.int k b)] K = K (.int k (if b < a then b else a)) := by simp [WMin]
@[simp] theorem WMksl_def {ds : List D} {K : V → Prop} : WMksl sh ds K = WSome (D.toVs ds) fun xs => (∀ x ∈ xs, x.shape = sh ∧ (x.cells.all V.one) = true) ∧ K (.sl sh true xs) := by
  simp only [WMksl, WSome]
  generalize D.toVs ds = o
  cases o <;> rfl
@[simp] theorem srcV_snil : srcV sh (.v .snil) = some [] := rfl
@[simp] theorem srcV_sl {f : Bool} : srcV sh (.v (.sl sh f xs)) = some xs := by simp [srcV]
@[simp] theorem srcV_tsl {t : Nat} : srcV sh (.tsl t sh xs) = some xs := by simp [srcV]
@[simp] theorem srcV_str {s : List UInt8} : srcV none (.v (.str s)) = some (bytesV s) := by simp [srcV]
@[simp] theorem srcM_v {x : V} : srcM σ sh (.v x) = srcV sh (.v x) := rfl
@[simp] theorem srcM_tsl {t : Nat} : srcM σ sh (.tsl t sh xs) = some xs := by simp [srcM, srcV]
@[simp] theorem srcM_msl {o off len : Nat} {c : Option Nat} {K : List V → Prop} : WSome (srcM σ sh (.msl o off len sh c)) K =
    WCells σ.objs[o]? fun cs => len ≠ 0 ∧ cs.length ≠ 0 ∧ off + len * shn sh ≤ cs.length ∧ WSome (allV ((cs.drop off).take (len * shn sh))) fun vs => K (rowsV sh len vs) := by
  simp only [srcM, WCells]
  generalize σ.objs[o]? = ob
  rcases ob with _ | (cs | es | _) <;> try rfl
  dsimp only
  split
  · rename_i h
    obtain ⟨_, h1, h2, h3⟩ := h
    simp only [h1, h2, h3, ne_eq, not_false_eq_true, true_and]
    generalize allV _ = q
    cases q <;> rfl
  · rename_i h
    simp only [true_and] at h
    refine propext ⟨fun h => h.elim, fun h' => h ⟨h'.1, h'.2.1, h'.2.2.1⟩⟩
@[simp] theorem WAppend_snil {b : Nat} {x : D} {K : D → Sg → Prop} : WAppend sh b (.v .snil) x σ K = WSome (srcM σ sh x) fun ys => ys.length * b ≤ 140737488355328 ∧ K (.tsl σ.toks.length sh ys) (σ.tadd ys.length) := by
  simp only [WAppend, WSome]
  generalize srcM σ sh x = o
  cases o <;> simp
@[simp] theorem WAppend_full {b : Nat} {x : D} {K : D → Sg → Prop} : WAppend sh b (.v (.sl sh true xs)) x σ K =
    WSome (srcM σ sh x) fun ys => (xs.length + ys.length) * b ≤ 140737488355328 ∧ K (.tsl σ.toks.length sh (xs ++ ys)) (σ.tadd (xs.length + ys.length)) := by
  simp only [WAppend, WSome]
  generalize srcM σ sh x = o
  cases o <;> simp
@[simp] theorem WAppend_tsl {b t : Nat} {x : D} {K : D → Sg → Prop} : WAppend sh b (.tsl t sh xs) x σ K =
    WSome (srcM σ sh x) fun ys => σ.toks[t]? = some xs.length ∧ (xs.length + ys.length) * b ≤ 140737488355328 ∧ K (.tsl t sh (xs ++ ys)) (σ.tput t (xs.length + ys.length)) := by
  simp only [WAppend, WSome]
  generalize srcM σ sh x = o
  cases o <;> simp
def TM0 (sh : Sh) (ys : List V) (σ : Sg) (K : D → Sg → Prop) (c : Nat) : Prop := ys.length ≤ c → c ≤ maxLen → K (.msl σ.objs.length 0 ys.length sh (some c)) (σ.add (.cells ((V.flat ys).map .v ++ List.replicate ((c - ys.length) * shn sh) .junk)))
@[simp] theorem TM0_go {ys : List V} {K : D → Sg → Prop} {c : Nat} : TM0 sh ys σ K c = (ys.length ≤ c → c ≤ maxLen → K (.msl σ.objs.length 0 ys.length sh (some c)) (σ.add (.cells ((V.flat ys).map .v ++ List.replicate ((c - ys.length) * shn sh) .junk)))) := rfl
def TMn (sh : Sh) (σ : Sg) (K : D → Sg → Prop) (_ : Unit) : Prop := K (.v (.sl sh true [])) σ
@[simp] theorem TMn_go {K : D → Sg → Prop} {u : Unit} : TMn sh σ K u = K (.v (.sl sh true [])) σ := rfl
def TMs (sh : Sh) (b : Nat) (ys : List V) (σ : Sg) (K : D → Sg → Prop) (_ : Unit) : Prop := ys.length * b ≤ 140737488355328 ∧ ∀ c : Nat, TM0 sh ys σ K c
@[simp] theorem TMs_go {b : Nat} {ys : List V} {K : D → Sg → Prop} {u : Unit} : TMs sh b ys σ K u = (ys.length * b ≤ 140737488355328 ∧ ∀ c : Nat, TM0 sh ys σ K c) := rfl
def WM0 (sh : Sh) (b : Nat) (σ : Sg) (K : D → Sg → Prop) (ys : List V) : Prop := Br (ys = []) (TMn sh σ K) (TMs sh b ys σ K)
@[simp] theorem WM0_go {b : Nat} {ys : List V} {K : D → Sg → Prop} : WM0 sh b σ K ys = Br (ys = []) (TMn sh σ K) (TMs sh b ys σ K) := rfl
@[simp] theorem WApmV_snil {b : Nat} {ys : List V} {K : D → Sg → Prop} : WApmV sh b (.v .snil) ys σ K = WM0 sh b σ K ys := rfl
@[simp] theorem WApmV_full {b : Nat} {ys : List V} {K : D → Sg → Prop} : WApmV sh b (.v (.sl sh true [])) ys σ K = WM0 sh b σ K ys := by simp only [WApmV, true_and]; rfl
@[simp] theorem WX_appm {b : Nat} {s x : D} {K : D → Sg → Prop} : WX (.appm sh b) [s, x] σ K = WSome (srcM σ sh x) fun ys => WApmV sh b s ys σ K := by
  simp only [WX, WApm, WSome]
  generalize srcM σ sh x = o
  cases o <;> rfl
@[simp] theorem WX_appz {b : Nat} {zs : List V} {s : D} {k : IntKind} {n : Int} {K : D → Sg → Prop} : WX (.appz sh b zs) [s, .v (.int k n)] σ K = (0 ≤ n ∧ n * b ≤ 140737488355328 ∧ WApmV sh b s (List.replicate n.toNat (zrow sh zs)) σ K) := rfl
@[simp] theorem WX_give {o len : Nat} {c : Option Nat} {K : D → Sg → Prop} : WX .give [.msl o 0 len none c] σ K = WGive o len σ K := rfl
@[simp] theorem WX_clear_snil {zs : List V} {K : D → Sg → Prop} : WX (.clear zs) [.v .snil] σ K = K (.tup []) σ := rfl
@[simp] theorem WX_clear_nil {zs : List V} {f : Bool} {K : D → Sg → Prop} : WX (.clear zs) [.v (.sl sh f [])] σ K = K (.tup []) σ := rfl
@[simp] theorem WX_clear_msl {zs : List V} {o off len : Nat} {c : Option Nat} {K : D → Sg → Prop} : WX (.clear zs) [.msl o off len sh c] σ K = WCells σ.objs[o]? fun cs =>
    zs.length = shn sh ∧ cs.length ≠ 0 ∧ off + len * shn sh ≤ cs.length ∧ K (.tup []) (σ.put o (.cells (putAt cs off ((zerosV zs len).map .v)))) := by
  simp only [WX, WClear, WCells]
  generalize σ.objs[o]? = ob
  rcases ob with _ | (cs | es | _) <;> rfl
def TR1 (sh : Sh) (o off len c : Nat) (ys : List V) (cs : List D) (σ : Sg) (K : D → Sg → Prop) (_ : Unit) : Prop :=
  off + (len + ys.length) * shn sh ≤ cs.length ∧ K (.msl o off (len + ys.length) sh (some c)) (σ.put o (.cells (putAt cs (off + len * shn sh) ((V.flat ys).map .v))))
@[simp] theorem TR1_go {o off len c : Nat} {ys : List V} {cs : List D} {K : D → Sg → Prop} {u : Unit} : TR1 sh o off len c ys cs σ K u =
  (off + (len + ys.length) * shn sh ≤ cs.length ∧ K (.msl o off (len + ys.length) sh (some c)) (σ.put o (.cells (putAt cs (off + len * shn sh) ((V.flat ys).map .v))))) := rfl
def TG1 (sh : Sh) (b off len : Nat) (ys : List V) (cs : List D) (σ : Sg) (K : D → Sg → Prop) (_ : Unit) : Prop :=
  off + len * shn sh ≤ cs.length ∧ (len + ys.length) * b ≤ 140737488355328 ∧ ∀ c' : Nat, len + ys.length ≤ c' → c' ≤ maxLen →
    K (.msl σ.objs.length 0 (len + ys.length) sh (some c')) (σ.add (.cells ((cs.drop off).take (len * shn sh) ++ ((V.flat ys).map .v ++ List.replicate ((c' - (len + ys.length)) * shn sh) .junk))))
@[simp] theorem TG1_go {b off len : Nat} {ys : List V} {cs : List D} {K : D → Sg → Prop} {u : Unit} : TG1 sh b off len ys cs σ K u =
  (off + len * shn sh ≤ cs.length ∧ (len + ys.length) * b ≤ 140737488355328 ∧ ∀ c' : Nat, len + ys.length ≤ c' → c' ≤ maxLen →
    K (.msl σ.objs.length 0 (len + ys.length) sh (some c')) (σ.add (.cells ((cs.drop off).take (len * shn sh) ++ ((V.flat ys).map .v ++ List.replicate ((c' - (len + ys.length)) * shn sh) .junk))))) := rfl
def WM1 (sh : Sh) (b o off len c : Nat) (σ : Sg) (K : D → Sg → Prop) (ys : List V) : Prop :=
  WCells σ.objs[o]? fun cs => Br (len + ys.length ≤ c) (TR1 sh o off len c ys cs σ K) (TG1 sh b off len ys cs σ K)
@[simp] theorem WM1_go {b o off len c : Nat} {ys : List V} {K : D → Sg → Prop} : WM1 sh b o off len c σ K ys =
  WCells σ.objs[o]? fun cs => Br (len + ys.length ≤ c) (TR1 sh o off len c ys cs σ K) (TG1 sh b off len ys cs σ K) := rfl
@[simp] theorem WApmV_msl {b o off len c : Nat} {ys : List V} {K : D → Sg → Prop} : WApmV sh b (.msl o off len sh (some c)) ys σ K = WM1 sh b o off len c σ K ys := by
  simp only [WApmV, true_and, WM1, WApm1, WCells]
  generalize σ.objs[o]? = ob
  rcases ob with _ | (cs | es | _) <;> rfl
def TV1 (sh : Sh) (zs : List V) (n c : Int) (σ : Sg) (K : D → Sg → Prop) (_ : Unit) : Prop := K (.msl σ.objs.length 0 n.toNat sh (some c.toNat)) (σ.add (.cells ((zerosV zs c.toNat).map .v)))
@[simp] theorem TV1_go {zs : List V} {n c : Int} {K : D → Sg → Prop} {u : Unit} : TV1 sh zs n c σ K u = K (.msl σ.objs.length 0 n.toNat sh (some c.toNat)) (σ.add (.cells ((zerosV zs c.toNat).map .v))) := rfl
@[simp] theorem WX_mkvec {b : Nat} {zs : List V} {k l : IntKind} {n c : Int} {K : D → Sg → Prop} : WX (.mkvec sh b zs) [.v (.int k n), .v (.int l c)] σ K =
    (0 ≤ n ∧ n ≤ c ∧ c * b ≤ 140737488355328 ∧ Br (c = 0) (TMn sh σ K) (TV1 sh zs n c σ K)) := rfl
def WMs (sh : Sh) (σ : Sg) (K : D → Sg → Prop) (v : V) : Prop := match v with
  | .sl _ _ xs => xs ≠ [] ∧ K (.msl σ.objs.length 0 xs.length sh (some xs.length)) (σ.add (.cells ((V.flat xs).map .v)))
  | _ => False
@[simp] theorem WMs_sl {f : Bool} {sh' : Sh} {xs : List V} {K : D → Sg → Prop} : WMs sh σ K (.sl sh' f xs) = (xs ≠ [] ∧ K (.msl σ.objs.length 0 xs.length sh (some xs.length)) (σ.add (.cells ((V.flat xs).map .v)))) := rfl
@[simp] theorem WX_mkslm {ds : List D} {K : D → Sg → Prop} : WX (.mkslm sh) ds σ K = WMksl sh ds (WMs sh σ K) := rfl
@[simp] theorem WX_copy {o off len : Nat} {c : Option Nat} {x : D} {K : D → Sg → Prop} : WX (.copy sh) [.msl o off len sh c, x] σ K = WSome (srcM σ sh x) fun ys => WCells σ.objs[o]? fun cs =>
    cs.length ≠ 0 ∧ ys.length ≤ len ∧ off + ys.length * shn sh ≤ cs.length ∧ K (.v (.int .i64 ys.length)) (σ.put o (.cells (putAt cs off ((V.flat ys).map .v)))) := by
  simp only [WX, WCopy, WSome]
  generalize srcM σ sh x = q
  cases q with
  | none => rfl
  | some ys =>
    dsimp only [WCells]
    generalize σ.objs[o]? = ob
    rcases ob with _ | (cs | es | _) <;> simp
@[simp] theorem WX_cap_snil {K : D → Sg → Prop} : WX .cap [.v .snil] σ K = K (.v (.int .i64 0)) σ := rfl
@[simp] theorem WX_cap_full {K : D → Sg → Prop} : WX .cap [.v (.sl sh true xs)] σ K = K (.v (.int .i64 xs.length)) σ := rfl
@[simp] theorem WX_cap_msl {o off len c : Nat} {K : D → Sg → Prop} : WX .cap [.msl o off len sh (some c)] σ K = K (.v (.int .i64 c)) σ := rfl
@[simp] theorem allV_map_v {xs : List V} : allV (xs.map .v) = some xs := by
  induction xs with
  | nil => rfl
  | cons x xs ih => simp only [List.map_cons, allV, ih]
@[simp] theorem rowsV_none {k : Nat} : rowsV none k xs = xs.take k := rfl
@[simp] theorem flat_str {l : List (List UInt8)} : V.flat (l.map .str) = l.map .str := by
  induction l with
  | nil => rfl
  | cons a l ih => simp only [List.map_cons, V.flat, List.flatMap_cons, V.cells] at ih ⊢; rw [ih]; rfl
@[simp] theorem flat_int {k : IntKind} {l : List Int} : V.flat (l.map (.int k)) = l.map (.int k) := by
  induction l with
  | nil => rfl
  | cons a l ih => simp only [List.map_cons, V.flat, List.flatMap_cons, V.cells] at ih ⊢; rw [ih]; rfl
@[simp] theorem flat_nil' : V.flat [] = [] := rfl
end
section
variable {P : Program} {c : Bool} {K : V → Prop}
attribute [simp] eqCells
def NB (K : V → Prop) (b : Bool) : Prop := K (.bool (!b))
@[simp] theorem NB_go {K : V → Prop} {b : Bool} : NB K b = K (.bool (!b)) := rfl
def PB (K : V → Prop) (b : Bool) : Prop := K (.bool b)
@[simp] theorem PB_go {K : V → Prop} {b : Bool} : PB K b = K (.bool b) := rfl
@[simp] theorem WBin_bool_eql {a b : Bool} : WBin P .eql .bool c (.v (.bool a)) (.v (.bool b)) K = K (.bool (a == b)) := by simp [WBin, WEq]
@[simp] theorem WBin_bool_neq {a b : Bool} : WBin P .neq .bool c (.v (.bool a)) (.v (.bool b)) K = K (.bool (!(a == b))) := by simp [WBin, WEq]
@[simp] theorem WBin_pp_eql : WBin P .eql .ptr c (.v .pnil) (.v .pnil) K = K (.bool true) := by simp [WBin, WEq]
@[simp] theorem WBin_pp_neq : WBin P .neq .ptr c (.v .pnil) (.v .pnil) K = K (.bool false) := by simp [WBin, WEq]
@[simp] theorem WBin_po_eql {o p : Nat} : WBin P .eql .ptr c (.v .pnil) (.ptr o p) K = K (.bool false) := by simp [WBin, WEq]
@[simp] theorem WBin_po_neq {o p : Nat} : WBin P .neq .ptr c (.v .pnil) (.ptr o p) K = K (.bool true) := by simp [WBin, WEq]
@[simp] theorem WBin_op_eql {o p : Nat} : WBin P .eql .ptr c (.ptr o p) (.v .pnil) K = K (.bool false) := by simp [WBin, WEq]
@[simp] theorem WBin_op_neq {o p : Nat} : WBin P .neq .ptr c (.ptr o p) (.v .pnil) K = K (.bool true) := by simp [WBin, WEq]
@[simp] theorem WBin_ip_eql {sh : Sh} {x : V} {p : Nat} : WBin P .eql .ptr c (.imm sh x p) (.v .pnil) K = K (.bool false) := by simp [WBin, WEq]
@[simp] theorem WBin_ip_neq {sh : Sh} {x : V} {p : Nat} : WBin P .neq .ptr c (.imm sh x p) (.v .pnil) K = K (.bool true) := by simp [WBin, WEq]
@[simp] theorem WBin_nn_eql : WBin P .eql .ifc true (.v .inil) (.v .inil) K = K (.bool true) := by simp [WBin, WEq]
@[simp] theorem WBin_nn_neq : WBin P .neq .ifc true (.v .inil) (.v .inil) K = K (.bool false) := by simp [WBin, WEq]
@[simp] theorem WBin_ni_eql {t : Nat} {x : V} : WBin P .eql .ifc c (.v .inil) (.v (.iface t x)) K = K (.bool false) := by simp [WBin, WEq]
@[simp] theorem WBin_ni_neq {t : Nat} {x : V} : WBin P .neq .ifc c (.v .inil) (.v (.iface t x)) K = K (.bool true) := by simp [WBin, WEq]
@[simp] theorem WBin_in_eql {t : Nat} {x : V} : WBin P .eql .ifc c (.v (.iface t x)) (.v .inil) K = K (.bool false) := by simp [WBin, WEq]
@[simp] theorem WBin_in_neq {t : Nat} {x : V} : WBin P .neq .ifc c (.v (.iface t x)) (.v .inil) K = K (.bool true) := by simp [WBin, WEq]
@[simp] theorem WBin_nd_eql {t : Nat} {x : D} : WBin P .eql .ifc c (.v .inil) (.iface t x) K = K (.bool false) := by simp [WBin, WEq]
@[simp] theorem WBin_nd_neq {t : Nat} {x : D} : WBin P .neq .ifc c (.v .inil) (.iface t x) K = K (.bool true) := by simp [WBin, WEq]
@[simp] theorem WBin_dn_eql {t : Nat} {x : D} : WBin P .eql .ifc c (.iface t x) (.v .inil) K = K (.bool false) := by simp [WBin, WEq]
@[simp] theorem WBin_dn_neq {t : Nat} {x : D} : WBin P .neq .ifc c (.iface t x) (.v .inil) K = K (.bool true) := by simp [WBin, WEq]
@[simp] theorem WBin_ii_eql {t : Nat} {p : IntKind} {a b : Int} : WBin P .eql .ifc c (.v (.iface t (.int p a))) (.v (.iface t (.int p b))) K = (intTy P t = true ∧ K (.bool (a == b))) := by simp [WBin, WEq]
@[simp] theorem WBin_ii_neq {t : Nat} {p : IntKind} {a b : Int} : WBin P .neq .ifc c (.v (.iface t (.int p a))) (.v (.iface t (.int p b))) K = (intTy P t = true ∧ K (.bool (!(a == b)))) := by simp [WBin, WEq]
@[simp] theorem WBin_ss_eql : WBin P .eql .sl c (.v .snil) (.v .snil) K = K (.bool true) := by simp [WBin, WEq]
@[simp] theorem WBin_ss_neq : WBin P .neq .sl c (.v .snil) (.v .snil) K = K (.bool false) := by simp [WBin, WEq]
@[simp] theorem WBin_ls_eql {sh : Sh} {f : Bool} {xs : List V} : WBin P .eql .sl c (.v (.sl sh f xs)) (.v .snil) K = ∀ b : Bool, (xs ≠ [] → b = false) → PB K b := by simp [WBin, WEq]
@[simp] theorem WBin_ls_neq {sh : Sh} {f : Bool} {xs : List V} : WBin P .neq .sl c (.v (.sl sh f xs)) (.v .snil) K = ∀ b : Bool, (xs ≠ [] → b = false) → NB K b := by simp [WBin, WEq]
@[simp] theorem WBin_ts_eql {t : Nat} {sh : Sh} {xs : List V} : WBin P .eql .sl c (.tsl t sh xs) (.v .snil) K = ∀ b : Bool, (xs ≠ [] → b = false) → PB K b := by simp [WBin, WEq]
@[simp] theorem WBin_ms_eql {o off len : Nat} {sh : Sh} {q : Option Nat} : WBin P .eql .sl c (.msl o off len sh q) (.v .snil) K = ∀ b : Bool, (len ≠ 0 → b = false) → PB K b := by simp [WBin, WEq]
@[simp] theorem WBin_ms_neq {o off len : Nat} {sh : Sh} {q : Option Nat} : WBin P .neq .sl c (.msl o off len sh q) (.v .snil) K = ∀ b : Bool, (len ≠ 0 → b = false) → NB K b := by simp [WBin, WEq]
@[simp] theorem low_msl {n k o off len : Nat} {sh : Sh} {q : Option Nat} : D.low n k (.msl o off len sh q) = (o < n) := rfl
@[simp] theorem WBin_ts_neq {t : Nat} {sh : Sh} {xs : List V} : WBin P .neq .sl c (.tsl t sh xs) (.v .snil) K = ∀ b : Bool, (xs ≠ [] → b = false) → NB K b := by simp [WBin, WEq]
@[simp] theorem WBin_agg_eql {ks : List SK} {as0 bs : List V} : WBin P .eql (.struct ks) c (.v (.agg as0)) (.v (.agg bs)) K = WSome (eqCells ks as0 bs) (PB K) := by
  simp only [WBin, WEq, WSome]
  generalize eqCells ks as0 bs = o
  cases o <;> rfl
@[simp] theorem WBin_agg_neq {ks : List SK} {as0 bs : List V} : WBin P .neq (.struct ks) c (.v (.agg as0)) (.v (.agg bs)) K = WSome (eqCells ks as0 bs) (NB K) := by
  simp only [WBin, WEq, WSome]
  generalize eqCells ks as0 bs = o
  cases o <;> rfl
@[simp] theorem WStr_add {s t : List UInt8} : WStr .add s t K = (s.length + t.length ≤ 9223372036854775807 ∧ K (.str (s ++ t))) := rfl
@[simp] theorem WStr_eql {s t : List UInt8} : WStr .eql s t K = K (.bool (s == t)) := rfl
@[simp] theorem WStr_neq {s t : List UInt8} : WStr .neq s t K = K (.bool (!(s == t))) := rfl
@[simp] theorem WStr_lss {s t : List UInt8} : WStr .lss s t K = K (.bool (Op.bytesLess s t)) := rfl
@[simp] theorem WStr_leq {s t : List UInt8} : WStr .leq s t K = K (.bool (Op.bytesLess s t || s == t)) := rfl
@[simp] theorem WStr_gtr {s t : List UInt8} : WStr .gtr s t K = K (.bool (!(Op.bytesLess s t || s == t))) := rfl
@[simp] theorem WStr_geq {s t : List UInt8} : WStr .geq s t K = K (.bool (!Op.bytesLess s t)) := rfl
@[simp] theorem WConv_ofSnil : WConv .ofBytes (.v .snil) K = K (.str []) := rfl
@[simp] theorem WConv_ofBytes {sh : Sh} {f : Bool} {s : List UInt8} : WConv .ofBytes (.v (.sl sh f (bytesV s))) K = ∃ s', bytesV s = bytesV s' ∧ K (.str s') := rfl
@[simp] theorem WConv_ofTsl {t : Nat} {sh : Sh} {s : List UInt8} : WConv .ofBytes (.tsl t sh (bytesV s)) K = ∃ s', bytesV s = bytesV s' ∧ K (.str s') := rfl
section
variable {KD' : D → Prop}
@[simp] theorem WNil_ptr {o p : Nat} : WNil (.ptr o p) KD' = KD' (.ptr o p) := rfl
@[simp] theorem WNil_imm {sh : Sh} {x : V} {p : Nat} : WNil (.imm sh x p) KD' = KD' (.imm sh x p) := rfl
@[simp] theorem WNil_fn {f : Nat} {cs : List D} : WNil (.fn f cs) KD' = KD' (.fn f cs) := rfl
@[simp] theorem WNil_bfn {f : Nat} {d : D} : WNil (.bfn f d) KD' = KD' (.bfn f d) := rfl
@[simp] theorem WNil_vfn {f : Nat} : WNil (.v (.fn f)) KD' = KD' (.v (.fn f)) := rfl
@[simp] theorem WNil_if {t : Nat} {x : V} : WNil (.v (.iface t x)) KD' = KD' (.v (.iface t x)) := rfl
@[simp] theorem WNil_dif {t : Nat} {x : D} : WNil (.iface t x) KD' = KD' (.iface t x) := rfl
@[simp] theorem WField_cell {off : Nat} {cs : List V} : WField none off (.v (.agg cs)) KD' = WSome cs[off]? fun x => KD' (.v x) := by
  simp only [WField, WSome]
  generalize cs[off]? = o
  cases o <;> rfl
@[simp] theorem WField_row {off n : Nat} {cs : List V} : WField (some n) off (.v (.agg cs)) KD' = (off + n ≤ cs.length ∧ KD' (.v (.agg ((cs.drop off).take n)))) := rfl
@[simp] theorem WField_dcell {off : Nat} {cs : List D} : WField none off (.agg cs) KD' = WSome cs[off]? KD' := by
  simp only [WField, WSome]
  generalize cs[off]? = o
  cases o <;> rfl
@[simp] theorem WField_drow {off n : Nat} {cs : List D} : WField (some n) off (.agg cs) KD' = (off + n ≤ cs.length ∧ KD' (mkAgg ((cs.drop off).take n))) := rfl
theorem WLoad_imm_row {sh : Sh} {x : V} {off n : Nat} {σ : Sg} (h : ¬ (off = 0 ∧ some n = sh)) : WLoad (some n) (.imm sh x off) σ KD' = (off + n ≤ shn sh ∧ KD' (.v (.agg ((x.cells.drop off).take n)))) := by
  simp only [WLoad]
  rw [if_neg h]
@[simp] theorem WLoad_imm_row' {m : Nat} {x : V} {off n : Nat} {σ : Sg} (h : ¬ (off = 0 ∧ n = m)) : WLoad (some n) (.imm (some m) x off) σ KD' = (off + n ≤ m ∧ KD' (.v (.agg ((x.cells.drop off).take n)))) :=
  WLoad_imm_row (by simpa using h)
end
end
@[simp] theorem take_map_self {α β : Type} {f : α → β} {l : List α} : (l.map f).take l.length = l.map f := List.take_of_length_le (by simp)
@[simp] theorem bytesV_length {s : List UInt8} : (bytesV s).length = s.length := by simp [bytesV]
@[simp] theorem bytesV_drop {s : List UInt8} {n : Nat} : (bytesV s).drop n = bytesV (s.drop n) := by simp [bytesV]
@[simp] theorem bytesV_take {s : List UInt8} {n : Nat} : (bytesV s).take n = bytesV (s.take n) := by simp [bytesV]
@[simp] theorem bytesV_append {s t : List UInt8} : bytesV s ++ bytesV t = bytesV (s ++ t) := by simp [bytesV]
@[simp] theorem bytesV_snoc {s : List UInt8} {c : UInt8} : bytesV s ++ [V.int .u8 c.toNat] = bytesV (s ++ [c]) := by simp [bytesV]
@[simp] theorem bytesV_nil : bytesV [] = [] := rfl
theorem bytesV_inj {s t : List UInt8} (h : bytesV s = bytesV t) : s = t := by
  induction s generalizing t with
  | nil => cases t with
    | nil => rfl
    | cons b t => simp [bytesV] at h
  | cons a s ih =>
    cases t with
    | nil => simp [bytesV] at h
    | cons b t =>
      simp only [bytesV, List.map_cons, List.cons.injEq, V.int.injEq, true_and] at h
      rw [ih h.2]
      have := h.1
      congr 1
      exact UInt8.toNat_inj.1 (by omega)
@[simp] theorem bytesV_inj_iff {s t : List UInt8} : bytesV s = bytesV t ↔ s = t := ⟨bytesV_inj, fun h => h ▸ rfl⟩
@[simp] theorem bytesV_get_all {s : List UInt8} {i : Nat} {Q : V → Prop} : (∀ y, (bytesV s)[i]? = some y → Q y) ↔ ∀ c, s[i]? = some c → Q (.int .u8 c.toNat) := by
  simp only [bytesV, List.getElem?_map, Option.map_eq_some_iff]
  exact ⟨fun h c hc => h _ ⟨c, hc, rfl⟩, fun h y ⟨c, hc, he⟩ => he ▸ h c hc⟩
def lookM : Bool → D → List (Nat × D) → Nat → D
  | true, d, _, _ => d
  | false, _, r, n => look r n
@[simp] theorem look_nil {n : Nat} : look [] n = .junk := rfl
@[simp] theorem look_cons {k n : Nat} {d : D} {r : List (Nat × D)} : look ((k, d) :: r) n = lookM (k == n) d r n := by
  simp only [look]
  by_cases h : k = n
  · subst h; simp [lookM]
  · simp [h, lookM, beq_eq_false_iff_ne.2 h]
@[simp] theorem lookM_true {n : Nat} {d : D} {r : List (Nat × D)} : lookM true d r n = d := rfl
@[simp] theorem lookM_false {n : Nat} {d : D} {r : List (Nat × D)} : lookM false d r n = look r n := rfl
def updM : Bool → Nat → D → D → List (Nat × D) → Nat → List (Nat × D)
  | true, _, _, d, r, n => (n, d) :: r
  | false, k, x, d, r, n => (k, x) :: upd r n d
@[simp] theorem upd_nil {n : Nat} {d : D} : upd [] n d = [(n, d)] := rfl
@[simp] theorem upd_cons {k n : Nat} {x d : D} {r : List (Nat × D)} : upd ((k, x) :: r) n d = updM (k == n) k x d r n := by
  simp only [upd]
  by_cases h : k = n
  · subst h; simp [updM]
  · simp [h, updM, beq_eq_false_iff_ne.2 h]
@[simp] theorem updM_true {k n : Nat} {x d : D} {r : List (Nat × D)} : updM true k x d r n = (n, d) :: r := rfl
@[simp] theorem updM_false {k n : Nat} {x d : D} {r : List (Nat × D)} : updM false k x d r n = (k, x) :: upd r n d := rfl
section
variable {P : Program} {dst : Option Nat} {r : List RO} {s : List (Nat × D)} {σ : Sg} {K : List (Nat × D) → Sg → Prop}
@[simp] theorem WO_xop {x : XOp} {xs : List E} : WO P (⟨dst, none, .ext x xs⟩ :: r) s σ K = WX x (xs.map (ev s)) σ (KO P dst r s K) := rfl
end
section
variable {σ : Sg} {K : D → Sg → Prop}
def WMap (ob : Option Ob) (K : List (V × D) → Prop) : Prop := match ob with | some (.map es) => K es | _ => False
@[simp] theorem WMap_some {es : List (V × D)} {K : List (V × D) → Prop} : WMap (some (.map es)) K = K es := rfl
@[simp] theorem WX_mkmap {ds : List D} : WX .mkmap ds σ K = K (.map σ.objs.length) (σ.add (.map [])) := rfl
@[simp] theorem WX_mput {kk : KK} {o : Nat} {k : V} {d : D} : WX (.mput kk) [.map o, .v k, d] σ K = WMap σ.objs[o]? fun es => keyOk kk k = true ∧ keysOk kk es = true ∧ K (.tup []) (σ.put o (.map (mset k d es))) := by
  simp only [WX, WMap]
  generalize σ.objs[o]? = ob
  rcases ob with _ | (cs | es | _) <;> rfl
attribute [simp] dense_is
@[simp] theorem WX_mdel {kk : KK} {o : Nat} {k : V} : WX (.mdel kk) [.map o, .v k] σ K = WMap σ.objs[o]? fun es => dense = false ∧ keyOk kk k = true ∧ keysOk kk es = true ∧ K (.tup []) (σ.put o (.map (merase k es))) := by
  simp only [WX, WMap]
  generalize σ.objs[o]? = ob
  rcases ob with _ | (cs | es | _) <;> rfl
def WIter (ob : Option Ob) (K0 : Prop) (K : Nat → Nat → List Nat → Prop) : Prop := match ob with
  | some (.iter none _ _) => K0
  | some (.iter (some o) since seen) => K o since seen
  | _ => False
@[simp] theorem WIter_none {since : Nat} {seen : List Nat} {K0 : Prop} {K : Nat → Nat → List Nat → Prop} : WIter (some (.iter none since seen)) K0 K = K0 := rfl
@[simp] theorem WIter_some {o since : Nat} {seen : List Nat} {K0 : Prop} {K : Nat → Nat → List Nat → Prop} : WIter (some (.iter (some o) since seen)) K0 K = K o since seen := rfl
@[simp] theorem WX_mrange_nil : WX .mrange [.v .mnil] σ K = K (.ptr σ.objs.length 0) (σ.add (.iter none 0 [])) := rfl
@[simp] theorem WX_mrange {o : Nat} : WX .mrange [.map o] σ K = WMap σ.objs[o]? fun es => dense = true ∧ K (.ptr σ.objs.length 0) (σ.add (.iter (some o) es.length [])) := by
  simp only [WX, WMap]
  generalize σ.objs[o]? = ob
  rcases ob with _ | (cs | es | _) <;> rfl
def WNx (i o since : Nat) (seen : List Nat) (σ : Sg) (K : D → Sg → Prop) (es : List (V × D)) : Prop :=
  dense = true ∧ es.length = since ∧ ((∀ j, j < es.length → j ∈ seen) → K (.tup [.v (.bool false)]) σ) ∧ ∀ (j : Nat) x, es[j]? = some x → j ∉ seen → K (.tup [.v (.bool true), .v x.1, x.2]) (σ.put i (.iter (some o) since (seen ++ [j])))
@[simp] theorem WX_mnext {i : Nat} : WX .mnext [.ptr i 0] σ K = WIter σ.objs[i]? (K (.tup [.v (.bool false)]) σ) fun o since seen => WMap σ.objs[o]? (WNx i o since seen σ K) := by
  simp only [WX, WIter]
  generalize hob : σ.objs[i]? = ob
  rcases ob with _ | (cs | es | ⟨_ | o, since, seen⟩) <;> rfl
def WEn (since : Nat) (seen : List Nat) (σ : Sg) (K : D → Sg → Prop) (es : List (V × D)) : Prop :=
  dense = true ∧ es.length = since ∧ ∃ pre j x, seen = pre ++ [j] ∧ es[j]? = some x ∧ K (.tup [.v x.1, x.2]) σ
@[simp] theorem WEn_snoc {since j : Nat} {pre : List Nat} {σ : Sg} {K : D → Sg → Prop} {es : List (V × D)} {x : V × D} (h : es[j]? = some x) : WEn since (pre ++ [j]) σ K es = (dense = true ∧ es.length = since ∧ K (.tup [.v x.1, x.2]) σ) := by
  simp only [WEn, eq_iff_iff]
  constructor
  · rintro ⟨h0, h1, p, i, y, h2, h3, h4⟩
    have := List.append_inj' h2 rfl
    obtain ⟨rfl, h5⟩ := this
    cases h5
    rw [h] at h3; cases h3
    exact ⟨h0, h1, h4⟩
  · rintro ⟨h0, h1, h2⟩
    exact ⟨h0, h1, pre, j, x, rfl, h, h2⟩
@[simp] theorem WX_mentry {i : Nat} : WX .mentry [.ptr i 0] σ K = WIter σ.objs[i]? False fun o since seen => WMap σ.objs[o]? (WEn since seen σ K) := by
  simp only [WX, WIter]
  generalize hob : σ.objs[i]? = ob
  rcases ob with _ | (cs | es | ⟨_ | o, since, seen⟩) <;> rfl
@[simp] theorem WX_mget {kk : KK} {ok : Bool} {z : V} {o : Nat} {k : V} : WX (.mget kk ok z) [.map o, .v k] σ K = WMap σ.objs[o]? fun es => keyOk kk k = true ∧ keysOk kk es = true ∧ K (mgot ok z (mfind k es)) σ := by
  simp only [WX, WMap]
  generalize σ.objs[o]? = ob
  rcases ob with _ | (cs | es | _) <;> rfl
@[simp] theorem WX_mget_nil {kk : KK} {ok : Bool} {z k : V} : WX (.mget kk ok z) [.v .mnil, .v k] σ K = (keyOk kk k = true ∧ K (mgot ok z none) σ) := rfl
@[simp] theorem mgot_ok {z : V} {r : Option D} : mgot true z r = .tup [r.getD (.v z), .v (.bool r.isSome)] := rfl
@[simp] theorem mgot_one {z : V} {r : Option D} : mgot false z r = r.getD (.v z) := rfl
@[simp] theorem keysOk_nil {kk : KK} : keysOk kk [] = true := rfl
@[simp] theorem keysOk_cons {kk : KK} {e : V × D} {es : List (V × D)} : keysOk kk (e :: es) = (keyOk kk e.1 && keysOk kk es) := rfl
@[simp] theorem mset_nil {x : V} {d : D} : mset x d [] = [(x, d)] := rfl
def msetM : Bool → V → D → V → D → List (V × D) → List (V × D)
  | true, x, d, _, _, r => (x, d) :: r
  | false, x, d, k, e, r => (k, e) :: mset x d r
@[simp] theorem mset_cons {x k : V} {d e : D} {r : List (V × D)} : mset x d ((k, e) :: r) = msetM (keq x k) x d k e r := by
  simp only [mset]
  by_cases h : keq x k = true
  · simp [h, msetM]
  · simp [h, msetM]
@[simp] theorem msetM_true {x k : V} {d e : D} {r : List (V × D)} : msetM true x d k e r = (x, d) :: r := rfl
@[simp] theorem msetM_false {x k : V} {d e : D} {r : List (V × D)} : msetM false x d k e r = (k, e) :: mset x d r := rfl
end
attribute [simp] keyOk keq
@[simp] theorem low_map {n k o : Nat} : D.low n k (.map o) = (o < n) := rfl
attribute [simp] bounds loI hiI mxI asI
attribute [simp] ev push outs envOf Sg.add Sg.put Sg.tput Sg.tadd D.cells V.cells D.lies mkAgg allV mkIface fillD putAt V.shape V.one D.toV D.toVs rvD rvDs tupD shn
def PostV (B : Sg) (r : D) (σ : Sg) (R : D → Sg → Prop) : Prop := ∃ r' σ', WeakR B r σ r' σ' ∧ R r' σ'
theorem PostR_def {B : Sg} {res : List RV} {R : D → Sg → Prop} {st : St} : PostR B res R st = WSome (rvDs st.env st.σ res) fun ds => PostV B (tupD ds) st.σ R := by
  unfold PostR WSome PostV
  generalize rvDs st.env st.σ res = o
  cases o <;> rfl
@[simp] theorem Post_ret {B : Sg} {res : List RV} {R : D → Sg → Prop} {st : St} : Post B res R .ret st = WSome (rvDs st.env st.σ res) fun ds => PostV B (tupD ds) st.σ R := PostR_def
@[simp] theorem Post_normal {B : Sg} {res : List RV} {R : D → Sg → Prop} {st : St} : Post B res R .normal st = WSome (rvDs st.env st.σ res) fun ds => PostV B (tupD ds) st.σ R := PostR_def
theorem PostV.mk {B : Sg} {r : D} {R : D → Sg → Prop} (r' : D) {os : List Ob} {ts : List Nat} (h : R r' B) (hr : D.Le r r') (hb : r'.low B.objs.length B.toks.length) : PostV B r ⟨B.objs ++ os, B.toks ++ ts⟩ R :=
  ⟨r', B, WeakR.all hr hb, h⟩
theorem D.Le.tsl {t : Nat} {sh : Sh} {xs : List V} : D.Le (.tsl t sh xs) (.v (.sl sh false xs)) := by
  intro m w u h
  cases h with
  | tsl _ _ _ a len cap tk hv => exact .v _ _ hv
theorem D.Le.tup {ds ds' : List D} (hl : ds.length = ds'.length) (h : ∀ (i : Nat) d d', ds[i]? = some d → ds'[i]? = some d' → D.Le d d') : D.Le (.tup ds) (.tup ds') := by
  rintro m w u (_ | _)
  rename_i us hl' hr
  refine .tup _ _ (by omega) fun i d' u hd' hu => ?_
  have hlt : i < ds.length := by rw [hl]; exact (List.getElem?_eq_some_iff.1 hd').1
  exact h i ds[i] d' (List.getElem?_eq_getElem hlt) hd' m w u (hr i _ u (List.getElem?_eq_getElem hlt) hu)
theorem D.Le.tup2 {a b a' b' : D} (h : D.Le a a') (k : D.Le b b') : D.Le (.tup [a, b]) (.tup [a', b']) :=
  .tup rfl fun i d d' h1 h2 => by
    match i with
    | 0 => cases h1; cases h2; exact h
    | 1 => cases h1; cases h2; exact k
    | n + 2 => simp at h1
theorem D.Le.tup3 {a b c a' b' c' : D} (h : D.Le a a') (k : D.Le b b') (j : D.Le c c') : D.Le (.tup [a, b, c]) (.tup [a', b', c']) :=
  .tup rfl fun i d d' h1 h2 => by
    match i with
    | 0 => cases h1; cases h2; exact h
    | 1 => cases h1; cases h2; exact k
    | 2 => cases h1; cases h2; exact j
    | n + 3 => simp at h1
theorem PostV.fin {B : Sg} {r : D} {R : D → Sg → Prop} (r' : D) {σ : Sg} (h : R r' B) (hr : D.Le r r') (hb : r'.low B.objs.length B.toks.length := by simp) (ho : σ.objs = B.objs ++ σ.objs.drop B.objs.length := by simp)
    (ht : σ.toks = B.toks ++ σ.toks.drop B.toks.length := by simp) : PostV B r σ R := by
  obtain ⟨os, ts⟩ := σ
  dsimp only at ho ht
  rw [ho, ht]
  exact .mk r' h hr hb
@[simp] theorem low_v {n k : Nat} {x : V} : D.low n k (.v x) = True := rfl
@[simp] theorem low_tup {n k : Nat} {ds : List D} : D.low n k (.tup ds) = D.lows n k ds := rfl
@[simp] theorem lows_nil {n k : Nat} : D.lows n k [] = True := rfl
@[simp] theorem lows_cons {n k : Nat} {d : D} {ds : List D} : D.lows n k (d :: ds) = (D.low n k d ∧ D.lows n k ds) := rfl
def EnvEq (env : List (Nat × D)) : List (Nat × D) → Prop
  | [] => True
  | (i, d) :: r => look env i = d ∧ EnvEq env r
def EnvLow (n k : Nat) : List (Nat × D) → Prop
  | [] => True
  | (_, d) :: r => D.low n k d ∧ EnvLow n k r
theorem EnvEq.spec {env : List (Nat × D)} : ∀ {env' : List (Nat × D)}, EnvEq env env' → ∀ i, look env' i = look env i ∨ look env' i = .junk
  | [], _, i => .inr rfl
  | (j, d) :: r, h, i => by
    simp only [look]
    by_cases hij : j = i
    · subst hij; rw [if_pos rfl]; exact .inl h.1.symm
    · rw [if_neg hij]; exact h.2.spec i
theorem EnvEq.of_look {env1 env2 : List (Nat × D)} : ∀ {env' : List (Nat × D)}, EnvEq env1 env' → (∀ n, look env1 n = look env2 n) → EnvEq env2 env'
  | [], _, _ => trivial
  | (i, d) :: r, h, l => ⟨by rw [← l]; exact h.1, h.2.of_look l⟩
theorem Weak.trans {B : Sg} {a b c : St} (h : Weak B a b) (k : Weak B b c) : Weak B a c :=
  ⟨fun n hn => k.1 n (h.1 n hn), fun m0 m w0 w tmps hB hX hI hE => by
    obtain ⟨m1, h1, h2, h3⟩ := h.2 m0 m w0 w tmps hB hX hI hE
    exact k.2 m0 m1 w0 w tmps hB h3 h1 h2⟩
theorem EnvEq.ok {n k : Nat} {env : List (Nat × D)} : ∀ {env' : List (Nat × D)}, EnvEq env env' → EnvLow n k env' → EnvOk n k env env'
  | [], _, _ => trivial
  | (i, d) :: r, h, l => ⟨by rw [h.1]; exact .refl _, l.1, fun e => by rw [← h.1]; exact e, h.2.ok l.2⟩
theorem Weak.eq {B : Sg} {env env' : List (Nat × D)} {σ : Sg} (h : EnvEq env env') : Weak B ⟨env, σ⟩ ⟨env', σ⟩ := by
  refine ⟨fun n hn => ?_, fun m0 m w0 w tmps hB hX hI hE => ⟨m, hI, fun n => ?_, hX⟩⟩
  · rcases h.spec n with e | e
    · exact e.trans hn
    · exact e
  · rcases h.spec n with e | e
    · rw [show look (St.mk env' σ).env n = look env' n from rfl, e]; exact hE n
    · rw [show look (St.mk env' σ).env n = look env' n from rfl, e]; exact .junk _
theorem Weak.eq2 {B : Sg} {env env' : List (Nat × D)} {σ σ' : Sg} (hσ : σ = σ') (h : EnvEq env env') : Weak B ⟨env, σ⟩ ⟨env', σ'⟩ := hσ ▸ .eq h
@[simp] theorem lows_map_v {n k : Nat} {xs : List V} : D.lows n k (xs.map .v) = True := by
  induction xs with
  | nil => rfl
  | cons x xs ih => simp only [List.map_cons, lows_cons, low_v, ih, true_and]
@[simp] theorem low_tsl {n k t : Nat} {sh : Sh} {xs : List V} : D.low n k (.tsl t sh xs) = (t < k) := rfl
@[simp] theorem low_ptr {n k o p : Nat} : D.low n k (.ptr o p) = (o < n) := rfl
@[simp] theorem low_imm {n k p : Nat} {sh : Sh} {x : V} : D.low n k (.imm sh x p) = True := rfl
@[simp] theorem low_junk {n k : Nat} : D.low n k .junk = True := rfl
@[simp] theorem low_agg {n k : Nat} {ds : List D} : D.low n k (.agg ds) = D.lows n k ds := rfl
@[simp] theorem low_iface {n k t : Nat} {d : D} : D.low n k (.iface t d) = D.low n k d := rfl
@[simp] theorem low_bfn {n k f : Nat} {d : D} : D.low n k (.bfn f d) = D.low n k d := rfl
@[simp] theorem low_fn {n k f : Nat} {ds : List D} : D.low n k (.fn f ds) = D.lows n k ds := rfl
theorem Weak.dropX {B : Sg} {env env' : List (Nat × D)} {zs ys xs : List Ob} {ts ts' : List Nat} (hz : zs = ys ++ xs) (ht : ts = ts') (hts : B.toks.length ≤ ts'.length) (hlow : ∀ ob ∈ ys, ob.low (B.objs ++ ys).length ts'.length) (h : EnvEq env env')
    (l : EnvLow (B.objs ++ ys).length ts'.length env') : Weak B ⟨env, ⟨B.objs ++ zs, ts⟩⟩ ⟨env', ⟨B.objs ++ ys, ts'⟩⟩ := by
  subst ht hz
  have := Weak.drop (B := B) (os := B.objs ++ ys) (xs := xs) (ts := ts) (ts' := []) (by simp) hts (fun ob hob => (List.mem_append.1 hob).imp id (hlow ob)) (h.ok l)
  simpa using this
attribute [simp] Ob.low
theorem Weak.tokF {B : Sg} {env env' : List (Nat × D)} {σ : Sg} {i : Nat} {sh : Sh} {xs : List V} (h : EnvEq ((i, .tsl σ.toks.length sh xs) :: env) env') (hi : look env i = .v (.sl sh true xs)) (hm : xs.length ≤ maxLen) :
    Weak B ⟨env, σ⟩ ⟨env', σ.tadd xs.length⟩ := by
  refine ⟨fun n hn => ?_, fun m0 m w0 w tmps hB hX hI hE => ?_⟩
  · rcases h.spec n with e | e
    · simp only [look] at e
      by_cases hin : i = n
      · subst hin; rw [show look (St.mk env σ).env i = look env i from rfl, hi] at hn; cases hn
      · rw [if_neg hin] at e; exact e.trans hn
    · exact e
  · obtain ⟨hI', hX'⟩ := hI.tadd sh xs.length hm
    refine ⟨_, hI', fun n => ?_, hX.trans hX'⟩
    show RepD _ w (look env' n) _
    rcases h.spec n with e | e
    · rw [e]
      simp only [look]
      by_cases hin : i = n
      · subst hin
        rw [if_pos rfl]
        have hr := hE i
        rw [show look (St.mk env σ).env i = look env i from rfl, hi] at hr
        generalize tmps.getD i undef = u at hr
        cases hr with
        | v _ _ hv =>
          obtain ⟨a, cap, rfl, _⟩ := hv.sl_inv
          have := hv.tokd hX'
          rw [show σ.toks.length = m.toks.length from hI.tok_len.symm]
          exact this
      · rw [if_neg hin]; exact (hE n).mono hX'
    · rw [e]; exact .junk _
theorem Weak.tok {B : Sg} {env env' : List (Nat × D)} {σ : Sg} {i : Nat} {sh : Sh} (h : EnvEq ((i, .tsl σ.toks.length sh []) :: env) env') (hi : look env i = .v .snil) : Weak B ⟨env, σ⟩ ⟨env', σ.tadd 0⟩ := by
  have key : Weak B ⟨env, σ⟩ ⟨upd env i (.v (.sl sh true [])), σ⟩ := by
    refine ⟨fun n hn => ?_, fun m0 m w0 w tmps hB hX hI hE => ⟨m, hI, fun n => ?_, hX⟩⟩
    · show look (upd env i _) n = _
      rw [look_upd]
      by_cases hin : n = i
      · subst hin; rw [show look (St.mk env σ).env n = look env n from rfl, hi] at hn; cases hn
      · rw [if_neg hin]; exact hn
    · show RepD m w (look (upd env i _) n) _
      rw [look_upd]
      by_cases hin : n = i
      · subst hin
        rw [if_pos rfl]
        have hr := hE n
        rw [show look (St.mk env σ).env n = look env n from rfl, hi] at hr
        generalize tmps.getD n undef = u at hr
        cases hr with
        | v _ _ hv => cases hv; exact .v _ _ (.slNil sh true _)
      · rw [if_neg hin]; exact hE n
  refine key.trans (Weak.tokF (i := i) (sh := sh) (xs := []) (h.of_look fun n => ?_) (by rw [look_upd, if_pos rfl]) (Nat.zero_le _))
  simp only [look]
  by_cases hin : i = n
  · rw [if_pos hin, if_pos hin]
  · rw [if_neg hin, if_neg hin, look_upd, if_neg (Ne.symm hin)]
theorem ACalls.args {P : Program} {f : Nat} {ds ds' : List D} {σ : Sg} {R : D → Sg → Prop} (h : ACalls P f ds' σ R) (hl : ds.length = ds'.length) (hd : ∀ (i : Nat) d d', ds[i]? = some d → ds'[i]? = some d' → D.Le d d') : ACalls P f ds σ R :=
  ⟨h.1, fun m w us hI hlen hr => h.2 m w us hI (by omega) fun i d' u hd' hu => by
    have hlt : i < ds.length := by rw [hl]; exact (List.getElem?_eq_some_iff.1 hd').1
    exact hd i ds[i] d' (List.getElem?_eq_getElem hlt) hd' m w u (hr i _ u (List.getElem?_eq_getElem hlt) hu)⟩
theorem ACalls.arg1 {P : Program} {f : Nat} {d d' : D} {σ : Sg} {R : D → Sg → Prop} (h : ACalls P f [d'] σ R) (hd : D.Le d d') : ACalls P f [d] σ R :=
  h.args rfl fun i a b h1 h2 => by
    match i with
    | 0 => cases h1; cases h2; exact hd
    | n + 1 => simp at h1
theorem ACalls.argA {P : Program} {f : Nat} {d d' e : D} {σ : Sg} {R : D → Sg → Prop} (h : ACalls P f [d', e] σ R) (hd : D.Le d d') : ACalls P f [d, e] σ R :=
  h.args rfl fun i a b h1 h2 => by
    match i with
    | 0 => cases h1; cases h2; exact hd
    | 1 => cases h1; cases h2; exact .refl _
    | n + 2 => simp at h1
theorem D.Le.lax {sh : Sh} {f : Bool} {xs : List V} : D.Le (.v (.sl sh f xs)) (.v (.sl sh false xs)) := by
  intro m w u h
  cases h with
  | v _ _ hv => exact .v _ _ hv.lax
theorem D.Le.snil {sh : Sh} {f : Bool} : D.Le (.v .snil) (.v (.sl sh f [])) := by
  intro m w u h
  cases h with
  | v _ _ hv => cases hv; exact .v _ _ (.slNil sh f _)
theorem ACalls.then {P : Program} {f : Nat} {ds : List D} {σ : Sg} {R : D → Sg → Prop} {T : D → Prop} (h : ACalls P f ds σ fun r σ' => T r ∧ σ' = σ) (k : ∀ r, T r → R r σ) : ACalls P f ds σ R :=
  h.mono fun r σ' ⟨h1, h2⟩ => by rw [h2]; exact k r h1
theorem WCall.mono {P : Program} {f : D} {ds : List D} {σ : Sg} {R R' : D → Sg → Prop} (h : WCall P f ds σ R) (k : ∀ r σ', R r σ' → R' r σ') : WCall P f ds σ R' := by
  unfold WCall at h ⊢
  split at h
  · exact ACalls.mono h k
  · exact ACalls.mono h k
  · exact ACalls.mono h k
  · exact h
theorem WCall.then {P : Program} {f : D} {ds : List D} {σ : Sg} {R : D → Sg → Prop} {T : D → Prop} (h : WCall P f ds σ fun r σ' => T r ∧ σ' = σ) (k : ∀ r, T r → R r σ) : WCall P f ds σ R :=
  h.mono fun r σ' ⟨h1, h2⟩ => by rw [h2]; exact k r h1
attribute [simp] V.fits V.fitsL D.fits D.fitsL EnvEq EnvLow
@[simp] theorem inR_i64 {n : Int} : inR .i64 n ↔ -9223372036854775808 ≤ n ∧ n ≤ 9223372036854775807 := by simp [inR, IntKind.min, IntKind.max, IntKind.bits, IntKind.signed]
@[simp] theorem inR_u64 {n : Int} : inR .u64 n ↔ 0 ≤ n ∧ n ≤ 18446744073709551615 := by simp [inR, IntKind.min, IntKind.max, IntKind.bits, IntKind.signed]
@[simp] theorem inR_u8 {n : Int} : inR .u8 n ↔ 0 ≤ n ∧ n ≤ 255 := by simp [inR, IntKind.min, IntKind.max, IntKind.bits, IntKind.signed]
@[simp] theorem inR_i32 {n : Int} : inR .i32 n ↔ -2147483648 ≤ n ∧ n ≤ 2147483647 := by simp [inR, IntKind.min, IntKind.max, IntKind.bits, IntKind.signed]
@[simp] theorem maxLen_eq : maxLen = 9223372036854775807 := rfl
@[simp] theorem fitsL_map {α : Type} {f : α → V} {l : List α} : V.fitsL (l.map f) ↔ ∀ a ∈ l, (f a).fits := by simp [V.fitsL_iff]
theorem wrap_i64 {n : Int} (h : -9223372036854775808 ≤ n) (k : n ≤ 9223372036854775807) : IntKind.wrap .i64 n = n := by
  unfold IntKind.wrap
  simp [IntKind.bits, IntKind.signed, IntKind.max, IntKind.min] at *
  try omega
theorem wrap_u64 {n : Int} (h : 0 ≤ n) (k : n < 18446744073709551616) : IntKind.wrap .u64 n = n := by
  unfold IntKind.wrap
  simp [IntKind.bits, IntKind.signed] at *
  try omega
theorem wrap_u8 {n : Int} (h : 0 ≤ n) (k : n < 256) : IntKind.wrap .u8 n = n := by
  unfold IntKind.wrap
  simp [IntKind.bits, IntKind.signed] at *
  try omega
attribute [simp] wrap_i64 wrap_u64 wrap_u8
end Go.Abs
namespace Go.Abs
open Go
theorem RepD.toV {m : Gh} {w : World} {x : V} {u : Value} (h : RepD m w (.v x) u) : RepV w (Fz m w) x u := by
  cases h with | v _ _ h => exact h
theorem D.Le.aggVV {xs ys : List V} (hl : xs.length = ys.length) (h1 : ∀ c ∈ ys, c.one = true) (h : ∀ (i : Nat) x y, xs[i]? = some x → ys[i]? = some y → D.Le (.v x) (.v y)) : D.Le (.v (.agg xs)) (.v (.agg ys)) := by
  intro m w u hu
  cases hu with
  | v _ _ hu =>
    cases hu with
    | agg cs us hl' hone hr =>
      refine .v _ _ (.agg ys us (by omega) h1 fun i c u hc hu => ?_)
      have hi : i < xs.length := by rw [hl]; exact (List.getElem?_eq_some_iff.1 hc).1
      exact (h i xs[i] c (List.getElem?_eq_getElem hi) hc m w u (.v _ _ (hr i _ u (List.getElem?_eq_getElem hi) hu))).toV
def VLe (x y : V) : Prop := ∀ w F u, RepV w F x u → RepV w F y u
theorem VLe.refl (x : V) : VLe x x := fun _ _ _ h => h
theorem VLe.snil {sh : Sh} {f : Bool} : VLe .snil (.sl sh f []) := fun w F u h => by cases h; exact .slNil _ _ _
theorem VLe.lax {sh : Sh} {f : Bool} {xs : List V} : VLe (.sl sh f xs) (.sl sh false xs) := fun w F u h => h.lax
def VLes : List V → List V → Prop
  | [], [] => True
  | x :: xs, y :: ys => VLe x y ∧ VLes xs ys
  | _, _ => False
theorem VLes.get : ∀ {xs ys : List V}, VLes xs ys → ∀ (i : Nat) x y, xs[i]? = some x → ys[i]? = some y → VLe x y
  | [], [], _, i, x, y, h, _ => by simp at h
  | x :: xs, y :: ys, h, 0, _, _, h1, h2 => by cases h1; cases h2; exact h.1
  | x :: xs, y :: ys, h, i + 1, _, _, h1, h2 => VLes.get h.2 i _ _ (by simpa using h1) (by simpa using h2)
  | [], _ :: _, h, _, _, _, _, _ => h.elim
  | _ :: _, [], h, _, _, _, _, _ => h.elim
theorem VLes.len : ∀ {xs ys : List V}, VLes xs ys → xs.length = ys.length
  | [], [], _ => rfl
  | x :: xs, y :: ys, h => by simp [VLes.len h.2]
  | [], _ :: _, h => h.elim
  | _ :: _, [], h => h.elim
theorem VLe.agg {xs ys : List V} (h : VLes xs ys) (h1 : ∀ c ∈ ys, c.one = true) : VLe (.agg xs) (.agg ys) := by
  intro w F u hu
  have hl := h.len
  cases hu with
  | agg cs us hl' hone hr =>
    refine .agg ys us (by omega) h1 fun i c u hc hu => ?_
    have hi : i < xs.length := by rw [hl]; exact (List.getElem?_eq_some_iff.1 hc).1
    exact h.get i _ c (List.getElem?_eq_getElem hi) hc w F u (hr i _ u (List.getElem?_eq_getElem hi) hu)
theorem VLe.sl {sh : Sh} {f : Bool} {xs ys : List V} (hl : xs.length = ys.length) (hs : ∀ y ∈ ys, y.shape = sh) (h1 : ∀ c ∈ V.flat ys, c.one = true) (h : VLes (V.flat xs) (V.flat ys)) : VLe (.sl sh f xs) (.sl sh false ys) := by
  intro w F u hu
  cases hu with
  | slNil _ _ a =>
    have : ys = [] := List.length_eq_zero_iff.1 hl.symm
    subst this
    exact .slNil _ _ _
  | sl _ _ _ b off cap us hs' h1' hl' hm hf hc hr =>
    rw [hl]
    refine .sl sh false ys b off cap us hs h1 (by omega) hm (fun h => by cases h) (fun i hi => hc i (by rw [hl]; exact hi)) fun i c hc' => ?_
    have hi : i < (V.flat xs).length := by rw [h.len]; exact (List.getElem?_eq_some_iff.1 hc').1
    exact h.get i _ c (List.getElem?_eq_getElem hi) hc' w F _ (hr i _ (List.getElem?_eq_getElem hi))
theorem VLe.d {x y : V} (h : VLe x y) : D.Le (.v x) (.v y) := by
  intro m w u hu
  cases hu with
  | v _ _ hu => exact .v _ _ (h _ _ _ hu)
theorem PostV.finS {B : Sg} {r : D} {R : D → Sg → Prop} (r' : D) (σ' : Sg) {σ : Sg} (h : R r' σ') (hr : D.Le r r') (hob : ∀ ob ∈ σ'.objs, ob ∈ B.objs ∨ ob.low σ'.objs.length σ'.toks.length) (hb : r'.low σ'.objs.length σ'.toks.length := by simp)
    (ho : σ.objs = σ'.objs ++ σ.objs.drop σ'.objs.length := by simp) (ht : σ.toks = σ'.toks ++ σ.toks.drop σ'.toks.length := by simp) (hos : B.objs.length ≤ σ'.objs.length := by simp) (hts : B.toks.length ≤ σ'.toks.length := by simp) : PostV B r σ R := by
  obtain ⟨os, ts⟩ := σ
  obtain ⟨os', ts'⟩ := σ'
  dsimp only at ho ht
  rw [ho, ht]
  exact ⟨r', _, WeakR.drop hos hts hob hr hb, h⟩
theorem low_set {B : List Ob} {o n k : Nat} {ob : Ob} (h : ob.low n k) : ∀ ob' ∈ B.set o ob, ob' ∈ B ∨ ob'.low n k := by
  intro ob' hm
  rcases List.mem_or_eq_of_mem_set hm with h1 | rfl
  · exact .inl h1
  · exact .inr h
section
variable {α : Type} {os r : List α} {o k : Nat} {x y : α}
@[simp] theorem set_app_set (h : o < os.length) : (os.set o x ++ r).set o y = os.set o y ++ r := by
  rw [List.set_append_left _ _ (by simpa using h), List.set_set]
@[simp] theorem get_app_set (h : o < os.length) : (os.set o x ++ r)[o]? = some x := by
  rw [List.getElem?_append_left (by simpa using h)]; simp [h]
@[simp] theorem get_sapp0 : (os.set o x ++ r)[os.length]? = r[0]? := by
  rw [List.getElem?_append_right (by simp)]; simp
@[simp] theorem get_sapp : (os.set o x ++ r)[os.length + k]? = r[k]? := by
  rw [List.getElem?_append_right (by simp)]; simp
@[simp] theorem set_sapp0 : (os.set o x ++ r).set os.length y = os.set o x ++ r.set 0 y := by
  rw [List.set_append_right _ _ (by simp)]; simp
@[simp] theorem set_sapp : (os.set o x ++ r).set (os.length + k) y = os.set o x ++ r.set k y := by
  rw [List.set_append_right _ _ (by simp)]; simp
end
theorem WeakR.freeze {B : Sg} {o off len : Nat} {sh : Sh} {cp : Option Nat} {os : List Ob} {ts : List Nat} {cs : List D} {xs : List V} (ho : B.objs.length ≤ o) (hcs : (B.objs ++ os)[o]? = some (.cells cs)) (hne : cs ≠ [])
    (hx : (cs.drop off).take (len * shn sh) = (V.flat xs).map .v) (hl : xs.length = len) (hs : ∀ x ∈ xs, x.shape = sh) : WeakR B (.msl o off len sh cp) ⟨B.objs ++ os, B.toks ++ ts⟩ (.v (.sl sh false xs)) B := by
  intro m0 m w0 w u hB hX hI hR
  have hI' := hI.take (n := B.objs.length) (k := B.toks.length) (by
    simp only [List.take_left]
    intro ob hm
    exact hB.ob_low hm)
  simp only [List.take_left] at hI'
  refine ⟨_, hI', ?_, hX.take (by rw [hB.lobj]; exact Nat.le_refl _) (by rw [hB.tok_len]; exact Nat.le_refl _)⟩
  cases hR with
  | msl _ _ _ _ _ aa cap hol hbb hlc hcm hcc =>
  rcases hbb with ⟨b, rfl, hb⟩ | ⟨h0, h1⟩
  · have hb := hI.live hcs (by rintro e; cases e; exact hne rfl) hb
    obtain ⟨us, ty, hh, hsz, hob, hone⟩ := hI.ob o _ b hcs hb
    have hfl : (V.flat xs).length = len * shn sh := by rw [V.flat_length hs, hl]
    have hfit : off + len * shn sh ≤ cs.length ∨ len * shn sh = 0 := by
      have := congrArg List.length hx
      simp only [List.length_take, List.length_drop, List.length_map, hfl] at this
      omega
    have hnm : ∀ off', ¬ (m.take B.objs.length B.toks.length).mut b off' := by
      rintro off' (h | ⟨tk, h, h2, _⟩)
      · have h3 := Gh.mem_objb.1 h
        simp only [Gh.take] at h3
        obtain ⟨j, hj⟩ := List.mem_iff_getElem?.1 h3
        rw [List.getElem?_take] at hj
        split at hj
        · rename_i hlt
          have := objb_inj (List.nodup_append.1 hI.nodup).1 hj hb
          omega
        · cases hj
      · have h3 : tk ∈ m.toks := List.mem_of_mem_take h
        exact Gh.own_not_obj hI.nodup h3 h2 (Gh.mem_objb.2 (List.mem_of_getElem? hb))
    have hbs : b < w.heap.size := (Array.getElem?_eq_some_iff.1 hh).1
    have hat : ∀ (i : Nat) c, (V.flat xs)[i]? = some c → ∃ u, us[off + i]? = some u ∧ RepV w (Fz m w) c u ∧ u.oneCell' = true := by
      intro i c hc
      have hil : i < len * shn sh := by rw [← hfl]; exact (List.getElem?_eq_some_iff.1 hc).1
      have h3 : ((cs.drop off).take (len * shn sh))[i]? = some (.v c) := by rw [hx, List.getElem?_map, hc]; rfl
      rw [List.getElem?_take_of_lt hil, List.getElem?_drop] at h3
      have hlt : off + i < us.size := Nat.lt_of_lt_of_le (List.getElem?_eq_some_iff.1 h3).1 hsz
      obtain ⟨q1, q2⟩ := hob (off + i) _ us[off + i] h3 (Array.getElem?_eq_getElem hlt)
      exact ⟨_, Array.getElem?_eq_getElem hlt, q1.v_inv, q2⟩
    refine .v _ _ ?_
    rw [← hl]
    refine .sl sh false xs b off cap (fun i => us.getD (off + i) undef) hs (fun c hc => ?_) (by omega) hcm (fun h => by cases h) (fun i hi => ?_) fun i c hc => ?_
    · obtain ⟨i, hi⟩ := List.mem_iff_getElem?.1 hc
      obtain ⟨u, _, h3, h4⟩ := hat i c hi
      cases h3 <;> first | rfl | (simp [Value.oneCell'] at h4)
    · rw [hl, ← hfl] at hi
      obtain ⟨u, h3, _⟩ := hat i _ (List.getElem?_eq_getElem hi)
      refine ⟨?_, hbs, hnm _⟩
      rw [cell_of_row w b (off + i) us ty (0, 0) hh, h3]
      simp [Array.getD_eq_getD_getElem?, h3]
    · obtain ⟨u, h3, h4, _⟩ := hat i c hc
      have e : us.getD (off + i) undef = u := by simp [Array.getD_eq_getD_getElem?, h3]
      show RepV _ _ c (us.getD (off + i) undef)
      rw [e]
      exact h4.mono fun b' off' hf => ⟨rfl, hf.1, fun hx => hf.2 (Gh.take_mut hx)⟩
  · subst h0 h1
    have : xs = [] := List.length_eq_zero_iff.1 hl
    subst this
    exact .v _ _ (.slNil _ _ _)
theorem PostV.freeze {B : Sg} {o off len : Nat} {sh : Sh} {cp : Option Nat} {R : D → Sg → Prop} (xs : List V) (cs : List D) {σ : Sg} (h : R (.v (.sl sh false xs)) B) (hcs : σ.objs[o]? = some (.cells cs)) (hne : cs ≠ [])
    (hx : (cs.drop off).take (len * shn sh) = (V.flat xs).map .v) (hl : xs.length = len) (hs : ∀ x ∈ xs, x.shape = sh) (ho : B.objs.length ≤ o := by simp) (hos : σ.objs = B.objs ++ σ.objs.drop B.objs.length := by simp)
    (hts : σ.toks = B.toks ++ σ.toks.drop B.toks.length := by simp) : PostV B (.msl o off len sh cp) σ R := by
  obtain ⟨os, ts⟩ := σ
  dsimp only at hos hts hcs
  refine ⟨_, B, ?_, h⟩
  rw [hos, hts]
  exact .freeze ho (by rw [← hos]; exact hcs) hne hx hl hs
def EnvLe (env : List (Nat × D)) : List (Nat × D) → Prop
  | [] => True
  | (i, d) :: r => D.Le (look env i) d ∧ (look env i = .junk → d = .junk) ∧ EnvLe env r
theorem EnvLe.spec {env : List (Nat × D)} : ∀ {env' : List (Nat × D)}, EnvLe env env' → ∀ i, D.Le (look env i) (look env' i) ∧ (look env i = .junk → look env' i = .junk)
  | [], _, i => ⟨.junk _, fun _ => rfl⟩
  | (j, d) :: r, h, i => by
    simp only [look]
    by_cases hij : j = i
    · subst hij; rw [if_pos rfl]; exact ⟨h.1, h.2.1⟩
    · rw [if_neg hij]; exact h.2.2.spec i
theorem Weak.le {B : Sg} {env env' : List (Nat × D)} {σ : Sg} (h : EnvLe env env') : Weak B ⟨env, σ⟩ ⟨env', σ⟩ :=
  ⟨fun n hn => (h.spec n).2 hn, fun m0 m w0 w tmps hB hX hI hE => ⟨m, hI, fun n => (h.spec n).1 m w _ (hE n), hX⟩⟩
attribute [simp] EnvLe
@[simp] theorem Le_refl (d : D) : D.Le d d ↔ True := ⟨fun _ => trivial, fun _ => .refl d⟩
@[simp] theorem Le_snil {sh : Sh} {f : Bool} : D.Le (.v .snil) (.v (.sl sh f [])) ↔ True := ⟨fun _ => trivial, fun _ => .snil⟩
@[simp] theorem Le_tsl {t : Nat} {sh : Sh} {xs : List V} : D.Le (.tsl t sh xs) (.v (.sl sh false xs)) ↔ True := ⟨fun _ => trivial, fun _ => .tsl⟩
@[simp] theorem Le_lax {sh : Sh} {f : Bool} {xs : List V} : D.Le (.v (.sl sh f xs)) (.v (.sl sh false xs)) ↔ True := ⟨fun _ => trivial, fun _ => .lax⟩
section
variable {α : Type} {f : α → D} {l : List α} {rest : List D} {i : Nat}
end
theorem Ext.turned {m : Gh} {w w' : World} {b : Nat} (hb : b ∈ m.objb) (os : w'.os = w.os) (tape : w'.tape = w.tape) (output : w'.output = w.output) (size : w.heap.size ≤ w'.heap.size) (old : ∀ c, c < w.heap.size → c ≠ b → w'.heap[c]? = w.heap[c]?) : Ext m w m w' := by
  refine ⟨os, tape, output, size, fun _ _ h => .inl h, fun _ tk h => ⟨tk, h, rfl, Nat.le_refl _, fun _ => rfl⟩, fun c off f => ⟨cell?_of_heap (old c f.1 ?_), f.2⟩, fun c hc hn => ⟨old c hc ?_, hn⟩⟩
  · rintro rfl; exact f.2 (.inl hb)
  · rintro rfl; exact hn (List.mem_append.2 (.inl hb))
theorem Inv.turned {σ : Sg} {m : Gh} {w w' : World} (h : Inv σ m w) {o b : Nat} (hb : m.objs[o]? = some (some b)) (e : Ext m w m w') (old : ∀ c, c < w.heap.size → c ≠ b → w'.heap[c]? = w.heap[c]?) (ob : Ob) (r : ObRep m w' ob b) : Inv (σ.put o ob) m w' := by
  have hmem : b ∈ m.objb := Gh.mem_objb.2 (List.mem_of_getElem? hb)
  have nd : m.objb.Nodup := (List.nodup_append.1 h.nodup).1
  refine ⟨by simp [Sg.put, h.lobj], h.ltok, h.nodup, fun i ob' c hi hc => ?_, fun i hi => ?_, fun tk htk => ?_, h.glob.mono e⟩
  · simp only [Sg.put, List.getElem?_set] at hi
    by_cases hio : o = i
    · subst hio
      have hcb : c = b := Option.some.inj (Option.some.inj (hc.symm.trans hb))
      subst hcb
      simp only [if_true] at hi
      split at hi
      · cases hi; exact r
      · cases hi
    · rw [if_neg hio] at hi
      have hcb : c ≠ b := by
        rintro rfl
        exact hio (objb_inj nd hb hc)
      exact (h.ob i ob' c hi hc).mono e (old c (h.lt_obj (Gh.mem_objb.2 (List.mem_of_getElem? hc))) hcb)
  · have hio : o ≠ i := by
      rintro rfl
      rw [hb] at hi
      cases hi
    simp only [Sg.put, List.getElem?_set]
    rw [if_neg hio]
    exact h.gone i hi
  · obtain ⟨h1, h2, h3, h4⟩ := h.tk tk htk
    refine ⟨h1, h2, h3, fun c hbo => ?_⟩
    have hne : c ≠ b := by
      rintro rfl
      exact (List.nodup_append.1 h.nodup).2.2 c hmem c (Gh.mem_ownb.2 ⟨tk, htk, hbo⟩) rfl
    rw [old c (h.lt_own (Gh.mem_ownb.2 ⟨tk, htk, hbo⟩)) hne]
    exact h4 c hbo
end Go.Abs
namespace Go.Proofs.YtpdeaekmgljeaaaGreatDoor
open Go Go.Abs
def a41 : AFun := ⟨15,[.tmp 2],(.seq (.reg [2] [⟨some 2,none,.mv (.c (.int .i64 0))⟩]) (.seq (.seq (.reg [5] [⟨some 4,none,.mv (.t 0)⟩,⟨some 5,none,.bin .eql .ifc true (.t 4) (.c .inil)⟩]) (.cond (.t 5) (.seq (.reg [2] [⟨some 2,none,.mv (.c (.int .i64 0))⟩]) .ret) .skip)) (.seq (.seq (.reg [3] [⟨some 3,none,.mv (.c (.int .i64 1))⟩]) (.block 0 (.loop (.seq (.seq (.reg [7] [⟨some 6,none,.mv (.t 3)⟩,⟨some 7,none,.bin .leq .other true (.t 6) (.c (.int .i64 11))⟩]) (.cond (.t 7) .skip (.exit 0))) (.seq (.block 1 (.seq (.reg [13] [⟨some 10,none,.mv (.t 0)⟩,⟨some 11,none,.mv (.t 3)⟩,⟨some 12,none,.mkif 32 (.t 11)⟩,⟨some 13,none,.bin .eql .ifc false (.t 10) (.t 12)⟩]) (.cond (.t 13) (.seq (.reg [2] [⟨some 14,none,.mv (.t 3)⟩,⟨some 2,none,.mv (.t 14)⟩]) .ret) .skip))) (.reg [3] [⟨some 8,none,.mv (.t 3)⟩,⟨some 9,none,.bin .add .other true (.t 8) (.c (.int .i64 1))⟩,⟨some 3,none,.mv (.t 9)⟩])))))) (.seq (.reg [2] [⟨some 2,none,.mv (.c (.int .i64 (-1)))⟩]) .ret))))⟩
theorem c41 : compF Tryz.prog [0, 2, 3, 5, 7, 13] Tryz.f41 = some a41 := by kernel_rfl
def a43 : AFun := ⟨10,[.tmp 4],(.seq (.reg [4] [⟨some 4,none,.mv (.c .inil)⟩]) (.seq (.reg [4] [⟨some 5,none,.mv (.t 0)⟩,⟨some 6,none,.mv (.t 1)⟩,⟨some 7,none,.build [.int .i64 0,.int .i64 0] [(0,1,.t 5),(1,1,.t 6)]⟩,⟨some 8,none,.box (.t 7)⟩,⟨some 9,none,.mkif 56 (.t 8)⟩,⟨some 4,none,.mv (.t 9)⟩]) .ret))⟩
theorem c43 : compF Tryz.prog [0, 1, 4] Tryz.f43 = some a43 := by kernel_rfl
def a51 : AFun := ⟨37,[.tmp 2,.tmp 3],(.seq (.reg [2,3] [⟨some 2,none,.mv (.c .snil)⟩,⟨some 3,none,.mv (.c .inil)⟩]) (.seq (.seq (.reg [10] [⟨some 8,none,.mv (.t 0)⟩,⟨some 9,none,.len .sl (.t 8)⟩,⟨some 10,none,.bin .gtr .other true (.t 9) (.c (.int .i64 4000))⟩]) (.cond (.t 10) (.seq (.reg [2,3] [⟨some 11,none,.mkif 32 (.c (.int .i64 6))⟩,⟨some 2,none,.mv (.c .snil)⟩,⟨some 3,none,.mv (.t 11)⟩]) .ret) .skip)) (.seq (.reg [4] [⟨some 12,none,.mv (.t 0)⟩,⟨some 13,none,.build [.snil,.int .i64 0] [(0,1,.t 12)]⟩,⟨some 14,none,.box (.t 13)⟩,⟨some 4,none,.mv (.t 14)⟩]) (.seq (.reg [5] [⟨some 5,none,.mv (.c .snil)⟩]) (.block 0 (.loop (.block 1 (.seq (.reg [] [⟨some 15,none,.mv (.t 4)⟩,⟨some 16,none,.call (.c (.fn 80)) [.t 15,.c (.fn 81)]⟩]) (.seq (.seq (.reg [23] [⟨some 17,none,.mv (.t 4)⟩,⟨some 18,none,.nilck (.t 17)⟩,⟨some 19,none,.faddr 1 (.t 18)⟩,⟨some 20,none,.load none (.t 19)⟩,⟨some 21,none,.mv (.t 0)⟩,⟨some 22,none,.len .sl (.t 21)⟩,⟨some 23,none,.bin .eql .other false (.t 20) (.t 22)⟩]) (.cond (.t 23) (.seq (.reg [2,3] [⟨some 24,none,.mv (.t 5)⟩,⟨some 2,none,.mv (.t 24)⟩,⟨some 3,none,.mv (.c .inil)⟩]) .ret) .skip)) (.seq (.reg [6,7] [⟨some 26,none,.mv (.t 4)⟩,⟨some 27,none,.call (.c (.fn 82)) [.t 26]⟩,⟨some 25,none,.mv (.t 27)⟩,⟨some 28,none,.extract (.t 25) 0⟩,⟨some 29,none,.extract (.t 25) 1⟩,⟨some 6,none,.alloc [.int .i64 0,.int .i64 0,.int .i64 0,.str []]⟩,⟨none,none,.store 4 (.t 6) (.t 28)⟩,⟨some 7,none,.mv (.t 29)⟩]) (.seq (.seq (.reg [31] [⟨some 30,none,.mv (.t 7)⟩,⟨some 31,none,.bin .neq .ifc true (.t 30) (.c .inil)⟩]) (.cond (.t 31) (.seq (.reg [2,3] [⟨some 32,none,.mv (.t 7)⟩,⟨some 2,none,.mv (.c .snil)⟩,⟨some 3,none,.mv (.t 32)⟩]) .ret) .skip)) (.reg [5] [⟨some 33,none,.mv (.t 5)⟩,⟨some 34,none,.load (some 4) (.t 6)⟩,⟨some 35,none,.mksl (some 4) [.t 34]⟩,⟨some 36,none,.append (some 4) 40 (.t 33) (.t 35)⟩,⟨some 5,none,.mv (.t 36)⟩]))))))))))))⟩
theorem c51 : compF Tryz.prog [0, 2, 3, 4, 5, 6, 7, 10, 23, 31] Tryz.f51 = some a51 := by kernel_rfl
def a55 : AFun := ⟨49,[.tmp 2,.tmp 3],(.seq (.reg [2,3] [⟨some 2,none,.mv (.c (.str []))⟩,⟨some 3,none,.mv (.c .inil)⟩]) (.seq (.seq (.reg [9] [⟨some 7,none,.mv (.t 0)⟩,⟨some 8,none,.len .str (.t 7)⟩,⟨some 9,none,.bin .gtr .other true (.t 8) (.c (.int .i64 2000))⟩]) (.cond (.t 9) (.seq (.reg [2,3] [⟨some 10,none,.mkif 32 (.c (.int .i64 1))⟩,⟨some 2,none,.mv (.c (.str []))⟩,⟨some 3,none,.mv (.t 10)⟩]) .ret) .skip)) (.seq (.reg [4] [⟨some 11,none,.mksl none [.c (.int .u8 34)]⟩,⟨some 4,none,.mv (.t 11)⟩]) (.seq (.seq (.reg [13,14,15] [⟨some 12,none,.mv (.t 0)⟩,⟨some 13,none,.conv .toBytes (.t 12)⟩,⟨some 14,none,.len .sl (.t 13)⟩,⟨some 15,none,.mv (.c (.int .i64 0))⟩]) (.block 0 (.loop (.seq (.reg [16] [⟨some 16,none,.bin .lss .other false (.t 15) (.t 14)⟩]) (.seq (.cond (.t 16) .skip (.exit 0)) (.seq (.block 1 (.seq (.reg [6] [⟨some 17,none,.iaddr none (.t 13) (.t 15)⟩,⟨some 18,none,.load none (.t 17)⟩,⟨some 6,none,.mv (.t 18)⟩]) (.block 2 (.seq (.block 6 (.seq (.block 5 (.seq (.block 4 (.seq (.block 3 (.seq (.seq (.seq (.reg [19] [⟨some 20,none,.mv (.t 6)⟩,⟨some 21,none,.bin .eql .other true (.t 20) (.c (.int .u8 10))⟩,⟨some 19,none,.mv (.t 21)⟩]) (.cond (.t 19) (.exit 3) .skip)) (.seq (.seq (.reg [22] [⟨some 23,none,.mv (.t 6)⟩,⟨some 24,none,.call (.c (.fn 89)) [.t 23]⟩,⟨some 25,none,.un .not (.t 24)⟩,⟨some 22,none,.mv (.t 25)⟩]) (.cond (.t 22) (.exit 4) .skip)) (.seq (.reg [26] [⟨some 27,none,.mv (.t 6)⟩,⟨some 28,none,.bin .eql .other true (.t 27) (.c (.int .u8 34))⟩,⟨some 29,none,.mv (.t 28)⟩,⟨some 30,some (29,false),.mv (.t 6)⟩,⟨some 31,some (29,false),.bin .eql .other true (.t 30) (.c (.int .u8 92))⟩,⟨some 32,none,.pick (.t 29) (.c (.bool true)) (.t 31)⟩,⟨some 26,none,.mv (.t 32)⟩]) (.cond (.t 26) (.exit 5) .skip)))) (.exit 6))) (.seq (.reg [4] [⟨some 33,none,.mv (.t 4)⟩,⟨some 34,none,.mksl none [.c (.int .u8 92),.c (.int .u8 110)]⟩,⟨some 35,none,.append none 1 (.t 33) (.t 34)⟩,⟨some 4,none,.mv (.t 35)⟩]) (.exit 2)))) (.seq (.seq (.reg [2,3] [⟨some 36,none,.mkif 32 (.c (.int .i64 1))⟩,⟨some 2,none,.mv (.c (.str []))⟩,⟨some 3,none,.mv (.t 36)⟩]) .ret) (.exit 2)))) (.reg [4] [⟨some 37,none,.mv (.t 4)⟩,⟨some 38,none,.mksl none [.c (.int .u8 92)]⟩,⟨some 39,none,.append none 1 (.t 37) (.t 38)⟩,⟨some 4,none,.mv (.t 39)⟩]))) (.seq (.reg [4] [⟨some 40,none,.mv (.t 4)⟩,⟨some 41,none,.mv (.t 6)⟩,⟨some 42,none,.mksl none [.t 41]⟩,⟨some 43,none,.append none 1 (.t 40) (.t 42)⟩,⟨some 4,none,.mv (.t 43)⟩]) (.exit 2)))))) (.reg [15] [⟨some 44,none,.bin .add .other true (.t 15) (.c (.int .i64 1))⟩,⟨some 15,none,.mv (.t 44)⟩]))))))) (.seq (.reg [2,3] [⟨some 45,none,.mv (.t 4)⟩,⟨some 46,none,.mksl none [.c (.int .u8 34)]⟩,⟨some 47,none,.append none 1 (.t 45) (.t 46)⟩,⟨some 48,none,.conv .ofBytes (.t 47)⟩,⟨some 2,none,.mv (.t 48)⟩,⟨some 3,none,.mv (.c .inil)⟩]) .ret)))))⟩
theorem c55 : compF Tryz.prog [0, 2, 3, 4, 6, 9, 13, 14, 15, 16, 19, 22, 26] Tryz.f55 = some a55 := by kernel_rfl
def a36 : AFun := ⟨46,[.tmp 2,.tmp 3],(.seq (.reg [2,3] [⟨some 2,none,.mv (.c (.str []))⟩,⟨some 3,none,.mv (.c (.bool false))⟩]) (.seq (.reg [4] [⟨some 4,none,.mv (.c (.str [34]))⟩]) (.seq (.seq (.reg [5] [⟨some 5,none,.mv (.c (.int .i64 0))⟩]) (.block 0 (.loop (.seq (.seq (.reg [10] [⟨some 7,none,.mv (.t 5)⟩,⟨some 8,none,.mv (.t 0)⟩,⟨some 9,none,.len .str (.t 8)⟩,⟨some 10,none,.bin .lss .other false (.t 7) (.t 9)⟩]) (.cond (.t 10) .skip (.exit 0))) (.seq (.block 1 (.seq (.reg [6] [⟨some 13,none,.mv (.t 0)⟩,⟨some 14,none,.mv (.t 5)⟩,⟨some 15,none,.index (.t 13) (.t 14)⟩,⟨some 6,none,.mv (.t 15)⟩]) (.seq (.seq (.reg [17] [⟨some 16,none,.mv (.t 6)⟩,⟨some 17,none,.bin .eql .other true (.t 16) (.c (.int .u8 10))⟩]) (.cond (.t 17) (.seq (.reg [4] [⟨some 18,none,.mv (.t 4)⟩,⟨some 19,none,.bin .add .other true (.t 18) (.c (.str [92,110]))⟩,⟨some 4,none,.mv (.t 19)⟩]) (.exit 1)) .skip)) (.seq (.seq (.reg [25] [⟨some 20,none,.mv (.t 6)⟩,⟨some 21,none,.bin .lss .other true (.t 20) (.c (.int .u8 32))⟩,⟨some 22,none,.mv (.t 21)⟩,⟨some 23,some (22,false),.mv (.t 6)⟩,⟨some 24,some (22,false),.bin .gtr .other true (.t 23) (.c (.int .u8 126))⟩,⟨some 25,none,.pick (.t 22) (.c (.bool true)) (.t 24)⟩]) (.cond (.t 25) (.seq (.reg [2,3] [⟨some 2,none,.mv (.c (.str []))⟩,⟨some 3,none,.mv (.c (.bool false))⟩]) .ret) .skip)) (.seq (.seq (.reg [31] [⟨some 26,none,.mv (.t 6)⟩,⟨some 27,none,.bin .eql .other true (.t 26) (.c (.int .u8 34))⟩,⟨some 28,none,.mv (.t 27)⟩,⟨some 29,some (28,false),.mv (.t 6)⟩,⟨some 30,some (28,false),.bin .eql .other true (.t 29) (.c (.int .u8 92))⟩,⟨some 31,none,.pick (.t 28) (.c (.bool true)) (.t 30)⟩]) (.cond (.t 31) (.reg [4] [⟨some 32,none,.mv (.t 4)⟩,⟨some 33,none,.bin .add .other true (.t 32) (.c (.str [92]))⟩,⟨some 4,none,.mv (.t 33)⟩]) .skip)) (.reg [4] [⟨some 34,none,.mv (.t 4)⟩,⟨some 35,none,.mv (.t 0)⟩,⟨some 36,none,.mv (.t 5)⟩,⟨some 37,none,.mv (.t 5)⟩,⟨some 38,none,.bin .add .other true (.t 37) (.c (.int .i64 1))⟩,⟨some 39,none,.slice .str (.t 35) (some (.t 36)) (some (.t 38)) none⟩,⟨some 40,none,.bin .add .other false (.t 34) (.t 39)⟩,⟨some 4,none,.mv (.t 40)⟩])))))) (.reg [5] [⟨some 11,none,.mv (.t 5)⟩,⟨some 12,none,.bin .add .other true (.t 11) (.c (.int .i64 1))⟩,⟨some 5,none,.mv (.t 12)⟩])))))) (.seq (.reg [2,3] [⟨some 41,none,.mv (.t 4)⟩,⟨some 42,none,.bin .add .other true (.t 41) (.c (.str [34]))⟩,⟨some 43,none,.mv (.t 0)⟩,⟨some 44,none,.len .str (.t 43)⟩,⟨some 45,none,.bin .leq .other true (.t 44) (.c (.int .i64 2000))⟩,⟨some 2,none,.mv (.t 42)⟩,⟨some 3,none,.mv (.t 45)⟩]) .ret))))⟩
theorem c36 : compF Tryz.prog [0, 2, 3, 4, 5, 6, 10, 17, 25, 31] Tryz.f36 = some a36 := by kernel_rfl
def a80 : AFun := ⟨52,[.tmp 4],(.seq (.reg [4] [⟨some 4,none,.mv (.c (.str []))⟩]) (.seq (.reg [5] [⟨some 6,none,.mv (.t 0)⟩,⟨some 7,none,.nilck (.t 6)⟩,⟨some 8,none,.faddr 1 (.t 7)⟩,⟨some 9,none,.load none (.t 8)⟩,⟨some 5,none,.mv (.t 9)⟩]) (.seq (.block 0 (.loop (.seq (.seq (.any [33] [(⟨some 10,none,.mv (.t 0)⟩,true),(⟨some 11,none,.nilck (.t 10)⟩,true),(⟨some 12,none,.faddr 1 (.t 11)⟩,true),(⟨some 13,none,.load none (.t 12)⟩,true),(⟨some 14,none,.mv (.t 0)⟩,false),(⟨some 15,none,.nilck (.t 14)⟩,false),(⟨some 16,none,.faddr 0 (.t 15)⟩,false),(⟨some 17,none,.load none (.t 16)⟩,false),(⟨some 18,none,.len .sl (.t 17)⟩,false),(⟨some 19,none,.bin .lss .other false (.t 13) (.t 18)⟩,true),(⟨some 20,none,.mv (.t 19)⟩,true),(⟨some 21,some (20,true),.mv (.t 1)⟩,true),(⟨some 22,some (20,true),.mv (.t 0)⟩,false),(⟨some 23,some (20,true),.nilck (.t 22)⟩,false),(⟨some 24,some (20,true),.faddr 0 (.t 23)⟩,false),(⟨some 25,some (20,true),.load none (.t 24)⟩,false),(⟨some 26,some (20,true),.mv (.t 0)⟩,false),(⟨some 27,some (20,true),.nilck (.t 26)⟩,false),(⟨some 28,some (20,true),.faddr 1 (.t 27)⟩,false),(⟨some 29,some (20,true),.load none (.t 28)⟩,false),(⟨some 30,some (20,true),.iaddr none (.t 25) (.t 29)⟩,false),(⟨some 31,some (20,true),.load none (.t 30)⟩,false),(⟨some 32,some (20,true),.call (.t 21) [.t 31]⟩,true),(⟨some 33,none,.pick (.t 20) (.t 32) (.c (.bool false))⟩,true)]) (.cond (.t 33) .skip (.exit 0))) (.block 1 (.reg [] [⟨some 34,none,.mv (.t 0)⟩,⟨some 35,none,.nilck (.t 34)⟩,⟨some 36,none,.faddr 1 (.t 35)⟩,⟨some 37,none,.load none (.t 36)⟩,⟨some 38,none,.bin .add .other true (.t 37) (.c (.int .i64 1))⟩,⟨some 39,none,.nilck (.t 34)⟩,⟨some 40,none,.faddr 1 (.t 39)⟩,⟨none,none,.store 1 (.t 40) (.t 38)⟩]))))) (.seq (.any [4] [(⟨some 41,none,.mv (.t 0)⟩,true),(⟨some 42,none,.nilck (.t 41)⟩,true),(⟨some 43,none,.faddr 0 (.t 42)⟩,true),(⟨some 44,none,.load none (.t 43)⟩,true),(⟨some 45,none,.mv (.t 5)⟩,false),(⟨some 46,none,.mv (.t 0)⟩,false),(⟨some 47,none,.nilck (.t 46)⟩,false),(⟨some 48,none,.faddr 1 (.t 47)⟩,false),(⟨some 49,none,.load none (.t 48)⟩,false),(⟨some 50,none,.slice (.sl none) (.t 44) (some (.t 45)) (some (.t 49)) none⟩,true),(⟨some 51,none,.conv .ofBytes (.t 50)⟩,true),(⟨some 4,none,.mv (.t 51)⟩,true)]) .ret))))⟩
theorem c80 : compF Tryz.prog [0, 1, 4, 5, 33] Tryz.f80 = some a80 := by kernel_rfl
def a81 : AFun := ⟨13,[.tmp 2],(.seq (.reg [2] [⟨some 2,none,.mv (.c (.bool false))⟩]) (.seq (.reg [2] [⟨some 3,none,.mv (.t 0)⟩,⟨some 4,none,.bin .eql .other true (.t 3) (.c (.int .u8 32))⟩,⟨some 5,none,.mv (.t 4)⟩,⟨some 6,some (5,false),.mv (.t 0)⟩,⟨some 7,some (5,false),.bin .eql .other true (.t 6) (.c (.int .u8 10))⟩,⟨some 8,none,.pick (.t 5) (.c (.bool true)) (.t 7)⟩,⟨some 9,none,.mv (.t 8)⟩,⟨some 10,some (9,false),.mv (.t 0)⟩,⟨some 11,some (9,false),.bin .eql .other true (.t 10) (.c (.int .u8 9))⟩,⟨some 12,none,.pick (.t 9) (.c (.bool true)) (.t 11)⟩,⟨some 2,none,.mv (.t 12)⟩]) .ret))⟩
theorem c81 : compF Tryz.prog [0, 2] Tryz.f81 = some a81 := by kernel_rfl
def a82 : AFun := ⟨126,[.cell 2 (some 4),.tmp 3],(.seq (.reg [2,3] [⟨some 2,none,.alloc [.int .i64 0,.int .i64 0,.int .i64 0,.str []]⟩,⟨some 3,none,.mv (.c .inil)⟩]) (.seq (.reg [4] [⟨some 12,none,.mv (.t 0)⟩,⟨some 13,none,.nilck (.t 12)⟩,⟨some 14,none,.faddr 1 (.t 13)⟩,⟨some 15,none,.load none (.t 14)⟩,⟨some 16,none,.build [.int .i64 0,.int .i64 0,.int .i64 0,.str []] [(1,1,.t 15)]⟩,⟨some 4,none,.alloc [.int .i64 0,.int .i64 0,.int .i64 0,.str []]⟩,⟨none,none,.store 4 (.t 4) (.t 16)⟩]) (.seq (.reg [5] [⟨some 17,none,.mv (.t 0)⟩,⟨some 18,none,.nilck (.t 17)⟩,⟨some 19,none,.faddr 1 (.t 18)⟩,⟨some 20,none,.load none (.t 19)⟩,⟨some 21,none,.call (.c (.fn 43)) [.t 20,.c (.int .i64 2)]⟩,⟨some 5,none,.mv (.t 21)⟩]) (.seq (.seq (.any [6] [(⟨some 22,none,.mv (.t 0)⟩,true),(⟨some 23,none,.nilck (.t 22)⟩,true),(⟨some 24,none,.faddr 0 (.t 23)⟩,true),(⟨some 25,none,.load none (.t 24)⟩,true),(⟨some 26,none,.mv (.t 0)⟩,false),(⟨some 27,none,.nilck (.t 26)⟩,false),(⟨some 28,none,.faddr 1 (.t 27)⟩,false),(⟨some 29,none,.load none (.t 28)⟩,false),(⟨some 30,none,.iaddr none (.t 25) (.t 29)⟩,true),(⟨some 31,none,.load none (.t 30)⟩,true),(⟨some 6,none,.mv (.t 31)⟩,true)]) (.block 0 (.seq (.reg [41] [⟨some 42,none,.mv (.t 6)⟩,⟨some 43,none,.call (.c (.fn 115)) [.t 42]⟩,⟨some 41,none,.mv (.t 43)⟩]) (.cond (.t 41) (.seq (.reg [] [⟨some 44,none,.mv (.t 0)⟩,⟨some 45,none,.call (.c (.fn 80)) [.t 44,.c (.fn 116)]⟩,⟨some 46,none,.faddr 0 (.t 4)⟩,⟨none,none,.store 1 (.t 46) (.c (.int .i64 1))⟩,⟨some 47,none,.faddr 3 (.t 4)⟩,⟨none,none,.store 1 (.t 47) (.t 45)⟩]) (.seq (.any [51] [(⟨some 49,none,.faddr 3 (.t 4)⟩,true),(⟨some 50,none,.load none (.t 49)⟩,true),(⟨some 48,none,.call (.c (.fn 119)) []⟩,false),(⟨some 51,none,.call (.c (.fn 118)) [.t 48,.t 50]⟩,true)]) (.cond (.t 51) (.reg [] [⟨some 52,none,.faddr 0 (.t 4)⟩,⟨none,none,.store 1 (.t 52) (.c (.int .i64 2))⟩]) .skip))) (.seq (.reg [53] [⟨some 54,none,.mv (.t 6)⟩,⟨some 55,none,.call (.c (.fn 120)) [.t 54]⟩,⟨some 53,none,.mv (.t 55)⟩]) (.cond (.t 53) (.reg [] [⟨some 56,none,.mv (.t 0)⟩,⟨some 57,none,.call (.c (.fn 80)) [.t 56,.c (.fn 121)]⟩,⟨some 58,none,.faddr 0 (.t 4)⟩,⟨none,none,.store 1 (.t 58) (.c (.int .i64 3))⟩,⟨some 59,none,.faddr 3 (.t 4)⟩,⟨none,none,.store 1 (.t 59) (.t 57)⟩]) (.seq (.reg [60] [⟨some 61,none,.mv (.t 6)⟩,⟨some 62,none,.call (.c (.fn 117)) [.t 61]⟩,⟨some 60,none,.mv (.t 62)⟩]) (.cond (.t 60) (.seq (.reg [7] [⟨some 63,none,.mv (.t 0)⟩,⟨some 64,none,.call (.c (.fn 80)) [.t 63,.c (.fn 117)]⟩,⟨some 7,none,.mv (.t 64)⟩]) (.seq (.reg [8,9] [⟨some 66,none,.mv (.t 7)⟩,⟨some 67,none,.call (.c (.fn 122)) [.t 66,.c (.int .i64 10),.c (.int .i64 64)]⟩,⟨some 65,none,.mv (.t 67)⟩,⟨some 68,none,.extract (.t 65) 0⟩,⟨some 69,none,.extract (.t 65) 1⟩,⟨some 8,none,.mv (.t 68)⟩,⟨some 9,none,.mv (.t 69)⟩]) (.seq (.seq (.reg [81] [⟨some 70,none,.mv (.t 9)⟩,⟨some 71,none,.bin .neq .ifc true (.t 70) (.c .inil)⟩,⟨some 72,none,.mv (.t 71)⟩,⟨some 73,some (72,false),.mv (.t 7)⟩,⟨some 74,some (72,false),.len .str (.t 73)⟩,⟨some 75,some (72,false),.bin .gtr .other true (.t 74) (.c (.int .i64 1))⟩,⟨some 76,some (72,false),.mv (.t 75)⟩,⟨some 77,some (76,true),.mv (.t 7)⟩,⟨some 78,some (76,true),.index (.t 77) (.c (.int .i64 0))⟩,⟨some 79,some (76,true),.bin .eql .other true (.t 78) (.c (.int .u8 48))⟩,⟨some 80,some (72,false),.pick (.t 76) (.t 79) (.c (.bool false))⟩,⟨some 81,none,.pick (.t 72) (.c (.bool true)) (.t 80)⟩]) (.cond (.t 81) (.seq (.reg [3] [⟨some 82,none,.build [.int .i64 0,.int .i64 0,.int .i64 0,.str []] []⟩,⟨some 83,none,.mv (.t 5)⟩,⟨none,none,.store 4 (.t 2) (.t 82)⟩,⟨some 3,none,.mv (.t 83)⟩]) .ret) .skip)) (.reg [] [⟨some 84,none,.mv (.t 8)⟩,⟨some 85,none,.faddr 0 (.t 4)⟩,⟨none,none,.store 1 (.t 85) (.c (.int .i64 4))⟩,⟨some 86,none,.faddr 2 (.t 4)⟩,⟨none,none,.store 1 (.t 86) (.t 84)⟩])))) (.seq (.reg [87] [⟨some 88,none,.mv (.t 6)⟩,⟨some 89,none,.bin .eql .other true (.t 88) (.c (.int .u8 34))⟩,⟨some 87,none,.mv (.t 89)⟩]) (.cond (.t 87) (.seq (.reg [] [⟨some 90,none,.mv (.t 0)⟩,⟨some 91,none,.nilck (.t 90)⟩,⟨some 92,none,.faddr 1 (.t 91)⟩,⟨some 93,none,.load none (.t 92)⟩,⟨some 94,none,.bin .add .other true (.t 93) (.c (.int .i64 1))⟩,⟨some 95,none,.nilck (.t 90)⟩,⟨some 96,none,.faddr 1 (.t 95)⟩,⟨none,none,.store 1 (.t 96) (.t 94)⟩]) (.seq (.reg [10,11] [⟨some 98,none,.mv (.t 0)⟩,⟨some 99,none,.call (.c (.fn 123)) [.t 98]⟩,⟨some 97,none,.mv (.t 99)⟩,⟨some 100,none,.extract (.t 97) 0⟩,⟨some 101,none,.extract (.t 97) 1⟩,⟨some 10,none,.mv (.t 100)⟩,⟨some 11,none,.mv (.t 101)⟩]) (.seq (.seq (.reg [103] [⟨some 102,none,.mv (.t 11)⟩,⟨some 103,none,.bin .neq .ifc true (.t 102) (.c .inil)⟩]) (.cond (.t 103) (.seq (.reg [3] [⟨some 104,none,.build [.int .i64 0,.int .i64 0,.int .i64 0,.str []] []⟩,⟨some 105,none,.mv (.t 11)⟩,⟨none,none,.store 4 (.t 2) (.t 104)⟩,⟨some 3,none,.mv (.t 105)⟩]) .ret) .skip)) (.seq (.seq (.reg [108] [⟨some 106,none,.mv (.t 10)⟩,⟨some 107,none,.len .str (.t 106)⟩,⟨some 108,none,.bin .gtr .other true (.t 107) (.c (.int .i64 2000))⟩]) (.cond (.t 108) (.seq (.reg [3] [⟨some 109,none,.build [.int .i64 0,.int .i64 0,.int .i64 0,.str []] []⟩,⟨some 110,none,.mv (.t 5)⟩,⟨none,none,.store 4 (.t 2) (.t 109)⟩,⟨some 3,none,.mv (.t 110)⟩]) .ret) .skip)) (.reg [] [⟨some 111,none,.mv (.t 10)⟩,⟨some 112,none,.faddr 0 (.t 4)⟩,⟨none,none,.store 1 (.t 112) (.c (.int .i64 5))⟩,⟨some 113,none,.faddr 3 (.t 4)⟩,⟨none,none,.store 1 (.t 113) (.t 111)⟩]))))) (.seq (.reg [] [⟨some 32,none,.mv (.t 0)⟩,⟨some 33,none,.call (.c (.fn 124)) [.t 32]⟩,⟨some 34,none,.faddr 0 (.t 4)⟩,⟨none,none,.store 1 (.t 34) (.c (.int .i64 6))⟩,⟨some 35,none,.faddr 3 (.t 4)⟩,⟨none,none,.store 1 (.t 35) (.t 33)⟩]) (.seq (.reg [38] [⟨some 36,none,.faddr 3 (.t 4)⟩,⟨some 37,none,.load none (.t 36)⟩,⟨some 38,none,.bin .eql .other true (.t 37) (.c (.str []))⟩]) (.cond (.t 38) (.seq (.reg [3] [⟨some 39,none,.build [.int .i64 0,.int .i64 0,.int .i64 0,.str []] []⟩,⟨some 40,none,.mv (.t 5)⟩,⟨none,none,.store 4 (.t 2) (.t 39)⟩,⟨some 3,none,.mv (.t 40)⟩]) .ret) .skip))))))))))))) (.seq (.seq (.reg [122] [⟨some 114,none,.faddr 0 (.t 4)⟩,⟨some 115,none,.load none (.t 114)⟩,⟨some 116,none,.bin .leq .other true (.t 115) (.c (.int .i64 3))⟩,⟨some 117,none,.mv (.t 116)⟩,⟨some 118,some (117,true),.faddr 3 (.t 4)⟩,⟨some 119,some (117,true),.load none (.t 118)⟩,⟨some 120,some (117,true),.len .str (.t 119)⟩,⟨some 121,some (117,true),.bin .gtr .other true (.t 120) (.c (.int .i64 20))⟩,⟨some 122,none,.pick (.t 117) (.t 121) (.c (.bool false))⟩]) (.cond (.t 122) (.seq (.reg [3] [⟨some 123,none,.build [.int .i64 0,.int .i64 0,.int .i64 0,.str []] []⟩,⟨some 124,none,.mv (.t 5)⟩,⟨none,none,.store 4 (.t 2) (.t 123)⟩,⟨some 3,none,.mv (.t 124)⟩]) .ret) .skip)) (.seq (.reg [3] [⟨some 125,none,.load (some 4) (.t 4)⟩,⟨none,none,.store 4 (.t 2) (.t 125)⟩,⟨some 3,none,.mv (.c .inil)⟩]) .ret))))))⟩
theorem c82 : compF Tryz.prog [0, 2, 3, 4, 5, 6, 7, 8, 9, 10, 11, 38, 41, 51, 53, 60, 81, 87, 103, 108, 122] Tryz.f82 = some a82 := by kernel_rfl
def a89 : AFun := ⟨9,[.tmp 2],(.seq (.reg [2] [⟨some 2,none,.mv (.c (.bool false))⟩]) (.seq (.reg [2] [⟨some 3,none,.mv (.t 0)⟩,⟨some 4,none,.bin .geq .other true (.t 3) (.c (.int .u8 32))⟩,⟨some 5,none,.mv (.t 4)⟩,⟨some 6,some (5,true),.mv (.t 0)⟩,⟨some 7,some (5,true),.bin .leq .other true (.t 6) (.c (.int .u8 126))⟩,⟨some 8,none,.pick (.t 5) (.t 7) (.c (.bool false))⟩,⟨some 2,none,.mv (.t 8)⟩]) .ret))⟩
theorem c89 : compF Tryz.prog [0, 2] Tryz.f89 = some a89 := by kernel_rfl
def a115 : AFun := ⟨9,[.tmp 2],(.seq (.reg [2] [⟨some 2,none,.mv (.c (.bool false))⟩]) (.seq (.reg [2] [⟨some 3,none,.mv (.t 0)⟩,⟨some 4,none,.bin .geq .other true (.t 3) (.c (.int .u8 97))⟩,⟨some 5,none,.mv (.t 4)⟩,⟨some 6,some (5,true),.mv (.t 0)⟩,⟨some 7,some (5,true),.bin .leq .other true (.t 6) (.c (.int .u8 122))⟩,⟨some 8,none,.pick (.t 5) (.t 7) (.c (.bool false))⟩,⟨some 2,none,.mv (.t 8)⟩]) .ret))⟩
theorem c115 : compF Tryz.prog [0, 2] Tryz.f115 = some a115 := by kernel_rfl
def a116 : AFun := ⟨9,[.tmp 2],(.seq (.reg [2] [⟨some 2,none,.mv (.c (.bool false))⟩]) (.seq (.reg [2] [⟨some 3,none,.mv (.t 0)⟩,⟨some 4,none,.call (.c (.fn 115)) [.t 3]⟩,⟨some 5,none,.mv (.t 4)⟩,⟨some 6,some (5,false),.mv (.t 0)⟩,⟨some 7,some (5,false),.call (.c (.fn 117)) [.t 6]⟩,⟨some 8,none,.pick (.t 5) (.c (.bool true)) (.t 7)⟩,⟨some 2,none,.mv (.t 8)⟩]) .ret))⟩
theorem c116 : compF Tryz.prog [0, 2] Tryz.f116 = some a116 := by kernel_rfl
def a117 : AFun := ⟨9,[.tmp 2],(.seq (.reg [2] [⟨some 2,none,.mv (.c (.bool false))⟩]) (.seq (.reg [2] [⟨some 3,none,.mv (.t 0)⟩,⟨some 4,none,.bin .geq .other true (.t 3) (.c (.int .u8 48))⟩,⟨some 5,none,.mv (.t 4)⟩,⟨some 6,some (5,true),.mv (.t 0)⟩,⟨some 7,some (5,true),.bin .leq .other true (.t 6) (.c (.int .u8 57))⟩,⟨some 8,none,.pick (.t 5) (.t 7) (.c (.bool false))⟩,⟨some 2,none,.mv (.t 8)⟩]) .ret))⟩
theorem c117 : compF Tryz.prog [0, 2] Tryz.f117 = some a117 := by kernel_rfl
def a118 : AFun := ⟨9,[.tmp 4],(.seq (.reg [4] [⟨some 4,none,.mv (.c (.bool false))⟩]) (.seq (.reg [4] [⟨some 5,none,.mv (.t 0)⟩,⟨some 6,none,.mv (.t 1)⟩,⟨some 7,none,.call (.c (.fn 155)) [.t 5,.t 6]⟩,⟨some 8,none,.bin .geq .other true (.t 7) (.c (.int .i64 0))⟩,⟨some 4,none,.mv (.t 8)⟩]) .ret))⟩
theorem c118 : compF Tryz.prog [0, 1, 4] Tryz.f118 = some a118 := by kernel_rfl
def a119 : AFun := ⟨2,[.tmp 0],(.seq (.reg [0] [⟨some 0,none,.mv (.c .snil)⟩]) (.seq (.reg [0] [⟨some 1,none,.mksl none [.c (.str [102,110]),.c (.str [108,101,116]),.c (.str [114,101,99]),.c (.str [105,110]),.c (.str [109,97,116,99,104]),.c (.str [119,105,116,104]),.c (.str [101,110,100]),.c (.str [105,102]),.c (.str [116,104,101,110]),.c (.str [101,108,115,101]),.c (.str [114,101,102]),.c (.str [112,114,105,110,116]),.c (.str [115,104,111,119]),.c (.str [114,101,97,100])]⟩,⟨some 0,none,.mv (.t 1)⟩]) .ret))⟩
theorem c119 : compF Tryz.prog [0] Tryz.f119 = some a119 := by kernel_rfl
def a120 : AFun := ⟨9,[.tmp 2],(.seq (.reg [2] [⟨some 2,none,.mv (.c (.bool false))⟩]) (.seq (.reg [2] [⟨some 3,none,.mv (.t 0)⟩,⟨some 4,none,.bin .geq .other true (.t 3) (.c (.int .u8 65))⟩,⟨some 5,none,.mv (.t 4)⟩,⟨some 6,some (5,true),.mv (.t 0)⟩,⟨some 7,some (5,true),.bin .leq .other true (.t 6) (.c (.int .u8 90))⟩,⟨some 8,none,.pick (.t 5) (.t 7) (.c (.bool false))⟩,⟨some 2,none,.mv (.t 8)⟩]) .ret))⟩
theorem c120 : compF Tryz.prog [0, 2] Tryz.f120 = some a120 := by kernel_rfl
def a121 : AFun := ⟨13,[.tmp 2],(.seq (.reg [2] [⟨some 2,none,.mv (.c (.bool false))⟩]) (.seq (.reg [2] [⟨some 3,none,.mv (.t 0)⟩,⟨some 4,none,.call (.c (.fn 115)) [.t 3]⟩,⟨some 5,none,.mv (.t 4)⟩,⟨some 6,some (5,false),.mv (.t 0)⟩,⟨some 7,some (5,false),.call (.c (.fn 120)) [.t 6]⟩,⟨some 8,none,.pick (.t 5) (.c (.bool true)) (.t 7)⟩,⟨some 9,none,.mv (.t 8)⟩,⟨some 10,some (9,false),.mv (.t 0)⟩,⟨some 11,some (9,false),.call (.c (.fn 117)) [.t 10]⟩,⟨some 12,none,.pick (.t 9) (.c (.bool true)) (.t 11)⟩,⟨some 2,none,.mv (.t 12)⟩]) .ret))⟩
theorem c121 : compF Tryz.prog [0, 2] Tryz.f121 = some a121 := by kernel_rfl
def a123 : AFun := ⟨109,[.tmp 2,.tmp 3],(.seq (.reg [2,3] [⟨some 2,none,.mv (.c (.str []))⟩,⟨some 3,none,.mv (.c .inil)⟩]) (.seq (.reg [4] [⟨some 4,none,.mv (.c .snil)⟩]) (.seq (.block 0 (.loop (.seq (.seq (.any [15] [(⟨some 6,none,.mv (.t 0)⟩,true),(⟨some 7,none,.nilck (.t 6)⟩,true),(⟨some 8,none,.faddr 1 (.t 7)⟩,true),(⟨some 9,none,.load none (.t 8)⟩,true),(⟨some 10,none,.mv (.t 0)⟩,false),(⟨some 11,none,.nilck (.t 10)⟩,false),(⟨some 12,none,.faddr 0 (.t 11)⟩,false),(⟨some 13,none,.load none (.t 12)⟩,false),(⟨some 14,none,.len .sl (.t 13)⟩,false),(⟨some 15,none,.bin .lss .other false (.t 9) (.t 14)⟩,true)]) (.cond (.t 15) .skip (.exit 0))) (.seq (.block 1 (.seq (.any [5] [(⟨some 23,none,.mv (.t 0)⟩,true),(⟨some 24,none,.nilck (.t 23)⟩,true),(⟨some 25,none,.faddr 0 (.t 24)⟩,true),(⟨some 26,none,.load none (.t 25)⟩,true),(⟨some 27,none,.mv (.t 0)⟩,false),(⟨some 28,none,.nilck (.t 27)⟩,false),(⟨some 29,none,.faddr 1 (.t 28)⟩,false),(⟨some 30,none,.load none (.t 29)⟩,false),(⟨some 31,none,.iaddr none (.t 26) (.t 30)⟩,true),(⟨some 32,none,.load none (.t 31)⟩,true),(⟨some 5,none,.mv (.t 32)⟩,true)]) (.seq (.block 2 (.seq (.reg [33] [⟨some 34,none,.mv (.t 5)⟩,⟨some 35,none,.bin .eql .other true (.t 34) (.c (.int .u8 34))⟩,⟨some 33,none,.mv (.t 35)⟩]) (.cond (.t 33) (.seq (.reg [] [⟨some 36,none,.mv (.t 0)⟩,⟨some 37,none,.nilck (.t 36)⟩,⟨some 38,none,.faddr 1 (.t 37)⟩,⟨some 39,none,.load none (.t 38)⟩,⟨some 40,none,.bin .add .other true (.t 39) (.c (.int .i64 1))⟩,⟨some 41,none,.nilck (.t 36)⟩,⟨some 42,none,.faddr 1 (.t 41)⟩,⟨none,none,.store 1 (.t 42) (.t 40)⟩]) (.seq (.reg [2,3] [⟨some 43,none,.mv (.t 4)⟩,⟨some 44,none,.conv .ofBytes (.t 43)⟩,⟨some 2,none,.mv (.t 44)⟩,⟨some 3,none,.mv (.c .inil)⟩]) .ret)) (.seq (.reg [45] [⟨some 46,none,.mv (.t 5)⟩,⟨some 47,none,.call (.c (.fn 89)) [.t 46]⟩,⟨some 48,none,.un .not (.t 47)⟩,⟨some 45,none,.mv (.t 48)⟩]) (.cond (.t 45) (.seq (.reg [2,3] [⟨some 49,none,.mv (.t 0)⟩,⟨some 50,none,.nilck (.t 49)⟩,⟨some 51,none,.faddr 1 (.t 50)⟩,⟨some 52,none,.load none (.t 51)⟩,⟨some 53,none,.call (.c (.fn 43)) [.t 52,.c (.int .i64 2)]⟩,⟨some 2,none,.mv (.c (.str []))⟩,⟨some 3,none,.mv (.t 53)⟩]) .ret) (.seq (.reg [54] [⟨some 55,none,.mv (.t 5)⟩,⟨some 56,none,.bin .eql .other true (.t 55) (.c (.int .u8 92))⟩,⟨some 54,none,.mv (.t 56)⟩]) (.cond (.t 54) (.seq (.reg [] [⟨some 57,none,.mv (.t 0)⟩,⟨some 58,none,.nilck (.t 57)⟩,⟨some 59,none,.faddr 1 (.t 58)⟩,⟨some 60,none,.load none (.t 59)⟩,⟨some 61,none,.bin .add .other true (.t 60) (.c (.int .i64 1))⟩,⟨some 62,none,.nilck (.t 57)⟩,⟨some 63,none,.faddr 1 (.t 62)⟩,⟨none,none,.store 1 (.t 63) (.t 61)⟩]) (.seq (.seq (.any [73] [(⟨some 64,none,.mv (.t 0)⟩,true),(⟨some 65,none,.nilck (.t 64)⟩,true),(⟨some 66,none,.faddr 1 (.t 65)⟩,true),(⟨some 67,none,.load none (.t 66)⟩,true),(⟨some 68,none,.mv (.t 0)⟩,false),(⟨some 69,none,.nilck (.t 68)⟩,false),(⟨some 70,none,.faddr 0 (.t 69)⟩,false),(⟨some 71,none,.load none (.t 70)⟩,false),(⟨some 72,none,.len .sl (.t 71)⟩,false),(⟨some 73,none,.bin .eql .other false (.t 67) (.t 72)⟩,true)]) (.cond (.t 73) (.seq (.reg [2,3] [⟨some 74,none,.mv (.t 0)⟩,⟨some 75,none,.nilck (.t 74)⟩,⟨some 76,none,.faddr 1 (.t 75)⟩,⟨some 77,none,.load none (.t 76)⟩,⟨some 78,none,.call (.c (.fn 43)) [.t 77,.c (.int .i64 2)]⟩,⟨some 2,none,.mv (.c (.str []))⟩,⟨some 3,none,.mv (.t 78)⟩]) .ret) .skip)) (.seq (.any [5] [(⟨some 79,none,.mv (.t 0)⟩,true),(⟨some 80,none,.nilck (.t 79)⟩,true),(⟨some 81,none,.faddr 0 (.t 80)⟩,true),(⟨some 82,none,.load none (.t 81)⟩,true),(⟨some 83,none,.mv (.t 0)⟩,false),(⟨some 84,none,.nilck (.t 83)⟩,false),(⟨some 85,none,.faddr 1 (.t 84)⟩,false),(⟨some 86,none,.load none (.t 85)⟩,false),(⟨some 87,none,.iaddr none (.t 82) (.t 86)⟩,true),(⟨some 88,none,.load none (.t 87)⟩,true),(⟨some 5,none,.mv (.t 88)⟩,true)]) (.seq (.reg [89] [⟨some 89,none,.mv (.t 5)⟩]) (.block 3 (.seq (.reg [95] [⟨some 96,none,.bin .eql .other true (.t 89) (.c (.int .u8 110))⟩,⟨some 95,none,.mv (.t 96)⟩]) (.cond (.t 95) (.reg [5] [⟨some 5,none,.mv (.c (.int .u8 10))⟩]) (.seq (.seq (.reg [97] [⟨some 98,none,.bin .eql .other true (.t 89) (.c (.int .u8 34))⟩,⟨some 97,none,.mv (.t 98)⟩]) (.cond (.t 97) .skip (.reg [97] [⟨some 99,none,.bin .eql .other true (.t 89) (.c (.int .u8 92))⟩,⟨some 97,none,.mv (.t 99)⟩]))) (.cond (.t 97) .skip (.seq (.reg [2,3] [⟨some 90,none,.mv (.t 0)⟩,⟨some 91,none,.nilck (.t 90)⟩,⟨some 92,none,.faddr 1 (.t 91)⟩,⟨some 93,none,.load none (.t 92)⟩,⟨some 94,none,.call (.c (.fn 43)) [.t 93,.c (.int .i64 2)]⟩,⟨some 2,none,.mv (.c (.str []))⟩,⟨some 3,none,.mv (.t 94)⟩]) .ret)))))))))) .skip))))))) (.reg [4] [⟨some 100,none,.mv (.t 4)⟩,⟨some 101,none,.mv (.t 5)⟩,⟨some 102,none,.mksl none [.t 101]⟩,⟨some 103,none,.append none 1 (.t 100) (.t 102)⟩,⟨some 4,none,.mv (.t 103)⟩])))) (.reg [] [⟨some 16,none,.mv (.t 0)⟩,⟨some 17,none,.nilck (.t 16)⟩,⟨some 18,none,.faddr 1 (.t 17)⟩,⟨some 19,none,.load none (.t 18)⟩,⟨some 20,none,.bin .add .other true (.t 19) (.c (.int .i64 1))⟩,⟨some 21,none,.nilck (.t 16)⟩,⟨some 22,none,.faddr 1 (.t 21)⟩,⟨none,none,.store 1 (.t 22) (.t 20)⟩]))))) (.seq (.reg [2,3] [⟨some 104,none,.mv (.t 0)⟩,⟨some 105,none,.nilck (.t 104)⟩,⟨some 106,none,.faddr 1 (.t 105)⟩,⟨some 107,none,.load none (.t 106)⟩,⟨some 108,none,.call (.c (.fn 43)) [.t 107,.c (.int .i64 2)]⟩,⟨some 2,none,.mv (.c (.str []))⟩,⟨some 3,none,.mv (.t 108)⟩]) .ret))))⟩
theorem c123 : compF Tryz.prog [0, 2, 3, 4, 5, 15, 33, 45, 54, 73, 89, 95, 97] Tryz.f123 = some a123 := by kernel_rfl
def a124 : AFun := ⟨45,[.tmp 2],(.seq (.reg [2] [⟨some 2,none,.mv (.c (.str []))⟩]) (.seq (.seq (.reg [5,6,7] [⟨some 5,none,.call (.c (.fn 158)) []⟩,⟨some 6,none,.len .sl (.t 5)⟩,⟨some 7,none,.mv (.c (.int .i64 0))⟩]) (.block 0 (.loop (.seq (.reg [8] [⟨some 8,none,.bin .lss .other false (.t 7) (.t 6)⟩]) (.seq (.cond (.t 8) .skip (.exit 0)) (.seq (.block 1 (.seq (.reg [4] [⟨some 9,none,.iaddr none (.t 5) (.t 7)⟩,⟨some 10,none,.load none (.t 9)⟩,⟨some 4,none,.mv (.t 10)⟩]) (.seq (.any [33] [(⟨some 11,none,.mv (.t 0)⟩,true),(⟨some 12,none,.nilck (.t 11)⟩,true),(⟨some 13,none,.faddr 0 (.t 12)⟩,true),(⟨some 14,none,.load none (.t 13)⟩,true),(⟨some 15,none,.mv (.t 0)⟩,false),(⟨some 16,none,.nilck (.t 15)⟩,false),(⟨some 17,none,.faddr 1 (.t 16)⟩,false),(⟨some 18,none,.load none (.t 17)⟩,false),(⟨some 19,none,.mv (.t 0)⟩,false),(⟨some 20,none,.nilck (.t 19)⟩,false),(⟨some 21,none,.faddr 1 (.t 20)⟩,false),(⟨some 22,none,.load none (.t 21)⟩,false),(⟨some 23,none,.bin .add .other true (.t 22) (.c (.int .i64 2))⟩,false),(⟨some 24,none,.mv (.t 0)⟩,false),(⟨some 25,none,.nilck (.t 24)⟩,false),(⟨some 26,none,.faddr 0 (.t 25)⟩,false),(⟨some 27,none,.load none (.t 26)⟩,false),(⟨some 28,none,.len .sl (.t 27)⟩,false),(⟨some 29,none,.min [.t 23,.t 28]⟩,false),(⟨some 30,none,.slice (.sl none) (.t 14) (some (.t 18)) (some (.t 29)) none⟩,true),(⟨some 31,none,.conv .ofBytes (.t 30)⟩,true),(⟨some 32,none,.mv (.t 4)⟩,false),(⟨some 33,none,.call (.c (.fn 159)) [.t 31,.t 32]⟩,true)]) (.cond (.t 33) (.seq (.reg [] [⟨some 34,none,.mv (.t 0)⟩,⟨some 35,none,.nilck (.t 34)⟩,⟨some 36,none,.faddr 1 (.t 35)⟩,⟨some 37,none,.load none (.t 36)⟩,⟨some 38,none,.mv (.t 4)⟩,⟨some 39,none,.len .str (.t 38)⟩,⟨some 40,none,.bin .add .other false (.t 37) (.t 39)⟩,⟨some 41,none,.nilck (.t 34)⟩,⟨some 42,none,.faddr 1 (.t 41)⟩,⟨none,none,.store 1 (.t 42) (.t 40)⟩]) (.seq (.reg [2] [⟨some 43,none,.mv (.t 4)⟩,⟨some 2,none,.mv (.t 43)⟩]) .ret)) .skip)))) (.reg [7] [⟨some 44,none,.bin .add .other true (.t 7) (.c (.int .i64 1))⟩,⟨some 7,none,.mv (.t 44)⟩]))))))) (.seq (.reg [2] [⟨some 2,none,.mv (.c (.str []))⟩]) .ret)))⟩
theorem c124 : compF Tryz.prog [0, 2, 4, 5, 6, 7, 8, 33] Tryz.f124 = some a124 := by kernel_rfl
def a135 : AFun := ⟨214,[.cell 4 (some 4),.tmp 5,.tmp 6],(.seq (.reg [4,5,6] [⟨some 4,none,.alloc [.int .i64 0,.int .i64 0,.int .i64 0,.str []]⟩,⟨some 5,none,.mv (.c (.int .i64 0))⟩,⟨some 6,none,.mv (.c (.int .i64 0))⟩]) (.seq (.reg [7] [⟨some 21,none,.mv (.t 0)⟩,⟨some 22,none,.mv (.t 1)⟩,⟨some 23,none,.iaddr none (.t 21) (.t 22)⟩,⟨some 24,none,.load none (.t 23)⟩,⟨some 7,none,.mv (.t 24)⟩]) (.seq (.reg [8] [⟨some 25,none,.mv (.t 1)⟩,⟨some 8,none,.mv (.t 25)⟩]) (.seq (.reg [9] [⟨some 26,none,.mv (.t 7)⟩,⟨some 27,none,.call (.c (.fn 169)) [.t 26]⟩,⟨some 9,none,.mv (.t 27)⟩]) (.seq (.reg [10] [⟨some 28,none,.mv (.t 7)⟩,⟨some 29,none,.call (.c (.fn 170)) [.t 28]⟩,⟨some 10,none,.mv (.t 29)⟩]) (.seq (.reg [11] [⟨some 30,none,.mv (.t 7)⟩,⟨some 31,none,.call (.c (.fn 171)) [.t 30]⟩,⟨some 11,none,.mv (.t 31)⟩]) (.seq (.seq (.reg [35] [⟨some 32,none,.mv (.t 9)⟩,⟨some 33,none,.mv (.t 32)⟩,⟨some 34,some (33,false),.mv (.t 10)⟩,⟨some 35,none,.pick (.t 33) (.c (.bool true)) (.t 34)⟩]) (.cond (.t 35) (.seq (.block 0 (.loop (.seq (.seq (.reg [63] [⟨some 36,none,.mv (.t 8)⟩,⟨some 37,none,.mv (.t 0)⟩,⟨some 38,none,.len .sl (.t 37)⟩,⟨some 39,none,.bin .lss .other false (.t 36) (.t 38)⟩,⟨some 40,none,.mv (.t 39)⟩,⟨some 41,some (40,true),.mv (.t 0)⟩,⟨some 42,some (40,true),.mv (.t 8)⟩,⟨some 43,some (40,true),.iaddr none (.t 41) (.t 42)⟩,⟨some 44,some (40,true),.load none (.t 43)⟩,⟨some 45,some (40,true),.call (.c (.fn 169)) [.t 44]⟩,⟨some 46,some (40,true),.mv (.t 45)⟩,⟨some 47,some (46,false),.mv (.t 0)⟩,⟨some 48,some (46,false),.mv (.t 8)⟩,⟨some 49,some (46,false),.iaddr none (.t 47) (.t 48)⟩,⟨some 50,some (46,false),.load none (.t 49)⟩,⟨some 51,some (46,false),.call (.c (.fn 171)) [.t 50]⟩,⟨some 52,some (40,true),.pick (.t 46) (.c (.bool true)) (.t 51)⟩,⟨some 53,some (40,true),.mv (.t 52)⟩,⟨some 54,some (53,false),.mv (.t 10)⟩,⟨some 55,some (53,false),.mv (.t 54)⟩,⟨some 56,some (55,true),.mv (.t 0)⟩,⟨some 57,some (55,true),.mv (.t 8)⟩,⟨some 58,some (55,true),.iaddr none (.t 56) (.t 57)⟩,⟨some 59,some (55,true),.load none (.t 58)⟩,⟨some 60,some (55,true),.call (.c (.fn 170)) [.t 59]⟩,⟨some 61,some (53,false),.pick (.t 55) (.t 60) (.c (.bool false))⟩,⟨some 62,some (40,true),.pick (.t 53) (.c (.bool true)) (.t 61)⟩,⟨some 63,none,.pick (.t 40) (.t 62) (.c (.bool false))⟩]) (.cond (.t 63) .skip (.exit 0))) (.block 1 (.reg [8] [⟨some 64,none,.mv (.t 8)⟩,⟨some 65,none,.bin .add .other true (.t 64) (.c (.int .i64 1))⟩,⟨some 8,none,.mv (.t 65)⟩]))))) (.seq (.reg [12] [⟨some 66,none,.mv (.t 1)⟩,⟨some 67,none,.mv (.t 0)⟩,⟨some 68,none,.mv (.t 1)⟩,⟨some 69,none,.mv (.t 8)⟩,⟨some 70,none,.slice (.sl none) (.t 67) (some (.t 68)) (some (.t 69)) none⟩,⟨some 71,none,.conv .ofBytes (.t 70)⟩,⟨some 72,none,.build [.int .i64 0,.int .i64 0,.int .i64 0,.str []] [(0,1,.c (.int .i64 1)),(1,1,.t 66),(3,1,.t 71)]⟩,⟨some 12,none,.alloc [.int .i64 0,.int .i64 0,.int .i64 0,.str []]⟩,⟨none,none,.store 4 (.t 12) (.t 72)⟩]) (.seq (.reg [13] [⟨some 73,none,.faddr 3 (.t 12)⟩,⟨some 74,none,.load none (.t 73)⟩,⟨some 75,none,.call (.c (.fn 172)) [.t 74]⟩,⟨some 13,none,.mv (.t 75)⟩]) (.seq (.seq (.reg [76] [⟨some 76,none,.mv (.t 10)⟩]) (.cond (.t 76) (.reg [] [⟨some 77,none,.faddr 0 (.t 12)⟩,⟨none,none,.store 1 (.t 77) (.c (.int .i64 3))⟩]) (.seq (.reg [78] [⟨some 78,none,.mv (.t 13)⟩]) (.cond (.t 78) (.reg [] [⟨some 79,none,.faddr 0 (.t 12)⟩,⟨none,none,.store 1 (.t 79) (.c (.int .i64 2))⟩]) .skip)))) (.seq (.seq (.reg [83] [⟨some 80,none,.mv (.t 8)⟩,⟨some 81,none,.mv (.t 1)⟩,⟨some 82,none,.bin .sub .other false (.t 80) (.t 81)⟩,⟨some 83,none,.bin .gtr .other true (.t 82) (.c (.int .i64 20))⟩]) (.cond (.t 83) (.seq (.reg [5,6] [⟨some 84,none,.build [.int .i64 0,.int .i64 0,.int .i64 0,.str []] []⟩,⟨some 85,none,.mv (.t 8)⟩,⟨some 86,none,.mv (.t 1)⟩,⟨none,none,.store 4 (.t 4) (.t 84)⟩,⟨some 5,none,.mv (.t 85)⟩,⟨some 6,none,.mv (.t 86)⟩]) .ret) .skip)) (.seq (.reg [5,6] [⟨some 87,none,.load (some 4) (.t 12)⟩,⟨some 88,none,.mv (.t 8)⟩,⟨none,none,.store 4 (.t 4) (.t 87)⟩,⟨some 5,none,.mv (.t 88)⟩,⟨some 6,none,.mv (.c (.int .i64 (-1)))⟩]) .ret)))))) .skip)) (.seq (.seq (.reg [89] [⟨some 89,none,.mv (.t 11)⟩]) (.cond (.t 89) (.seq (.reg [14] [⟨some 14,none,.mv (.c (.int .u64 0))⟩]) (.seq (.reg [15] [⟨some 15,none,.mv (.c (.bool false))⟩]) (.seq (.block 2 (.loop (.seq (.seq (.reg [100] [⟨some 90,none,.mv (.t 8)⟩,⟨some 91,none,.mv (.t 0)⟩,⟨some 92,none,.len .sl (.t 91)⟩,⟨some 93,none,.bin .lss .other false (.t 90) (.t 92)⟩,⟨some 94,none,.mv (.t 93)⟩,⟨some 95,some (94,true),.mv (.t 0)⟩,⟨some 96,some (94,true),.mv (.t 8)⟩,⟨some 97,some (94,true),.iaddr none (.t 95) (.t 96)⟩,⟨some 98,some (94,true),.load none (.t 97)⟩,⟨some 99,some (94,true),.call (.c (.fn 171)) [.t 98]⟩,⟨some 100,none,.pick (.t 94) (.t 99) (.c (.bool false))⟩]) (.cond (.t 100) .skip (.exit 2))) (.block 3 (.seq (.reg [15] [⟨some 101,none,.mv (.t 15)⟩,⟨some 102,none,.mv (.t 101)⟩,⟨some 103,some (102,false),.mv (.t 14)⟩,⟨some 104,some (102,false),.bin .gtr .other true (.t 103) (.c (.int .u64 922337203685477580))⟩,⟨some 105,none,.pick (.t 102) (.c (.bool true)) (.t 104)⟩,⟨some 106,none,.mv (.t 105)⟩,⟨some 107,some (106,false),.mv (.t 14)⟩,⟨some 108,some (106,false),.bin .eql .other true (.t 107) (.c (.int .u64 922337203685477580))⟩,⟨some 109,some (106,false),.mv (.t 108)⟩,⟨some 110,some (109,true),.mv (.t 0)⟩,⟨some 111,some (109,true),.mv (.t 8)⟩,⟨some 112,some (109,true),.iaddr none (.t 110) (.t 111)⟩,⟨some 113,some (109,true),.load none (.t 112)⟩,⟨some 114,some (109,true),.bin .gtr .other true (.t 113) (.c (.int .u8 55))⟩,⟨some 115,some (106,false),.pick (.t 109) (.t 114) (.c (.bool false))⟩,⟨some 116,none,.pick (.t 106) (.c (.bool true)) (.t 115)⟩,⟨some 15,none,.mv (.t 116)⟩]) (.seq (.reg [14] [⟨some 117,none,.mv (.t 14)⟩,⟨some 118,none,.bin .mul .other true (.c (.int .u64 10)) (.t 117)⟩,⟨some 119,none,.mv (.t 0)⟩,⟨some 120,none,.mv (.t 8)⟩,⟨some 121,none,.iaddr none (.t 119) (.t 120)⟩,⟨some 122,none,.load none (.t 121)⟩,⟨some 123,none,.bin .sub .other true (.t 122) (.c (.int .u8 48))⟩,⟨some 124,none,.conv (.toInt .u64) (.t 123)⟩,⟨some 125,none,.bin .add .other false (.t 118) (.t 124)⟩,⟨some 14,none,.mv (.t 125)⟩]) (.seq (.seq (.reg [126] [⟨some 126,none,.mv (.t 15)⟩]) (.cond (.t 126) (.reg [14] [⟨some 14,none,.mv (.c (.int .u64 0))⟩]) .skip)) (.reg [8] [⟨some 127,none,.mv (.t 8)⟩,⟨some 128,none,.bin .add .other true (.t 127) (.c (.int .i64 1))⟩,⟨some 8,none,.mv (.t 128)⟩])))))))) (.seq (.seq (.reg [139] [⟨some 129,none,.mv (.t 15)⟩,⟨some 130,none,.mv (.t 129)⟩,⟨some 131,some (130,false),.mv (.t 8)⟩,⟨some 132,some (130,false),.mv (.t 1)⟩,⟨some 133,some (130,false),.bin .sub .other false (.t 131) (.t 132)⟩,⟨some 134,some (130,false),.bin .gtr .other true (.t 133) (.c (.int .i64 1))⟩,⟨some 135,some (130,false),.mv (.t 134)⟩,⟨some 136,some (135,true),.mv (.t 7)⟩,⟨some 137,some (135,true),.bin .eql .other true (.t 136) (.c (.int .u8 48))⟩,⟨some 138,some (130,false),.pick (.t 135) (.t 137) (.c (.bool false))⟩,⟨some 139,none,.pick (.t 130) (.c (.bool true)) (.t 138)⟩]) (.cond (.t 139) (.seq (.reg [5,6] [⟨some 140,none,.build [.int .i64 0,.int .i64 0,.int .i64 0,.str []] []⟩,⟨some 141,none,.mv (.t 8)⟩,⟨some 142,none,.mv (.t 1)⟩,⟨none,none,.store 4 (.t 4) (.t 140)⟩,⟨some 5,none,.mv (.t 141)⟩,⟨some 6,none,.mv (.t 142)⟩]) .ret) .skip)) (.seq (.reg [5,6] [⟨some 143,none,.mv (.t 1)⟩,⟨some 144,none,.mv (.t 14)⟩,⟨some 145,none,.conv (.toInt .i64) (.t 144)⟩,⟨some 146,none,.build [.int .i64 0,.int .i64 0,.int .i64 0,.str []] [(0,1,.c (.int .i64 4)),(1,1,.t 143),(2,1,.t 145)]⟩,⟨some 147,none,.mv (.t 8)⟩,⟨none,none,.store 4 (.t 4) (.t 146)⟩,⟨some 5,none,.mv (.t 147)⟩,⟨some 6,none,.mv (.c (.int .i64 (-1)))⟩]) .ret))))) .skip)) (.seq (.seq (.reg [149] [⟨some 148,none,.mv (.t 7)⟩,⟨some 149,none,.bin .eql .other true (.t 148) (.c (.int .u8 34))⟩]) (.cond (.t 149) (.seq (.reg [16,17,18] [⟨some 151,none,.mv (.t 0)⟩,⟨some 152,none,.mv (.t 1)⟩,⟨some 153,none,.bin .add .other true (.t 152) (.c (.int .i64 1))⟩,⟨some 154,none,.call (.c (.fn 173)) [.t 151,.t 153]⟩,⟨some 150,none,.mv (.t 154)⟩,⟨some 155,none,.extract (.t 150) 0⟩,⟨some 156,none,.extract (.t 150) 1⟩,⟨some 157,none,.extract (.t 150) 2⟩,⟨some 16,none,.mv (.t 155)⟩,⟨some 17,none,.mv (.t 156)⟩,⟨some 18,none,.mv (.t 157)⟩]) (.seq (.seq (.reg [164] [⟨some 158,none,.mv (.t 18)⟩,⟨some 159,none,.bin .lss .other true (.t 158) (.c (.int .i64 0))⟩,⟨some 160,none,.mv (.t 159)⟩,⟨some 161,some (160,true),.mv (.t 16)⟩,⟨some 162,some (160,true),.len .str (.t 161)⟩,⟨some 163,some (160,true),.bin .gtr .other true (.t 162) (.c (.int .i64 2000))⟩,⟨some 164,none,.pick (.t 160) (.t 163) (.c (.bool false))⟩]) (.cond (.t 164) (.reg [18] [⟨some 165,none,.mv (.t 1)⟩,⟨some 18,none,.mv (.t 165)⟩]) .skip)) (.seq (.reg [5,6] [⟨some 166,none,.mv (.t 1)⟩,⟨some 167,none,.mv (.t 16)⟩,⟨some 168,none,.build [.int .i64 0,.int .i64 0,.int .i64 0,.str []] [(0,1,.c (.int .i64 5)),(1,1,.t 166),(3,1,.t 167)]⟩,⟨some 169,none,.mv (.t 17)⟩,⟨some 170,none,.mv (.t 18)⟩,⟨none,none,.store 4 (.t 4) (.t 168)⟩,⟨some 5,none,.mv (.t 169)⟩,⟨some 6,none,.mv (.t 170)⟩]) .ret))) .skip)) (.seq (.reg [19] [⟨some 19,none,.mv (.c (.str []))⟩]) (.seq (.seq (.reg [175] [⟨some 171,none,.mv (.t 1)⟩,⟨some 172,none,.bin .add .other true (.t 171) (.c (.int .i64 1))⟩,⟨some 173,none,.mv (.t 0)⟩,⟨some 174,none,.len .sl (.t 173)⟩,⟨some 175,none,.bin .lss .other false (.t 172) (.t 174)⟩]) (.cond (.t 175) (.reg [19] [⟨some 176,none,.mv (.t 0)⟩,⟨some 177,none,.mv (.t 1)⟩,⟨some 178,none,.mv (.t 1)⟩,⟨some 179,none,.bin .add .other true (.t 178) (.c (.int .i64 2))⟩,⟨some 180,none,.slice (.sl none) (.t 176) (some (.t 177)) (some (.t 179)) none⟩,⟨some 181,none,.conv .ofBytes (.t 180)⟩,⟨some 19,none,.mv (.t 181)⟩]) .skip)) (.seq (.seq (.reg [191] [⟨some 182,none,.mv (.t 19)⟩,⟨some 183,none,.bin .eql .other true (.t 182) (.c (.str [45,62]))⟩,⟨some 184,none,.mv (.t 183)⟩,⟨some 185,some (184,false),.mv (.t 19)⟩,⟨some 186,some (184,false),.bin .eql .other true (.t 185) (.c (.str [61,61]))⟩,⟨some 187,none,.pick (.t 184) (.c (.bool true)) (.t 186)⟩,⟨some 188,none,.mv (.t 187)⟩,⟨some 189,some (188,false),.mv (.t 19)⟩,⟨some 190,some (188,false),.bin .eql .other true (.t 189) (.c (.str [58,61]))⟩,⟨some 191,none,.pick (.t 188) (.c (.bool true)) (.t 190)⟩]) (.cond (.t 191) (.seq (.reg [5,6] [⟨some 192,none,.mv (.t 1)⟩,⟨some 193,none,.mv (.t 19)⟩,⟨some 194,none,.build [.int .i64 0,.int .i64 0,.int .i64 0,.str []] [(0,1,.c (.int .i64 6)),(1,1,.t 192),(3,1,.t 193)]⟩,⟨some 195,none,.mv (.t 1)⟩,⟨some 196,none,.bin .add .other true (.t 195) (.c (.int .i64 2))⟩,⟨none,none,.store 4 (.t 4) (.t 194)⟩,⟨some 5,none,.mv (.t 196)⟩,⟨some 6,none,.mv (.c (.int .i64 (-1)))⟩]) .ret) .skip)) (.seq (.reg [20] [⟨some 197,none,.mv (.t 0)⟩,⟨some 198,none,.mv (.t 1)⟩,⟨some 199,none,.mv (.t 1)⟩,⟨some 200,none,.bin .add .other true (.t 199) (.c (.int .i64 1))⟩,⟨some 201,none,.slice (.sl none) (.t 197) (some (.t 198)) (some (.t 200)) none⟩,⟨some 202,none,.conv .ofBytes (.t 201)⟩,⟨some 20,none,.mv (.t 202)⟩]) (.seq (.seq (.reg [205] [⟨some 203,none,.mksl none [.c (.str [40]),.c (.str [41]),.c (.str [123]),.c (.str [125]),.c (.str [61]),.c (.str [46]),.c (.str [44]),.c (.str [124]),.c (.str [92]),.c (.str [43]),.c (.str [45]),.c (.str [42]),.c (.str [47]),.c (.str [60]),.c (.str [94]),.c (.str [35]),.c (.str [33]),.c (.str [59])]⟩,⟨some 204,none,.mv (.t 20)⟩,⟨some 205,none,.call (.c (.fn 174)) [.t 203,.t 204]⟩]) (.cond (.t 205) (.seq (.reg [5,6] [⟨some 206,none,.mv (.t 1)⟩,⟨some 207,none,.mv (.t 20)⟩,⟨some 208,none,.build [.int .i64 0,.int .i64 0,.int .i64 0,.str []] [(0,1,.c (.int .i64 6)),(1,1,.t 206),(3,1,.t 207)]⟩,⟨some 209,none,.mv (.t 1)⟩,⟨some 210,none,.bin .add .other true (.t 209) (.c (.int .i64 1))⟩,⟨none,none,.store 4 (.t 4) (.t 208)⟩,⟨some 5,none,.mv (.t 210)⟩,⟨some 6,none,.mv (.c (.int .i64 (-1)))⟩]) .ret) .skip)) (.seq (.reg [5,6] [⟨some 211,none,.build [.int .i64 0,.int .i64 0,.int .i64 0,.str []] []⟩,⟨some 212,none,.mv (.t 1)⟩,⟨some 213,none,.mv (.t 1)⟩,⟨none,none,.store 4 (.t 4) (.t 211)⟩,⟨some 5,none,.mv (.t 212)⟩,⟨some 6,none,.mv (.t 213)⟩]) .ret)))))))))))))))⟩
theorem c135 : compF Tryz.prog [0, 1, 4, 5, 6, 7, 8, 9, 10, 11, 12, 13, 14, 15, 16, 17, 18, 19, 20, 35, 63, 76, 78, 83, 89, 100, 126, 139, 149, 164, 175, 191, 205] Tryz.f135 = some a135 := by kernel_rfl
def a155 : AFun := ⟨19,[.tmp 4],(.seq (.reg [4] [⟨some 4,none,.mv (.c (.int .i64 0))⟩]) (.seq (.seq (.reg [7,8] [⟨some 6,none,.mv (.t 0)⟩,⟨some 7,none,.len .sl (.t 6)⟩,⟨some 8,none,.mv (.c (.int .i64 0))⟩]) (.block 0 (.loop (.seq (.reg [9] [⟨some 9,none,.bin .lss .other false (.t 8) (.t 7)⟩]) (.seq (.cond (.t 9) .skip (.exit 0)) (.seq (.block 1 (.seq (.reg [5] [⟨some 10,none,.mv (.t 8)⟩,⟨some 5,none,.mv (.t 10)⟩]) (.seq (.reg [16] [⟨some 11,none,.mv (.t 1)⟩,⟨some 12,none,.mv (.t 0)⟩,⟨some 13,none,.mv (.t 5)⟩,⟨some 14,none,.iaddr none (.t 12) (.t 13)⟩,⟨some 15,none,.load none (.t 14)⟩,⟨some 16,none,.bin .eql .other false (.t 11) (.t 15)⟩]) (.cond (.t 16) (.seq (.reg [4] [⟨some 17,none,.mv (.t 5)⟩,⟨some 4,none,.mv (.t 17)⟩]) .ret) .skip)))) (.reg [8] [⟨some 18,none,.bin .add .other true (.t 8) (.c (.int .i64 1))⟩,⟨some 8,none,.mv (.t 18)⟩]))))))) (.seq (.reg [4] [⟨some 4,none,.mv (.c (.int .i64 (-1)))⟩]) .ret)))⟩
theorem c155 : compF Tryz.prog [0, 1, 4, 5, 7, 8, 9, 16] Tryz.f155 = some a155 := by kernel_rfl
def a158 : AFun := ⟨2,[.tmp 0],(.seq (.reg [0] [⟨some 0,none,.mv (.c .snil)⟩]) (.seq (.reg [0] [⟨some 1,none,.mksl none [.c (.str [45,62]),.c (.str [61,61]),.c (.str [58,61]),.c (.str [40]),.c (.str [41]),.c (.str [123]),.c (.str [125]),.c (.str [61]),.c (.str [46]),.c (.str [44]),.c (.str [124]),.c (.str [92]),.c (.str [43]),.c (.str [45]),.c (.str [42]),.c (.str [47]),.c (.str [60]),.c (.str [94]),.c (.str [35]),.c (.str [33]),.c (.str [59])]⟩,⟨some 0,none,.mv (.t 1)⟩]) .ret))⟩
theorem c158 : compF Tryz.prog [0] Tryz.f158 = some a158 := by kernel_rfl
def a159 : AFun := ⟨8,[.tmp 4],(.seq (.reg [4] [⟨some 4,none,.mv (.c (.bool false))⟩]) (.seq (.reg [4] [⟨some 5,none,.mv (.t 0)⟩,⟨some 6,none,.mv (.t 1)⟩,⟨some 7,none,.call (.c (.fn 189)) [.t 5,.t 6]⟩,⟨some 4,none,.mv (.t 7)⟩]) .ret))⟩
theorem c159 : compF Tryz.prog [0, 1, 4] Tryz.f159 = some a159 := by kernel_rfl
def a169 : AFun := ⟨9,[.tmp 2],(.seq (.reg [2] [⟨some 2,none,.mv (.c (.bool false))⟩]) (.seq (.reg [2] [⟨some 3,none,.mv (.t 0)⟩,⟨some 4,none,.bin .geq .other true (.t 3) (.c (.int .u8 97))⟩,⟨some 5,none,.mv (.t 4)⟩,⟨some 6,some (5,true),.mv (.t 0)⟩,⟨some 7,some (5,true),.bin .leq .other true (.t 6) (.c (.int .u8 122))⟩,⟨some 8,none,.pick (.t 5) (.t 7) (.c (.bool false))⟩,⟨some 2,none,.mv (.t 8)⟩]) .ret))⟩
theorem c169 : compF Tryz.prog [0, 2] Tryz.f169 = some a169 := by kernel_rfl
def a170 : AFun := ⟨9,[.tmp 2],(.seq (.reg [2] [⟨some 2,none,.mv (.c (.bool false))⟩]) (.seq (.reg [2] [⟨some 3,none,.mv (.t 0)⟩,⟨some 4,none,.bin .geq .other true (.t 3) (.c (.int .u8 65))⟩,⟨some 5,none,.mv (.t 4)⟩,⟨some 6,some (5,true),.mv (.t 0)⟩,⟨some 7,some (5,true),.bin .leq .other true (.t 6) (.c (.int .u8 90))⟩,⟨some 8,none,.pick (.t 5) (.t 7) (.c (.bool false))⟩,⟨some 2,none,.mv (.t 8)⟩]) .ret))⟩
theorem c170 : compF Tryz.prog [0, 2] Tryz.f170 = some a170 := by kernel_rfl
def a171 : AFun := ⟨9,[.tmp 2],(.seq (.reg [2] [⟨some 2,none,.mv (.c (.bool false))⟩]) (.seq (.reg [2] [⟨some 3,none,.mv (.t 0)⟩,⟨some 4,none,.bin .geq .other true (.t 3) (.c (.int .u8 48))⟩,⟨some 5,none,.mv (.t 4)⟩,⟨some 6,some (5,true),.mv (.t 0)⟩,⟨some 7,some (5,true),.bin .leq .other true (.t 6) (.c (.int .u8 57))⟩,⟨some 8,none,.pick (.t 5) (.t 7) (.c (.bool false))⟩,⟨some 2,none,.mv (.t 8)⟩]) .ret))⟩
theorem c171 : compF Tryz.prog [0, 2] Tryz.f171 = some a171 := by kernel_rfl
def a172 : AFun := ⟨6,[.tmp 2],(.seq (.reg [2] [⟨some 2,none,.mv (.c (.bool false))⟩]) (.seq (.reg [2] [⟨some 3,none,.mksl none [.c (.str [102,110]),.c (.str [108,101,116]),.c (.str [114,101,99]),.c (.str [105,110]),.c (.str [109,97,116,99,104]),.c (.str [119,105,116,104]),.c (.str [101,110,100]),.c (.str [105,102]),.c (.str [116,104,101,110]),.c (.str [101,108,115,101]),.c (.str [114,101,102]),.c (.str [112,114,105,110,116]),.c (.str [115,104,111,119]),.c (.str [114,101,97,100])]⟩,⟨some 4,none,.mv (.t 0)⟩,⟨some 5,none,.call (.c (.fn 174)) [.t 3,.t 4]⟩,⟨some 2,none,.mv (.t 5)⟩]) .ret))⟩
theorem c172 : compF Tryz.prog [0, 2] Tryz.f172 = some a172 := by kernel_rfl
def a173 : AFun := ⟨67,[.tmp 4,.tmp 5,.tmp 6],(.seq (.reg [4,5,6] [⟨some 4,none,.mv (.c (.str []))⟩,⟨some 5,none,.mv (.c (.int .i64 0))⟩,⟨some 6,none,.mv (.c (.int .i64 0))⟩]) (.seq (.reg [7] [⟨some 7,none,.mv (.c (.str []))⟩]) (.seq (.block 0 (.loop (.seq (.seq (.reg [12] [⟨some 9,none,.mv (.t 1)⟩,⟨some 10,none,.mv (.t 0)⟩,⟨some 11,none,.len .sl (.t 10)⟩,⟨some 12,none,.bin .lss .other false (.t 9) (.t 11)⟩]) (.cond (.t 12) .skip (.exit 0))) (.block 1 (.seq (.reg [8] [⟨some 13,none,.mv (.t 0)⟩,⟨some 14,none,.mv (.t 1)⟩,⟨some 15,none,.iaddr none (.t 13) (.t 14)⟩,⟨some 16,none,.load none (.t 15)⟩,⟨some 8,none,.mv (.t 16)⟩]) (.seq (.seq (.reg [18] [⟨some 17,none,.mv (.t 8)⟩,⟨some 18,none,.bin .eql .other true (.t 17) (.c (.int .u8 34))⟩]) (.cond (.t 18) (.seq (.reg [4,5,6] [⟨some 19,none,.mv (.t 7)⟩,⟨some 20,none,.mv (.t 1)⟩,⟨some 21,none,.bin .add .other true (.t 20) (.c (.int .i64 1))⟩,⟨some 4,none,.mv (.t 19)⟩,⟨some 5,none,.mv (.t 21)⟩,⟨some 6,none,.mv (.c (.int .i64 (-1)))⟩]) .ret) .skip)) (.seq (.seq (.reg [27] [⟨some 22,none,.mv (.t 8)⟩,⟨some 23,none,.bin .lss .other true (.t 22) (.c (.int .u8 32))⟩,⟨some 24,none,.mv (.t 23)⟩,⟨some 25,some (24,false),.mv (.t 8)⟩,⟨some 26,some (24,false),.bin .gtr .other true (.t 25) (.c (.int .u8 126))⟩,⟨some 27,none,.pick (.t 24) (.c (.bool true)) (.t 26)⟩]) (.cond (.t 27) (.seq (.reg [4,5,6] [⟨some 28,none,.mv (.t 1)⟩,⟨some 29,none,.mv (.t 1)⟩,⟨some 4,none,.mv (.c (.str []))⟩,⟨some 5,none,.mv (.t 28)⟩,⟨some 6,none,.mv (.t 29)⟩]) .ret) .skip)) (.seq (.seq (.reg [31] [⟨some 30,none,.mv (.t 8)⟩,⟨some 31,none,.bin .eql .other true (.t 30) (.c (.int .u8 92))⟩]) (.cond (.t 31) (.seq (.reg [1] [⟨some 32,none,.mv (.t 1)⟩,⟨some 33,none,.bin .add .other true (.t 32) (.c (.int .i64 1))⟩,⟨some 1,none,.mv (.t 33)⟩]) (.seq (.seq (.reg [37] [⟨some 34,none,.mv (.t 1)⟩,⟨some 35,none,.mv (.t 0)⟩,⟨some 36,none,.len .sl (.t 35)⟩,⟨some 37,none,.bin .eql .other false (.t 34) (.t 36)⟩]) (.cond (.t 37) (.seq (.reg [4,5,6] [⟨some 38,none,.mv (.t 1)⟩,⟨some 39,none,.mv (.t 1)⟩,⟨some 4,none,.mv (.c (.str []))⟩,⟨some 5,none,.mv (.t 38)⟩,⟨some 6,none,.mv (.t 39)⟩]) .ret) .skip)) (.seq (.reg [8] [⟨some 40,none,.mv (.t 0)⟩,⟨some 41,none,.mv (.t 1)⟩,⟨some 42,none,.iaddr none (.t 40) (.t 41)⟩,⟨some 43,none,.load none (.t 42)⟩,⟨some 8,none,.mv (.t 43)⟩]) (.seq (.seq (.reg [53] [⟨some 44,none,.mv (.t 8)⟩,⟨some 45,none,.bin .neq .other true (.t 44) (.c (.int .u8 110))⟩,⟨some 46,none,.mv (.t 45)⟩,⟨some 47,some (46,true),.mv (.t 8)⟩,⟨some 48,some (46,true),.bin .neq .other true (.t 47) (.c (.int .u8 34))⟩,⟨some 49,none,.pick (.t 46) (.t 48) (.c (.bool false))⟩,⟨some 50,none,.mv (.t 49)⟩,⟨some 51,some (50,true),.mv (.t 8)⟩,⟨some 52,some (50,true),.bin .neq .other true (.t 51) (.c (.int .u8 92))⟩,⟨some 53,none,.pick (.t 50) (.t 52) (.c (.bool false))⟩]) (.cond (.t 53) (.seq (.reg [4,5,6] [⟨some 54,none,.mv (.t 1)⟩,⟨some 55,none,.mv (.t 1)⟩,⟨some 4,none,.mv (.c (.str []))⟩,⟨some 5,none,.mv (.t 54)⟩,⟨some 6,none,.mv (.t 55)⟩]) .ret) .skip)) (.seq (.reg [57] [⟨some 56,none,.mv (.t 8)⟩,⟨some 57,none,.bin .eql .other true (.t 56) (.c (.int .u8 110))⟩]) (.cond (.t 57) (.reg [8] [⟨some 8,none,.mv (.c (.int .u8 10))⟩]) .skip)))))) .skip)) (.seq (.reg [7] [⟨some 58,none,.mv (.t 7)⟩,⟨some 59,none,.mv (.t 8)⟩,⟨some 60,none,.mksl none [.t 59]⟩,⟨some 61,none,.conv .ofBytes (.t 60)⟩,⟨some 62,none,.bin .add .other false (.t 58) (.t 61)⟩,⟨some 7,none,.mv (.t 62)⟩]) (.reg [1] [⟨some 63,none,.mv (.t 1)⟩,⟨some 64,none,.bin .add .other true (.t 63) (.c (.int .i64 1))⟩,⟨some 1,none,.mv (.t 64)⟩])))))))))) (.seq (.reg [4,5,6] [⟨some 65,none,.mv (.t 1)⟩,⟨some 66,none,.mv (.t 1)⟩,⟨some 4,none,.mv (.c (.str []))⟩,⟨some 5,none,.mv (.t 65)⟩,⟨some 6,none,.mv (.t 66)⟩]) .ret))))⟩
theorem c173 : compF Tryz.prog [0, 1, 4, 5, 6, 7, 8, 12, 18, 27, 31, 37, 53, 57] Tryz.f173 = some a173 := by kernel_rfl
def a174 : AFun := ⟨18,[.tmp 4],(.seq (.reg [4] [⟨some 4,none,.mv (.c (.bool false))⟩]) (.seq (.seq (.reg [5] [⟨some 5,none,.mv (.c (.int .i64 0))⟩]) (.block 0 (.loop (.seq (.seq (.reg [9] [⟨some 6,none,.mv (.t 5)⟩,⟨some 7,none,.mv (.t 0)⟩,⟨some 8,none,.len .sl (.t 7)⟩,⟨some 9,none,.bin .lss .other false (.t 6) (.t 8)⟩]) (.cond (.t 9) .skip (.exit 0))) (.seq (.block 1 (.seq (.reg [17] [⟨some 12,none,.mv (.t 0)⟩,⟨some 13,none,.mv (.t 5)⟩,⟨some 14,none,.iaddr none (.t 12) (.t 13)⟩,⟨some 15,none,.load none (.t 14)⟩,⟨some 16,none,.mv (.t 1)⟩,⟨some 17,none,.bin .eql .other false (.t 15) (.t 16)⟩]) (.cond (.t 17) (.seq (.reg [4] [⟨some 4,none,.mv (.c (.bool true))⟩]) .ret) .skip))) (.reg [5] [⟨some 10,none,.mv (.t 5)⟩,⟨some 11,none,.bin .add .other true (.t 10) (.c (.int .i64 1))⟩,⟨some 5,none,.mv (.t 11)⟩])))))) (.seq (.reg [4] [⟨some 4,none,.mv (.c (.bool false))⟩]) .ret)))⟩
theorem c174 : compF Tryz.prog [0, 1, 4, 5, 9, 17] Tryz.f174 = some a174 := by kernel_rfl
def a189 : AFun := ⟨18,[.tmp 4],(.seq (.reg [4] [⟨some 4,none,.mv (.c (.bool false))⟩]) (.seq (.reg [4] [⟨some 5,none,.mv (.t 0)⟩,⟨some 6,none,.len .str (.t 5)⟩,⟨some 7,none,.mv (.t 1)⟩,⟨some 8,none,.len .str (.t 7)⟩,⟨some 9,none,.bin .geq .other false (.t 6) (.t 8)⟩,⟨some 10,none,.mv (.t 9)⟩,⟨some 11,some (10,true),.mv (.t 0)⟩,⟨some 12,some (10,true),.mv (.t 1)⟩,⟨some 13,some (10,true),.len .str (.t 12)⟩,⟨some 14,some (10,true),.slice .str (.t 11) none (some (.t 13)) none⟩,⟨some 15,some (10,true),.mv (.t 1)⟩,⟨some 16,some (10,true),.bin .eql .other false (.t 14) (.t 15)⟩,⟨some 17,none,.pick (.t 10) (.t 16) (.c (.bool false))⟩,⟨some 4,none,.mv (.t 17)⟩]) .ret))⟩
theorem c189 : compF Tryz.prog [0, 1, 4] Tryz.f189 = some a189 := by kernel_rfl
def lowB (c : UInt8) : Bool := decide (97 ≤ c.toNat) && decide (c.toNat ≤ 122)
def uppB (c : UInt8) : Bool := decide (65 ≤ c.toNat) && decide (c.toNat ≤ 90)
def digB (c : UInt8) : Bool := decide (48 ≤ c.toNat) && decide (c.toNat ≤ 57)
def plaB (c : UInt8) : Bool := decide (32 ≤ c.toNat) && decide (c.toNat ≤ 126)
def blaB (c : UInt8) : Bool := decide (c.toNat = 32) || (decide (c.toNat = 10) || decide (c.toNat = 9))
def vB (c : UInt8) : D := .v (.int .u8 c.toNat)
theorem k_Lower {c : UInt8} {σ : Sg} : ACalls Tryz.prog 115 [vB c] σ fun r σ' => r = .v (.bool (lowB c)) ∧ σ' = σ := by
  unfold vB
  refine acalls_fit Tryz.func115 (by kernel_rfl) c115 rfl (by simp [a115]) fun hf => ?_
  clear hf
  simp -implicitDefEqProofs (maxSteps := 2000000) (disch := omega) [-getElem?_pos, a115]
  repeat' (first
    | (refine And.intro (by omega) ?_)
    | (refine Br.mk (fun hb => ?_) (fun hb => ?_) <;> simp -implicitDefEqProofs (maxSteps := 2000000) (disch := omega) [-getElem?_pos, hb]))
  all_goals exact .fin _ ⟨by refine congrArg (fun b => D.v (V.bool b)) ?_; rw [Bool.eq_iff_iff]; simp [lowB]; try omega, rfl⟩ (.refl _)
theorem k_Upper {c : UInt8} {σ : Sg} : ACalls Tryz.prog 120 [vB c] σ fun r σ' => r = .v (.bool (uppB c)) ∧ σ' = σ := by
  unfold vB
  refine acalls_fit Tryz.func120 (by kernel_rfl) c120 rfl (by simp [a120]) fun hf => ?_
  clear hf
  simp -implicitDefEqProofs (maxSteps := 2000000) (disch := omega) [-getElem?_pos, a120]
  repeat' (first
    | (refine And.intro (by omega) ?_)
    | (refine Br.mk (fun hb => ?_) (fun hb => ?_) <;> simp -implicitDefEqProofs (maxSteps := 2000000) (disch := omega) [-getElem?_pos, hb]))
  all_goals exact .fin _ ⟨by refine congrArg (fun b => D.v (V.bool b)) ?_; rw [Bool.eq_iff_iff]; simp [uppB]; try omega, rfl⟩ (.refl _)
theorem k_Digit {c : UInt8} {σ : Sg} : ACalls Tryz.prog 117 [vB c] σ fun r σ' => r = .v (.bool (digB c)) ∧ σ' = σ := by
  unfold vB
  refine acalls_fit Tryz.func117 (by kernel_rfl) c117 rfl (by simp [a117]) fun hf => ?_
  clear hf
  simp -implicitDefEqProofs (maxSteps := 2000000) (disch := omega) [-getElem?_pos, a117]
  repeat' (first
    | (refine And.intro (by omega) ?_)
    | (refine Br.mk (fun hb => ?_) (fun hb => ?_) <;> simp -implicitDefEqProofs (maxSteps := 2000000) (disch := omega) [-getElem?_pos, hb]))
  all_goals exact .fin _ ⟨by refine congrArg (fun b => D.v (V.bool b)) ?_; rw [Bool.eq_iff_iff]; simp [digB]; try omega, rfl⟩ (.refl _)
theorem k_Plain {c : UInt8} {σ : Sg} : ACalls Tryz.prog 89 [vB c] σ fun r σ' => r = .v (.bool (plaB c)) ∧ σ' = σ := by
  unfold vB
  refine acalls_fit Tryz.func89 (by kernel_rfl) c89 rfl (by simp [a89]) fun hf => ?_
  clear hf
  simp -implicitDefEqProofs (maxSteps := 2000000) (disch := omega) [-getElem?_pos, a89]
  repeat' (first
    | (refine And.intro (by omega) ?_)
    | (refine Br.mk (fun hb => ?_) (fun hb => ?_) <;> simp -implicitDefEqProofs (maxSteps := 2000000) (disch := omega) [-getElem?_pos, hb]))
  all_goals exact .fin _ ⟨by refine congrArg (fun b => D.v (V.bool b)) ?_; rw [Bool.eq_iff_iff]; simp [plaB]; try omega, rfl⟩ (.refl _)
theorem k_RLow {c : UInt8} {σ : Sg} : ACalls Tryz.prog 169 [vB c] σ fun r σ' => r = .v (.bool (lowB c)) ∧ σ' = σ := by
  unfold vB
  refine acalls_fit Tryz.func169 (by kernel_rfl) c169 rfl (by simp [a169]) fun hf => ?_
  clear hf
  simp -implicitDefEqProofs (maxSteps := 2000000) (disch := omega) [-getElem?_pos, a169]
  repeat' (first
    | (refine And.intro (by omega) ?_)
    | (refine Br.mk (fun hb => ?_) (fun hb => ?_) <;> simp -implicitDefEqProofs (maxSteps := 2000000) (disch := omega) [-getElem?_pos, hb]))
  all_goals exact .fin _ ⟨by refine congrArg (fun b => D.v (V.bool b)) ?_; rw [Bool.eq_iff_iff]; simp [lowB]; try omega, rfl⟩ (.refl _)
theorem k_RHigh {c : UInt8} {σ : Sg} : ACalls Tryz.prog 170 [vB c] σ fun r σ' => r = .v (.bool (uppB c)) ∧ σ' = σ := by
  unfold vB
  refine acalls_fit Tryz.func170 (by kernel_rfl) c170 rfl (by simp [a170]) fun hf => ?_
  clear hf
  simp -implicitDefEqProofs (maxSteps := 2000000) (disch := omega) [-getElem?_pos, a170]
  repeat' (first
    | (refine And.intro (by omega) ?_)
    | (refine Br.mk (fun hb => ?_) (fun hb => ?_) <;> simp -implicitDefEqProofs (maxSteps := 2000000) (disch := omega) [-getElem?_pos, hb]))
  all_goals exact .fin _ ⟨by refine congrArg (fun b => D.v (V.bool b)) ?_; rw [Bool.eq_iff_iff]; simp [uppB]; try omega, rfl⟩ (.refl _)
theorem k_RDigit {c : UInt8} {σ : Sg} : ACalls Tryz.prog 171 [vB c] σ fun r σ' => r = .v (.bool (digB c)) ∧ σ' = σ := by
  unfold vB
  refine acalls_fit Tryz.func171 (by kernel_rfl) c171 rfl (by simp [a171]) fun hf => ?_
  clear hf
  simp -implicitDefEqProofs (maxSteps := 2000000) (disch := omega) [-getElem?_pos, a171]
  repeat' (first
    | (refine And.intro (by omega) ?_)
    | (refine Br.mk (fun hb => ?_) (fun hb => ?_) <;> simp -implicitDefEqProofs (maxSteps := 2000000) (disch := omega) [-getElem?_pos, hb]))
  all_goals exact .fin _ ⟨by refine congrArg (fun b => D.v (V.bool b)) ?_; rw [Bool.eq_iff_iff]; simp [digB]; try omega, rfl⟩ (.refl _)
theorem k_Blank {c : UInt8} {σ : Sg} : ACalls Tryz.prog 81 [vB c] σ fun r σ' => r = .v (.bool (blaB c)) ∧ σ' = σ := by
  unfold vB
  refine acalls_fit Tryz.func81 (by kernel_rfl) c81 rfl (by simp [a81]) fun hf => ?_
  clear hf
  simp -implicitDefEqProofs (maxSteps := 2000000) (disch := omega) [-getElem?_pos, a81]
  repeat' (first
    | (refine And.intro (by omega) ?_)
    | (refine Br.mk (fun hb => ?_) (fun hb => ?_) <;> simp -implicitDefEqProofs (maxSteps := 2000000) (disch := omega) [-getElem?_pos, hb]))
  all_goals exact .fin _ ⟨by refine congrArg (fun b => D.v (V.bool b)) ?_; rw [Bool.eq_iff_iff]; simp [blaB]; try omega, rfl⟩ (.refl _)
theorem k_Next1 {c : UInt8} {σ : Sg} : ACalls Tryz.prog 116 [vB c] σ fun r σ' => r = .v (.bool (lowB c || digB c)) ∧ σ' = σ := by
  have c1 := fun σ => k_Lower (c := c) (σ := σ)
  have c2 := fun σ => k_Digit (c := c) (σ := σ)
  unfold vB at c1 c2 ⊢
  refine acalls_fit Tryz.func116 (by kernel_rfl) c116 rfl (by simp [a116]) fun hf => ?_
  clear hf
  simp -implicitDefEqProofs (maxSteps := 2000000) (disch := omega) [-getElem?_pos, a116]
  refine (c1 _).then fun r hr => ?_
  subst hr
  cases h1 : lowB c
  · simp -implicitDefEqProofs (maxSteps := 2000000) (disch := omega) [-getElem?_pos]
    refine (c2 _).then fun r hr => ?_
    subst hr
    simp -implicitDefEqProofs (maxSteps := 2000000) (disch := omega) [-getElem?_pos]
    exact .fin _ ⟨by simp, rfl⟩ (.refl _)
  · simp -implicitDefEqProofs (maxSteps := 2000000) (disch := omega) [-getElem?_pos]
    exact .fin _ ⟨by simp, rfl⟩ (.refl _)
theorem k_Next2 {c : UInt8} {σ : Sg} : ACalls Tryz.prog 121 [vB c] σ fun r σ' => r = .v (.bool (lowB c || (uppB c || digB c))) ∧ σ' = σ := by
  have c1 := fun σ => k_Lower (c := c) (σ := σ)
  have c2 := fun σ => k_Upper (c := c) (σ := σ)
  have c3 := fun σ => k_Digit (c := c) (σ := σ)
  unfold vB at c1 c2 c3 ⊢
  refine acalls_fit Tryz.func121 (by kernel_rfl) c121 rfl (by simp [a121]) fun hf => ?_
  clear hf
  simp -implicitDefEqProofs (maxSteps := 2000000) (disch := omega) [-getElem?_pos, a121]
  refine (c1 _).then fun r hr => ?_
  subst hr
  cases h1 : lowB c
  · simp -implicitDefEqProofs (maxSteps := 2000000) (disch := omega) [-getElem?_pos]
    refine (c2 _).then fun r hr => ?_
    subst hr
    cases h2 : uppB c
    · simp -implicitDefEqProofs (maxSteps := 2000000) (disch := omega) [-getElem?_pos]
      refine (c3 _).then fun r hr => ?_
      subst hr
      simp -implicitDefEqProofs (maxSteps := 2000000) (disch := omega) [-getElem?_pos]
      exact .fin _ ⟨by simp, rfl⟩ (.refl _)
    · simp -implicitDefEqProofs (maxSteps := 2000000) (disch := omega) [-getElem?_pos]
      exact .fin _ ⟨by simp, rfl⟩ (.refl _)
  · simp -implicitDefEqProofs (maxSteps := 2000000) (disch := omega) [-getElem?_pos]
    exact .fin _ ⟨by simp, rfl⟩ (.refl _)
abbrev Str := List UInt8
@[reducible] def vS (l : List Str) : V := .sl none false (l.map .str)
@[reducible] def vBs (b : Str) : V := .sl none false (bytesV b)
theorem k_HasP2 {a b : Str} {σ : Sg} : ACalls Tryz.prog 189 [.v (.str a), .v (.str b)] σ fun r σ' => r = .v (.bool (decide (a.take b.length = b))) ∧ σ' = σ := by
  refine acalls_fit Tryz.func189 (by kernel_rfl) c189 rfl (by simp [a189]) fun hf => ?_
  simp at hf
  simp -implicitDefEqProofs (maxSteps := 2000000) (disch := omega) [-getElem?_pos, a189]
  refine .mk (fun h => ?_) fun h => ?_
  · simp -implicitDefEqProofs (maxSteps := 2000000) (disch := omega) [-getElem?_pos]
    exact ⟨by omega, .fin _ ⟨by refine congrArg (fun b => D.v (V.bool b)) ?_; rw [Bool.eq_iff_iff]; simp, rfl⟩ (.refl _)⟩
  · simp -implicitDefEqProofs (maxSteps := 2000000) (disch := omega) [-getElem?_pos]
    refine .fin _ ⟨?_, rfl⟩ (.refl _)
    rw [decide_eq_false]
    intro he
    have := congrArg List.length he
    simp at this
    omega
theorem k_HasP {a b : Str} {σ : Sg} : ACalls Tryz.prog 159 [.v (.str a), .v (.str b)] σ fun r σ' => r = .v (.bool (decide (a.take b.length = b))) ∧ σ' = σ := by
  refine acalls_fit Tryz.func159 (by kernel_rfl) c159 rfl (by simp [a159]) fun hf => ?_
  clear hf
  simp -implicitDefEqProofs (maxSteps := 2000000) (disch := omega) [-getElem?_pos, a159]
  refine k_HasP2.then fun r hr => ?_
  subst hr
  simp -implicitDefEqProofs (maxSteps := 2000000) (disch := omega) [-getElem?_pos]
  exact .fin _ ⟨rfl, rfl⟩ (.refl _)
def spanE (q : UInt8 → Bool) (b : Str) (i : Nat) : Nat := i + ((b.drop i).takeWhile q).length
theorem spanE_ge (q : UInt8 → Bool) (b : Str) (i : Nat) : i ≤ spanE q b i := by unfold spanE; omega
theorem spanE_le {q : UInt8 → Bool} {b : Str} {i : Nat} (h : i ≤ b.length) : spanE q b i ≤ b.length := by
  unfold spanE
  have h1 : ((b.drop i).takeWhile q).length ≤ (b.drop i).length := (List.takeWhile_prefix q).length_le
  rw [List.length_drop] at h1
  omega
theorem drop_at {b : Str} {i : Nat} {c : UInt8} (h : b[i]? = some c) : b.drop i = c :: b.drop (i + 1) := by
  obtain ⟨hl, rfl⟩ := List.getElem?_eq_some_iff.1 h
  exact List.drop_eq_getElem_cons hl
theorem spanE_hit {q : UInt8 → Bool} {b : Str} {i : Nat} {c : UInt8} (h : b[i]? = some c) (hq : q c = true) : spanE q b i = spanE q b (i + 1) := by
  unfold spanE
  rw [drop_at h, List.takeWhile_cons_of_pos hq]
  simp
  omega
theorem spanE_miss {q : UInt8 → Bool} {b : Str} {i : Nat} {c : UInt8} (h : b[i]? = some c) (hq : q c = false) : spanE q b i = i := by
  unfold spanE
  rw [drop_at h, List.takeWhile_cons_of_neg (by simp [hq])]
  rfl
theorem spanE_end {q : UInt8 → Bool} {b : Str} {i : Nat} (h : b.length ≤ i) : spanE q b i = i := by
  unfold spanE
  rw [List.drop_eq_nil_of_le h]
  rfl
def passS (q : UInt8 → Bool) (b : Str) (i : Nat) : Str := (b.drop i).takeWhile q
theorem passS_eq {q : UInt8 → Bool} {b : Str} {i : Nat} : (b.take (spanE q b i)).drop i = passS q b i := by
  unfold passS spanE
  rw [List.drop_take, Nat.add_sub_cancel_left]
  generalize b.drop i = l
  induction l with
  | nil => rfl
  | cons x l ih =>
    cases hx : q x with
    | true => rw [List.takeWhile_cons_of_pos hx, List.length_cons, List.take_succ_cons, ih]
    | false => rw [List.takeWhile_cons_of_neg (by simp [hx])]; rfl
@[reducible] def cut (b : Str) (i : Nat) : Ob := .cells [.v (vBs b), .v (.int .i64 i)]
theorem k_Pass {fd : D} {q : UInt8 → Bool} {b : Str} {i p : Nat} {σ : Sg} (hp : σ.objs[p]? = some (cut b i)) (hi : i ≤ b.length) (hb : b.length ≤ 1048576) (hfd : ∀ c (τ : Sg), WCall Tryz.prog fd [vB c] τ fun r σ' => r = .v (.bool (q c)) ∧ σ' = τ) (hl : ∀ n k, fd.low n k) :
    ACalls Tryz.prog 80 [.ptr p 0, fd] σ fun r σ' => r = .v (.str (passS q b i)) ∧ σ' = ⟨σ.objs.set p (cut b (spanE q b i)), σ.toks⟩ := by
  have hpl := (List.getElem?_eq_some_iff.1 hp).1
  have hset : σ.objs.set p (cut b i) = σ.objs := by
    apply List.ext_getElem?
    intro j
    by_cases e : p = j
    · subst e
      rw [List.getElem?_set_self hpl]
      exact hp.symm
    · rw [List.getElem?_set_ne e]
  unfold vB at hfd
  refine acalls_fit Tryz.func80 (by kernel_rfl) c80 rfl (by simp [a80]) fun hf => ?_
  clear hf
  simp -implicitDefEqProofs (maxSteps := 2000000) (disch := omega) [-getElem?_pos, a80, hp]
  refine W_loop (α := Nat) i (fun k => b.length - k) (fun k => ⟨[(0, .ptr p 0), (1, fd), (5, .v (.int .i64 i))], ⟨σ.objs.set p (cut b k), σ.toks⟩⟩) (fun k => k ≤ b.length ∧ i ≤ k ∧ spanE q b i = spanE q b k) (.eq2 (by rw [hset]) (by simp)) ⟨hi, by omega, rfl⟩ fun k ⟨hk, hik, he⟩ => ?_
  simp -implicitDefEqProofs (maxSteps := 2000000) (disch := omega) [-getElem?_pos, hpl]
  refine .mk (fun h => ?_) fun h => ?_
  · simp -implicitDefEqProofs (maxSteps := 2000000) (disch := omega) [-getElem?_pos, hpl]
    refine ⟨by omega, fun c hc => ?_⟩
    refine (hfd c _).then fun r hr => ?_
    subst hr
    cases hq : q c with
    | true =>
      simp -implicitDefEqProofs (maxSteps := 2000000) (disch := omega) [-getElem?_pos, hpl]
      exact ⟨k + 1, ⟨by omega, by omega, by rw [he, spanE_hit hc hq]⟩, by show b.length - (k + 1) < b.length - k; omega, .eq2 (by simp [cut]) (by simp)⟩
    | false =>
      have he2 := he.trans (spanE_miss hc hq)
      have hps := passS_eq (q := q) (b := b) (i := i)
      rw [he2] at hps ⊢
      simp -implicitDefEqProofs (maxSteps := 2000000) (disch := omega) [-getElem?_pos, hpl]
      exact ⟨hik, hk, .finS _ ⟨σ.objs.set p (cut b k), σ.toks⟩ ⟨by rw [hps], rfl⟩ (.refl _) (low_set (by simp [cut])) (by simp) (by simp) (by simp) (by simp) (by simp)⟩
  · have he2 := he.trans (spanE_end (by omega))
    have hps := passS_eq (q := q) (b := b) (i := i)
    rw [he2] at hps ⊢
    simp -implicitDefEqProofs (maxSteps := 2000000) (disch := omega) [-getElem?_pos, hpl]
    exact ⟨hik, hk, .finS _ ⟨σ.objs.set p (cut b k), σ.toks⟩ ⟨by rw [hps], rfl⟩ (.refl _) (low_set (by simp [cut])) (by simp) (by simp) (by simp) (by simp) (by simp)⟩
theorem drop_cons {α : Type} {l : List α} {i : Nat} {x : α} (h : l[i]? = some x) : l.drop i = x :: l.drop (i + 1) := by
  obtain ⟨hlt, he⟩ := List.getElem?_eq_some_iff.1 h
  rw [List.drop_eq_getElem_cons hlt, he]
theorem k_IndexStr {l : List Str} {s : Str} {σ : Sg} : ACalls Tryz.prog 155 [.v (vS l), .v (.str s)] σ fun r σ' => (∃ i : Int, r = .v (.int .i64 i) ∧ (0 ≤ i ↔ s ∈ l)) ∧ σ' = σ := by
  refine acalls_fit Tryz.func155 (by kernel_rfl) c155 rfl (by simp [a155]) fun hf => ?_
  simp at hf
  simp -implicitDefEqProofs (maxSteps := 2000000) (disch := omega) [-getElem?_pos, a155]
  refine W_loop (α := Nat) 0 (fun i => l.length - i) (fun i => ⟨[(0, .v (vS l)), (1, .v (.str s)), (7, .v (.int .i64 l.length)), (8, .v (.int .i64 i))], σ⟩) (fun i => i ≤ l.length ∧ (s ∈ l ↔ s ∈ l.drop i)) (.eq (by simp)) ⟨by simp, by simp⟩ fun i ⟨hi, he⟩ => ?_
  simp -implicitDefEqProofs (maxSteps := 2000000) (disch := omega) [-getElem?_pos]
  refine .mk (fun h => ?_) fun h => ?_
  · simp -implicitDefEqProofs (maxSteps := 2000000) (disch := omega) [-getElem?_pos]
    refine ⟨by omega, fun x hx => ?_⟩
    rw [drop_cons hx] at he
    refine .mk (fun hq => ?_) fun hq => ?_
    · simp -implicitDefEqProofs (maxSteps := 2000000) (disch := omega) [-getElem?_pos]
      exact .fin _ ⟨⟨i, rfl, by rw [he, hq]; simp⟩, rfl⟩ (.refl _)
    · simp -implicitDefEqProofs (maxSteps := 2000000) (disch := omega) [-getElem?_pos]
      refine ⟨i + 1, ⟨by omega, ?_⟩, by show l.length - (i + 1) < l.length - i; omega, .eq (by simp)⟩
      rw [he]
      simp [hq]
  · simp -implicitDefEqProofs (maxSteps := 2000000) (disch := omega) [-getElem?_pos]
    rw [List.drop_eq_nil_of_le (by omega)] at he
    exact .fin _ ⟨⟨-1, rfl, by rw [he]; simp⟩, rfl⟩ (.refl _)
theorem k_ContainsStr {l : List Str} {s : Str} {σ : Sg} : ACalls Tryz.prog 118 [.v (vS l), .v (.str s)] σ fun r σ' => r = .v (.bool (decide (s ∈ l))) ∧ σ' = σ := by
  refine acalls_fit Tryz.func118 (by kernel_rfl) c118 rfl (by simp [a118]) fun hf => ?_
  clear hf
  simp -implicitDefEqProofs (maxSteps := 2000000) (disch := omega) [-getElem?_pos, a118]
  refine k_IndexStr.then fun r hr => ?_
  obtain ⟨i, rfl, hi⟩ := hr
  simp -implicitDefEqProofs (maxSteps := 2000000) (disch := omega) [-getElem?_pos]
  exact .fin _ ⟨by simp [hi], rfl⟩ (.refl _)
theorem k_RIn {l : List Str} {s : Str} {σ : Sg} : ACalls Tryz.prog 174 [.v (vS l), .v (.str s)] σ fun r σ' => r = .v (.bool (decide (s ∈ l))) ∧ σ' = σ := by
  refine acalls_fit Tryz.func174 (by kernel_rfl) c174 rfl (by simp [a174]) fun hf => ?_
  simp at hf
  simp -implicitDefEqProofs (maxSteps := 2000000) (disch := omega) [-getElem?_pos, a174]
  refine W_loop (α := Nat) 0 (fun i => l.length - i) (fun i => ⟨[(0, .v (vS l)), (1, .v (.str s)), (5, .v (.int .i64 i))], σ⟩) (fun i => i ≤ l.length ∧ (s ∈ l ↔ s ∈ l.drop i)) (.eq (by simp)) ⟨by simp, by simp⟩ fun i ⟨hi, he⟩ => ?_
  simp -implicitDefEqProofs (maxSteps := 2000000) (disch := omega) [-getElem?_pos]
  refine .mk (fun h => ?_) fun h => ?_
  · simp -implicitDefEqProofs (maxSteps := 2000000) (disch := omega) [-getElem?_pos]
    refine ⟨by omega, fun x hx => ?_⟩
    rw [drop_cons hx] at he
    refine .mk (fun hq => ?_) fun hq => ?_
    · simp -implicitDefEqProofs (maxSteps := 2000000) (disch := omega) [-getElem?_pos]
      exact .fin _ ⟨by rw [decide_eq_true (he.2 (by rw [hq]; simp))], rfl⟩ (.refl _)
    · simp -implicitDefEqProofs (maxSteps := 2000000) (disch := omega) [-getElem?_pos]
      refine ⟨i + 1, ⟨by omega, ?_⟩, by show l.length - (i + 1) < l.length - i; omega, .eq (by simp)⟩
      rw [he]
      simp [Ne.symm hq]
  · simp -implicitDefEqProofs (maxSteps := 2000000) (disch := omega) [-getElem?_pos]
    rw [List.drop_eq_nil_of_le (by omega)] at he
    exact .fin _ ⟨by rw [decide_eq_false (by simpa using he)], rfl⟩ (.refl _)
def wordsL : List Str := [[102, 110], [108, 101, 116], [114, 101, 99], [105, 110], [109, 97, 116, 99, 104], [119, 105, 116, 104], [101, 110, 100], [105, 102], [116, 104, 101, 110], [101, 108, 115, 101], [114, 101, 102], [112, 114, 105, 110, 116], [115, 104, 111, 119], [114, 101, 97, 100]]
def onesL : List Str := [[40], [41], [123], [125], [61], [46], [44], [124], [92], [43], [45], [42], [47], [60], [94], [35], [33], [59]]
def signsL : List Str := [[45, 62], [61, 61], [58, 61]] ++ onesL
theorem k_Words {σ : Sg} : ACalls Tryz.prog 119 [] σ fun r σ' => r = .v (vS wordsL) ∧ σ' = σ := by
  refine acalls_fit Tryz.func119 (by kernel_rfl) c119 rfl (by simp [a119]) fun hf => ?_
  clear hf
  simp -implicitDefEqProofs (maxSteps := 2000000) (disch := omega) [-getElem?_pos, a119]
  exact .fin _ ⟨rfl, rfl⟩ VLe.lax.d
theorem k_Signs {σ : Sg} : ACalls Tryz.prog 158 [] σ fun r σ' => r = .v (vS signsL) ∧ σ' = σ := by
  refine acalls_fit Tryz.func158 (by kernel_rfl) c158 rfl (by simp [a158]) fun hf => ?_
  clear hf
  simp -implicitDefEqProofs (maxSteps := 2000000) (disch := omega) [-getElem?_pos, a158]
  exact .fin _ ⟨rfl, rfl⟩ VLe.lax.d
theorem k_IsWord {s : Str} {σ : Sg} : ACalls Tryz.prog 172 [.v (.str s)] σ fun r σ' => r = .v (.bool (decide (s ∈ wordsL))) ∧ σ' = σ := by
  have c1 := fun σ => ACalls.argA (k_RIn (l := wordsL) (s := s) (σ := σ)) (VLe.lax (sh := none) (f := true) (xs := wordsL.map .str)).d
  generalize decide (s ∈ wordsL) = w at *
  simp only [wordsL, List.map_cons, List.map_nil] at c1
  refine acalls_fit Tryz.func172 (by kernel_rfl) c172 rfl (by simp [a172]) fun hf => ?_
  clear hf
  simp -implicitDefEqProofs (maxSteps := 2000000) (disch := omega) [-getElem?_pos, a172]
  refine (c1 _).then fun r hr => ?_
  subst hr
  simp -implicitDefEqProofs (maxSteps := 2000000) (disch := omega) [-getElem?_pos]
  exact .fin _ ⟨rfl, rfl⟩ (.refl _)
def signF (b : Str) (i : Nat) (l : List Str) : Str := (l.find? fun s => decide (((b.drop i).take 2).take s.length = s)).getD []
theorem k_Sign {b : Str} {i p : Nat} {σ : Sg} (hp : σ.objs[p]? = some (cut b i)) (hi : i ≤ b.length) (hb : b.length ≤ 1048576) :
    ACalls Tryz.prog 124 [.ptr p 0] σ fun r σ' => r = .v (.str (signF b i signsL)) ∧ σ' = ⟨σ.objs.set p (cut b (i + (signF b i signsL).length)), σ.toks⟩ := by
  have hpl := (List.getElem?_eq_some_iff.1 hp).1
  have hset : σ.objs.set p (cut b i) = σ.objs := by
    apply List.ext_getElem?
    intro j
    by_cases e : p = j
    · subst e
      rw [List.getElem?_set_self hpl]
      exact hp.symm
    · rw [List.getElem?_set_ne e]
  have h2 : ∀ s ∈ signsL, s.length ≤ 2 := by decide
  have h20 : signsL.length = 21 := rfl
  have htwo : List.drop i (List.take (if (b.length : Int) < (i : Int) + 2 then (b.length : Int) else (i : Int) + 2).toNat b) = (b.drop i).take 2 := by
    split
    · rw [Int.toNat_natCast, List.take_length, List.take_of_length_le]
      rw [List.length_drop]
      omega
    · rw [show ((i : Int) + 2).toNat = i + 2 by omega, List.drop_take, Nat.add_sub_cancel_left]
  refine acalls_fit Tryz.func124 (by kernel_rfl) c124 rfl (by simp [a124]) fun hf => ?_
  clear hf
  simp -implicitDefEqProofs (maxSteps := 2000000) (disch := omega) [-getElem?_pos, a124]
  refine k_Signs.then fun r hr => ?_
  subst hr
  simp -implicitDefEqProofs (maxSteps := 2000000) (disch := omega) [-getElem?_pos]
  refine W_loop (α := Nat) 0 (fun k => 21 - k) (fun k => ⟨[(0, .ptr p 0), (2, .v (.str [])), (5, .v (vS signsL)), (6, .v (.int .i64 signsL.length)), (7, .v (.int .i64 k))], σ⟩) (fun k => k ≤ 21 ∧ signF b i signsL = signF b i (signsL.drop k)) (.eq (by simp)) ⟨by omega, rfl⟩ fun k ⟨hk, he⟩ => ?_
  simp -implicitDefEqProofs (maxSteps := 2000000) (disch := omega) [-getElem?_pos]
  refine .mk (fun h => ?_) fun h => ?_
  · simp -implicitDefEqProofs (maxSteps := 2000000) (disch := omega) [-getElem?_pos]
    refine ⟨by omega, fun x hx => ?_⟩
    have hx2 := h2 x (List.mem_of_getElem? hx)
    rw [drop_cons hx] at he
    simp -implicitDefEqProofs (maxSteps := 2000000) (disch := omega) [-getElem?_pos, hp, htwo]
    refine ⟨by split <;> omega, by split <;> omega, ?_⟩
    refine k_HasP.then fun r hr => ?_
    subst hr
    by_cases hq : ((b.drop i).take 2).take x.length = x
    · have he2 : signF b i signsL = x := by rw [he]; simp [signF, hq]
      rw [he2]
      simp -implicitDefEqProofs (maxSteps := 2000000) (disch := omega) [-getElem?_pos, hp, hq, hpl]
      refine .finS _ ⟨σ.objs.set p (cut b (i + x.length)), σ.toks⟩ ⟨rfl, rfl⟩ (.refl _) (low_set (by simp [cut])) (by simp) (by simp [cut]) (by simp) (by simp) (by simp)
    · simp -implicitDefEqProofs (maxSteps := 2000000) (disch := omega) [-getElem?_pos, hp, hq, hpl]
      exact ⟨k + 1, ⟨by omega, by rw [he]; simp [signF, hq]⟩, by show 21 - (k + 1) < 21 - k; omega, .eq (by simp)⟩
  · have he2 : signF b i signsL = [] := by rw [he, List.drop_eq_nil_of_le (by omega)]; rfl
    rw [he2]
    simp -implicitDefEqProofs (maxSteps := 2000000) (disch := omega) [-getElem?_pos]
    exact .fin _ ⟨rfl, by rw [hset]⟩ (.refl _)
end Go.Proofs.YtpdeaekmgljeaaaGreatDoor
