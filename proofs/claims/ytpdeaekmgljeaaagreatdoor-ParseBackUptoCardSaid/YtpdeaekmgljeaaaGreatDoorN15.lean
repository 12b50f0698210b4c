/-
  Expressions as text, plainly; how long. (Own work.)
-/
import Derived.Test.YtpdeaekmgljeaaaGreatDoorN14
import Derived.Test.YtpdeaekmgljeaaaGreatDoorChecked
import Derived.WalkKit
import Derived.LaidEql
import Derived.Stop.Asserts
import Derived.RowKitTokens
import Derived.Below
import Derived.OneCell
set_option linter.unusedVariables false
set_option linter.unusedSimpArgs false
namespace Go.Proofs.YtpdeaekmgljeaaaGreatDoor
open Go Go.Abs
def items : List Str → List Str → List Str
 | s :: ls, x :: xs => (s ++ [32, 61, 32] ++ x) :: items ls xs
 | _, _ => []
theorem join_snoc (sep x : Str) : ∀ L : List Str, Lib.join (L ++ [x]) sep = if L = [] then x else Lib.join L sep ++ sep ++ x
 | [] => by simp [Lib.join_one]
 | y :: L => by
  rw [List.cons_append, Lib.join_cons, Lib.join_cons]
  simp [Lib.joinTail]
theorem items_len : ∀ (ls xs : List Str), ls.length = xs.length → (items ls xs).length = xs.length
 | [], [], _ => rfl
 | [], _ :: _, h => by simp at h
 | _ :: _, [], h => by simp at h
 | s :: ls, x :: xs, h => by simp [items, items_len ls xs (by simpa using h)]
theorem items_get : ∀ (ls xs : List Str) (i : Nat) (s x : Str), ls[i]? = some s → xs[i]? = some x → (items ls xs)[i]? = some (s ++ [32, 61, 32] ++ x)
 | [], _, i, s, x, h, _ => by simp at h
 | _ :: _, [], i, s, x, _, h => by simp at h
 | a :: ls, b :: xs, 0, s, x, h1, h2 => by simp at h1 h2; subst h1 h2; simp [items]
 | a :: ls, b :: xs, i + 1, s, x, h1, h2 => by
  have := items_get ls xs i s x (by simpa using h1) (by simpa using h2)
  simpa [items] using this
def lenL : List Str → Nat
 | [] => 0
 | x :: l => x.length + lenL l
theorem getD_lenL : ∀ (l : List Str) (i : Nat), (l.getD i []).length ≤ lenL l
 | [], i => by simp
 | x :: l, 0 => by simp [lenL]
 | x :: l, i + 1 => by
  have := getD_lenL l i
  simp only [lenL, List.getD_cons_succ]
  omega
theorem join_len (sep : Str) : ∀ L : List Str, (Lib.join L sep).length ≤ lenL L + L.length * sep.length
 | [] => by simp [Lib.join_nil]
 | x :: L => by
  have : ∀ L : List Str, (Lib.joinTail sep L).length = lenL L + L.length * sep.length := by
   intro L
   induction L with
   | nil => simp [Lib.joinTail, lenL]
   | cons y L ih =>
    simp only [Lib.joinTail, List.map_cons, List.flatten_cons, List.length_append, lenL, List.length_cons, Nat.succ_mul] at ih ⊢
    omega
  rw [Lib.join_cons, List.length_append, this]
  simp only [lenL, List.length_cons, Nat.succ_mul]
  omega
theorem items_lenL : ∀ (ls xs : List Str), lenL (items ls xs) + 2 * (items ls xs).length ≤ lenL xs + 5 * nsz ls
 | [], [] => by simp [items, lenL]
 | [], _ :: _ => by simp [items, lenL]
 | _ :: _, [] => by simp [items, lenL]
 | s :: ls, x :: xs => by
  have := items_lenL ls xs
  simp only [items, lenL, List.length_cons, List.length_append, List.length_nil, nsz]
  omega
def joinTo (ls xs : List Str) (i : Nat) : Str := Lib.join ((items ls xs).take i) [44, 32]
theorem lenL_take : ∀ (L : List Str) (i : Nat), lenL (L.take i) ≤ lenL L
 | [], i => by simp [lenL]
 | x :: L, 0 => by simp [lenL]
 | x :: L, i + 1 => by have := lenL_take L i; simp only [List.take_succ_cons, lenL]; omega
theorem joinTo_len (ls xs : List Str) (i : Nat) : (joinTo ls xs i).length ≤ lenL xs + 5 * nsz ls := by
 have h1 := join_len [44, 32] ((items ls xs).take i)
 have h2 := lenL_take (items ls xs) i
 have h3 := items_lenL ls xs
 have h4 : ((items ls xs).take i).length ≤ (items ls xs).length := by simp; omega
 simp only [List.length_cons, List.length_nil] at h1
 unfold joinTo
 omega
theorem joinTo_all {ls xs : List Str} {i : Nat} (h : (items ls xs).length ≤ i) : joinTo ls xs i = Lib.join (items ls xs) [44, 32] := by
 unfold joinTo
 rw [List.take_of_length_le h]
def itemsO (ls xs : List Str) (i : Nat) : List V := ((items ls xs).take i).map .str
theorem itemsO_step {ls xs : List Str} {i : Nat} {s x : Str} (h1 : ls[i]? = some s) (h2 : xs[i]? = some x) : itemsO ls xs i ++ [.str (s ++ [32, 61, 32] ++ x)] = itemsO ls xs (i + 1) := by
 unfold itemsO
 rw [List.take_add_one, items_get ls xs i s x h1 h2]
 simp
theorem itemsO_all {ls xs : List Str} (h : ls.length = xs.length) {i : Nat} (hi : xs.length ≤ i) : itemsO ls xs i = (items ls xs).map .str := by
 unfold itemsO
 rw [List.take_of_length_le (by rw [items_len ls xs h]; omega)]
theorem itemsO_len {ls xs : List Str} (h : ls.length = xs.length) {i : Nat} (hi : i ≤ xs.length) : (itemsO ls xs i).length = i := by
 unfold itemsO
 rw [List.length_map, List.length_take, items_len ls xs h]
 omega
def soleK (k : Int) : Bool := k == 1 || (k == 2 || (k == 3 || (k == 8 || (k == 10 || (k == 12 || k == 22)))))
def smallT (q : Int × Str) : Str := if soleK q.1 = true then q.2 else [40] ++ q.2 ++ [41]
def armL : List Str → List Str → List Str → List Str
 | a :: ls, n :: ns, x :: xs => ([32, 124, 32] ++ a ++ [32] ++ n ++ [32, 45, 62, 32] ++ x) :: armL ls ns xs
 | _, _, _ => []
def txQ (q : List (Int × Str)) (i : Nat) : Str := (q.map (·.2)).getD i []
def smQ (q : List (Int × Str)) (i : Nat) : Str := match q[i]? with
 | some x => smallT x
 | none => []
def elseT (t : Str) (x : Str) : Str := if t = [] then [] else [32, 124, 32] ++ t ++ [32, 45, 62, 32] ++ x
def headK (k : Int) (s : Str) : Str := if k = 17 then [114, 101, 102, 32] else if k = 20 then [112, 114, 105, 110, 116, 32] else if k = 21 then [115, 104, 111, 119, 32] else if k = 18 then [33] else s ++ [32]
def showK (k n : Int) (s t : Str) (ls ns : List Str) (q : List (Int × Str)) : Str :=
 if k = 1 then Lib.itoa n
 else if k = 2 then (quoteE s).getD []
 else if k = 3 then s
 else if k = 4 then [102, 110, 32] ++ s ++ [32, 45, 62, 32] ++ txQ q 0
 else if k = 5 then smQ q 0 ++ [32] ++ smQ q 1
 else if k = 6 then [108, 101, 116, 32] ++ s ++ [32, 61, 32] ++ txQ q 0 ++ [32, 105, 110, 32] ++ txQ q 1
 else if k = 7 then [108, 101, 116, 32, 114, 101, 99, 32] ++ s ++ [32] ++ t ++ [32, 61, 32] ++ txQ q 0 ++ [32, 105, 110, 32] ++ txQ q 1
 else if k = 8 then [123] ++ Lib.join (items ls (q.map (·.2))) [44, 32] ++ [125]
 else if k = 9 then smQ q 0 ++ [46] ++ s
 else if k = 10 then [123] ++ s ++ [32, 61, 32] ++ txQ q 0 ++ [32, 124, 32] ++ txQ q 1 ++ [125]
 else if k = 11 then smQ q 0 ++ [92] ++ s
 else if k = 12 then [123] ++ smQ q 1 ++ [32, 119, 105, 116, 104, 32] ++ s ++ [32, 61, 32] ++ txQ q 0 ++ [125]
 else if k = 14 then [109, 97, 116, 99, 104, 32] ++ txQ q 0 ++ [32, 119, 105, 116, 104] ++ (armL ls ns ((q.map (·.2)).drop 1)).flatten ++ elseT t (txQ q (ls.length + 1)) ++ [32, 101, 110, 100]
 else if k = 15 then [105, 102, 32] ++ txQ q 0 ++ [32, 116, 104, 101, 110, 32] ++ txQ q 1 ++ [32, 101, 108, 115, 101, 32] ++ txQ q 2
 else if k = 16 then smQ q 0 ++ [32] ++ s ++ [32] ++ smQ q 1
 else if k = 19 then smQ q 0 ++ [32, 58, 61, 32] ++ smQ q 1
 else if k = 22 then [114, 101, 97, 100]
 else headK k s ++ smQ q 0
def kdE : Ex → Int
 | .mk k _ _ _ _ _ _ _ => k
mutual
def showL : Ex → Str
 | .mk k _ n s t ls ns l => showK k n s t ls ns (showQ l)
def showQ : List Ex → List (Int × Str)
 | [] => []
 | x :: l => (kdE x, showL x) :: showQ l
end
theorem showQ_eq : ∀ l, showQ l = l.map fun x => (kdE x, showL x)
 | [] => by simp [showQ]
 | x :: l => by simp [showQ, showQ_eq l]
theorem showQ_get {l : List Ex} {i : Nat} {x : Ex} (h : l[i]? = some x) : (showQ l)[i]? = some (kdE x, showL x) := by
 rw [showQ_eq, List.getElem?_map, h]; rfl
theorem txQ_get {l : List Ex} {i : Nat} {x : Ex} (h : l[i]? = some x) : txQ (showQ l) i = showL x := by
 unfold txQ
 rw [List.getD_eq_getElem?_getD, List.getElem?_map, showQ_get h]; rfl
def lenQ (q : List (Int × Str)) : Nat := lenL (q.map (·.2))
theorem small_len (q : Int × Str) : (smallT q).length ≤ q.2.length + 2 := by
 unfold smallT
 split <;> simp
theorem smQ_len0 (q : List (Int × Str)) (i : Nat) : (smQ q i).length ≤ (txQ q i).length + 2 := by
 unfold smQ txQ
 rw [List.getD_eq_getElem?_getD, List.getElem?_map]
 cases q[i]? with
 | none => simp
 | some x => exact small_len x
theorem tx3 (q : List (Int × Str)) : (txQ q 0).length + (txQ q 1).length + (txQ q 2).length ≤ lenQ q := by
 unfold txQ lenQ
 generalize q.map (·.2) = L
 match L with
 | [] => simp
 | [a] => simp [lenL]
 | [a, b] => simp [lenL]
 | a :: b :: c :: l => simp [lenL]; omega
theorem arm_len : ∀ (ls ns ys : List Str), (armL ls ns ys).flatten.length + (ys.getD ls.length []).length ≤ lenL ys + 8 * nsz ls + nsz ns
 | [], ns, ys => by
  have := getD_lenL ys 0
  simp only [armL, List.flatten_nil, List.length_nil, nsz]
  omega
 | a :: ls, [], ys => by
  have := getD_lenL ys (ls.length + 1)
  simp only [armL, List.flatten_nil, List.length_nil, List.length_cons, nsz]
  omega
 | a :: ls, n :: ns, [] => by simp [armL]
 | a :: ls, n :: ns, x :: xs => by
  have := arm_len ls ns xs
  simp only [armL, List.flatten_cons, List.length_append, List.length_cons, List.length_nil, List.getD_cons_succ, nsz, lenL]
  omega
theorem qB_len {c : UInt8} {s : Str} (h : qB c = some s) : s.length ≤ 2 := by
 unfold qB at h
 split at h
 ·cases h; simp
 ·split at h
  ·cases h
  ·split at h <;> (cases h; simp)
theorem qL_len : ∀ (t acc s : Str), qL t acc = some s → s.length ≤ acc.length + 2 * t.length + 1
 | [], acc, s, h => by
  have := Option.some.inj h
  subst this
  simp
 | c :: t, acc, s, h => by
  rw [qL] at h
  cases hc : qB c with
  | none => rw [hc] at h; cases h
  | some r =>
   rw [hc] at h
   have h1 := qL_len t _ s h
   have h2 := qB_len hc
   simp only [List.length_append, List.length_cons] at h1 ⊢
   omega
theorem quote_len {s : Str} : ((quoteE s).getD []).length ≤ 2 * s.length + 2 := by
 unfold quoteE
 split
 ·simp
 ·cases h : qL s [34] with
  | none => simp
  | some r =>
   have := qL_len s [34] r h
   simp only [List.length_cons, List.length_nil] at this
   simp only [Option.getD_some]
   omega
theorem ite_len {p : Prop} [Decidable p] {a b : Str} {N : Nat} (ha : a.length ≤ N) (hb : b.length ≤ N) : (if p then a else b).length ≤ N := by
 split
 ·exact ha
 ·exact hb
theorem headK_len (k : Int) (s : Str) : (headK k s).length ≤ s.length + 6 := by
 unfold headK
 repeat' apply ite_len
 all_goals simp only [List.length_append, List.length_cons, List.length_nil]; omega
theorem elseT_len (t x : Str) : (elseT t x).length ≤ t.length + x.length + 7 := by
 unfold elseT
 apply ite_len
 ·simp
 ·simp only [List.length_append, List.length_cons, List.length_nil]; omega
theorem showK_len {k n : Int} {s t : Str} {ls ns : List Str} {q : List (Int × Str)} (hn : -9223372036854775808 ≤ n) (hn2 : n ≤ 9223372036854775807) : (showK k n s t ls ns q).length ≤ lenQ q + 8 * nsz ls + 8 * nsz ns + 2 * s.length + t.length + 40 := by
 have h3 := tx3 q
 have s0 := smQ_len0 q 0
 have s1 := smQ_len0 q 1
 have hi := Lib.itoa_length_le n hn hn2
 have hq := quote_len (s := s)
 have hj := join_len [44, 32] (items ls (q.map (·.2)))
 have hj2 := items_lenL ls (q.map (·.2))
 simp only [List.length_cons, List.length_nil] at hj
 have hQ : lenL (q.map (·.2)) = lenQ q := rfl
 have ha : (txQ q 0).length + (armL ls ns ((q.map (·.2)).drop 1)).flatten.length + (txQ q (ls.length + 1)).length ≤ lenQ q + 8 * nsz ls + nsz ns := by
  unfold txQ lenQ
  cases q.map (·.2) with
  | nil =>
   have := arm_len ls ns []
   simpa using this
  | cons x l =>
   have := arm_len ls ns l
   simp only [List.drop_succ_cons, List.drop_zero, List.getD_cons_succ, List.getD_cons_zero, lenL]
   omega
 have hh := headK_len k s
 have he := elseT_len t (txQ q (ls.length + 1))
 unfold showK
 generalize Lib.itoa n = I at hi ⊢
 repeat' apply ite_len
 all_goals (try simp only [List.length_append, List.length_cons, List.length_nil]); omega
mutual
def intsE : Ex → Prop
 | .mk _ _ n _ _ _ _ l => (-9223372036854775808 ≤ n ∧ n ≤ 9223372036854775807) ∧ intsL l
def intsL : List Ex → Prop
 | [] => True
 | x :: l => intsE x ∧ intsL l
end
theorem show_len (e : Ex) : intsE e → (showL e).length ≤ 8 * csz e := by
 refine Ex.ind (P := fun e => intsE e → (showL e).length ≤ 8 * csz e) (fun k p n s t ls ns l ih hi => ?_) e
 rw [intsE] at hi
 have h1 := showK_len (k := k) (s := s) (t := t) (ls := ls) (ns := ns) (q := showQ l) hi.1.1 hi.1.2
 have h2 : lenQ (showQ l) ≤ 8 * cszL l := by
  replace hi := hi.2
  clear h1
  induction l with
  | nil => simp [lenQ, showQ, lenL]
  | cons x l ihl =>
   rw [intsL] at hi
   have g1 := ih x (by simp) hi.1
   have g2 := ihl (fun y hy => ih y (by simp [hy])) hi.2
   simp only [lenQ, showQ, List.map_cons, lenL, cszL] at g2 ⊢
   omega
 simp only [showL, csz]
 omega
def wtT (t : Tk) : Nat := 40 + t.s.length
def Wt (C : PC) (st : PSt) : Nat := ((C.L.drop st.i).map wtT).sum
structure SrtG (C : PC) : Prop where
 srt : ∀ l, Sub l (C.srt l)
 num : ∀ t ∈ C.L, t.n ≤ 9223372036854775807
structure Cost (C : PC) (st st' : PSt) (n : Nat) : Prop where
 ok : st'.bad = none → st.bad = none
 le : st'.bad = none → n + Wt C st' ≤ Wt C st
theorem Cost.refl (C : PC) (st : PSt) : Cost C st st 0 := ⟨id, fun _ => by omega⟩
theorem Cost.trans {C : PC} {a b c : PSt} {n m k : Nat} (h : Cost C a b n) (g : Cost C b c m) (hk : k ≤ n + m) : Cost C a c k :=
 ⟨fun o => h.ok (g.ok o), fun o => by have := g.le o; have := h.le (g.ok o); omega⟩
theorem Cost.weak {C : PC} {a b : PSt} {n k : Nat} (h : Cost C a b n) (hk : k ≤ n) : Cost C a b k := ⟨h.ok, fun o => by have := h.le o; omega⟩
theorem Cost.fail {C : PC} {st : PSt} {q : Int} {n : Nat} : Cost C st (failP q st) n := ⟨fun h => (by cases h), fun h => (by cases h)⟩
theorem ahd_get {C : PC} {st : PSt} (h : st.bad = none ∧ st.i < C.L.length) : C.L[st.i]? = some (ahd C st 0) := by
 obtain ⟨t, ht⟩ := get_tok h.2
 unfold ahd
 rw [h.1, if_neg (by simp)]
 show C.L[st.i]? = some ((C.L[st.i + 0]?).getD zTk)
 rw [Nat.add_zero, ht]
 rfl
theorem Cost.adv {C : PC} {st : PSt} (h : st.bad = none ∧ st.i < C.L.length) : Cost C st (advP st) (40 + (ahd C st 0).s.length) := ⟨fun _ => h.1, fun _ => by
 have hg := ahd_get h
 unfold Wt advP
 dsimp only
 rw [drop_cons hg, List.map_cons, List.sum_cons]
 show _ ≤ wtT (ahd C st 0) + _
 unfold wtT
 omega⟩
theorem Cost.must {C : PC} {st : PSt} {s : Str} : Cost C st (mustP C s st) 40 := by
 unfold mustP
 split
 ·rename_i h; exact (Cost.adv (sees_in h)).weak (by omega)
 ·exact .fail
theorem Cost.text {C : PC} {st : PSt} {k : Int} (hk : k ≠ 0) : Cost C st (textP C k st).st (40 + (textP C k st).s.length) := by
 unfold textP
 split
 ·rename_i h; exact .adv (ahd_in (by rw [h]; exact hk))
 ·exact .fail
theorem Cost.sees {C : PC} {st : PSt} {s : Str} (h : sees C st 0 s = true) : Cost C st (advP st) 40 := (Cost.adv (sees_in h)).weak (by omega)
theorem Cost.dup {C : PC} {st : PSt} {b : Bool} {q : Int} : Cost C st (if b = true then failP q st else st) 0 := by
 split
 ·exact .fail
 ·exact .refl C st
structure Fit (C : PC) (f : PF) : Prop where
 c : ∀ st, Cost C st (f st).st (csz (f st).e + 8)
 i : ∀ st, intsE (f st).e
theorem ints1 {k p : Int} {s t : Str} {ls ns : List Str} {a : Ex} (h : intsE a) : intsE (.mk k p 0 s t ls ns [a]) := by simp [intsE, intsL, h]
theorem ints2 {k p : Int} {s t : Str} {ls ns : List Str} {a b : Ex} (h : intsE a) (g : intsE b) : intsE (.mk k p 0 s t ls ns [a, b]) := by simp [intsE, intsL, h, g]
theorem csz1 {k p : Int} {s t : Str} {a : Ex} : csz (.mk k p 0 s t [] [] [a]) = 8 + s.length + t.length + csz a := by simp [csz, cszL, nsz]
theorem csz2 {k p : Int} {s t : Str} {a b : Ex} : csz (.mk k p 0 s t [] [] [a, b]) = 8 + s.length + t.length + csz a + csz b := by simp [csz, cszL, nsz]; omega
theorem fit_postL {C : PC} : ∀ (g : Nat) (a : Ex) (st st0 : PSt), Cost C st0 st (csz a + 8) → intsE a → Cost C st0 (postL C g a st).st (csz (postL C g a st).e + 8) ∧ intsE (postL C g a st).e
 | 0, a, st, st0, h, hi => ⟨h, hi⟩
 | g + 1, a, st, st0, h, hi => by
  rw [postL]
  split
  ·rename_i hs
   refine fit_postL g _ _ st0 (h.trans ((Cost.sees hs).trans (Cost.text (C := C) (st := advP st) (k := 1) (by decide)) (Nat.le_refl _)) ?_) (ints1 hi)
   rw [csz1]
   simp only [List.length_nil]
   omega
  ·split
   ·rename_i hs
    refine fit_postL g _ _ st0 (h.trans ((Cost.sees hs).trans (Cost.text (C := C) (st := advP st) (k := 1) (by decide)) (Nat.le_refl _)) ?_) (ints1 hi)
    rw [csz1]
    simp only [List.length_nil]
    omega
   ·exact ⟨h, hi⟩
theorem fit_post {C : PC} {f : PF} (h : Fit C f) : Fit C (postP C f) := ⟨fun st => (fit_postL _ _ _ st (h.c st) (h.i st)).1, fun st => (fit_postL _ _ _ st (h.c st) (h.i st)).2⟩
theorem fit_pre {C : PC} {f : PF} (h : Fit C f) : Fit C (preP C f) := by
 have hp := fit_post h
 refine ⟨fun st => ?_, fun st => ?_⟩
 ·unfold preP
  split
  ·rename_i k hk
   have h0 : (ahd C st 0).k ≠ 0 := by
    intro h0
    unfold headP at hk
    rw [h0] at hk
    simp at hk
   refine (Cost.adv (ahd_in h0)).trans (hp.c (advP st)) ?_
   rw [csz1]
   split <;> simp only [List.length_nil] <;> omega
  ·exact hp.c st
 ·unfold preP
  split
  ·exact ints1 (hp.i _)
  ·exact hp.i st
theorem fit_appL {C : PC} {f : PF} (h : Fit C f) : ∀ (g : Nat) (a : Ex) (st st0 : PSt), Cost C st0 st (csz a + 8) → intsE a → Cost C st0 (appL C f g a st).st (csz (appL C f g a st).e + 8) ∧ intsE (appL C f g a st).e
 | 0, a, st, st0, hc, hi => ⟨hc, hi⟩
 | g + 1, a, st, st0, hc, hi => by
  have hp := fit_post h
  rw [appL]
  split
  ·refine fit_appL h g _ _ st0 (hc.trans (hp.c st) ?_) (ints2 hi (hp.i st))
   rw [csz2]
   simp only [List.length_nil]
   omega
  ·exact ⟨hc, hi⟩
theorem fit_app {C : PC} {f : PF} (h : Fit C f) : Fit C (appP C f) :=
 ⟨fun st => (fit_appL h _ _ _ st ((fit_pre h).c st) ((fit_pre h).i st)).1, fun st => (fit_appL h _ _ _ st ((fit_pre h).c st) ((fit_pre h).i st)).2⟩
theorem op_len {C : PC} {st : PSt} {ops : List Str} {s : Str} (h : opP C ops st = some s) : (ahd C st 0).s = s := by
 have := op_in h
 unfold Go.Proofs.YtpdeaekmgljeaaaGreatDoor.sees seesT at this
 simp only [Bool.and_eq_true, decide_eq_true_eq] at this
 exact this.2
theorem Cost.op {C : PC} {st : PSt} {ops : List Str} {s : Str} (h : opP C ops st = some s) : Cost C st (advP st) (40 + s.length) := by
 rw [← op_len h]
 exact .adv (sees_in (op_in h))
theorem fit_rowL {C : PC} {f : PF} {ops : List Str} (h : Fit C f) : ∀ (g : Nat) (a : Ex) (st st0 : PSt), Cost C st0 st (csz a + 8) → intsE a → Cost C st0 (rowL C f ops g a st).st (csz (rowL C f ops g a st).e + 8) ∧ intsE (rowL C f ops g a st).e
 | 0, a, st, st0, hc, hi => ⟨hc, hi⟩
 | g + 1, a, st, st0, hc, hi => by
  rw [rowL]
  cases ho : opP C ops st with
  | none => exact ⟨hc, hi⟩
  | some s =>
   refine fit_rowL h g _ _ st0 (hc.trans ((Cost.op ho).trans (h.c _) (Nat.le_refl _)) ?_) (ints2 hi (h.i _))
   unfold opE
   rw [csz2]
   simp only [List.length_nil]
   omega
theorem fit_row {C : PC} {f : PF} {ops : List Str} (h : Fit C f) : Fit C (rowP C f ops) :=
 ⟨fun st => (fit_rowL h _ _ _ st (h.c st) (h.i st)).1, fun st => (fit_rowL h _ _ _ st (h.c st) (h.i st)).2⟩
theorem fit_mul {C : PC} {f : PF} (h : Fit C f) : Fit C (mulP C f) := fit_row (fit_app h)
theorem fit_sum {C : PC} {f : PF} (h : Fit C f) : Fit C (sumP C f) := fit_row (fit_mul h)
theorem fit_cmp {C : PC} {f : PF} (h : Fit C f) : Fit C (cmpP C f) := by
 have hs := fit_sum h
 refine ⟨fun st => ?_, fun st => ?_⟩
 ·unfold cmpP
  cases ho : opP C [[60], [61, 61]] (sumP C f st).st with
  | none => exact hs.c st
  | some s =>
   refine (hs.c st).trans ((Cost.op ho).trans (hs.c _) (Nat.le_refl _)) ?_
   unfold opE
   rw [csz2]
   simp only [List.length_nil]
   omega
 ·unfold cmpP
  cases ho : opP C [[60], [61, 61]] (sumP C f st).st with
  | none => exact hs.i st
  | some s => exact ints2 (hs.i st) (hs.i _)
theorem ints0 {p : Int} : intsE (.mk 0 p 0 [] [] [] [] []) := by simp [intsE, intsL]
theorem fit_set {C : PC} {f : PF} (h : Fit C f) (hon : On C f) : ∀ g, (∀ st, rem C st < g → Cost C st (setP C f g st).st (csz (setP C f g st).e + 8)) ∧ (∀ st, intsE (setP C f g st).e)
 | 0 => ⟨fun st hh => absurd hh (Nat.not_lt_zero _), fun st => ints0⟩
 | g + 1 => by
  have hc := fit_cmp h
  have ih := fit_set h hon g
  refine ⟨fun st hr => ?_, fun st => ?_⟩
  ·rw [setP]
   split
   ·rename_i hs
    have hin := sees_in hs
    have hle := (on_cmp hon st).le
    have hpos := rem_pos hin
    have hra : rem C (advP (cmpP C f st).st) = rem C (cmpP C f st).st - 1 := rem_adv
    refine (hc.c st).trans ((Cost.sees hs).trans (ih.1 _ (by omega)) (Nat.le_refl _)) ?_
    rw [csz2]
    simp only [List.length_nil]
    omega
   ·exact hc.c st
  ·rw [setP]
   split
   ·exact ints2 (hc.i st) (ih.2 _)
   ·exact hc.i st
theorem fit_let2 {C : PC} {pe : PF} (h : Fit C pe) {k p : Int} {s t : Str} (st : PSt) : Cost C st (let2P C pe k p s t st).st (80 + csz (let2P C pe k p s t st).e - s.length - t.length) ∧ intsE (let2P C pe k p s t st).e := by
 unfold let2P
 refine ⟨(Cost.must.trans (h.c _) (Nat.le_refl _)).trans (Cost.must.trans (h.c _) (Nat.le_refl _)) ?_, ints2 (h.i _) (h.i _)⟩
 rw [csz2]
 omega
theorem fit_let {C : PC} {pe : PF} (h : Fit C pe) {p : Int} (st : PSt) : Cost C st (letP C pe p st).st (csz (letP C pe p st).e + 8) ∧ intsE (letP C pe p st).e := by
 unfold letP
 split
 ·rename_i hs
  have h2 := fit_let2 h (k := 7) (p := p) (s := (textP C 1 (advP st)).s) (t := (textP C 1 (textP C 1 (advP st)).st).s) (textP C 1 (textP C 1 (advP st)).st).st
  exact ⟨(((Cost.sees hs).trans (Cost.text (by decide)) (Nat.le_refl _)).trans (Cost.text (by decide)) (Nat.le_refl _)).trans h2.1 (by omega), h2.2⟩
 ·have h2 := fit_let2 h (k := 6) (p := p) (s := (textP C 1 st).s) (t := []) (textP C 1 st).st
  exact ⟨(Cost.text (by decide)).trans h2.1 (by simp only [List.length_nil]; omega), h2.2⟩
theorem fit_if {C : PC} {pe : PF} (h : Fit C pe) {p : Int} (st : PSt) : Cost C st (ifP C pe p st).st (csz (ifP C pe p st).e + 8) ∧ intsE (ifP C pe p st).e := by
 unfold ifP
 dsimp only
 refine ⟨((h.c st).trans (Cost.must.trans (h.c _) (Nat.le_refl _)) (Nat.le_refl _)).trans (Cost.must.trans (h.c _) (Nat.le_refl _)) ?_, by simp [intsE, intsL, h.i]⟩
 simp only [csz, cszL, nsz, List.length_nil]
 omega
def wtI (l : List Itm) : Nat := (l.map fun y => y.key.length + y.own.length + csz y.e + 8).sum
theorem wtI_snoc (l : List Itm) (y : Itm) : wtI (l ++ [y]) = wtI l + (y.key.length + y.own.length + csz y.e + 8) := by simp [wtI]
theorem wtI_parts : ∀ l : List Itm, nsz (l.map (·.key)) + nsz (l.map (·.own)) + cszL (l.map (·.e)) ≤ wtI l
 | [] => by simp [wtI, nsz, cszL]
 | y :: l => by
  have := wtI_parts l
  simp only [wtI, List.map_cons, List.sum_cons, nsz, cszL] at this ⊢
  omega
theorem nsz_key : ∀ l : List Itm, nsz (l.map (·.key)) + cszL (l.map (·.e)) ≤ wtI l := fun l => by have := wtI_parts l; omega
theorem cszL_app : ∀ a b : List Ex, cszL (a ++ b) = cszL a + cszL b
 | [], b => by simp [cszL]
 | x :: a, b => by simp [cszL, cszL_app a b]; omega
theorem intsL_iff : ∀ l : List Ex, intsL l ↔ ∀ x ∈ l, intsE x
 | [] => by simp [intsL]
 | x :: l => by simp [intsL, intsL_iff l]
theorem wtI_srt {C : PC} (hs : SrtG C) (l : List Itm) : wtI (C.srt l) = wtI l := (hs.srt l).sum _
structure ArmG (C : PC) (st0 : PSt) (a : ArmS) : Prop where
 c : Cost C st0 a.st (wtI a.l + a.t.length + cszL a.last)
 i : (∀ y ∈ a.l, intsE y.e) ∧ ∀ y ∈ a.last, intsE y
theorem arm_g2 {C : PC} {pe : PF} (h : Fit C pe) {st0 : PSt} {a : ArmS} (g : ArmG C st0 a) : ArmG C st0 (armF C pe a) := by
 unfold armF
 dsimp only
 have hm := g.c.trans (Cost.must (C := C) (st := a.st) (s := [124])) (Nat.le_refl _)
 split
 ·refine ⟨((hm.trans (Cost.text (by decide)) (Nat.le_refl _)).trans (Cost.must.trans (h.c _) (Nat.le_refl _))) ?_, g.i.1, by simp [h.i]⟩
  simp only [cszL]
  omega
 ·refine ⟨((hm.trans (Cost.text (by decide)) (Nat.le_refl _)).trans ((Cost.dup.trans (Cost.text (by decide)) (Nat.le_refl _)).trans (Cost.must.trans (h.c _) (Nat.le_refl _)) (Nat.le_refl _))) ?_, ?_, g.i.2⟩
  ·rw [wtI_snoc]
   dsimp only
   omega
  ·intro y hy
   rcases List.mem_append.1 hy with hy | hy
   ·exact g.i.1 y hy
   ·rw [List.mem_singleton.1 hy]
    exact h.i _
theorem arms_g {C : PC} {pe : PF} (h : Fit C pe) {st0 : PSt} : ∀ (n : Nat) {a : ArmS}, ArmG C st0 a → ArmG C st0 (armsL C pe n a)
 | 0, a, g => g
 | n + 1, a, g => by
  rw [armsL]
  split
  ·exact arms_g h n (arm_g2 h g)
  ·exact g
theorem fit_match {C : PC} {pe : PF} (hs : SrtG C) (h : Fit C pe) {p : Int} (st : PSt) : Cost C st (matchP C pe p st).st (csz (matchP C pe p st).e + 8) ∧ intsE (matchP C pe p st).e := by
 unfold matchP
 dsimp only
 have hw := (h.c st).trans (Cost.must (C := C) (st := (pe st).st) (s := wWith)) (Nat.le_refl _)
 have g := arms_g h (C.L.length + 1) (a := ⟨[], [], [], mustP C wWith (pe st).st, true⟩) (st0 := mustP C wWith (pe st).st) ⟨(Cost.refl C _).weak (by simp [wtI, cszL]), by simp, by simp⟩
 generalize armsL C pe (C.L.length + 1) ⟨[], [], [], mustP C wWith (pe st).st, true⟩ = a at g ⊢
 refine ⟨(hw.trans g.c (Nat.le_refl _)).trans (Cost.must (s := wEnd)) ?_, ?_⟩
 ·have h1 := wtI_parts (C.srt a.l)
  rw [wtI_srt hs] at h1
  simp only [csz, cszL, cszL_app, nsz, List.length_nil]
  omega
 ·simp only [intsE, intsL, intsL_iff, List.mem_append, List.mem_map]
  refine ⟨by decide, h.i st, ?_⟩
  rintro x (⟨y, hy, rfl⟩ | hx)
  ·exact g.i.1 y ((hs.srt a.l).mem y hy)
  ·exact g.i.2 x hx
structure FldG (C : PC) (st0 : PSt) (l : List Itm) (st : PSt) : Prop where
 c : Cost C st0 st (wtI l)
 i : ∀ y ∈ l, intsE y.e
theorem flds_g {C : PC} {pe : PF} (h : Fit C pe) {st0 : PSt} : ∀ (n : Nat) {a : FldS}, FldG C st0 a.l a.st → match fldsL C pe n a with
  | .ext p s x r st => Cost C st0 st (s.length + csz x + csz r + 40) ∧ intsE x ∧ intsE r
  | .all l st => FldG C st0 l st
 | 0, a, g => g
 | n + 1, a, g => by
  rw [fldsL]
  dsimp only
  have hx := (((g.c.trans (Cost.text (C := C) (st := a.st) (k := 1) (by decide)) (Nat.le_refl _)).trans (Cost.dup (C := C) (st := (textP C 1 a.st).st) (b := hasKey a.l (textP C 1 a.st).s) (q := placeP C a.st)) (Nat.le_refl _)).trans (Cost.must (s := [61])) (Nat.le_refl _)).trans (h.c _) (Nat.le_refl _)
  have hi := h.i (mustP C [61] (if hasKey a.l (textP C 1 a.st).s = true then failP (placeP C a.st) (textP C 1 a.st).st else (textP C 1 a.st).st))
  generalize pe (mustP C [61] (if hasKey a.l (textP C 1 a.st).s = true then failP (placeP C a.st) (textP C 1 a.st).st else (textP C 1 a.st).st)) = x at hx hi ⊢
  have hg : FldG C st0 (a.l ++ [⟨placeP C a.st, (textP C 1 a.st).s, [], x.e⟩]) x.st := by
   refine ⟨hx.weak ?_, fun y hy => ?_⟩
   ·rw [wtI_snoc]
    simp only [List.length_nil]
    omega
   ·rcases List.mem_append.1 hy with hy | hy
    ·exact g.i y hy
    ·rw [List.mem_singleton.1 hy]
     exact hi
  by_cases hc : a.l = [] ∧ sees C x.st 0 [124] = true
  ·rw [if_pos hc]
   refine ⟨(hx.trans (Cost.sees hc.2) (Nat.le_refl _)).trans (h.c _) ?_, hi, h.i _⟩
   omega
  ·rw [if_neg hc]
   by_cases hd : x.st.bad = none ∧ sees C x.st 0 [44] = true
   ·rw [if_pos hd]
    refine flds_g h n ⟨?_, hg.i⟩
    exact (hg.c.trans (Cost.sees hd.2) (Nat.le_refl _)).weak (by dsimp only; omega)
   ·rw [if_neg hd]
    exact hg
theorem fit_braces {C : PC} {pe f : PF} (hs : SrtG C) (h : Fit C pe) (k : Fit C f) {p : Int} (st : PSt) : Cost C st (bracesP C pe f p st).st (csz (bracesP C pe f p st).e) ∧ intsE (bracesP C pe f p st).e := by
 unfold bracesP
 split
 ·rename_i h1
  exact ⟨(Cost.sees h1).weak (by simp [csz, cszL, nsz]), by simp [intsE, intsL]⟩
 ·split
  ·refine ⟨((((fit_post k).c st).trans Cost.must (Nat.le_refl _)).trans (Cost.text (by decide)) (Nat.le_refl _)).trans (Cost.must.trans ((h.c _).trans Cost.must (Nat.le_refl _)) (Nat.le_refl _)) ?_, ints2 (h.i _) ((fit_post k).i _)⟩
   rw [csz2]
   simp only [List.length_nil]
   omega
  ·have g := flds_g h (C.L.length + 1) (a := ⟨[], st⟩) (st0 := st) ⟨(Cost.refl C _).weak (by simp [wtI]), by simp⟩
   cases hF : fldsL C pe (C.L.length + 1) ⟨[], st⟩ with
   | ext q s a b st' =>
    rw [hF] at g
    dsimp only at g ⊢
    refine ⟨g.1.trans (Cost.must (s := [125])) ?_, ints2 g.2.1 g.2.2⟩
    rw [csz2]
    simp only [List.length_nil]
    omega
   | all l st' =>
    rw [hF] at g
    dsimp only at g ⊢
    refine ⟨g.c.trans (Cost.must (s := [125])) ?_, ?_⟩
    ·have h1 := nsz_key (C.srt l)
     rw [wtI_srt hs] at h1
     simp only [csz, nsz, List.length_nil]
     omega
    ·simp only [intsE, intsL_iff, List.mem_map]
     refine ⟨by decide, ?_⟩
     rintro x ⟨y, hy, rfl⟩
     exact g.i y ((hs.srt l).mem y hy)
theorem fit_prim {C : PC} {pe f : PF} (hs : SrtG C) (h : Fit C pe) (k : Fit C f) : Fit C (primF C pe f) := by
 refine ⟨fun st => ?_, fun st => ?_⟩
 ·unfold primF
  dsimp only
  split
  ·rename_i hk
   exact (Cost.adv (ahd_in (by rw [hk]; decide))).weak (by simp only [csz, cszL, nsz, List.length_nil]; omega)
  ·split
   ·rename_i hk
    exact (Cost.adv (ahd_in (by rw [hk]; decide))).weak (by simp [csz, cszL, nsz]; omega)
   ·split
    ·rename_i hk
     exact (Cost.adv (ahd_in (by rw [hk]; decide))).weak (by simp [csz, cszL, nsz]; omega)
    ·split
     ·rename_i hk
      exact (Cost.sees hk).weak (by simp [csz, cszL, nsz])
     ·split
      ·rename_i hk
       exact ((Cost.sees hk).trans (h.c _) (Nat.le_refl _)).trans Cost.must (by dsimp only; omega)
      ·split
       ·rename_i hk
        exact (Cost.sees hk).trans (fit_braces hs h k _).1 (by omega)
       ·exact .fail
 ·unfold primF
  dsimp only
  split
  ·rename_i hk
   have hg := ahd_get (C := C) (st := st) (ahd_in (by rw [hk]; decide))
   have hn := hs.num _ (List.mem_of_getElem? hg)
   simp only [intsE, intsL, and_true]
   omega
  ·split
   ·simp [intsE, intsL]
   ·split
    ·simp [intsE, intsL]
    ·split
     ·simp [intsE, intsL]
     ·split
      ·exact h.i _
      ·split
       ·exact (fit_braces hs h k _).2
       ·simp [intsE, intsL]
theorem fit_expr {C : PC} {pe f : PF} (hs : SrtG C) (h : Fit C pe) (k : Fit C f) (hon : On C f) : Fit C (exprF C pe f) := by
 have hset := fit_set k hon (C.L.length + 1)
 have hrem : ∀ st, rem C st < C.L.length + 1 := fun st => by
  unfold rem
  split <;> omega
 refine ⟨fun st => ?_, fun st => ?_⟩
 ·unfold exprF
  split
  ·rename_i hh
   refine ((Cost.sees hh).trans (Cost.text (by decide)) (Nat.le_refl _)).trans (Cost.must.trans (h.c _) (Nat.le_refl _)) ?_
   rw [csz1]
   simp only [List.length_nil]
   omega
  ·split
   ·rename_i hh
    exact (Cost.sees hh).trans (fit_let h _).1 (by omega)
   ·split
    ·rename_i hh
     exact (Cost.sees hh).trans (fit_if h _).1 (by omega)
    ·split
     ·rename_i hh
      exact (Cost.sees hh).trans (fit_match hs h _).1 (by omega)
     ·exact hset.1 st (hrem st)
 ·unfold exprF
  split
  ·exact ints1 (h.i _)
  ·split
   ·exact (fit_let h _).2
   ·split
    ·exact (fit_if h _).2
    ·split
     ·exact (fit_match hs h _).2
     ·exact hset.2 st
theorem fit_zero {C : PC} : Fit C (fun st => ⟨zEx, failP 0 st⟩) := ⟨fun st => .fail, fun st => ints0⟩
theorem fit_pP {C : PC} (hs : SrtG C) : ∀ n, Fit C (pP C n).e ∧ Fit C (pP C n).r
 | 0 => ⟨fit_zero, fit_zero⟩
 | n + 1 => by
  obtain ⟨h, k⟩ := fit_pP hs n
  exact ⟨fit_expr hs h (fit_prim hs h k) (on_prim (on_pP n).1 (on_pP n).2), fit_prim hs h k⟩
theorem progP_fit {C : PC} (hs : SrtG C) {e : Ex} (h : progP C = some e) : csz e ≤ 40 * C.L.length + (C.L.map fun t => t.s.length).sum ∧ intsE e := by
 have hf := (fit_pP hs (2 * C.L.length + 2)).1
 unfold progP at h
 dsimp only at h
 split at h
 ·cases h
 ·rename_i hn
  cases h
  refine ⟨?_, hf.i _⟩
  have hb : ((pP C (2 * C.L.length + 2)).e ⟨0, none⟩).st.bad = none := by
   cases hb : ((pP C (2 * C.L.length + 2)).e ⟨0, none⟩).st.bad with
   | none => rfl
   | some z => exact absurd (.inl (by rw [hb]; rfl)) hn
  have := (hf.c ⟨0, none⟩).le hb
  have hw : Wt C ⟨0, none⟩ = 40 * C.L.length + (C.L.map fun t => t.s.length).sum := by
   unfold Wt
   simp only [List.drop_zero]
   induction C.L with
   | nil => rfl
   | cons x l ih => simp only [List.map_cons, List.sum_cons, List.length_cons, ih, wtT]; omega
  omega
theorem textL_out : ∀ (n : Nat) (r : Str) (k : Nat) (out s : Str) (to : Nat), r.length ≤ n → textL r k out = .ok s to → s.length + k ≤ out.length + to
 | n, [], k, out, s, to, _, h => by simp [textL] at h
 | 0, c :: r, k, out, s, to, hn, h => by simp at hn
 | n + 1, c :: r, k, out, s, to, hn, h => by
  simp only [List.length_cons] at hn
  by_cases h34 : c.toNat = 34
  ·rw [textL_q h34] at h
   cases h
   omega
  ·cases hp : plaB c with
   | false => rw [textL_odd h34 hp] at h; cases h
   | true =>
    by_cases h92 : c.toNat = 92
    ·cases r with
     | nil => rw [textL_esc0 h92 hp] at h; cases h
     | cons d r =>
      simp only [List.length_cons] at hn
      by_cases h110 : d.toNat = 110
      ·rw [textL_escn h92 hp h110] at h
       have := textL_out n r _ _ _ _ (by omega) h
       simp only [List.length_append, List.length_singleton] at this
       omega
      ·by_cases hd : d.toNat = 34 ∨ d.toNat = 92
       ·rw [textL_escd h92 hp h110 hd] at h
        have := textL_out n r _ _ _ _ (by omega) h
        simp only [List.length_append, List.length_singleton] at this
        omega
       ·rw [textL_esco h92 hp h110 (fun h => hd (.inl h)) (fun h => hd (.inr h))] at h
        cases h
    ·rw [textL_plain h34 hp h92] at h
     have := textL_out n r _ _ _ _ (by omega) h
     simp only [List.length_append, List.length_singleton] at this
     omega
theorem oneL_s {b : Str} {i : Nat} {c : UInt8} {t : Tk} {to : Nat} (hc : b[i]? = some c) (h : oneL b i c = .tok t to) : t.s.length + i ≤ to ∧ t.n ≤ 9223372036854775807 := by
 unfold oneL at h
 split at h
 ·unfold nameN at h
  split at h
  ·cases h
  ·cases h; exact ⟨by unfold passS spanE; dsimp only; omega, Nat.zero_le _⟩
 ·split at h
  ·unfold nameN at h
   split at h
   ·cases h
   ·cases h; exact ⟨by unfold passS spanE; dsimp only; omega, Nat.zero_le _⟩
  ·split at h
   ·unfold numN at h
    split at h
    ·cases h
    ·rename_i hn
     cases h
     have := spanE_ge digB b i
     exact ⟨by simpa using this, by dsimp only; omega⟩
   ·split at h
    ·cases ht : textL (b.drop (i + 1)) (i + 1) [] with
     | bad q => rw [ht] at h; cases h
     | ok s e =>
      rw [ht] at h
      have h1 := textL_out _ _ _ _ _ _ (Nat.le_refl _) ht
      simp only [List.length_nil] at h1
      unfold textN at h
      split at h
      ·cases h
      ·rename_i heq
       split at h
       ·cases h
       ·cases h
        cases heq
        exact ⟨by dsimp only; omega, Nat.zero_le _⟩
    ·unfold signN at h
     split at h
     ·cases h
     ·cases h
      exact ⟨by dsimp only; omega, Nat.zero_le _⟩
def sumS (l : List Tk) : Nat := (l.map fun t => t.s.length).sum
theorem cutF_small {b : Str} : ∀ (f i : Nat) (acc L : List Tk), i ≤ b.length → cutF f b i acc = .ok L → acc.length ≤ i → sumS acc ≤ i → (∀ t ∈ acc, t.n ≤ 9223372036854775807) → L.length ≤ b.length ∧ sumS L ≤ b.length ∧ ∀ t ∈ L, t.n ≤ 9223372036854775807
 | 0, i, acc, L, _, h, _, _, _ => by cases h
 | f + 1, i, acc, L, hi, h, h1, h2, h3 => by
  unfold cutF at h
  cases hc : b[spanE blaB b i]? with
  | none =>
   rw [hc] at h
   cases h
   exact ⟨by omega, by omega, h3⟩
  | some c =>
   rw [hc] at h
   dsimp only at h
   have hge := spanE_ge blaB b i
   cases ho : oneL b (spanE blaB b i) c with
   | bad q => rw [ho] at h; cases h
   | tok t to =>
    rw [ho] at h
    dsimp only at h
    have hs := oneL_s hc ho
    have ht := oneL_to hc ho
    refine cutF_small f to (acc ++ [t]) L ht.2 h (by simp; omega) ?_ fun x hx => ?_
    ·unfold sumS at h2 ⊢
     simp only [List.map_append, List.sum_append, List.map_cons, List.map_nil, List.sum_cons, List.sum_nil]
     omega
    ·rcases List.mem_append.1 hx with hx | hx
     ·exact h3 x hx
     ·rw [List.mem_singleton.1 hx]
      exact hs.2
theorem cutL_small {b : Str} {L : List Tk} (h : cutL b = .ok L) : b.length ≤ 4000 ∧ L.length ≤ 4000 ∧ sumS L ≤ 4000 ∧ ∀ t ∈ L, t.n ≤ 9223372036854775807 := by
 unfold cutL at h
 split at h
 ·cases h
 ·rename_i hb
  have := cutF_small _ _ _ _ (Nat.zero_le _) h (Nat.le_refl _) (Nat.le_refl _) (by simp)
  exact ⟨by omega, by omega, by omega, this.2.2⟩
set_option maxHeartbeats 4000000
inductive PRes where
 | ok (e : Ex)
 | spot (q c : Int)
 | lex (q : Nat)
 | great
def endP (C : PC) : RE := (pP C (2 * C.L.length + 2)).e ⟨0, none⟩
def lastP (C : PC) (st : PSt) : PSt := if st.i < C.L.length then failP (placeP C st) st else st
def progC (C : PC) : PRes := match (lastP C (endP C).st).bad with
 | some q => .spot q 3
 | none => if mayB (endP C).e = true then .ok (endP C).e else .spot 0 6
def progR (b : Str) : PRes := match cutL b with
 | .great => .great
 | .bad q => .lex q
 | .ok L => progC ⟨L, b.length, sortI⟩
@[reducible] def zV : V := .agg [.int .i64 0, .int .i64 0, .int .i64 0, .str [], .str [], .snil, .snil, .snil]
def ProgPost (σ : Sg) (x : PRes) (r : D) (σ' : Sg) : Prop := match x with
 | .ok e => r = .tup [.v (encE e), .v .inil] ∧ σ' = σ
 | .spot q c => r = .tup [.v zV, spotV q c] ∧ σ' = σ
 | .lex q => ∃ d xs ts, r = .tup [.v zV, .iface 56 d] ∧ σ' = ⟨σ.objs ++ xs, σ.toks ++ ts⟩
 | .great => r = .tup [.v zV, .v (.iface 32 (.int .i64 6))] ∧ σ' = σ
theorem wprs {C : PC} {st : PSt} {K : List D → Prop} : WCells (some (prs C st)) K = K [.v (.sl (some 4) false (C.L.map encK)), .v (.int .i64 st.i), .v (.int .i64 C.E), errP st.bad] := rfl
theorem srtG {L : List Tk} {E : Nat} (h : ∀ t ∈ L, t.n ≤ 9223372036854775807) : SrtG ⟨L, E, sortI⟩ := ⟨sortI_sub, h⟩
theorem endP_fit {b : Str} {L : List Tk} (h : cutL b = .ok L) (hb : (lastP ⟨L, b.length, sortI⟩ (endP ⟨L, b.length, sortI⟩).st).bad = none) : csz (endP ⟨L, b.length, sortI⟩).e ≤ 1000000 ∧ intsE (endP ⟨L, b.length, sortI⟩).e := by
 have hs := cutL_small h
 have hp : progP ⟨L, b.length, sortI⟩ = some (endP ⟨L, b.length, sortI⟩).e := by
  unfold lastP at hb
  unfold progP
  dsimp only
  split at hb
  ·cases hb
  ·rename_i hi
   unfold endP at hb hi ⊢
   rw [if_neg]
   rintro (h | h)
   ·rw [hb] at h; cases h
   ·exact hi h
 have := progP_fit (srtG hs.2.2.2) hp
 unfold sumS at hs
 dsimp only at this
 exact ⟨by omega, this.2⟩
theorem k_Program {b : Str} {σ : Sg} (hb : b.length ≤ 1048576) : ACalls Tryz.prog 29 [.v (vBs b)] σ (ProgPost σ (progR b)) := by
 have kc := fun σ => k_Cut (b := b) (σ := σ) hb
 unfold progR
 cases hc : cutL b with
 | great =>
  rw [hc] at kc
  dsimp only
  refine acalls_fit Tryz.func29 (by kernel_rfl) c29 rfl (by simp [a29]) fun hf => ?_
  clear hf
  simp -implicitDefEqProofs (disch := omega) [-getElem?_pos, a29]
  refine (kc _).mono fun r σ' hr => ?_
  obtain ⟨rfl, rfl⟩ := hr
  simp -implicitDefEqProofs (disch := omega) [-getElem?_pos]
  exact .fin _ ⟨rfl, rfl⟩ (.refl _)
 | bad q =>
  rw [hc] at kc
  dsimp only
  refine acalls_fit Tryz.func29 (by kernel_rfl) c29 rfl (by simp [a29]) fun hf => ?_
  clear hf
  simp -implicitDefEqProofs (disch := omega) [-getElem?_pos, a29]
  refine (kc _).mono fun r σ' hr => ?_
  obtain ⟨o, xs, ts, rfl, rfl, hxs⟩ := hr
  simp -implicitDefEqProofs (disch := omega) [-getElem?_pos]
  exact ⟨_, _, WeakR.refl _ _ _, _, _ :: xs, ts, rfl, rfl⟩
 | ok L =>
  have hsm := cutL_small hc
  rw [hc] at kc
  dsimp only
  obtain ⟨C, hC⟩ : ∃ C : PC, C = ⟨L, b.length, sortI⟩ := ⟨_, rfl⟩
  have hfit := endP_fit hc
  have hCL : C.L = L := by rw [hC]
  have hCE : C.E = b.length := by rw [hC]
  have hCs : C.srt = sortI := by rw [hC]
  rw [← hC] at hfit ⊢
  have ok : OkP C ⟨0, none⟩ := ⟨Nat.zero_le _, by rw [hCL]; omega⟩
  have ke := fun (p : Nat) (σ : Sg) hp => (k_pP hCs (2 * C.L.length + 2)).1 p ⟨0, none⟩ σ ok (by show C.L.length - 0 < _; omega) hp
  have hon := ((on_pP (C := C) (2 * C.L.length + 2)).1 ⟨0, none⟩).ok ok
  change ∀ (p : Nat) (σ : Sg) (_ : σ.objs[p]? = some (prs C ⟨0, none⟩)), ACalls _ _ _ _ (fun r σ' => r = .v (encE (endP C).e) ∧ σ' = ⟨σ.objs.set p (prs C (endP C).st), σ.toks⟩) at ke
  change OkP C (endP C).st at hon
  unfold progC
  generalize (endP C).e = e at *
  generalize (endP C).st = st at *
  have kp := fun (p : Nat) (σ : Sg) hp => k_Place (C := C) (st := st) (p := p) (σ := σ) hp hon
  have kf := fun (p : Nat) (σ : Sg) hp => k_Fail (C := C) (st := st) (p := p) (q := placeP C st) (σ := σ) hp
  have hi := hon.i
  have hle := hon.l
  have km := fun h σ => k_May (e := e) (σ := σ) (by have := (hfit h).1; omega)
  have ks := fun σ => k_SpotF (i := 0) (c := 6) (σ := σ)
  unfold spotV at ks
  have hfin : ∀ st2, st2 = lastP C st → True := fun _ _ => trivial
  cases e with
  | mk k n p s t ls ns l =>
  rw [encE_mk] at ke km
  refine acalls_fit Tryz.func29 (by kernel_rfl) c29 rfl (by simp [a29]) fun hf => ?_
  clear hf
  simp -implicitDefEqProofs (disch := omega) [-getElem?_pos, a29]
  refine (kc _).mono fun r σ' hr => ?_
  obtain ⟨rfl, rfl⟩ := hr
  rw [← hCL] at hsm ⊢
  simp -implicitDefEqProofs (disch := omega) [-getElem?_pos]
  refine (ke _ _ (by simp [prs, errP, hCE])).mono fun r σ' hr => ?_
  obtain ⟨rfl, rfl⟩ := hr
  simp -implicitDefEqProofs (disch := omega) [-getElem?_pos, wprs]
  refine .mk (fun h => ?_) fun h => ?_
  ·rw [show (lastP C st).bad = some (st.bad.getD (placeP C st)) from by rw [lastP, if_pos (by omega)]; rfl]
   dsimp only
   simp -implicitDefEqProofs (disch := omega) [-getElem?_pos]
   refine (kp _ _ (by simp)).then fun r hr => ?_
   subst hr
   simp -implicitDefEqProofs (disch := omega) [-getElem?_pos]
   refine (kf _ _ (by simp)).mono fun r σ' hr => ?_
   obtain ⟨rfl, rfl⟩ := hr
   simp -implicitDefEqProofs (disch := omega) [-getElem?_pos, wprs, failP, errP, spotV]
   exact .fin _ ⟨rfl, rfl⟩ (.refl _) (hb := by simp [spotV])
  ·have hlast : lastP C st = st := by rw [lastP, if_neg (by omega)]
   rw [hlast] at km ⊢
   cases hbad : st.bad with
   | some q =>
    simp -implicitDefEqProofs (disch := omega) [-getElem?_pos, wprs, hbad, errP, spotV]
    exact .fin _ ⟨rfl, rfl⟩ (.refl _) (hb := by simp [spotV])
   | none =>
    have km := km hbad
    simp -implicitDefEqProofs (disch := omega) [-getElem?_pos, wprs, hbad, errP]
    refine (km _).then fun r hr => ?_
    subst hr
    cases hm : mayB (.mk k n p s t ls ns l) with
    | true =>
     simp -implicitDefEqProofs (disch := omega) [-getElem?_pos]
     exact .fin _ ⟨by rw [encE_mk], rfl⟩ (.refl _)
    | false =>
     simp -implicitDefEqProofs (disch := omega) [-getElem?_pos]
     refine (ks _).mono fun r σ' hr => ?_
     obtain ⟨rfl, rfl⟩ := hr
     simp -implicitDefEqProofs (disch := omega) [-getElem?_pos]
     exact .fin _ ⟨rfl, rfl⟩ (.refl _) (hb := by simp [spotV])
end Go.Proofs.YtpdeaekmgljeaaaGreatDoor
namespace Go.Proofs.YtpdeaekmgljeaaaGreatDoor
open Go.RowKit Go.Extern.Stop Go.Stop Go.Extern
theorem As.valueOf27 (t : Addr) (w : World) : (ReflectliteValue.unpack (.iface 58 (.pointer (some t)))).run Tryz.prog w
  = .ok (.agg #[.pointer (some ⟨7, 58, none⟩), .pointer (some ⟨w.heap.size, 0, none⟩), .int .u64 150]) (w.alloc (.cells #[.pointer (some t)] 58)) := by kernel_rfl
theorem As.type27 (a : Addr) (w : World) : (ReflectliteValue.methodAny (ReflectliteValue.valueError "reflectlite.Value.Type" 0) (fun t _ _ _ => ReflectliteType.toType t) #[.agg #[.pointer (some ⟨7, 58, none⟩), .pointer (some a), .int .u64 150]]).run Tryz.prog w
  = .ok (.iface 143 (.agg #[.pointer (some ⟨7, 58, none⟩)])) w := by kernel_rfl
theorem As.methodKind (h : Value) (w : World) : (Go.method 376 143 (.agg #[h]) "Kind").run Tryz.prog w = .ok (226, h) w := by kernel_rfl
theorem As.kind27 (w : World) : ((ReflectliteType.abiMethod fun t => (fun a : Nat => Value.int IntKind.u8 (a : Int)) <$> Rtype.kind t) #[.pointer (some ⟨7, 58, none⟩)]).run Tryz.prog w = .ok (.int .u8 22) w := by kernel_rfl
theorem As.kind25 (w : World) : ((ReflectliteType.abiMethod fun t => (fun a : Nat => Value.int IntKind.u8 (a : Int)) <$> Rtype.kind t) #[.pointer (some ⟨7, 56, none⟩)]).run Tryz.prog w = .ok (.int .u8 22) w := by kernel_rfl
theorem rlm (z : Sem Value) (f : TypeId → Addr → Nat → Nat → Sem Value) (v : Value) :
  ReflectliteValue.method z f #[v] = (do match ← ReflectliteValue.parts v with | none => z | some (t, a, fl) => f t a fl (fl % 32)) := rfl
theorem As.parts27 (a : Addr) (w : World) : (ReflectliteValue.parts (.agg #[.pointer (some ⟨7, 58, none⟩), .pointer (some a), .int .u64 150])).run Tryz.prog w = .ok (some (58, a, 150)) w := by kernel_rfl
theorem As.isNil27 (a p : Addr) (W : World) (ha : W.cell? a = some (.pointer (some p))) :
  (ReflectliteValue.method (ReflectliteValue.valueError "reflectlite.Value.IsNil" 0) ReflectliteValue.isNil #[.agg #[.pointer (some ⟨7, 58, none⟩), .pointer (some a), .int .u64 150]]).run Tryz.prog W = .ok (.bool false) W := by
 rw [rlm]
 simp only [Sem.run_bind, As.parts27, Result.andThen]
 simp [ReflectliteValue.isNil, loadVar, isAgg, underlying, Tryz.underlying58, ha, Result.andThen]
theorem As.methodElem (h : Value) (w : World) : (Go.method 376 143 (.agg #[h]) "Elem").run Tryz.prog w = .ok (239, .agg #[h]) w := by kernel_rfl
theorem As.methodImplements (h : Value) (w : World) : (Go.method 376 143 (.agg #[h]) "Implements").run Tryz.prog w = .ok (240, .agg #[h]) w := by kernel_rfl
theorem As.methodAssignableTo (h : Value) (w : World) : (Go.method 376 143 (.agg #[h]) "AssignableTo").run Tryz.prog w = .ok (237, .agg #[h]) w := by kernel_rfl
theorem As.elem27 (w : World) : (ReflectliteType.method ReflectliteType.elem #[.agg #[.pointer (some ⟨7, 58, none⟩)]]).run Tryz.prog w = .ok (.iface 143 (.agg #[.pointer (some ⟨7, 56, none⟩)])) w := by kernel_rfl
theorem As.implements25 (w : World) : (ReflectliteType.relation "Implements" ReflectliteType.implements_ #[.agg #[.pointer (some ⟨7, 56, none⟩)], .iface 143 (.agg #[.pointer (some ⟨7, 29, none⟩)])]).run Tryz.prog w = .ok (.bool true) w := by kernel_rfl
theorem As.typeOf25 (v : Value) (w : World) : (ReflectliteType.typeOf #[.iface 56 v]).run Tryz.prog w = .ok (.iface 143 (.agg #[.pointer (some ⟨7, 56, none⟩)])) w := by kernel_rfl
theorem As.assignable25 (w : World) : (ReflectliteType.relation "AssignableTo" ReflectliteType.assignableTo #[.agg #[.pointer (some ⟨7, 56, none⟩)], .iface 143 (.agg #[.pointer (some ⟨7, 56, none⟩)])]).run Tryz.prog w = .ok (.bool true) w := by kernel_rfl
theorem As.valueOf25 (e : Addr) (w : World) : (ReflectliteValue.unpack (.iface 56 (.pointer (some e)))).run Tryz.prog w
  = .ok (.agg #[.pointer (some ⟨7, 56, none⟩), .pointer (some ⟨w.heap.size, 0, none⟩), .int .u64 150]) (w.alloc (.cells #[.pointer (some e)] 56)) := by kernel_rfl
theorem As.elemOf27 (w : World) : (Rtype.elem? 58).run Tryz.prog w = .ok (some 56) w := by kernel_rfl
theorem As.mk25 (p : Addr) (w : World) : (ReflectliteValue.mk 56 p ReflectliteValue.flagAddr).run Tryz.prog w = .ok (.agg #[.pointer (some ⟨7, 56, none⟩), .pointer (some p), .int .u64 406]) w := by kernel_rfl
theorem As.elemV27 (a p : Addr) (W : World) (ha : W.cell? a = some (.pointer (some p))) :
  (ReflectliteValue.method (ReflectliteValue.valueError "reflectlite.Value.Elem" 0) ReflectliteValue.elem #[.agg #[.pointer (some ⟨7, 58, none⟩), .pointer (some a), .int .u64 150]]).run Tryz.prog W
   = .ok (.agg #[.pointer (some ⟨7, 56, none⟩), .pointer (some p), .int .u64 406]) W := by
 rw [rlm]
 simp only [Sem.run_bind, As.parts27, Result.andThen]
 simp [ReflectliteValue.elem, loadVar, isAgg, underlying, Tryz.underlying58, ha, Result.andThen, As.elemOf27, As.mk25]
theorem rls (v x : Value) : ReflectliteValue.set #[v, x] = (do
  let (some (dst, a, fl), some (src, b, _)) := (← ReflectliteValue.parts v, ← ReflectliteValue.parts x)
   | unsupported (.noEntry "extern/(internal/reflectlite.Value).Set.zeroValue")
  if fl / ReflectliteValue.flagAddr % 2 == 0 then unsupported (.noEntry "extern/(internal/reflectlite.Value).Set.unaddressable")
  let val ← loadVar src b
  if ← Rtype.directlyAssignable dst src then storeVar dst a val
  else if ← Rtype.implements dst src then
   if (← Rtype.kind src) == 20 then
    match val with
    | .nilIface => unsupported (.noEntry "extern/reflectlite: a nil value of one interface type handed on as a value of another")
    | _ => storeVar dst a val
   else storeVar dst a (.iface src val)
  else panicString ("reflectlite.Set: value of type " ++ (← Rtype.spelt src) ++ " is not assignable to type " ++ (← Rtype.spelt dst))
  pure (.tuple #[])) := rfl
theorem As.parts25a (a : Addr) (w : World) : (ReflectliteValue.parts (.agg #[.pointer (some ⟨7, 56, none⟩), .pointer (some a), .int .u64 406])).run Tryz.prog w = .ok (some (56, a, 406)) w := by kernel_rfl
theorem As.parts25 (a : Addr) (w : World) : (ReflectliteValue.parts (.agg #[.pointer (some ⟨7, 56, none⟩), .pointer (some a), .int .u64 150])).run Tryz.prog w = .ok (some (56, a, 150)) w := by kernel_rfl
theorem As.direct25 (w : World) : (Rtype.directlyAssignable 56 56).run Tryz.prog w = .ok true w := by kernel_rfl
theorem As.set25 (ta b e : Addr) (old : Value) (W : World) (hb : W.cell? b = some (.pointer (some e))) (ht : W.cell? ta = some old) (hf : W.frozen? ta = false) :
  (ReflectliteValue.set #[.agg #[.pointer (some ⟨7, 56, none⟩), .pointer (some ta), .int .u64 406], .agg #[.pointer (some ⟨7, 56, none⟩), .pointer (some b), .int .u64 150]]).run Tryz.prog W
   = .ok (.tuple #[]) (W.setCell ta (.pointer (some e))) := by
 rw [rls]
 simp only [Sem.run_bind, As.parts25a, As.parts25, Result.andThen]
 simp [ReflectliteValue.flagAddr, loadVar, isAgg, underlying, Tryz.underlying56, hb, Result.andThen, As.direct25, storeVar, Value.cells, storeCells, Addr.add]
 rw [run_store Tryz.prog W ta _ _ (by rfl)]
 simp [ht, hf]
set_option maxHeartbeats 4000000 in
theorem as_hit (e t : Addr) (old : Value) (w : World) (hg : w.cell? ⟨0, 0, none⟩ = some (.iface 143 (.agg #[.pointer (some ⟨7, 29, none⟩)]))) (ht0 : w.cell? t = some old) (hf0 : w.frozen? t = false) :
  Calls Tryz.prog 40 #[.iface 56 (.pointer (some e)), .iface 58 (.pointer (some t))] w fun ev w' => ev = .returned (.bool true) ∧ w' = ((((w.alloc (.cells #[.pointer (some t)] 58)).alloc (.cells #[.pointer (some ⟨7, 58, none⟩), .pointer (some ⟨w.heap.size, 0, none⟩), .int .u64 150] 93)).alloc (.cells #[.pointer (some ⟨7, 58, none⟩), .pointer (some ⟨w.heap.size, 0, none⟩), .int .u64 150] 93)).alloc (.cells #[.pointer (some e)] 56)).setCell t (.pointer (some e)) := by
 have h6 := @run_callFunc_extern Tryz.prog 62 _ (fun args => ReflectliteValue.unpack (args.getD 0 (.tuple #[]))) Tryz.func62 (by kernel_rfl) (by kernel_rfl) (by kernel_rfl) (by kernel_rfl)
 have h7 := @run_callFunc_extern Tryz.prog 63 _ (ReflectliteValue.methodAny (ReflectliteValue.valueError "reflectlite.Value.Type" 0) (fun t _ _ _ => ReflectliteType.toType t)) Tryz.func63 (by kernel_rfl) (by kernel_rfl) (by kernel_rfl) (by kernel_rfl)
 have h8 := @run_callFunc_extern Tryz.prog 64 _ (ReflectliteValue.method (ReflectliteValue.valueError "reflectlite.Value.IsNil" 0) ReflectliteValue.isNil) Tryz.func64 (by kernel_rfl) (by kernel_rfl) (by kernel_rfl) (by kernel_rfl)
 have h27 := @run_callFunc_extern Tryz.prog 226 _ (ReflectliteType.abiMethod fun t => do pure (.int .u8 (← Rtype.kind t))) Tryz.func226 (by kernel_rfl) (by kernel_rfl) (by kernel_rfl) (by kernel_rfl)
 have h37 := @run_callFunc_extern Tryz.prog 239 _ (ReflectliteType.method ReflectliteType.elem) Tryz.func239 (by kernel_rfl) (by kernel_rfl) (by kernel_rfl) (by kernel_rfl)
 have h38 := @run_callFunc_extern Tryz.prog 240 _ (ReflectliteType.relation "Implements" ReflectliteType.implements_) Tryz.func240 (by kernel_rfl) (by kernel_rfl) (by kernel_rfl) (by kernel_rfl)
 have h10 := @run_callFunc_extern Tryz.prog 101 _ ReflectliteType.typeOf Tryz.func101 (by kernel_rfl) (by kernel_rfl) (by kernel_rfl) (by kernel_rfl)
 have h35 := @run_callFunc_extern Tryz.prog 237 _ (ReflectliteType.relation "AssignableTo" ReflectliteType.assignableTo) Tryz.func237 (by kernel_rfl) (by kernel_rfl) (by kernel_rfl) (by kernel_rfl)
 have h11 := @run_callFunc_extern Tryz.prog 102 _ (ReflectliteValue.method (ReflectliteValue.valueError "reflectlite.Value.Elem" 0) ReflectliteValue.elem) Tryz.func102 (by kernel_rfl) (by kernel_rfl) (by kernel_rfl) (by kernel_rfl)
 have h12 := @run_callFunc_extern Tryz.prog 103 _ ReflectliteValue.set Tryz.func103 (by kernel_rfl) (by kernel_rfl) (by kernel_rfl) (by kernel_rfl)
 have tO := As.typeOf25
 have mA := As.methodAssignableTo
 have a25 := As.assignable25
 have v25 := As.valueOf25
 have f6 := As.valueOf27
 have f7 := As.type27
 have mK := As.methodKind
 have mE := As.methodElem
 have mI := As.methodImplements
 have k27 := As.kind27
 have k25 := As.kind25
 have e27 := As.elem27
 have i25 := As.implements25
 have n8 := As.isNil27 ⟨w.heap.size, 0, none⟩ t ((w.alloc (.cells #[.pointer (some t)] 58)).alloc (.cells #[.pointer (some ⟨7, 58, none⟩), .pointer (some ⟨w.heap.size, 0, none⟩), .int .u64 150] 93)) (by simp)
 have hlt : 0 < w.heap.size := by
  rcases Nat.eq_zero_or_pos w.heap.size with h0 | h
  ·simp [World.cell?, h0] at hg
  ·exact h
 have hg2 : ((w.alloc (.cells #[.pointer (some t)] 58)).alloc (.cells #[.pointer (some ⟨7, 58, none⟩), .pointer (some ⟨w.heap.size, 0, none⟩), .int .u64 150] 93)).cell? ⟨0, 0, none⟩ = some (.iface 143 (.agg #[.pointer (some ⟨7, 29, none⟩)])) := by
  rw [World.cell?_alloc_lt _ _ ⟨0, 0, none⟩ (by simp), World.cell?_alloc_lt _ _ ⟨0, 0, none⟩ hlt]; exact hg
 have htl : t.block < w.heap.size := by
  rcases Nat.lt_or_ge t.block w.heap.size with h | h
  ·exact h
  ·simp [World.cell?, Array.getElem?_eq_none h] at ht0
 have el := As.elemV27 ⟨w.heap.size, 0, none⟩ t (((w.alloc (.cells #[.pointer (some t)] 58)).alloc (.cells #[.pointer (some ⟨7, 58, none⟩), .pointer (some ⟨w.heap.size, 0, none⟩), .int .u64 150] 93)).alloc (.cells #[.pointer (some ⟨7, 58, none⟩), .pointer (some ⟨w.heap.size, 0, none⟩), .int .u64 150] 93)) (by rw [World.cell?_alloc_lt _ _ ⟨w.heap.size, 0, none⟩ (by simp; omega)]; simp)
 have st := As.set25 t ⟨w.heap.size + 1 + 1 + 1, 0, none⟩ e old ((((w.alloc (.cells #[.pointer (some t)] 58)).alloc (.cells #[.pointer (some ⟨7, 58, none⟩), .pointer (some ⟨w.heap.size, 0, none⟩), .int .u64 150] 93)).alloc (.cells #[.pointer (some ⟨7, 58, none⟩), .pointer (some ⟨w.heap.size, 0, none⟩), .int .u64 150] 93)).alloc (.cells #[.pointer (some e)] 56))
  (by rw [World.cell?_alloc_at _ _ _ _ (by simp)]; rfl)
  (by rw [World.cell?_alloc_lt _ _ t (by simp; omega), World.cell?_alloc_lt _ _ t (by simp; omega), World.cell?_alloc_lt _ _ t (by simp; omega), World.cell?_alloc_lt _ _ t htl]; exact ht0)
  (by rw [World.frozen?_alloc_old _ _ t (by simp; omega), World.frozen?_alloc_old _ _ t (by simp; omega), World.frozen?_alloc_old _ _ t (by simp; omega), World.frozen?_alloc_old _ _ t (Nat.ne_of_lt htl)]; exact hf0)
 go_enter Tryz.func40, Tryz.ntmps40
 go_wp2
 refine wp_loop_rounds 1 ?_
 rw [rounds_succ]
 go_wp2
 go_ret
 exact ⟨rfl, rfl⟩
end Go.Proofs.YtpdeaekmgljeaaaGreatDoor
namespace Go.Proofs.YtpdeaekmgljeaaaGreatDoor
open Go Go.Abs
def a7 : AFun := ⟨89,[.tmp 4],(.seq (.reg [2,4] [⟨some 2,none,.box (.t 0)⟩,⟨some 4,none,.mv (.c (.bool false))⟩]) (.seq (.reg [5] [⟨some 17,none,.call (.c (.fn 28)) []⟩,⟨some 5,none,.mv (.t 17)⟩]) (.seq (.reg [6] [⟨some 18,none,.load (some 8) (.t 2)⟩,⟨some 19,none,.call (.c (.fn 9)) [.t 18]⟩,⟨some 6,none,.mv (.t 19)⟩]) (.seq (.seq (.reg [26] [⟨some 20,none,.mv (.t 6)⟩,⟨some 21,none,.un .not (.t 20)⟩,⟨some 22,none,.mv (.t 21)⟩,⟨some 23,some (22,false),.mv (.t 1)⟩,⟨some 24,some (22,false),.len .sl (.t 23)⟩,⟨some 25,some (22,false),.bin .gtr .other true (.t 24) (.c (.int .i64 4000))⟩,⟨some 26,none,.pick (.t 22) (.c (.bool true)) (.t 25)⟩]) (.cond (.t 26) (.seq (.reg [4] [⟨some 27,none,.mv (.t 5)⟩,⟨some 4,none,.mv (.t 27)⟩]) .ret) .skip)) (.seq (.reg [7,8] [⟨some 29,none,.load (some 8) (.t 2)⟩,⟨some 30,none,.call (.c (.fn 10)) [.t 29]⟩,⟨some 28,none,.mv (.t 30)⟩,⟨some 31,none,.extract (.t 28) 0⟩,⟨some 32,none,.extract (.t 28) 1⟩,⟨some 7,none,.mv (.t 31)⟩,⟨some 8,none,.mv (.t 32)⟩]) (.seq (.seq (.reg [39] [⟨some 33,none,.mv (.t 8)⟩,⟨some 34,none,.bin .eql .ifc true (.t 33) (.c .inil)⟩,⟨some 35,none,.mv (.t 34)⟩,⟨some 36,some (35,true),.mv (.t 7)⟩,⟨some 37,some (35,true),.len .str (.t 36)⟩,⟨some 38,some (35,true),.bin .leq .other true (.t 37) (.c (.int .i64 4000))⟩,⟨some 39,none,.pick (.t 35) (.t 38) (.c (.bool false))⟩]) (.cond (.t 39) (.seq (.reg [9,10] [⟨some 41,none,.mv (.t 7)⟩,⟨some 42,none,.conv .toBytes (.t 41)⟩,⟨some 43,none,.call (.c (.fn 29)) [.t 42]⟩,⟨some 40,none,.mv (.t 43)⟩,⟨some 44,none,.extract (.t 40) 0⟩,⟨some 45,none,.extract (.t 40) 1⟩,⟨some 9,none,.alloc [.int .i64 0,.int .i64 0,.int .i64 0,.str [],.str [],.snil,.snil,.snil]⟩,⟨none,none,.store 8 (.t 9) (.t 44)⟩,⟨some 10,none,.mv (.t 45)⟩]) (.seq (.reg [53] [⟨some 46,none,.mv (.t 10)⟩,⟨some 47,none,.bin .neq .ifc true (.t 46) (.c .inil)⟩,⟨some 48,none,.mv (.t 47)⟩,⟨some 49,some (48,false),.load (some 8) (.t 2)⟩,⟨some 50,some (48,false),.load (some 8) (.t 9)⟩,⟨some 51,some (48,false),.call (.c (.fn 19)) [.t 49,.t 50]⟩,⟨some 52,some (48,false),.un .not (.t 51)⟩,⟨some 53,none,.pick (.t 48) (.c (.bool true)) (.t 52)⟩]) (.cond (.t 53) (.seq (.reg [4] [⟨some 4,none,.mv (.c (.bool false))⟩]) .ret) .skip))) .skip)) (.seq (.reg [11,12] [⟨some 55,none,.mv (.t 1)⟩,⟨some 56,none,.call (.c (.fn 29)) [.t 55]⟩,⟨some 54,none,.mv (.t 56)⟩,⟨some 57,none,.extract (.t 54) 0⟩,⟨some 58,none,.extract (.t 54) 1⟩,⟨some 11,none,.alloc [.int .i64 0,.int .i64 0,.int .i64 0,.str [],.str [],.snil,.snil,.snil]⟩,⟨none,none,.store 8 (.t 11) (.t 57)⟩,⟨some 12,none,.mv (.t 58)⟩]) (.seq (.seq (.reg [60] [⟨some 59,none,.mv (.t 12)⟩,⟨some 60,none,.bin .neq .ifc true (.t 59) (.c .inil)⟩]) (.cond (.t 60) (.seq (.reg [4] [⟨some 61,none,.mv (.t 5)⟩,⟨some 4,none,.mv (.t 61)⟩]) .ret) .skip)) (.seq (.reg [13,14] [⟨some 63,none,.load (some 8) (.t 11)⟩,⟨some 64,none,.call (.c (.fn 10)) [.t 63]⟩,⟨some 62,none,.mv (.t 64)⟩,⟨some 65,none,.extract (.t 62) 0⟩,⟨some 66,none,.extract (.t 62) 1⟩,⟨some 13,none,.mv (.t 65)⟩,⟨some 14,none,.mv (.t 66)⟩]) (.seq (.seq (.reg [68] [⟨some 67,none,.mv (.t 14)⟩,⟨some 68,none,.bin .neq .ifc true (.t 67) (.c .inil)⟩]) (.cond (.t 68) (.seq (.reg [4] [⟨some 4,none,.mv (.c (.bool false))⟩]) .ret) .skip)) (.seq (.seq (.reg [71] [⟨some 69,none,.mv (.t 13)⟩,⟨some 70,none,.len .str (.t 69)⟩,⟨some 71,none,.bin .gtr .other true (.t 70) (.c (.int .i64 4000))⟩]) (.cond (.t 71) (.seq (.reg [4] [⟨some 72,none,.mv (.t 5)⟩,⟨some 4,none,.mv (.t 72)⟩]) .ret) .skip)) (.seq (.reg [15,16] [⟨some 74,none,.mv (.t 13)⟩,⟨some 75,none,.conv .toBytes (.t 74)⟩,⟨some 76,none,.call (.c (.fn 29)) [.t 75]⟩,⟨some 73,none,.mv (.t 76)⟩,⟨some 77,none,.extract (.t 73) 0⟩,⟨some 78,none,.extract (.t 73) 1⟩,⟨some 15,none,.alloc [.int .i64 0,.int .i64 0,.int .i64 0,.str [],.str [],.snil,.snil,.snil]⟩,⟨none,none,.store 8 (.t 15) (.t 77)⟩,⟨some 16,none,.mv (.t 78)⟩]) (.seq (.reg [4] [⟨some 79,none,.mv (.t 5)⟩,⟨some 80,none,.mv (.t 79)⟩,⟨some 81,some (80,true),.mv (.t 16)⟩,⟨some 82,some (80,true),.bin .eql .ifc true (.t 81) (.c .inil)⟩,⟨some 83,none,.pick (.t 80) (.t 82) (.c (.bool false))⟩,⟨some 84,none,.mv (.t 83)⟩,⟨some 85,some (84,true),.load (some 8) (.t 11)⟩,⟨some 86,some (84,true),.load (some 8) (.t 15)⟩,⟨some 87,some (84,true),.call (.c (.fn 19)) [.t 85,.t 86]⟩,⟨some 88,none,.pick (.t 84) (.t 87) (.c (.bool false))⟩,⟨some 4,none,.mv (.t 88)⟩]) .ret)))))))))))))⟩
theorem c7 : compF Tryz.prog [0, 1, 2, 4, 5, 6, 7, 8, 9, 10, 11, 12, 13, 14, 15, 16, 26, 39, 53, 60, 68, 71] Tryz.f7 = some a7 := by kernel_rfl
def a15 : AFun := ⟨18,[.tmp 2,.tmp 3],(.seq (.reg [2,3] [⟨some 2,none,.mv (.c (.int .i64 0))⟩,⟨some 3,none,.mv (.c (.int .i64 0))⟩]) (.seq (.reg [4] [⟨some 4,none,.alloc [.pnil]⟩]) (.seq (.seq (.reg [7] [⟨some 5,none,.mv (.t 0)⟩,⟨some 6,none,.mkif 58 (.t 4)⟩,⟨some 7,none,.call (.c (.fn 40)) [.t 5,.t 6]⟩]) (.cond (.t 7) (.seq (.any [2,3] [(⟨some 8,none,.load none (.t 4)⟩,true),(⟨some 9,none,.nilck (.t 8)⟩,true),(⟨some 10,none,.faddr 1 (.t 9)⟩,true),(⟨some 11,none,.load none (.t 10)⟩,true),(⟨some 12,none,.load none (.t 4)⟩,false),(⟨some 13,none,.nilck (.t 12)⟩,false),(⟨some 14,none,.faddr 0 (.t 13)⟩,false),(⟨some 15,none,.load none (.t 14)⟩,false),(⟨some 2,none,.mv (.t 11)⟩,false),(⟨some 3,none,.mv (.t 15)⟩,true)]) .ret) .skip)) (.seq (.reg [2,3] [⟨some 16,none,.mv (.t 0)⟩,⟨some 17,none,.call (.c (.fn 41)) [.t 16]⟩,⟨some 2,none,.mv (.t 17)⟩,⟨some 3,none,.mv (.c (.int .i64 (-1)))⟩]) .ret))))⟩
theorem c15 : compF Tryz.prog [0, 2, 3, 4, 7] Tryz.f15 = some a15 := by kernel_rfl
end Go.Proofs.YtpdeaekmgljeaaaGreatDoor
set_option maxHeartbeats 1000000
namespace Go.Proofs.YtpdeaekmgljeaaaGreatDoor
open Go Go.Abs Go.RowKit
def immS (q k : Int) : D := .imm (some 2) (.agg [.int .i64 q, .int .i64 k]) 0
theorem k_AsHitI {q k : Int} {c : Nat} {σ : Sg} (hc : σ.objs[c]? = some (.cells [.v .pnil])) : ACalls Tryz.prog 40 [.iface 56 (immS q k), .iface 58 (.ptr c 0)] σ fun r σ' => r = .v (.bool true) ∧ σ' = ⟨σ.objs.set c (.cells [immS q k]), σ.toks⟩ := by
 refine ⟨⟨_, Tryz.func40, by kernel_rfl, by kernel_rfl⟩, fun m w us hI hlen hr => ?_⟩
 match us, hlen with
 | [u1, u2], _ =>
 have g1 := hr 0 _ _ rfl rfl
 have g2 := hr 1 _ _ rfl rfl
 cases g1 with
 | iface _ _ u1 g1 =>
 cases g2 with
 | iface _ _ u2 g2 =>
 have g0 := g1
 unfold immS at g1
 cases g1 with
 | imm _ _ _ bo io fo e1 e2 e3 e4 =>
 cases g2 with
 | ptr _ _ bc hbc =>
 have hb := hI.live hc (by simp) hbc
 obtain ⟨us, ty, hh, hsz, hob, hone⟩ := hI.ob c _ bc hc hb
 simp only [List.length_cons, List.length_nil] at hsz
 have hmem : bc ∈ m.objb := Gh.mem_objb.2 (List.mem_of_getElem? hb)
 obtain ⟨⟨cs, tyg, frg, hgh, rfl⟩, hgn⟩ := hI.glob (0, fun cs => cs = #[.iface 143 (.agg #[.pointer (some ⟨7, 29, none⟩)])]) (by simp [globs])
 have hg : w.cell? ⟨0, 0, none⟩ = some (.iface 143 (.agg #[.pointer (some ⟨7, 29, none⟩)])) := by rw [cell_of_row w 0 0 _ tyg frg hgh]; rfl
 have ht0 : w.cell? ⟨bc, 0, none⟩ = some us[0] := by rw [cell_of_row w bc 0 us ty _ hh]; exact Array.getElem?_eq_getElem (by omega)
 have hf0 : w.frozen? ⟨bc, 0, none⟩ = false := by simp [World.frozen?, hh]
 refine (as_hit ⟨bo, io + 0, none⟩ ⟨bc, 0, none⟩ us[0] w hg ht0 hf0).mono fun e w' ⟨he, hw⟩ => ?_
 have hB : Below w.heap.size w ((((w.alloc (.cells #[.pointer (some ⟨bc, 0, none⟩)] 58)).alloc (.cells #[.pointer (some ⟨7, 58, none⟩), .pointer (some ⟨w.heap.size, 0, none⟩), .int .u64 150] 93)).alloc (.cells #[.pointer (some ⟨7, 58, none⟩), .pointer (some ⟨w.heap.size, 0, none⟩), .int .u64 150] 93)).alloc (.cells #[.pointer (some ⟨bo, io + 0, none⟩)] 56)) :=
  ((((Below.refl _ w).alloc (Nat.le_refl _) _).alloc (by simp) _).alloc (by simp; omega) _).alloc (by simp; omega) _
 generalize ((((w.alloc (.cells #[.pointer (some ⟨bc, 0, none⟩)] 58)).alloc (.cells #[.pointer (some ⟨7, 58, none⟩), .pointer (some ⟨w.heap.size, 0, none⟩), .int .u64 150] 93)).alloc (.cells #[.pointer (some ⟨7, 58, none⟩), .pointer (some ⟨w.heap.size, 0, none⟩), .int .u64 150] 93)).alloc (.cells #[.pointer (some ⟨bo, io + 0, none⟩)] 56)) = w1 at hB hw
 subst hw
 have hlt := (Array.getElem?_eq_some_iff.1 hh).1
 have old : ∀ k, k < w.heap.size → k ≠ bc → (w1.setCell ⟨bc, 0, none⟩ (.pointer (some ⟨bo, io + 0, none⟩))).heap[k]? = w.heap[k]? := fun k hk hne => (Below.heap_setCell w1 _ _ k hne).trans (hB.block k hk)
 have hh1 := (hB.block bc hlt).trans hh
 have hX : Ext m w m (w1.setCell ⟨bc, 0, none⟩ (.pointer (some ⟨bo, io + 0, none⟩))) := .turned hmem hB.os hB.tape hB.output (by simp only [World.setCell, Array.size_modify]; exact hB.size) old
 have hheap : (w1.setCell ⟨bc, 0, none⟩ (.pointer (some ⟨bo, io + 0, none⟩))).heap[bc]? = some (.cells (us.setIfInBounds 0 (.pointer (some ⟨bo, io + 0, none⟩))) ty (0, 0)) := by
  simp only [World.setCell, Array.getElem?_modify, if_true, hh1]
  rfl
 have hI' := hI.turned hb hX old (.cells [immS q k]) ⟨_, ty, hheap, by simp; omega, fun i d u hd hu => ?_, trivial⟩
 ·exact ⟨_, _, _, m, he, ⟨rfl, rfl⟩, hI', hX, .v _ _ (.bool _)⟩
 ·match i with
  | 0 =>
   cases hd
   have hu' : u = .pointer (some ⟨bo, io + 0, none⟩) := by
    rw [Array.getElem?_setIfInBounds_self_of_lt (by omega)] at hu
    exact (Option.some.inj hu).symm
   subst hu'
   exact ⟨g0.mono hX, rfl⟩
  | i + 1 => simp at hd
theorem k_OfSpotI {q k : Int} {σ : Sg} : ACalls Tryz.prog 15 [spotV q k] σ fun r σ' => r = .tup [.v (.int .i64 k), .v (.int .i64 q)] ∧ σ' = σ := by
 unfold spotV
 refine acalls_fit Tryz.func15 (by kernel_rfl) c15 rfl (by simp [a15]) fun hf => ?_
 clear hf
 simp -implicitDefEqProofs (disch := omega) [-getElem?_pos, a15]
 refine (k_AsHitI (q := q) (k := k) (c := σ.objs.length) (σ := ⟨σ.objs ++ [.cells [.v .pnil]], σ.toks⟩) (by simp)).mono fun r σ' hr => ?_
 obtain ⟨rfl, rfl⟩ := hr
 simp -implicitDefEqProofs (disch := omega) [-getElem?_pos, immS]
 exact .fin _ ⟨rfl, rfl⟩ (.refl _)
def bUp : Str := [102, 32, 120, 32, 121]
def exU : Ex := match progR bUp with
 | .ok e => e
 | _ => zEx
theorem prog_up : progR bUp = .ok exU := by kernel_rfl
theorem prog_nil : progR [] = .spot 0 3 := by kernel_rfl
theorem exU_eq : exU = .mk 5 0 0 [] [] [] [] [.mk 5 0 0 [] [] [] [] [.mk 3 0 0 [102] [] [] [] [], .mk 3 2 0 [120] [] [] [] []], .mk 3 4 0 [121] [] [] [] []] := by kernel_rfl
theorem k_Up7 {σ : Sg} : ACalls Tryz.prog 28 [] σ fun r σ' => r = .v (.bool true) ∧ σ' = σ := by
 have e1 := fun σ => k_Program (b := bUp) (σ := σ) (by decide)
 have e2 := fun σ => k_Program (b := []) (σ := σ) (by decide)
 have ko := fun σ => k_OfSpotI (q := 0) (k := 3) (σ := σ)
 rw [prog_up, exU_eq] at e1
 rw [prog_nil] at e2
 unfold ProgPost at e1 e2
 dsimp only at e1 e2
 unfold spotV at e2 ko
 unfold bUp at e1
 rw [encE_mk] at e1
 refine acalls_fit Tryz.func28 (by kernel_rfl) c28 rfl (by simp [a28]) fun hf => ?_
 clear hf
 simp -implicitDefEqProofs (disch := omega) [-getElem?_pos, a28]
 refine ((e1 _).arg1 VLe.lax.d).then fun r hr => ?_
 subst hr
 simp -implicitDefEqProofs (disch := omega) [-getElem?_pos]
 refine ((e2 _).arg1 VLe.snil.d).then fun r hr => ?_
 subst hr
 simp -implicitDefEqProofs (disch := omega) [-getElem?_pos]
 refine (ko _).then fun r hr => ?_
 subst hr
 simp -implicitDefEqProofs (disch := omega) [-getElem?_pos, encE_mk]
 exact .fin _ ⟨rfl, rfl⟩ (.refl _)
end Go.Proofs.YtpdeaekmgljeaaaGreatDoor
namespace Go.Proofs.YtpdeaekmgljeaaaGreatDoor
open Go Go.Abs
theorem quote_body : ∀ (t acc s : Str), qL t acc = some s → ∃ body, s = acc ++ (body ++ [34]) ∧ body.length ≤ 2 * t.length ∧ ∀ k out rest, textL (body ++ 34 :: rest) k out = .ok (out ++ t) (k + body.length + 1)
 | [], acc, s, h => by
  refine ⟨[], (Option.some.inj h).symm, by simp, fun k out rest => ?_⟩
  rw [List.nil_append, textL_q (by decide)]
  simp
 | c :: t, acc, s, h => by
  rw [qL] at h
  by_cases h10 : c.toNat = 10
  ·rw [qB, if_pos h10] at h
   obtain ⟨body, hs, hl, hb⟩ := quote_body t _ s h
   refine ⟨92 :: 110 :: body, by rw [hs]; simp, by simp; omega, fun k out rest => ?_⟩
   rw [List.cons_append, List.cons_append, textL_escn (by decide) (by decide) (by decide), hb]
   have hc : c = 10 := UInt8.toNat_inj.1 h10
   subst hc
   simp
   omega
  ·cases hp : plaB c with
   | false => rw [qB, if_neg h10, if_pos hp] at h; cases h
   | true =>
    by_cases h2 : c.toNat = 34 ∨ c.toNat = 92
    ·rw [qB, if_neg h10, if_neg (by simp [hp]), if_pos h2] at h
     obtain ⟨body, hs, hl, hb⟩ := quote_body t _ s h
     refine ⟨92 :: c :: body, by rw [hs]; simp, by simp; omega, fun k out rest => ?_⟩
     rw [List.cons_append, List.cons_append, textL_escd (by decide) (by decide) (by omega) h2, hb]
     simp
     omega
    ·rw [qB, if_neg h10, if_neg (by simp [hp]), if_neg h2] at h
     obtain ⟨body, hs, hl, hb⟩ := quote_body t _ s h
     refine ⟨c :: body, by rw [hs]; simp, by simp; omega, fun k out rest => ?_⟩
     rw [List.cons_append, textL_plain (by omega) hp (by omega), hb]
     simp
     omega
structure CT where
 k : Int
 n : Nat
 s : Str
def core (t : Tk) : CT := ⟨t.k, t.n, t.s⟩
@[reducible] def nmT (s : Str) : CT := ⟨1, 0, s⟩
@[reducible] def wdT (s : Str) : CT := ⟨2, 0, s⟩
@[reducible] def tgT (s : Str) : CT := ⟨3, 0, s⟩
@[reducible] def sgT (s : Str) : CT := ⟨6, 0, s⟩
def LexTo (w : Str) (M : List CT) : Prop := ∀ pre : Str, ∃ ts : List Tk, Runs (pre ++ w) pre.length ts ∧ ts.map core = M
theorem lex_nil : LexTo [] [] := fun pre => by
 refine ⟨[], ?_, rfl⟩
 show (pre ++ [])[spanE blaB (pre ++ []) pre.length]? = none
 rw [spanE_end (by simp)]
 simp
theorem runs_blank {b : Str} {i : Nat} (h : b[i]? = some 32) : ∀ ts, Runs b (i + 1) ts → Runs b i ts
 | [], hr => by
  show b[spanE blaB b i]? = none
  rw [spanE_hit h (by decide)]
  exact hr
 | t :: r, ⟨c, to, h1, h2, h3⟩ => by
  refine ⟨c, to, ?_, ?_, h3⟩
  ·rw [spanE_hit h (by decide)]; exact h1
  ·rw [spanE_hit h (by decide)]; exact h2
theorem lex_sp {w : Str} {M : List CT} (h : LexTo w M) : LexTo (32 :: w) M := fun pre => by
 obtain ⟨ts, hr, hm⟩ := h (pre ++ [32])
 refine ⟨ts, runs_blank (by simp) ts ?_, hm⟩
 simpa using hr
theorem lex_tok {s w : Str} {M : List CT} {c : UInt8} {r : Str} {t : CT} (hs : s = c :: r) (hc : blaB c = false)
  (ho : ∀ pre : Str, ∃ i, oneL (pre ++ (s ++ w)) pre.length c = .tok ⟨t.k, i, t.n, t.s⟩ (pre.length + s.length)) (h : LexTo w M) : LexTo (s ++ w) (t :: M) := fun pre => by
 obtain ⟨ts, hr, hm⟩ := h (pre ++ s)
 obtain ⟨i, ho⟩ := ho pre
 have hg : (pre ++ (s ++ w))[pre.length]? = some c := by subst hs; simp
 refine ⟨⟨t.k, i, t.n, t.s⟩ :: ts, ⟨c, pre.length + s.length, ?_, ?_, ?_⟩, by simp [core, hm]⟩
 ·rw [spanE_miss hg hc]; exact hg
 ·rw [spanE_miss hg hc]; exact ho
 ·simpa using hr
def Starts (q : UInt8 → Bool) (w : Str) : Prop := ∀ d r, w = d :: r → q d = false
theorem takeWhile_stop {q : UInt8 → Bool} {s w : Str} (hs : ∀ x ∈ s, q x = true) (hw : Starts q w) : (s ++ w).takeWhile q = s := by
 induction s with
 | nil =>
  cases w with
  | nil => rfl
  | cons d r => rw [List.nil_append, List.takeWhile_cons_of_neg (by simp [hw d r rfl])]
 | cons x s ih =>
  rw [List.cons_append, List.takeWhile_cons_of_pos (hs x (by simp)), ih fun y hy => hs y (by simp [hy])]
theorem pass_stop {q : UInt8 → Bool} {pre s w : Str} (hs : ∀ x ∈ s, q x = true) (hw : Starts q w) : passS q (pre ++ (s ++ w)) pre.length = s ∧ spanE q (pre ++ (s ++ w)) pre.length = pre.length + s.length := by
 unfold passS spanE
 rw [List.drop_left, takeWhile_stop hs hw]
 exact ⟨rfl, rfl⟩
def Safe (w : Str) : Prop := ∀ d r, w = d :: r → d = 32 ∨ d = 41 ∨ d = 125 ∨ d = 44 ∨ d = 46 ∨ d = 92
theorem safe_nil : Safe [] := fun d r h => by cases h
theorem safe_sp {w : Str} : Safe (32 :: w) := fun d r h => by cases h; simp
theorem safe_rp {w : Str} : Safe (41 :: w) := fun d r h => by cases h; simp
theorem safe_rb {w : Str} : Safe (125 :: w) := fun d r h => by cases h; simp
theorem safe_cm {w : Str} : Safe (44 :: w) := fun d r h => by cases h; simp
theorem safe_dt {w : Str} : Safe (46 :: w) := fun d r h => by cases h; simp
theorem safe_bs {w : Str} : Safe (92 :: w) := fun d r h => by cases h; simp
theorem Safe.starts {w : Str} {q : UInt8 → Bool} (h : Safe w) (h1 : q 32 = false) (h2 : q 41 = false) (h3 : q 125 = false) (h4 : q 44 = false) (h5 : q 46 = false) (h6 : q 92 = false) : Starts q w := fun d r e => by
 rcases h d r e with rfl | rfl | rfl | rfl | rfl | rfl <;> assumption
theorem low_bla {c : UInt8} (h : lowB c = true ∨ uppB c = true ∨ digB c = true) : blaB c = false := by
 unfold lowB uppB digB at h
 unfold blaB
 simp only [Bool.and_eq_true, decide_eq_true_eq, Bool.or_eq_false_iff, decide_eq_false_iff_not] at h ⊢
 omega
theorem lex_low {s w : Str} {M : List CT} {c : UInt8} {r : Str} (hs : s = c :: r) (hc : lowB c = true) (ha : ∀ x ∈ s, ldB x = true) (hl : s.length ≤ 20) (hw : Safe w) (h : LexTo w M) : LexTo (s ++ w) (⟨if s ∈ wordsL then 2 else 1, 0, s⟩ :: M) := by
 refine lex_tok hs (low_bla (.inl hc)) (fun pre => ⟨pre.length, ?_⟩) h
 have hp := pass_stop (pre := pre) ha (hw.starts (q := ldB) (by decide) (by decide) (by decide) (by decide) (by decide) (by decide))
 rw [oneL, if_pos hc, nameN, hp.1, hp.2, if_neg (by omega)]
theorem lex_tag {s w : Str} {M : List CT} {c : UInt8} {r : Str} (hs : s = c :: r) (hc : uppB c = true) (ha : ∀ x ∈ s, ludB x = true) (hl : s.length ≤ 20) (hw : Safe w) (h : LexTo w M) : LexTo (s ++ w) (tgT s :: M) := by
 refine lex_tok hs (low_bla (.inr (.inl hc))) (fun pre => ⟨pre.length, ?_⟩) h
 have hp := pass_stop (pre := pre) ha (hw.starts (q := ludB) (by decide) (by decide) (by decide) (by decide) (by decide) (by decide))
 have hlo : lowB c = false := by
  unfold uppB at hc
  unfold lowB
  simp only [Bool.and_eq_true, decide_eq_true_eq, Bool.and_eq_false_iff, decide_eq_false_iff_not] at hc ⊢
  omega
 rw [oneL, if_neg (by simp [hlo]), if_pos hc, nameN, hp.1, hp.2, if_neg (by omega)]
theorem lex_num {s w : Str} {M : List CT} {c : UInt8} {r : Str} {n : Nat} (hs : s = c :: r) (ha : ∀ x ∈ s, digB x = true) (hn : numV s 0 = n) (hm : n ≤ 9223372036854775807) (h0 : ¬ (1 < s.length ∧ c.toNat = 48)) (hw : Safe w) (h : LexTo w M) : LexTo (s ++ w) (⟨4, n, []⟩ :: M) := by
 have hc : digB c = true := ha c (by rw [hs]; simp)
 refine lex_tok hs (low_bla (.inr (.inr hc))) (fun pre => ⟨pre.length, ?_⟩) h
 have hp := pass_stop (pre := pre) ha (hw.starts (q := digB) (by decide) (by decide) (by decide) (by decide) (by decide) (by decide))
 have hlo : lowB c = false ∧ uppB c = false := by
  unfold digB at hc
  unfold lowB uppB
  simp only [Bool.and_eq_true, decide_eq_true_eq, Bool.and_eq_false_iff, decide_eq_false_iff_not] at hc ⊢
  omega
 rw [oneL, if_neg (by simp [hlo.1]), if_neg (by simp [hlo.2]), if_pos hc, numN, hp.1, hp.2, hn, if_neg (by omega)]
theorem lex_text {t s w : Str} {M : List CT} (hq : quoteE t = some s) (h : LexTo w M) : LexTo (s ++ w) (⟨5, 0, t⟩ :: M) := by
 unfold quoteE at hq
 split at hq
 ·cases hq
 rename_i hl
 obtain ⟨body, rfl, hb, ht⟩ := quote_body t _ s hq
 refine lex_tok (c := 34) (r := body ++ [34]) rfl (by decide) (fun pre => ⟨pre.length, ?_⟩) h
 have := ht (pre.length + 1) [] w
 rw [oneL, if_neg (by decide), if_neg (by decide), if_neg (by decide), if_pos (by decide)]
 have hd : (pre ++ ([34] ++ (body ++ [34]) ++ w)).drop (pre.length + 1) = body ++ 34 :: w := by
  rw [← List.drop_drop, List.drop_left]
  simp
 rw [hd, this, textN, if_neg (by simp; omega)]
 simp
 omega
theorem lex_sign {s w : Str} {M : List CT} {c : UInt8} {r : Str} (hs : s = c :: r) (hc : lowB c = false ∧ uppB c = false ∧ digB c = false ∧ blaB c = false ∧ c.toNat ≠ 34) (hf : signF (s ++ w) 0 signsL = s) (h : LexTo w M) : LexTo (s ++ w) (sgT s :: M) := by
 obtain ⟨h1, h2, h3, h4, h5⟩ := hc
 refine lex_tok hs h4 (fun pre => ⟨pre.length, ?_⟩) h
 have hg : signF (pre ++ (s ++ w)) pre.length signsL = s := by
  unfold signF at hf ⊢
  rw [List.drop_left]
  exact hf
 rw [oneL, if_neg (by simp [h1]), if_neg (by simp [h2]), if_neg (by simp [h3]), if_neg h5, hg, signN, if_neg (by rw [hs]; simp)]
theorem sign_sp {s w : Str} (h : s ∈ signsL) : signF (s ++ 32 :: w) 0 signsL = s := by
 simp only [signsL, onesL, List.cons_append, List.nil_append, List.mem_cons, List.not_mem_nil, or_false] at h
 rcases h with rfl | rfl | rfl | rfl | rfl | rfl | rfl | rfl | rfl | rfl | rfl | rfl | rfl | rfl | rfl | rfl | rfl | rfl | rfl | rfl | rfl <;> rfl
theorem sign_head {s : Str} (h : s ∈ signsL) : ∃ c r, s = c :: r ∧ (lowB c = false ∧ uppB c = false ∧ digB c = false ∧ blaB c = false ∧ c.toNat ≠ 34) := by
 simp only [signsL, onesL, List.cons_append, List.nil_append, List.mem_cons, List.not_mem_nil, or_false] at h
 rcases h with rfl | rfl | rfl | rfl | rfl | rfl | rfl | rfl | rfl | rfl | rfl | rfl | rfl | rfl | rfl | rfl | rfl | rfl | rfl | rfl | rfl <;> exact ⟨_, _, rfl, by decide⟩
theorem lex_sgs {s w : Str} {M : List CT} (h : s ∈ signsL) (hw : LexTo (32 :: w) M) : LexTo (s ++ 32 :: w) (sgT s :: M) := by
 obtain ⟨c, r, hs, hc⟩ := sign_head h
 exact lex_sign hs hc (sign_sp h) hw
theorem lex_one {x : UInt8} {w : Str} {M : List CT} (hx : x = 40 ∨ x = 41 ∨ x = 123 ∨ x = 125 ∨ x = 46 ∨ x = 92 ∨ x = 33 ∨ x = 44) (h : LexTo w M) : LexTo (x :: w) (sgT [x] :: M) := by
 refine lex_sign (s := [x]) (c := x) (r := []) rfl ?_ ?_ h
 ·rcases hx with rfl | rfl | rfl | rfl | rfl | rfl | rfl | rfl <;> decide
 ·rcases hx with rfl | rfl | rfl | rfl | rfl | rfl | rfl | rfl <;> (cases w <;> rfl)
theorem name_of {s : Str} (h : isL s 1 = true) : ∃ c r, s = c :: r ∧ lowB c = true ∧ (∀ x ∈ s, ldB x = true) ∧ s ∉ wordsL ∧ s.length ≤ 20 := by
 have h := isL_imp (.inl rfl) h
 cases s with
 | nil => cases h
 | cons c r =>
  unfold isR at h
  dsimp only at h
  by_cases hl : 20 < (c :: r).length
  ·rw [if_pos hl] at h
   cases h
  rw [if_neg hl] at h
  refine ⟨c, r, rfl, ?_⟩
  cases ho : oneL (c :: r) 0 c with
  | bad q => rw [ho] at h; cases h
  | tok t to =>
   rw [ho] at h
   simp only [Bool.and_eq_true, decide_eq_true_eq] at h
   obtain ⟨hto, htk⟩ := h
   have ho2 := ho
   unfold oneL at ho
   split at ho
   ·rename_i hlo
    unfold nameN at ho
    split at ho
    ·cases ho
    ·cases ho
     have hfull : passS ldB (c :: r) 0 = c :: r := passS_full (by unfold spanE at hto; unfold passS; omega)
     have hall := passS_all (q := ldB) (b := c :: r) (i := 0)
     rw [hfull] at hall htk
     refine ⟨hlo, hall, ?_, by omega⟩
     intro hw
     dsimp only at htk
     rw [if_pos hw] at htk
     cases htk
   ·rename_i hlo
    split at ho
    ·unfold nameN at ho
     split at ho
     ·cases ho
     ·cases ho
      cases htk
    ·rename_i hup
     obtain ⟨hlet, _⟩ := tok_name ho2 (.inl htk)
     rcases hlet with h | h
     ·exact absurd h hlo
     ·exact absurd h hup
theorem tag_of {s : Str} (h : isL s 3 = true) : ∃ c r, s = c :: r ∧ uppB c = true ∧ (∀ x ∈ s, ludB x = true) ∧ s.length ≤ 20 := by
 have h := isL_imp (.inr rfl) h
 cases s with
 | nil => cases h
 | cons c r =>
  unfold isR at h
  dsimp only at h
  by_cases hl : 20 < (c :: r).length
  ·rw [if_pos hl] at h
   cases h
  rw [if_neg hl] at h
  refine ⟨c, r, rfl, ?_⟩
  cases ho : oneL (c :: r) 0 c with
  | bad q => rw [ho] at h; cases h
  | tok t to =>
   rw [ho] at h
   simp only [Bool.and_eq_true, decide_eq_true_eq] at h
   obtain ⟨hto, htk⟩ := h
   have ho2 := ho
   unfold oneL at ho
   split at ho
   ·unfold nameN at ho
    split at ho
    ·cases ho
    ·cases ho
     dsimp only at htk
     split at htk <;> cases htk
   ·rename_i hlo
    split at ho
    ·rename_i hup
     unfold nameN at ho
     split at ho
     ·cases ho
     ·cases ho
      have hfull : passS ludB (c :: r) 0 = c :: r := passS_full (by unfold spanE at hto; unfold passS; omega)
      have hall := passS_all (q := ludB) (b := c :: r) (i := 0)
      rw [hfull] at hall
      exact ⟨hup, hall, by omega⟩
    ·rename_i hup
     obtain ⟨hlet, _⟩ := tok_name ho2 (.inr htk)
     rcases hlet with h | h
     ·exact absurd h hlo
     ·exact absurd h hup
theorem lex_nm {s w : Str} {M : List CT} (hs : isL s 1 = true) (hw : Safe w) (h : LexTo w M) : LexTo (s ++ w) (nmT s :: M) := by
 obtain ⟨c, r, h1, h2, h3, h4, h5⟩ := name_of hs
 have := lex_low h1 h2 h3 h5 hw h
 rwa [if_neg h4] at this
theorem lex_tg {s w : Str} {M : List CT} (hs : isL s 3 = true) (hw : Safe w) (h : LexTo w M) : LexTo (s ++ w) (tgT s :: M) := by
 obtain ⟨c, r, h1, h2, h3, h5⟩ := tag_of hs
 exact lex_tag h1 h2 h3 h5 hw h
theorem word_ok {s : Str} (h : s ∈ wordsL) : ∃ c r, s = c :: r ∧ lowB c = true ∧ (∀ x ∈ s, ldB x = true) ∧ s.length ≤ 20 := by
 simp only [wordsL, List.mem_cons, List.not_mem_nil, or_false] at h
 rcases h with rfl | rfl | rfl | rfl | rfl | rfl | rfl | rfl | rfl | rfl | rfl | rfl | rfl | rfl <;> exact ⟨_, _, rfl, by decide⟩
theorem lex_wd {s w : Str} {M : List CT} (hs : s ∈ wordsL) (hw : Safe w) (h : LexTo w M) : LexTo (s ++ w) (wdT s :: M) := by
 obtain ⟨c, r, h1, h2, h3, h5⟩ := word_ok hs
 have := lex_low h1 h2 h3 h5 hw h
 rwa [if_pos hs] at this
theorem numV_snoc : ∀ (s : Str) (c : UInt8) (n : Nat), numV (s ++ [c]) n = numV s n * 10 + (c.toNat - 48)
 | [], c, n => rfl
 | x :: s, c, n => by rw [List.cons_append, numV_cons, numV_snoc s c, numV_cons]
theorem digit_ok {u : Nat} (h : u < 10) : (UInt8.ofNat (48 + u)).toNat = 48 + u := by
 rw [UInt8.toNat_ofNat']
 omega
theorem dec_ok (u : Nat) : (∃ c r, Lib.decDigits u = c :: r ∧ ¬ (1 < (Lib.decDigits u).length ∧ c.toNat = 48) ∧ (1 ≤ u → c.toNat ≠ 48)) ∧ (∀ x ∈ Lib.decDigits u, digB x = true) ∧ numV (Lib.decDigits u) 0 = u := by
 induction u using Nat.strongRecOn with
 | _ u ih =>
  by_cases h : u < 10
  ·rw [Lib.decDigits, dif_pos h]
   have hd := digit_ok h
   refine ⟨⟨_, _, rfl, by simp, fun h1 => by omega⟩, ?_, ?_⟩
   ·intro x hx
    simp only [List.mem_singleton] at hx
    subst hx
    unfold digB
    rw [hd]
    simp only [Bool.and_eq_true, decide_eq_true_eq]
    omega
   ·rw [numV_cons, numV_nil, hd]
    omega
  ·rw [Lib.decDigits, dif_neg h]
   have hd := digit_ok (u := u % 10) (by omega)
   obtain ⟨⟨c, r, h1, h2, h3⟩, h4, h5⟩ := ih (u / 10) (by omega)
   refine ⟨⟨c, r ++ [UInt8.ofNat (48 + u % 10)], by rw [h1]; rfl, fun hh => h3 (by omega) hh.2, fun _ => h3 (by omega)⟩, ?_, ?_⟩
   ·intro x hx
    rcases List.mem_append.1 hx with hx | hx
    ·exact h4 x hx
    ·simp only [List.mem_singleton] at hx
     subst hx
     unfold digB
     rw [hd]
     simp only [Bool.and_eq_true, decide_eq_true_eq]
     omega
   ·rw [numV_snoc, h5, hd]
    omega
theorem lex_nr {n : Int} {w : Str} {M : List CT} (h0 : 0 ≤ n) (h1 : n ≤ 9223372036854775807) (hw : Safe w) (h : LexTo w M) : LexTo (Lib.itoa n ++ w) (⟨4, n.toNat, []⟩ :: M) := by
 have : Lib.itoa n = Lib.decDigits n.toNat := by unfold Lib.itoa; rw [if_neg (by omega)]
 rw [this]
 obtain ⟨⟨c, r, g1, g2, g3⟩, g4, g5⟩ := dec_ok n.toNat
 exact lex_num g1 g4 g5 (by omega) g2 hw h
def smT (q : Int × List CT) : List CT := if soleK q.1 = true then q.2 else sgT [40] :: (q.2 ++ [sgT [41]])
def txT (q : List (Int × List CT)) (i : Nat) : List CT := (q.map (·.2)).getD i []
def smQT (q : List (Int × List CT)) (i : Nat) : List CT := match q[i]? with
 | some x => smT x
 | none => []
def fldT : Bool → List Str → List (List CT) → List CT
 | b, s :: ls, x :: xs => (if b = true then [] else [sgT [44]]) ++ nmT s :: sgT [61] :: (x ++ fldT false ls xs)
 | _, _, _ => []
def armT : List Str → List Str → List (List CT) → List CT
 | a :: ls, n :: ns, x :: xs => sgT [124] :: tgT a :: nmT n :: sgT sArr :: (x ++ armT ls ns xs)
 | _, _, _ => []
def elsT (t : Str) (x : List CT) : List CT := if t = [] then [] else sgT [124] :: nmT t :: sgT sArr :: x
def headT (k : Int) (s : Str) : CT := if k = 17 then wdT wRef else if k = 20 then wdT wPrint else if k = 21 then wdT wShow else if k = 18 then sgT [33] else tgT s
def tkK (k n : Int) (s t : Str) (ls ns : List Str) (q : List (Int × List CT)) : List CT :=
 if k = 1 then [⟨4, n.toNat, []⟩]
 else if k = 2 then [⟨5, 0, s⟩]
 else if k = 3 then [nmT s]
 else if k = 4 then wdT wFn :: nmT s :: sgT sArr :: txT q 0
 else if k = 5 then smQT q 0 ++ smQT q 1
 else if k = 6 then wdT wLet :: nmT s :: sgT [61] :: (txT q 0 ++ wdT wIn :: txT q 1)
 else if k = 7 then wdT wLet :: wdT wRec :: nmT s :: nmT t :: sgT [61] :: (txT q 0 ++ wdT wIn :: txT q 1)
 else if k = 8 then sgT [123] :: (fldT true ls (q.map (·.2)) ++ [sgT [125]])
 else if k = 9 then smQT q 0 ++ [sgT [46], nmT s]
 else if k = 10 then sgT [123] :: nmT s :: sgT [61] :: (txT q 0 ++ sgT [124] :: (txT q 1 ++ [sgT [125]]))
 else if k = 11 then smQT q 0 ++ [sgT [92], nmT s]
 else if k = 12 then sgT [123] :: (smQT q 1 ++ wdT wWith :: nmT s :: sgT [61] :: (txT q 0 ++ [sgT [125]]))
 else if k = 14 then wdT wMatch :: (txT q 0 ++ wdT wWith :: (armT ls ns ((q.map (·.2)).drop 1) ++ (elsT t (txT q (ls.length + 1)) ++ [wdT wEnd])))
 else if k = 15 then wdT wIf :: (txT q 0 ++ wdT wThen :: (txT q 1 ++ wdT wElse :: txT q 2))
 else if k = 16 then smQT q 0 ++ sgT s :: smQT q 1
 else if k = 19 then smQT q 0 ++ sgT sSet :: smQT q 1
 else if k = 22 then [wdT wRead]
 else headT k s :: smQT q 0
mutual
def tkE : Ex → List CT
 | .mk k _ n s t ls ns l => tkK k n s t ls ns (tkQ l)
def tkQ : List Ex → List (Int × List CT)
 | [] => []
 | x :: l => (kdE x, tkE x) :: tkQ l
end
theorem tkQ_eq : ∀ l, tkQ l = l.map fun x => (kdE x, tkE x)
 | [] => by simp [tkQ]
 | x :: l => by simp [tkQ, tkQ_eq l]
def smE (x : Ex) : List CT := smT (kdE x, tkE x)
inductive Shp : Ex → Prop where
 | int {p n : Int} (h : 0 ≤ n) : Shp (.mk 1 p n [] [] [] [] [])
 | text {p : Int} {s q : Str} (h : quoteE s = some q) : Shp (.mk 2 p 0 s [] [] [] [])
 | var {p : Int} {s : Str} (h : isL s 1 = true) : Shp (.mk 3 p 0 s [] [] [] [])
 | fn {p : Int} {s : Str} {x : Ex} (h : isL s 1 = true) : Shp (.mk 4 p 0 s [] [] [] [x])
 | app {p : Int} {x y : Ex} : Shp (.mk 5 p 0 [] [] [] [] [x, y])
 | letE {p : Int} {s : Str} {x y : Ex} (h : isL s 1 = true) : Shp (.mk 6 p 0 s [] [] [] [x, y])
 | recE {p : Int} {s t : Str} {x y : Ex} (h : isL s 1 = true) (h2 : isL t 1 = true) : Shp (.mk 7 p 0 s t [] [] [x, y])
 | record {p : Int} {ls : List Str} {l : List Ex} (h : ∀ s ∈ ls, isL s 1 = true) (hr : riseL ls = true) (hl : l.length = ls.length) (h30 : ls.length ≤ 30) : Shp (.mk 8 p 0 [] [] ls [] l)
 | sel {p : Int} {s : Str} {x : Ex} (h : isL s 1 = true) : Shp (.mk 9 p 0 s [] [] [] [x])
 | ext {p : Int} {s : Str} {x y : Ex} (h : isL s 1 = true) : Shp (.mk 10 p 0 s [] [] [] [x, y])
 | cut {p : Int} {s : Str} {x : Ex} (h : isL s 1 = true) : Shp (.mk 11 p 0 s [] [] [] [x])
 | upd {p : Int} {s : Str} {x y : Ex} (h : isL s 1 = true) : Shp (.mk 12 p 0 s [] [] [] [x, y])
 | tag {p : Int} {s : Str} {x : Ex} (h : isL s 3 = true) : Shp (.mk 13 p 0 s [] [] [] [x])
 | matc {p : Int} {t : Str} {ls ns : List Str} {x : Ex} {l last : List Ex} (h : ∀ s ∈ ls, isL s 3 = true) (h2 : ∀ s ∈ ns, isL s 1 = true) (hr : riseL ls = true) (hl : l.length = ls.length) (hn : ns.length = ls.length) (h30 : ls.length ≤ 30)
   (ht : (t = [] ∧ last = [] ∧ ls ≠ []) ∨ (isL t 1 = true ∧ ∃ y, last = [y])) : Shp (.mk 14 p 0 [] t ls ns (x :: (l ++ last)))
 | ifE {p : Int} {x y z : Ex} : Shp (.mk 15 p 0 [] [] [] [] [x, y, z])
 | op {p : Int} {s : Str} {x y : Ex} (h : s ∈ opsL) : Shp (.mk 16 p 0 s [] [] [] [x, y])
 | ref {p : Int} {x : Ex} : Shp (.mk 17 p 0 [] [] [] [] [x])
 | get {p : Int} {x : Ex} : Shp (.mk 18 p 0 [] [] [] [] [x])
 | set {p : Int} {x y : Ex} : Shp (.mk 19 p 0 [] [] [] [] [x, y])
 | print {p : Int} {x : Ex} : Shp (.mk 20 p 0 [] [] [] [] [x])
 | shw {p : Int} {x : Ex} : Shp (.mk 21 p 0 [] [] [] [] [x])
 | read {p : Int} : Shp (.mk 22 p 0 [] [] [] [] [])
theorem xl1 {l : List Ex} (h : l.length = 1) : ∃ x, l = [x] := by
 match l, h with
 | [x], _ => exact ⟨x, rfl⟩
theorem xl2 {l : List Ex} (h : l.length = 2) : ∃ x y, l = [x, y] := by
 match l, h with
 | [x, y], _ => exact ⟨x, y, rfl⟩
theorem xl3 {l : List Ex} (h : l.length = 3) : ∃ x y z, l = [x, y, z] := by
 match l, h with
 | [x, y, z], _ => exact ⟨x, y, z, rfl⟩
theorem form_cases {k : Int} {f : FT} (h : formT k = some f) : k = 1 ∨ k = 2 ∨ k = 3 ∨ k = 4 ∨ k = 5 ∨ k = 6 ∨ k = 7 ∨ k = 9 ∨ k = 10 ∨ k = 11 ∨ k = 12 ∨ k = 13 ∨ k = 15 ∨ k = 16 ∨ k = 17 ∨ k = 18 ∨ k = 19 ∨ k = 20 ∨ k = 21 ∨ k = 22 := by
 unfold formT formsT at h
 have hm := List.lookup_eq_some_iff.1 h
 obtain ⟨l1, l2, he, _⟩ := hm
 have hk : k ∈ [(1 : Int), 2, 3, 22, 4, 5, 6, 7, 9, 10, 11, 12, 13, 15, 16, 17, 18, 19, 20, 21] := by
  have : k ∈ (l1 ++ (k, f) :: l2).map (·.1) := by simp
  rw [← he] at this
  simpa using this
 simp only [List.mem_cons, List.not_mem_nil, or_false] at hk
 omega
theorem shp_of {e : Ex} (h : ownB e = true) : Shp e := by
 cases e with
 | mk k p n s t ls ns l =>
 unfold ownB at h
 dsimp only at h
 split at h
 ·cases h
 rename_i hc
 have h1 : (l.length : Int) = partsN k ls.length (decide (t ≠ [])) := Decidable.byContradiction fun h => hc (.inl h)
 have h2 : 0 ≤ n := by omega
 have h3 : k ≠ 1 → n = 0 := fun hk => by
  have : ¬ (0 < n ∧ k ≠ 1) := fun h => hc (.inr (.inr (.inl h)))
  omega
 have h4 : textB k s = true := by
  cases hT : textB k s with
  | true => rfl
  | false => exact absurd (.inr (.inr (.inr hT))) hc
 clear hc
 by_cases h8 : k = 8
 ·subst h8
  rw [if_pos rfl] at h
  simp only [Bool.and_eq_true, List.all_eq_true, decide_eq_true_eq] at h
  obtain ⟨⟨⟨ha, hr, h30⟩, hn⟩, ht⟩ := h
  have hs : s = [] := by simpa [textB, formT, formsT, List.lookup] using h4
  have hN : n = 0 := h3 (by decide)
  obtain rfl : ns = [] := List.length_eq_zero_iff.1 hn
  subst ht hs hN
  exact .record ha hr (by have h9 : (l.length : Int) = ls.length := (by simpa [partsN] using h1); omega) h30
 rw [if_neg h8] at h
 by_cases h14 : k = 14
 ·subst h14
  rw [if_pos rfl] at h
  simp only [Bool.and_eq_true, List.all_eq_true, decide_eq_true_eq, Bool.or_eq_true] at h
  obtain ⟨⟨⟨⟨⟨ha, hr, h30⟩, hn⟩, hna⟩, ht⟩, hl1⟩ := h
  have hs : s = [] := by simpa [textB, formT, formsT, List.lookup] using h4
  have hN : n = 0 := h3 (by decide)
  subst hs hN
  cases l with
  | nil => simp at hl1
  | cons x l =>
   unfold partsN at h1
   rw [if_neg (by decide), if_pos rfl] at h1
   by_cases hte : t = []
   ·rw [hte] at h1
    simp only [List.length_cons, ne_eq, not_true_eq_false, decide_false, Bool.false_eq_true, if_false] at h1 hl1
    have := Shp.matc (p := p) (t := t) (x := x) (l := l) (last := []) ha hna hr (by omega) hn h30 (.inl ⟨hte, rfl, fun hz => by subst hz; simp at h1; omega⟩)
    rwa [List.append_nil] at this
   ·rw [show decide (t ≠ []) = true by simpa using hte] at h1
    simp only [List.length_cons, if_true] at h1
    have hll : l.length = ls.length + 1 := by omega
    have hsplit : l = l.take ls.length ++ l.drop ls.length := (List.take_append_drop _ _).symm
    rw [hsplit]
    refine Shp.matc ha hna hr (by rw [List.length_take]; omega) hn h30 (.inr ⟨?_, ?_⟩)
    ·rcases ht with ht | ht
     ·exact absurd ht hte
     ·exact ht
    ·exact xl1 (by rw [List.length_drop]; omega)
 rw [if_neg h14] at h
 unfold partsN at h1
 rw [if_neg h8, if_neg h14] at h1
 cases hf : formT k with
 | none => rw [hf] at h1; simp at h1
 | some f =>
  rw [hf] at h1
  unfold textB at h4
  rw [hf] at h4
  dsimp only at h1 h4
  by_cases h7 : k = 7
  ·subst h7
   rw [if_pos rfl] at h
   simp only [Bool.and_eq_true, decide_eq_true_eq] at h
   obtain ⟨ht, hz⟩ := h
   have hz1 : ls.length = 0 := by omega
   have hz2 : ns.length = 0 := by omega
   obtain rfl : ls = [] := List.length_eq_zero_iff.1 hz1
   obtain rfl : ns = [] := List.length_eq_zero_iff.1 hz2
   obtain rfl : n = 0 := h3 (by decide)
   simp [formT, formsT, List.lookup] at hf
   subst hf
   obtain ⟨x, y, rfl⟩ := xl2 (l := l) (by have h9 : (l.length : Int) = 2 := (by simpa using h1); omega)
   exact .recE (by simpa using h4) ht
  ·rw [if_neg h7] at h
   simp only [Bool.and_eq_true, decide_eq_true_eq] at h
   obtain ⟨ht, hz⟩ := h
   have hz1 : ls.length = 0 := by omega
   have hz2 : ns.length = 0 := by omega
   obtain rfl : ls = [] := List.length_eq_zero_iff.1 hz1
   obtain rfl : ns = [] := List.length_eq_zero_iff.1 hz2
   subst ht
   have hk := form_cases hf
   rcases hk with rfl | rfl | rfl | rfl | rfl | rfl | rfl | rfl | rfl | rfl | rfl | rfl | rfl | rfl | rfl | rfl | rfl | rfl | rfl | rfl
   all_goals simp [formT, formsT, List.lookup] at hf
   all_goals subst hf
   all_goals simp at h1 h4
   case inl =>
    subst h1 h4
    exact .int h2
   all_goals obtain rfl : n = 0 := h3 (by decide)
   case inr.inl =>
    obtain ⟨q, hq⟩ := Option.isSome_iff_exists.1 h4
    subst h1
    exact .text hq
   all_goals first
    | (subst h1; exact .var h4)
    | (subst h1 h4; exact .read)
    | (obtain ⟨x, rfl⟩ := xl1 (l := l) (by omega); first | exact .fn h4 | exact .sel h4 | exact .cut h4 | exact .tag h4 | (subst h4; first | exact .ref | exact .get | exact .print | exact .shw))
    | (obtain ⟨x, y, rfl⟩ := xl2 (l := l) (by omega); first | exact .letE h4 | exact .ext h4 | exact .upd h4 | exact .op h4 | (subst h4; first | exact .app | exact .set))
    | (obtain ⟨x, y, z, rfl⟩ := xl3 (l := l) (by omega); subst h4; exact .ifE)
    | exact absurd (Eq.refl (7 : Int)) h7
def fldS : Bool → List Str → List Str → Str
 | b, s :: ls, x :: xs => (if b = true then [] else [44, 32]) ++ (s ++ [32, 61, 32] ++ x) ++ fldS false ls xs
 | _, _, _ => []
theorem fld_tail : ∀ (ls xs : List Str), Lib.joinTail [44, 32] (items ls xs) = fldS false ls xs
 | [], [] => rfl
 | [], _ :: _ => rfl
 | _ :: _, [] => rfl
 | s :: ls, x :: xs => by
  have := fld_tail ls xs
  simp only [Lib.joinTail, items, List.map_cons, List.flatten_cons, fldS] at this ⊢
  rw [this]
  simp
theorem fld_join : ∀ (ls xs : List Str), Lib.join (items ls xs) [44, 32] = fldS true ls xs
 | [], [] => by simp [items, fldS, Lib.join_nil]
 | [], _ :: _ => by simp [items, fldS, Lib.join_nil]
 | _ :: _, [] => by simp [items, fldS, Lib.join_nil]
 | s :: ls, x :: xs => by
  rw [items, Lib.join_cons, fld_tail, fldS]
  simp
def Lx (e : Ex) : Prop := ∀ w M, Safe w → LexTo w M → LexTo (showL e ++ w) (tkE e ++ M)
theorem lx_small {e : Ex} (h : Lx e) {w : Str} {M : List CT} (hs : Safe w) (hw : LexTo w M) : LexTo (smallT (kdE e, showL e) ++ w) (smE e ++ M) := by
 unfold smallT smE smT
 dsimp only
 split
 ·exact h w M hs hw
 ·simp only [List.append_assoc, List.cons_append, List.nil_append]
  exact lex_one (by simp) (h _ _ safe_rp (lex_one (by simp) hw))
theorem lx_fld : ∀ (b : Bool) (ls : List Str) (l : List Ex), (∀ s ∈ ls, isL s 1 = true) → (∀ x ∈ l, Lx x) → ∀ w M, Safe w → LexTo w M → LexTo (fldS b ls (l.map showL) ++ w) (fldT b ls (l.map tkE) ++ M)
 | b, [], l, _, _, w, M, hs, hw => by cases l <;> exact hw
 | b, _ :: _, [], _, _, w, M, hs, hw => hw
 | b, s :: ls, x :: l, h1, h2, w, M, hs, hw => by
  have ih := lx_fld false ls l (fun s hs => h1 s (by simp [hs])) (fun x hx => h2 x (by simp [hx])) w M hs hw
  have hS : Safe (fldS false ls (l.map showL) ++ w) := by
   cases ls with
   | nil => cases l <;> exact hs
   | cons a ls => cases l with
    | nil => exact hs
    | cons y l => exact safe_cm
  have hh : LexTo (s ++ 32 :: 61 :: 32 :: (showL x ++ (fldS false ls (l.map showL) ++ w))) (nmT s :: sgT [61] :: (tkE x ++ (fldT false ls (l.map tkE) ++ M))) :=
   lex_nm (h1 s (by simp)) safe_sp (lex_sp (lex_sgs (s := [61]) (by decide) (lex_sp (h2 x (by simp) _ _ hS ih))))
  simp only [List.map_cons, fldS, fldT]
  cases b with
  | true => simpa only [List.append_assoc, List.cons_append, List.nil_append, if_true] using hh
  | false =>
   simp only [List.append_assoc, List.cons_append, List.nil_append, Bool.false_eq_true, if_false]
   exact lex_one (by simp) (lex_sp hh)
theorem lx_arm : ∀ (ls ns : List Str) (l : List Ex), (∀ s ∈ ls, isL s 3 = true) → (∀ s ∈ ns, isL s 1 = true) → (∀ x ∈ l, Lx x) → ∀ w M, Safe w → LexTo w M → LexTo ((armL ls ns (l.map showL)).flatten ++ w) (armT ls ns (l.map tkE) ++ M) ∧ Safe ((armL ls ns (l.map showL)).flatten ++ w)
 | [], ns, l, _, _, _, w, M, hs, hw => ⟨hw, hs⟩
 | _ :: _, [], l, _, _, _, w, M, hs, hw => ⟨hw, hs⟩
 | _ :: _, _ :: _, [], _, _, _, w, M, hs, hw => ⟨hw, hs⟩
 | a :: ls, n :: ns, x :: l, h1, h2, h3, w, M, hs, hw => by
  have ih := lx_arm ls ns l (fun s hs => h1 s (by simp [hs])) (fun s hs => h2 s (by simp [hs])) (fun x hx => h3 x (by simp [hx])) w M hs hw
  simp only [List.map_cons, armL, armT, List.flatten_cons, List.append_assoc, List.cons_append, List.nil_append]
  refine ⟨?_, safe_sp⟩
  exact lex_sp (lex_sgs (s := [124]) (by decide) (lex_sp (lex_tg (h1 a (by simp)) safe_sp (lex_sp (lex_nm (h2 n (by simp)) safe_sp (lex_sp (lex_sgs (s := [45, 62]) (by decide) (lex_sp (h3 x (by simp) _ _ ih.2 ih.1)))))))))
theorem showK_kinds (l : List Ex) : (showQ l).map (·.2) = l.map showL := by rw [showQ_eq]; simp
theorem tkK_kinds (l : List Ex) : (tkQ l).map (·.2) = l.map tkE := by rw [tkQ_eq]; simp
end Go.Proofs.YtpdeaekmgljeaaaGreatDoor
