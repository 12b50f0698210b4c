/-
  Lexer: texts. (Own work.)
-/
import Derived.Test.YtpdeaekmgljeaaaGreatDoorN09
import Derived.Shelf.Strconv.ParseIntPublic10
import Derived.Shelf.Strconv.Itoa3
import Derived.Test.YtpdeaekmgljeaaaGreatDoorChecked
import Derived.Sort.Walk0
import Derived.Sort.OwnSorted
set_option linter.unusedVariables false
set_option linter.unusedSimpArgs false
namespace Go.Proofs.YtpdeaekmgljeaaaGreatDoor
open Go Go.Abs
@[reducible] def spotO (at_ : Int) (c : Int) : Ob := .cells [.v (.int .i64 at_), .v (.int .i64 c)]
theorem k_SpotAt {i c : Int} {σ : Sg} : ACalls Tryz.prog 43 [.v (.int .i64 i), .v (.int .i64 c)] σ fun r σ' => r = .iface 56 (.ptr σ.objs.length 0) ∧ σ' = ⟨σ.objs ++ [spotO i c], σ.toks⟩ := by
 refine acalls_fit Tryz.func43 (by kernel_rfl) c43 rfl (by simp [a43]) fun hf => ?_
 clear hf
 simp -implicitDefEqProofs (disch := omega) [-getElem?_pos, a43]
 exact ⟨_, _, WeakR.refl _ _ _, rfl, rfl⟩
inductive TR where
 | ok (s : Str) (to : Nat)
 | bad (q : Nat)
def textL : Str → Nat → Str → TR
 | [], k, _ => .bad k
 | c :: r, k, out =>
  if c.toNat = 34 then .ok out (k + 1) else if plaB c = false then .bad k
  else if c.toNat = 92 then (match r with
   | [] => .bad (k + 1)
   | d :: r' => if d.toNat = 110 then textL r' (k + 2) (out ++ [10]) else if d.toNat = 34 ∨ d.toNat = 92 then textL r' (k + 2) (out ++ [d]) else .bad (k + 1))
  else textL r (k + 1) (out ++ [c])
theorem textL_q {c : UInt8} {r : Str} {k : Nat} {out : Str} (h : c.toNat = 34) : textL (c :: r) k out = .ok out (k + 1) := by cases r <;> simp [textL, h]
theorem textL_odd {c : UInt8} {r : Str} {k : Nat} {out : Str} (h : ¬ c.toNat = 34) (h2 : plaB c = false) : textL (c :: r) k out = .bad k := by cases r <;> simp [textL, h, h2]
theorem textL_esc0 {c : UInt8} {k : Nat} {out : Str} (h3 : c.toNat = 92) (h2 : plaB c = true) : textL [c] k out = .bad (k + 1) := by simp [textL, h2, h3]
theorem textL_escn {c d : UInt8} {r : Str} {k : Nat} {out : Str} (h3 : c.toNat = 92) (h2 : plaB c = true) (h : d.toNat = 110) : textL (c :: d :: r) k out = textL r (k + 2) (out ++ [10]) := by simp [textL, h2, h3, h]
theorem textL_escd {c d : UInt8} {r : Str} {k : Nat} {out : Str} (h3 : c.toNat = 92) (h2 : plaB c = true) (h : ¬ d.toNat = 110) (h4 : d.toNat = 34 ∨ d.toNat = 92) : textL (c :: d :: r) k out = textL r (k + 2) (out ++ [d]) := by simp [textL, h2, h3, h, h4]
theorem textL_esco {c d : UInt8} {r : Str} {k : Nat} {out : Str} (h3 : c.toNat = 92) (h2 : plaB c = true) (h : ¬ d.toNat = 110) (h4 : ¬ d.toNat = 34) (h5 : ¬ d.toNat = 92) : textL (c :: d :: r) k out = .bad (k + 1) := by simp [textL, h2, h3, h, h4, h5]
theorem textL_plain {c : UInt8} {r : Str} {k : Nat} {out : Str} (h : ¬ c.toNat = 34) (h2 : plaB c = true) (h3 : ¬ c.toNat = 92) : textL (c :: r) k out = textL r (k + 1) (out ++ [c]) := by cases r <;> simp [textL, h, h2, h3]
def TextPost (σ : Sg) (p : Nat) (b : Str) (t : TR) (r : D) (σ' : Sg) : Prop := match t with
 | .ok s to => r = .tup [.v (.str s), .v .inil] ∧ σ' = ⟨σ.objs.set p (cut b to), σ.toks⟩
 | .bad q => r = .tup [.v (.str []), .iface 56 (.ptr σ.objs.length 0)] ∧ σ' = ⟨σ.objs.set p (cut b q) ++ [spotO q 2], σ.toks⟩
theorem set_same {σ : Sg} {p : Nat} {ob : Ob} (hp : σ.objs[p]? = some ob) : σ.objs.set p ob = σ.objs := by
 have hpl := (List.getElem?_eq_some_iff.1 hp).1
 apply List.ext_getElem?
 intro j
 by_cases e : p = j
 ·subst e
  rw [List.getElem?_set_self hpl]
  exact hp.symm
 ·rw [List.getElem?_set_ne e]
theorem low_spot {σ : Sg} {p n k : Nat} {b : Str} {q j : Nat} {c : Int} : ∀ ob ∈ σ.objs.set p (cut b q) ++ [spotO j c], ob ∈ σ.objs ∨ ob.low n k := fun ob h => by
 rcases List.mem_append.1 h with h | h
 ·exact low_set (by simp [cut]) ob h
 ·rw [List.mem_singleton] at h
  subst h
  exact .inr (by simp)
structure TSt where
 k : Nat
 out : Str
theorem k_Text {b : Str} {i p : Nat} {σ : Sg} (hp : σ.objs[p]? = some (cut b i)) (hi : i ≤ b.length) (hb : b.length ≤ 1048576) : ACalls Tryz.prog 123 [.ptr p 0] σ (TextPost σ p b (textL (b.drop i) i [])) := by
 have hpl := (List.getElem?_eq_some_iff.1 hp).1
 have hset := set_same hp
 have cp := fun c σ => k_Plain (c := c) (σ := σ)
 unfold vB at cp
 refine acalls_fit Tryz.func123 (by kernel_rfl) c123 rfl (by simp [a123]) fun hf => ?_
 clear hf
 simp -implicitDefEqProofs (disch := omega) [-getElem?_pos, a123]
 refine W_loop (α := TSt) ⟨i, []⟩ (fun x => b.length - x.k) (fun x => ⟨[(0, .ptr p 0), (4, .tsl σ.toks.length none (bytesV x.out))], ⟨σ.objs.set p (cut b x.k), σ.toks ++ [x.out.length]⟩⟩)
  (fun x => x.k ≤ b.length ∧ x.out.length ≤ x.k ∧ textL (b.drop i) i [] = textL (b.drop x.k) x.k x.out) (.trans (b := ⟨[(0, .ptr p 0), (4, .tsl σ.toks.length none (bytesV []))], _⟩) (.tok (i := 4) (sh := none) (by simp) (by simp)) (.eq2 (by rw [hset]; rfl) (by simp))) ⟨hi, by simp, rfl⟩ fun ⟨k, out⟩ ⟨hk, hol, he⟩ => ?_
 dsimp only at hk hol he ⊢
 simp -implicitDefEqProofs (disch := omega) [-getElem?_pos, hpl]
 refine .mk (fun h => ?_) fun h => ?_
 ·simp -implicitDefEqProofs (disch := omega) [-getElem?_pos, hpl]
  refine ⟨by omega, fun c hc => ?_⟩
  rw [drop_cons hc] at he
  have hcp := fun σ => cp c σ
  refine .mk (fun h34 => ?_) fun h34 => ?_
  ·have he2 : textL (b.drop i) i [] = .ok out (k + 1) := he.trans (textL_q (by omega))
   rw [he2]
   simp -implicitDefEqProofs (disch := omega) [-getElem?_pos, hpl]
   exact .finS _ ⟨σ.objs.set p (cut b (k + 1)), σ.toks⟩ ⟨rfl, rfl⟩ (.refl _) (low_set (by simp [cut])) (by simp) (by simp [cut]) (by simp) (by simp) (by simp)
  have h34' : ¬ c.toNat = 34 := by omega
  simp -implicitDefEqProofs (disch := omega) [-getElem?_pos, h34]
  refine (hcp _).then fun r hr => ?_
  subst hr
  cases hpc : plaB c with
  | false =>
   have he2 : textL (b.drop i) i [] = .bad k := he.trans (textL_odd h34' hpc)
   rw [he2]
   simp -implicitDefEqProofs (disch := omega) [-getElem?_pos, hpl]
   refine (k_SpotAt (i := k) (c := 2)).mono fun r σ' hr => ?_
   obtain ⟨rfl, rfl⟩ := hr
   simp -implicitDefEqProofs (disch := omega) [-getElem?_pos, hpl]
   exact .finS _ ⟨σ.objs.set p (cut b k) ++ [spotO (k : Nat) 2], σ.toks⟩ ⟨rfl, rfl⟩ (.refl _) low_spot (by simp) (by simp [cut]) (by simp) (by simp) (by simp)
  | true =>
   simp -implicitDefEqProofs (disch := omega) [-getElem?_pos, hpl]
   refine .mk (fun h92 => ?_) fun h92 => ?_
   rotate_left
   ·have h92' : ¬ c.toNat = 92 := by omega
    rw [textL_plain h34' hpc h92'] at he
    simp -implicitDefEqProofs (disch := omega) [-getElem?_pos, hpl]
    exact ⟨by omega, ⟨k + 1, out ++ [c]⟩, ⟨by show k + 1 ≤ b.length; omega, by simp; omega, he⟩, by show b.length - (k + 1) < b.length - k; omega, .eq2 (by simp [cut]) (by simp)⟩
   have h92' : c.toNat = 92 := by omega
   simp -implicitDefEqProofs (disch := omega) [-getElem?_pos, hpl]
   refine .mk (fun hl => ?_) fun hl => ?_
   ·have hk1 : k + 1 = b.length := by omega
    rw [show b.drop (k + 1) = [] from List.drop_eq_nil_of_le (by omega), textL_esc0 h92' hpc] at he
    rw [he]
    simp -implicitDefEqProofs (disch := omega) [-getElem?_pos, hpl]
    refine (k_SpotAt (i := (k : Int) + 1) (c := 2)).mono fun r σ' hr => ?_
    obtain ⟨rfl, rfl⟩ := hr
    simp -implicitDefEqProofs (disch := omega) [-getElem?_pos, hpl]
    exact .finS _ ⟨σ.objs.set p (cut b (k + 1)) ++ [spotO ((k + 1 : Nat) : Int) 2], σ.toks⟩ ⟨rfl, rfl⟩ (.refl _) low_spot (by simp) (by simp [cut]) (by simp) (by simp) (by simp)
   ·simp -implicitDefEqProofs (disch := omega) [-getElem?_pos, hpl]
    have e12 : (k : Int) + 1 + 1 = (k : Int) + 2 := by omega
    have b10 : bytesV out ++ [V.int .u8 10] = bytesV (out ++ [10]) := by simp [bytesV]
    refine ⟨by omega, by omega, fun d hd => ?_⟩
    rw [drop_cons hd] at he
    refine .mk (fun h110 => ?_) fun h110 => ?_
    ·rw [textL_escn h92' hpc (by omega)] at he
     simp -implicitDefEqProofs (disch := omega) [-getElem?_pos, hpl]
     exact ⟨by omega, ⟨k + 2, out ++ [10]⟩, ⟨by show k + 2 ≤ b.length; omega, by simp; omega, he⟩, by show b.length - (k + 2) < b.length - k; omega, .eq2 (by simp [cut, e12]) (by simp [b10])⟩
    have h110' : ¬ d.toNat = 110 := by omega
    simp -implicitDefEqProofs (disch := omega) [-getElem?_pos, hpl]
    refine .mk (fun h34 => ?_) fun h34 => ?_
    ·rw [textL_escd h92' hpc h110' (.inl (by omega))] at he
     simp -implicitDefEqProofs (disch := omega) [-getElem?_pos, hpl, h34]
     exact ⟨by omega, ⟨k + 2, out ++ [d]⟩, ⟨by show k + 2 ≤ b.length; omega, by simp; omega, he⟩, by show b.length - (k + 2) < b.length - k; omega, .eq2 (by simp [cut, e12]) (by simp [bytesV]; omega)⟩
    simp -implicitDefEqProofs (disch := omega) [-getElem?_pos, hpl, h34]
    refine .mk (fun h92 => ?_) fun h92 => ?_
    ·rw [textL_escd h92' hpc h110' (.inr (by omega))] at he
     simp -implicitDefEqProofs (disch := omega) [-getElem?_pos, hpl, h92]
     exact ⟨by omega, ⟨k + 2, out ++ [d]⟩, ⟨by show k + 2 ≤ b.length; omega, by simp; omega, he⟩, by show b.length - (k + 2) < b.length - k; omega, .eq2 (by simp [cut, e12]) (by simp [bytesV]; omega)⟩
    rw [textL_esco h92' hpc h110' (by omega) (by omega)] at he
    rw [he]
    simp -implicitDefEqProofs (disch := omega) [-getElem?_pos, hpl, h92]
    refine (k_SpotAt (i := (k : Int) + 1) (c := 2)).mono fun r σ' hr => ?_
    obtain ⟨rfl, rfl⟩ := hr
    simp -implicitDefEqProofs (disch := omega) [-getElem?_pos, hpl]
    exact .finS _ ⟨σ.objs.set p (cut b (k + 1)) ++ [spotO ((k + 1 : Nat) : Int) 2], σ.toks⟩ ⟨rfl, rfl⟩ (.refl _) low_spot (by simp) (by simp [cut]) (by simp) (by simp) (by simp)
 ·rw [show b.drop k = [] from List.drop_eq_nil_of_le (by omega)] at he
  have he2 : textL (b.drop i) i [] = .bad k := he
  rw [he2]
  simp -implicitDefEqProofs (disch := omega) [-getElem?_pos, hpl]
  refine (k_SpotAt (i := k) (c := 2)).mono fun r σ' hr => ?_
  obtain ⟨rfl, rfl⟩ := hr
  simp -implicitDefEqProofs (disch := omega) [-getElem?_pos, hpl]
  exact .finS _ ⟨σ.objs.set p (cut b k) ++ [spotO (k : Nat) 2], σ.toks⟩ ⟨rfl, rfl⟩ (.refl _) low_spot (by simp) (by simp [cut]) (by simp) (by simp) (by simp)
end Go.Proofs.YtpdeaekmgljeaaaGreatDoor
namespace Go.Proofs.YtpdeaekmgljeaaaGreatDoor
open Go.Shelf
def pintLays_ren : Go.Shelf.Ren := ⟨fun | 174 => 122 | 247 => 156 | 245 => 157 | 287 => 184 | 279 => 185 | 280 => 186 | 281 => 187 | 282 => 188 | 321 => 195 | 322 => 196 | 316 => 197 | 171 => 71 | 205 => 198 | 243 => 105 | 246 => 61 | 283 => 97 | 284 => 98 | 285 => 99 | 286 => 100 | 129 => 137 | 317 => 136 | 318 => 138 | 319 => 139 | 320 => 140 | 337 => 175 | 338 => 176 | n => n, fun | 9 => 9 | 3 => 3 | 2 => 2 | 75 => 29 | 85 => 167 | 4 => 4 | 167 => 227 | 5 => 5 | 53 => 137 | 175 => 228 | 46 => 164 | 168 => 230 | 37 => 48 | 0 => 0 | 210 => 241 | 21 => 21 | 127 => 180 | 145 => 247 | 143 => 245 | 171 => 136 | 173 => 140 | 212 => 186 | 51 => 187 | 20 => 20 | 213 => 188 | 232 => 235 | 233 => 236 | 80 => 132 | n => n, fun | 15 => 5 | 16 => 6 | 17 => 1 | 18 => 3 | 19 => 4 | n => n⟩
theorem pintLays : Go.Proofs.LaysC.n174 Tryz.prog pintLays_ren := {
 mixed := by kernel_rfl
 f129 := Tryz.func137.trans (congrArg some (by kernel_rfl))
 f171 := Tryz.func71.trans (congrArg some (by kernel_rfl))
 f174 := Tryz.func122.trans (congrArg some (by kernel_rfl))
 f205 := Tryz.func198.trans (congrArg some (by kernel_rfl))
 f243 := Tryz.func105.trans (congrArg some (by kernel_rfl))
 f245 := Tryz.func157.trans (congrArg some (by kernel_rfl))
 f246 := Tryz.func61.trans (congrArg some (by kernel_rfl))
 f247 := Tryz.func156.trans (congrArg some (by kernel_rfl))
 f279 := Tryz.func185.trans (congrArg some (by kernel_rfl))
 f280 := Tryz.func186.trans (congrArg some (by kernel_rfl))
 f281 := Tryz.func187.trans (congrArg some (by kernel_rfl))
 f282 := Tryz.func188.trans (congrArg some (by kernel_rfl))
 f283 := Tryz.func97.trans (congrArg some (by kernel_rfl))
 f284 := Tryz.func98.trans (congrArg some (by kernel_rfl))
 f285 := Tryz.func99.trans (congrArg some (by kernel_rfl))
 f286 := Tryz.func100.trans (congrArg some (by kernel_rfl))
 f287 := Tryz.func184.trans (congrArg some (by kernel_rfl))
 f316 := Tryz.func197.trans (congrArg some (by kernel_rfl))
 f317 := Tryz.func136.trans (congrArg some (by kernel_rfl))
 f318 := Tryz.func138.trans (congrArg some (by kernel_rfl))
 f319 := Tryz.func139.trans (congrArg some (by kernel_rfl))
 f320 := Tryz.func140.trans (congrArg some (by kernel_rfl))
 f321 := Tryz.func195.trans (congrArg some (by kernel_rfl))
 f322 := Tryz.func196.trans (congrArg some (by kernel_rfl))
 f337 := Tryz.func175.trans (congrArg some (by kernel_rfl))
 f338 := Tryz.func176.trans (congrArg some (by kernel_rfl))
 t0 := Tryz.underlying0
 a0 := Tryz.isAgg0
 z0 := Tryz.sizeOf0
 v0 := Tryz.zeroValue0
 t2 := Tryz.underlying2
 a2 := Tryz.isAgg2
 z2 := Tryz.sizeOf2
 v2 := Tryz.zeroValue2
 t3 := Tryz.underlying3
 a3 := Tryz.isAgg3
 z3 := Tryz.sizeOf3
 v3 := Tryz.zeroValue3
 t4 := Tryz.underlying4
 a4 := Tryz.isAgg4
 z4 := Tryz.sizeOf4
 v4 := Tryz.zeroValue4
 t5 := Tryz.underlying5
 a5 := Tryz.isAgg5
 z5 := Tryz.sizeOf5
 v5 := Tryz.zeroValue5
 t9 := Tryz.underlying9
 a9 := Tryz.isAgg9
 z9 := Tryz.sizeOf9
 v9 := Tryz.zeroValue9
 t20 := Tryz.underlying20
 a20 := Tryz.isAgg20
 z20 := Tryz.sizeOf20
 v20 := Tryz.zeroValue20
 t21 := Tryz.underlying21
 a21 := Tryz.isAgg21
 z21 := Tryz.sizeOf21
 v21 := Tryz.zeroValue21
 t37 := Tryz.underlying48
 a37 := Tryz.isAgg48
 z37 := Tryz.sizeOf48
 v37 := Tryz.zeroValue48
 t46 := Tryz.underlying164
 a46 := Tryz.isAgg164
 z46 := Tryz.sizeOf164
 v46 := Tryz.zeroValue164
 t51 := Tryz.underlying187
 a51 := Tryz.isAgg187
 z51 := Tryz.sizeOf187
 v51 := Tryz.zeroValue187
 t53 := Tryz.underlying137
 a53 := Tryz.isAgg137
 z53 := Tryz.sizeOf137
 v53 := Tryz.zeroValue137
 t75 := Tryz.underlying29
 a75 := Tryz.isAgg29
 z75 := Tryz.sizeOf29
 v75 := Tryz.zeroValue29
 t85 := Tryz.underlying167
 a85 := Tryz.isAgg167
 z85 := Tryz.sizeOf167
 v85 := Tryz.zeroValue167
 t127 := Tryz.underlying180
 a127 := Tryz.isAgg180
 z127 := Tryz.sizeOf180
 v127 := Tryz.zeroValue180
 t143 := Tryz.underlying245
 a143 := Tryz.isAgg245
 z143 := Tryz.sizeOf245
 v143 := Tryz.zeroValue245
 t145 := Tryz.underlying247
 a145 := Tryz.isAgg247
 z145 := Tryz.sizeOf247
 v145 := Tryz.zeroValue247
 t167 := Tryz.underlying227
 a167 := Tryz.isAgg227
 z167 := Tryz.sizeOf227
 v167 := Tryz.zeroValue227
 t168 := Tryz.underlying230
 a168 := Tryz.isAgg230
 z168 := Tryz.sizeOf230
 v168 := Tryz.zeroValue230
 t171 := Tryz.underlying136
 a171 := Tryz.isAgg136
 z171 := Tryz.sizeOf136
 v171 := Tryz.zeroValue136
 t173 := Tryz.underlying140
 a173 := Tryz.isAgg140
 z173 := Tryz.sizeOf140
 v173 := Tryz.zeroValue140
 t175 := Tryz.underlying228
 a175 := Tryz.isAgg228
 z175 := Tryz.sizeOf228
 v175 := Tryz.zeroValue228
 t210 := Tryz.underlying241
 a210 := Tryz.isAgg241
 z210 := Tryz.sizeOf241
 v210 := Tryz.zeroValue241
 t212 := Tryz.underlying186
 a212 := Tryz.isAgg186
 z212 := Tryz.sizeOf186
 v212 := Tryz.zeroValue186
 t213 := Tryz.underlying188
 a213 := Tryz.isAgg188
 z213 := Tryz.sizeOf188
 t232 := Tryz.underlying235
 a232 := Tryz.isAgg235
 z232 := Tryz.sizeOf235
 v232 := Tryz.zeroValue235
 t233 := Tryz.underlying236
 a233 := Tryz.isAgg236
 z233 := Tryz.sizeOf236
 v233 := Tryz.zeroValue236
 g15 := by kernel_rfl
 g16 := by kernel_rfl
 g17 := by kernel_rfl
 g18 := by kernel_rfl
 g19 := by kernel_rfl
 t80 := Tryz.underlying132
 a80 := Tryz.isAgg132
 z80 := Tryz.sizeOf132
 v80 := Tryz.zeroValue132
 i0 := by kernel_rfl
 i2 := by kernel_rfl
 i3 := by kernel_rfl
 i4 := by kernel_rfl
 i5 := by kernel_rfl
 i9 := by kernel_rfl
 i20 := by kernel_rfl
 i21 := by kernel_rfl
 i37 := by kernel_rfl
 i46 := by kernel_rfl
 i51 := by kernel_rfl
 i53 := by kernel_rfl
 i75 := by kernel_rfl
 i80 := by kernel_rfl
 i85 := by kernel_rfl
 i127 := by kernel_rfl
 i143 := by kernel_rfl
 i145 := by kernel_rfl
 i167 := by kernel_rfl
 i168 := by kernel_rfl
 i171 := by kernel_rfl
 i173 := by kernel_rfl
 i175 := by kernel_rfl
 i210 := by kernel_rfl
 i212 := by kernel_rfl
 i232 := by kernel_rfl
 i233 := by kernel_rfl
 m15 := by kernel_rfl
 m16 := by kernel_rfl
 m17 := by kernel_rfl
 m18 := by kernel_rfl
 m19 := by kernel_rfl
 c0 := by kernel_rfl
 c2 := by kernel_rfl
 c3 := by kernel_rfl
 c4 := by kernel_rfl
 c5 := by kernel_rfl
 c9 := by kernel_rfl
 c20 := by kernel_rfl
 c21 := by kernel_rfl
 c37 := by kernel_rfl
 c46 := by kernel_rfl
 c51 := by kernel_rfl
 c53 := by kernel_rfl
 c75 := by kernel_rfl
 c80 := by kernel_rfl
 c85 := by kernel_rfl
 c127 := by kernel_rfl
 c143 := by kernel_rfl
 c145 := by kernel_rfl
 c167 := by kernel_rfl
 c168 := by kernel_rfl
 c171 := by kernel_rfl
 c173 := by kernel_rfl
 c175 := by kernel_rfl
 c210 := by kernel_rfl
 c212 := by kernel_rfl
 c213 := by kernel_rfl
 c232 := by kernel_rfl
 c233 := by kernel_rfl }
end Go.Proofs.YtpdeaekmgljeaaaGreatDoor
namespace Go.Proofs.YtpdeaekmgljeaaaGreatDoor
open Go Go.Abs Go.RowKit
theorem Inv.below {σ : Sg} {m : Gh} {w w' : World} (h : Go.Abs.Inv σ m w) (b : Below w.heap.size w w') : Go.Abs.Inv σ m w' ∧ Ext m w m w' := by
 have e : Ext m w m w' := by
  refine ⟨b.os, b.tape, b.output, b.size, fun _ _ h => .inl h, fun _ tk h => ⟨tk, h, rfl, Nat.le_refl _, fun _ => rfl⟩, fun c off f => ⟨cell?_of_heap (b.block c f.1), f.2⟩, fun c hc hn => ⟨b.block c hc, hn⟩⟩
 refine ⟨⟨h.lobj, h.ltok, h.nodup, fun o ob c ho hc => (h.ob o ob c ho hc).mono e (b.block c (h.lt_obj (Gh.mem_objb.2 (List.mem_of_getElem? hc)))), h.gone, fun tk htk => ?_, h.glob.mono e⟩, e⟩
 obtain ⟨h1, h2, h3, h4⟩ := h.tk tk htk
 refine ⟨h1, h2, h3, fun c hc => ?_⟩
 obtain ⟨us, ty, h5, h6⟩ := h4 c hc
 exact ⟨us, ty, (b.block c (Array.getElem?_eq_some_iff.1 h5).1).trans h5, h6⟩
def numV : Str → Nat → Nat
 | [], n => n
 | c :: r, n => numV r (n * 10 + (c.toNat - 48))
theorem numV_nil (n : Nat) : numV [] n = n := rfl
theorem numV_cons (c : UInt8) (r : Str) (n : Nat) : numV (c :: r) n = numV r (n * 10 + (c.toNat - 48)) := rfl
theorem numV_ge : ∀ (s : Str) (n : Nat), n ≤ numV s n
 | [], n => by rw [numV_nil]; exact Nat.le_refl _
 | c :: r, n => by
  have := numV_ge r (n * 10 + (c.toNat - 48))
  rw [numV_cons]
  omega
theorem pu_ok {M : Nat} (hM : M < 18446744073709551620) : ∀ (s : Str) (n : Nat), (∀ c ∈ s, digB c = true) → numV s n ≤ M → Lib.parseUintM M n s = .ok (numV s n)
 | [], n, _, _ => rfl
 | c :: r, n, h, hle => by
  have hc := h c (by simp)
  simp only [digB, Bool.and_eq_true, decide_eq_true_eq] at hc
  have hg := numV_ge r (n * 10 + (c.toNat - 48))
  rw [numV_cons] at hle ⊢
  have h1 : ¬ 1844674407370955162 ≤ n := by omega
  have h2 : ¬ M < n * 10 + (c.toNat - 48) := by omega
  rw [Lib.parseUintM, if_pos hc, if_neg h1, if_neg h2]
  exact pu_ok hM r _ (fun x hx => h x (by simp [hx])) hle
theorem pu_range {M : Nat} (hM : M < 18446744073709551620) : ∀ (s : Str) (n : Nat), (∀ c ∈ s, digB c = true) → n ≤ M → ¬ numV s n ≤ M → Lib.parseUintM M n s = .range
 | [], n, _, hn, hle => absurd hn hle
 | c :: r, n, h, hn, hle => by
  have hc := h c (by simp)
  simp only [digB, Bool.and_eq_true, decide_eq_true_eq] at hc
  rw [numV_cons] at hle
  rw [Lib.parseUintM, if_pos hc]
  by_cases h1 : 1844674407370955162 ≤ n
  ·rw [if_pos h1]
  ·rw [if_neg h1]
   by_cases h2 : M < n * 10 + (c.toNat - 48)
   ·rw [if_pos h2]
   ·rw [if_neg h2]
    exact pu_range hM r _ (fun x hx => h x (by simp [hx])) (by omega) hle
theorem pi_eq {s : Str} (h : ∀ c ∈ s, digB c = true) (hne : s ≠ []) : Lib.parseIntB 64 s = if numV s 0 ≤ 9223372036854775807 then .ok (numV s 0 : Nat) else .range := by
 cases s with
 | nil => exact absurd rfl hne
 | cons c r =>
  have hc := h c (by simp)
  simp only [digB, Bool.and_eq_true, decide_eq_true_eq] at hc
  have h43 : ¬ (c.toNat = 43 ∨ c.toNat = 45) := by omega
  have h45 : ¬ c.toNat = 45 := by omega
  have hM : (2 ^ 64 - 1 : Nat) < 18446744073709551620 := by decide
  simp only [Lib.parseIntB]
  rw [if_neg h43]
  unfold Lib.parseUintB
  rw [if_neg (by simp)]
  generalize hN : numV (c :: r) 0 = N
  by_cases h1 : N ≤ 2 ^ 64 - 1
  ·rw [pu_ok hM (c :: r) 0 h (by rw [hN]; exact h1), hN]
   dsimp only
   by_cases h2 : N ≤ 9223372036854775807
   ·rw [if_pos h2, if_neg (by omega), if_neg (by omega), if_neg h45]
   ·rw [if_neg h2, if_pos ⟨h45, by omega⟩]
  ·rw [pu_range hM (c :: r) 0 h (Nat.zero_le _) (by rw [hN]; exact h1), if_neg (by omega)]
theorem k_PInt {s : Str} {σ : Sg} (h : ∀ c ∈ s, digB c = true) (hne : s ≠ []) (hl : s.length ≤ 1048576) : ACalls Tryz.prog 122 [.v (.str s), .v (.int .i64 10), .v (.int .i64 64)] σ fun r σ' =>
  ((numV s 0 ≤ 9223372036854775807 → r = .tup [.v (.int .i64 (numV s 0 : Nat)), .v .inil]) ∧ (¬ numV s 0 ≤ 9223372036854775807 → ∃ v t, r = .tup [.v (.int .i64 v), .iface t .junk])) ∧ σ' = σ := by
 have hp := pi_eq h hne
 refine ⟨⟨_, Tryz.func122, by kernel_rfl, by kernel_rfl⟩, fun m w us hI hlen hr => ?_⟩
 match us, hlen with
 | [u1, u2, u3], _ =>
 have g1 := (hr 0 _ _ rfl rfl).v_inv
 have g2 := (hr 1 _ _ rfl rfl).v_inv
 have g3 := (hr 2 _ _ rfl rfl).v_inv
 cases g1 with
 | str _ _ =>
 cases g2 with
 | int _ _ _ =>
 cases g3 with
 | int _ _ _ =>
 by_cases hM : numV s 0 ≤ 9223372036854775807
 ·rw [if_pos hM] at hp
  refine (Go.Proofs.Any.strconv_ParseInt_10_at64_ok pintLays ⟨s.toArray⟩ (by simp [ByteArray.size]; omega) _ hp w).mono fun e w' ⟨he, hw⟩ => ?_
  have hB : Below w.heap.size w w' := by
   rcases hw with rfl | ⟨t, rfl⟩
   ·exact .refl _ _
   ·exact Lib.bytesWorld_below _ _ _
  obtain ⟨hI', hX⟩ := Inv.below hI hB
  refine ⟨_, _, σ, m, he, ⟨⟨fun _ => rfl, fun h => absurd hM h⟩, rfl⟩, hI', hX, .tup _ _ rfl fun i c u h1 h2 => ?_⟩
  match i with
  | 0 => cases h1; cases h2; exact .v _ _ (.int _ _ ⟨by show -9223372036854775808 ≤ ((numV s 0 : Nat) : Int); omega, by show ((numV s 0 : Nat) : Int) ≤ 9223372036854775807; omega⟩)
  | 1 => cases h1; cases h2; exact .v _ _ .inil
  | j + 2 => simp at h1
 ·rw [if_neg hM] at hp
  obtain ⟨⟨cs, ty, fr, hh, te, pe, rfl⟩, _⟩ := hI.glob (6, fun cs => ∃ te pe, cs = #[.iface te pe]) (by simp [globs])
  have hv : w.cell? ⟨6, 0, none⟩ = some (.iface te pe) := by rw [cell_of_row w 6 0 _ ty fr hh]; rfl
  refine (Go.Proofs.Any.strconv_ParseInt_10_at64_range pintLays ⟨s.toArray⟩ (by simp [ByteArray.size]; omega) hp _ w hv (.inr ⟨_, _, rfl⟩)).mono fun e w' ⟨N, he, hN, hN2, hB⟩ => ?_
  obtain ⟨hI', hX⟩ := Inv.below hI hB
  refine ⟨_, .tup [.v (.int .i64 (Lib.intSat 64 s)), .iface 230 .junk], σ, m, he, ⟨⟨fun h => absurd h hM, fun _ => ⟨_, _, rfl⟩⟩, rfl⟩, hI', hX, .tup _ _ rfl fun i c u h1 h2 => ?_⟩
  match i with
  | 0 =>
   cases h1; cases h2
   refine .v _ _ (.int _ _ ?_)
   unfold Lib.intSat
   split <;> decide
  | 1 => cases h1; cases h2; exact .iface _ _ _ (.junk _)
  | j + 2 => simp at h1
end Go.Proofs.YtpdeaekmgljeaaaGreatDoor
namespace Go.Proofs.YtpdeaekmgljeaaaGreatDoor
open Go Go.Abs
structure Tk where
 k : Int
 i : Nat
 n : Nat
 s : Str
def encK (t : Tk) : V := .agg [.int .i64 t.k, .int .i64 t.i, .int .i64 t.n, .str t.s]
inductive NR where
 | tok (t : Tk) (to : Nat)
 | bad (q : Nat)
def ldB (c : UInt8) : Bool := lowB c || digB c
def ludB (c : UInt8) : Bool := lowB c || (uppB c || digB c)
def nameN (b : Str) (i : Nat) (k : Int) (q : UInt8 → Bool) : NR := if 20 < (passS q b i).length then .bad i else .tok ⟨k, i, 0, passS q b i⟩ (spanE q b i)
def numN (b : Str) (i : Nat) (c : UInt8) : NR := if 9223372036854775807 < numV (passS digB b i) 0 ∨ (1 < (passS digB b i).length ∧ c.toNat = 48) then .bad i else .tok ⟨4, i, numV (passS digB b i) 0, []⟩ (spanE digB b i)
def textN (i : Nat) : TR → NR
 | .bad q => .bad q
 | .ok s to => if 2000 < s.length then .bad i else .tok ⟨5, i, 0, s⟩ to
def signN (i : Nat) (s : Str) : NR := if s = [] then .bad i else .tok ⟨6, i, 0, s⟩ (i + s.length)
def oneL (b : Str) (i : Nat) (c : UInt8) : NR :=
 if lowB c = true then nameN b i (if passS ldB b i ∈ wordsL then 2 else 1) ldB
 else if uppB c = true then nameN b i 3 ludB
 else if digB c = true then numN b i c
 else if c.toNat = 34 then textN i (textL (b.drop (i + 1)) (i + 1) [])
 else signN i (signF b i signsL)
@[reducible] def zTok : V := .agg [.int .i64 0, .int .i64 0, .int .i64 0, .str []]
def NextPost (σ : Sg) (p : Nat) (b : Str) (x : NR) (r : D) (σ' : Sg) : Prop := match x with
 | .tok t to => r = .tup [.v (encK t), .v .inil] ∧ σ' = ⟨σ.objs.set p (cut b to), σ.toks⟩
 | .bad q => ∃ o xs ts e, r = .tup [.v zTok, .iface 56 (.ptr (σ.objs.length + o) 0)] ∧ σ' = ⟨σ.objs.set p (cut b e) ++ xs, σ.toks ++ ts⟩ ∧ xs[o]? = some (spotO q 2)
theorem passS_len {q : UInt8 → Bool} {b : Str} {i : Nat} : (passS q b i).length ≤ b.length := by
 unfold passS
 have h1 : ((b.drop i).takeWhile q).length ≤ (b.drop i).length := (List.takeWhile_prefix q).length_le
 rw [List.length_drop] at h1
 omega
theorem passS_all {q : UInt8 → Bool} {b : Str} {i : Nat} : ∀ c ∈ passS q b i, q c = true := by
 unfold passS
 generalize b.drop i = l
 intro c hc
 induction l with
 | nil => simp at hc
 | cons x l ih =>
  cases hx : q x with
  | true =>
   rw [List.takeWhile_cons_of_pos hx] at hc
   rcases List.mem_cons.1 hc with rfl | hc
   ·exact hx
   ·exact ih hc
  | false => rw [List.takeWhile_cons_of_neg (by simp [hx])] at hc; cases hc
theorem passS_head {q : UInt8 → Bool} {b : Str} {i : Nat} {c : UInt8} (h : b[i]? = some c) (hq : q c = true) : ∃ r, passS q b i = c :: r := by
 unfold passS
 rw [drop_cons h, List.takeWhile_cons_of_pos hq]
 exact ⟨_, rfl⟩
set_option maxHeartbeats 1000000 in
theorem k_Next {b : Str} {i p : Nat} {c : UInt8} {σ : Sg} (hp : σ.objs[p]? = some (cut b i)) (hc : b[i]? = some c) (hb : b.length ≤ 1048576) : ACalls Tryz.prog 82 [.ptr p 0] σ (NextPost σ p b (oneL b i c)) := by
 have hi : i < b.length := (List.getElem?_eq_some_iff.1 hc).1
 have hpl := (List.getElem?_eq_some_iff.1 hp).1
 have gp : ∀ r, (σ.objs ++ r)[p]? = some (cut b i) := fun r => by rw [List.getElem?_append_left hpl]; exact hp
 have cs := fun σ => k_SpotAt (i := i) (c := 2) (σ := σ)
 have cl := fun σ => k_Lower (c := c) (σ := σ)
 have cu := fun σ => k_Upper (c := c) (σ := σ)
 have cd := fun σ => k_Digit (c := c) (σ := σ)
 have p1 := fun r tk => k_Pass (fd := .v (.fn 116)) (q := ldB) (b := b) (i := i) (p := p) (σ := ⟨σ.objs ++ r, tk⟩) (gp r) (by omega) hb (fun c τ => by rw [WCall_fn]; exact k_Next1) (fun n k => trivial)
 have p2 := fun r tk => k_Pass (fd := .v (.fn 121)) (q := ludB) (b := b) (i := i) (p := p) (σ := ⟨σ.objs ++ r, tk⟩) (gp r) (by omega) hb (fun c τ => by rw [WCall_fn]; exact k_Next2) (fun n k => trivial)
 have p3 := fun r tk => k_Pass (fd := .v (.fn 117)) (q := digB) (b := b) (i := i) (p := p) (σ := ⟨σ.objs ++ r, tk⟩) (gp r) (by omega) hb (fun c τ => by rw [WCall_fn]; exact k_Digit) (fun n k => trivial)
 have hsa : ∀ r C, (σ.objs ++ r).set p C = σ.objs.set p C ++ r := fun r C => List.set_append_left _ _ hpl
 simp only [hsa] at p1 p2 p3
 unfold vB at cl cu cd
 obtain ⟨X, hX⟩ : ∃ X, X = oneL b i c := ⟨_, rfl⟩
 rw [← hX]
 unfold oneL at hX
 refine acalls_fit Tryz.func82 (by kernel_rfl) c82 rfl (by simp [a82]) fun hf => ?_
 clear hf
 simp -implicitDefEqProofs (disch := omega) [-getElem?_pos, a82, gp, hp]
 refine (cs _).mono fun r σ' hr => ?_
 obtain ⟨rfl, rfl⟩ := hr
 simp -implicitDefEqProofs (disch := omega) [-getElem?_pos, gp, hi]
 intro c' hc'
 rw [hc] at hc'
 cases hc'
 refine (cl _).then fun r hr => ?_
 subst hr
 cases hlo : lowB c with
 | true =>
  rw [if_pos hlo] at hX
  simp -implicitDefEqProofs (disch := omega) [-getElem?_pos]
  refine (p1 _ _).mono fun r σ' hr => ?_
  obtain ⟨rfl, rfl⟩ := hr
  simp -implicitDefEqProofs (disch := omega) [-getElem?_pos, hpl]
  refine k_Words.then fun r hr => ?_
  subst hr
  simp -implicitDefEqProofs (disch := omega) [-getElem?_pos, hpl]
  refine k_ContainsStr.then fun r hr => ?_
  subst hr
  have hl := passS_len (q := ldB) (b := b) (i := i)
  by_cases hw : passS ldB b i ∈ wordsL
  ·rw [if_pos hw] at hX
   simp -implicitDefEqProofs (disch := omega) [-getElem?_pos, hpl, hw]
   refine .mk (fun h20 => ?_) fun h20 => ?_
   ·rw [show X = NR.bad i from by rw [hX, nameN, if_pos (by omega)]]
    simp -implicitDefEqProofs (disch := omega) [-getElem?_pos, hpl]
    exact ⟨_, _, WeakR.refl _ _ _, 2, _, [], _, rfl, by simp; rfl, rfl⟩
   ·rw [show X = NR.tok ⟨2, i, 0, passS ldB b i⟩ (spanE ldB b i) from by rw [hX, nameN, if_neg (by omega)]]
    simp -implicitDefEqProofs (disch := omega) [-getElem?_pos, hpl]
    exact .finS _ ⟨σ.objs.set p (cut b (spanE ldB b i)), σ.toks⟩ ⟨rfl, rfl⟩ (.refl _) (low_set (by simp [cut])) (by simp [encK]) (by simp) (by simp) (by simp) (by simp)
  ·rw [if_neg hw] at hX
   simp -implicitDefEqProofs (disch := omega) [-getElem?_pos, hpl, hw]
   refine .mk (fun h20 => ?_) fun h20 => ?_
   ·rw [show X = NR.bad i from by rw [hX, nameN, if_pos (by omega)]]
    simp -implicitDefEqProofs (disch := omega) [-getElem?_pos, hpl]
    exact ⟨_, _, WeakR.refl _ _ _, 2, _, [], _, rfl, by simp; rfl, rfl⟩
   ·rw [show X = NR.tok ⟨1, i, 0, passS ldB b i⟩ (spanE ldB b i) from by rw [hX, nameN, if_neg (by omega)]]
    simp -implicitDefEqProofs (disch := omega) [-getElem?_pos, hpl]
    exact .finS _ ⟨σ.objs.set p (cut b (spanE ldB b i)), σ.toks⟩ ⟨rfl, rfl⟩ (.refl _) (low_set (by simp [cut])) (by simp [encK]) (by simp) (by simp) (by simp) (by simp)
 | false =>
  rw [if_neg (by simp [hlo])] at hX
  simp -implicitDefEqProofs (disch := omega) [-getElem?_pos]
  refine (cu _).then fun r hr => ?_
  subst hr
  cases hup : uppB c with
  | true =>
   rw [if_pos hup] at hX
   simp -implicitDefEqProofs (disch := omega) [-getElem?_pos]
   refine (p2 _ _).mono fun r σ' hr => ?_
   obtain ⟨rfl, rfl⟩ := hr
   simp -implicitDefEqProofs (disch := omega) [-getElem?_pos, hpl]
   have hl := passS_len (q := ludB) (b := b) (i := i)
   refine .mk (fun h20 => ?_) fun h20 => ?_
   ·rw [show X = NR.bad i from by rw [hX, nameN, if_pos (by omega)]]
    simp -implicitDefEqProofs (disch := omega) [-getElem?_pos, hpl]
    exact ⟨_, _, WeakR.refl _ _ _, 2, _, [], _, rfl, by simp; rfl, rfl⟩
   ·rw [show X = NR.tok ⟨3, i, 0, passS ludB b i⟩ (spanE ludB b i) from by rw [hX, nameN, if_neg (by omega)]]
    simp -implicitDefEqProofs (disch := omega) [-getElem?_pos, hpl]
    exact .finS _ ⟨σ.objs.set p (cut b (spanE ludB b i)), σ.toks⟩ ⟨rfl, rfl⟩ (.refl _) (low_set (by simp [cut])) (by simp [encK]) (by simp) (by simp) (by simp) (by simp)
  | false =>
   rw [if_neg (by simp [hup])] at hX
   simp -implicitDefEqProofs (disch := omega) [-getElem?_pos]
   refine (cd _).then fun r hr => ?_
   subst hr
   cases hdi : digB c with
   | true =>
    rw [if_pos hdi] at hX
    simp -implicitDefEqProofs (disch := omega) [-getElem?_pos]
    refine (p3 _ _).mono fun r σ' hr => ?_
    obtain ⟨rfl, rfl⟩ := hr
    simp -implicitDefEqProofs (disch := omega) [-getElem?_pos, hpl]
    have hl := passS_len (q := digB) (b := b) (i := i)
    obtain ⟨rr, hrr⟩ := passS_head hc hdi
    refine (k_PInt (passS_all) (by rw [hrr]; simp) (by omega)).then fun r hr => ?_
    obtain ⟨hr1, hr2⟩ := hr
    by_cases hM : numV (passS digB b i) 0 ≤ 9223372036854775807
    ·obtain rfl := hr1 hM
     have hz : (passS digB b i)[0]? = some c := by rw [hrr]; rfl
     simp -implicitDefEqProofs (disch := omega) [-getElem?_pos, hpl]
     refine .mk (fun h1 => ?_) fun h1 => ?_
     ·simp -implicitDefEqProofs (disch := omega) [-getElem?_pos, hpl, hz]
      refine ⟨by omega, ?_⟩
      refine .mk (fun h48 => ?_) fun h48 => ?_
      ·rw [show X = NR.bad i from by rw [hX, numN, if_pos (.inr ⟨by omega, by omega⟩)]]
       simp -implicitDefEqProofs (disch := omega) [-getElem?_pos, hpl]
       exact ⟨_, _, WeakR.refl _ _ _, 2, _, [], _, rfl, by simp; rfl, rfl⟩
      ·rw [show X = NR.tok ⟨4, i, numV (passS digB b i) 0, []⟩ (spanE digB b i) from by rw [hX, numN, if_neg (by omega)]]
       simp -implicitDefEqProofs (disch := omega) [-getElem?_pos, hpl]
       exact .finS _ ⟨σ.objs.set p (cut b (spanE digB b i)), σ.toks⟩ ⟨rfl, rfl⟩ (.refl _) (low_set (by simp [cut])) (by simp [encK]) (by simp) (by simp) (by simp) (by simp)
     ·rw [show X = NR.tok ⟨4, i, numV (passS digB b i) 0, []⟩ (spanE digB b i) from by rw [hX, numN, if_neg (by omega)]]
      simp -implicitDefEqProofs (disch := omega) [-getElem?_pos, hpl]
      exact .finS _ ⟨σ.objs.set p (cut b (spanE digB b i)), σ.toks⟩ ⟨rfl, rfl⟩ (.refl _) (low_set (by simp [cut])) (by simp [encK]) (by simp) (by simp) (by simp) (by simp)
    ·obtain ⟨v, t, rfl⟩ := hr2 hM
     rw [show X = NR.bad i from by rw [hX, numN, if_pos (.inl (by omega))]]
     simp -implicitDefEqProofs (disch := omega) [-getElem?_pos, hpl]
     exact ⟨_, _, WeakR.refl _ _ _, 2, _, [], _, rfl, by simp; rfl, rfl⟩
   | false =>
    rw [if_neg (by simp [hdi])] at hX
    simp -implicitDefEqProofs (disch := omega) [-getElem?_pos]
    refine .mk (fun h34 => ?_) fun h34 => ?_
    ·rw [if_pos (by omega)] at hX
     simp -implicitDefEqProofs (disch := omega) [-getElem?_pos, gp, hpl, hsa]
     refine (k_Text (b := b) (i := i + 1) (p := p) (by dsimp only; exact get_app_set hpl) (by omega) hb).mono fun r σ' hr => ?_
     cases ht : textL (b.drop (i + 1)) (i + 1) [] with
     | ok st to =>
      rw [ht] at hX hr
      obtain ⟨rfl, rfl⟩ := hr
      simp -implicitDefEqProofs (disch := omega) [-getElem?_pos, hpl]
      refine .mk (fun h2 => ?_) fun h2 => ?_
      ·rw [show X = NR.bad i from by rw [hX, textN, if_pos (by omega)]]
       simp -implicitDefEqProofs (disch := omega) [-getElem?_pos, hpl]
       exact ⟨_, _, WeakR.refl _ _ _, 2, _, [], _, rfl, by simp; rfl, rfl⟩
      ·rw [show X = NR.tok ⟨5, i, 0, st⟩ (to) from by rw [hX, textN, if_neg (by omega)]]
       simp -implicitDefEqProofs (disch := omega) [-getElem?_pos, hpl]
       exact .finS _ ⟨σ.objs.set p (cut b (to)), σ.toks⟩ ⟨rfl, rfl⟩ (.refl _) (low_set (by simp [cut])) (by simp [encK]) (by simp) (by simp) (by simp) (by simp)
     | bad q =>
      rw [ht] at hX hr
      obtain ⟨rfl, rfl⟩ := hr
      rw [show X = NR.bad q from hX]
      simp -implicitDefEqProofs (disch := omega) [-getElem?_pos, hpl]
      exact ⟨_, _, WeakR.refl _ _ _, 3, _, [], _, rfl, by simp; rfl, rfl⟩
    ·rw [if_neg (by omega)] at hX
     simp -implicitDefEqProofs (disch := omega) [-getElem?_pos, gp, hpl, hsa]
     have cg := fun r tk => k_Sign (b := b) (i := i) (p := p) (σ := ⟨σ.objs ++ r, tk⟩) (gp r) (by omega) hb
     simp only [hsa] at cg
     refine (cg _ _).mono fun r σ' hr => ?_
     obtain ⟨rfl, rfl⟩ := hr
     generalize signF b i signsL = sg at *
     simp -implicitDefEqProofs (disch := omega) [-getElem?_pos, hpl]
     refine .mk (fun hsg => ?_) fun hsg => ?_
     ·rw [show X = NR.bad i from by rw [hX, signN, if_pos hsg]]
      simp -implicitDefEqProofs (disch := omega) [-getElem?_pos, hpl]
      exact ⟨_, _, WeakR.refl _ _ _, 2, _, [], _, rfl, by simp; rfl, rfl⟩
     ·rw [show X = NR.tok ⟨6, i, 0, sg⟩ (i + sg.length) from by rw [hX, signN, if_neg hsg]]
      simp -implicitDefEqProofs (disch := omega) [-getElem?_pos, hpl]
      exact .finS _ ⟨σ.objs.set p (cut b (i + sg.length)), σ.toks⟩ ⟨rfl, rfl⟩ (.refl _) (low_set (by simp [cut])) (by simp [encK]) (by simp) (by simp) (by simp) (by simp)
@[reducible] def wFn : Str := [102, 110]
@[reducible] def wLet : Str := [108, 101, 116]
@[reducible] def wRec : Str := [114, 101, 99]
@[reducible] def wIn : Str := [105, 110]
@[reducible] def wMatch : Str := [109, 97, 116, 99, 104]
@[reducible] def wWith : Str := [119, 105, 116, 104]
@[reducible] def wEnd : Str := [101, 110, 100]
@[reducible] def wIf : Str := [105, 102]
@[reducible] def wThen : Str := [116, 104, 101, 110]
@[reducible] def wElse : Str := [101, 108, 115, 101]
@[reducible] def wRef : Str := [114, 101, 102]
@[reducible] def wPrint : Str := [112, 114, 105, 110, 116]
@[reducible] def wShow : Str := [115, 104, 111, 119]
@[reducible] def wRead : Str := [114, 101, 97, 100]
@[reducible] def sArr : Str := [45, 62]
@[reducible] def sSet : Str := [58, 61]
structure PSt where
 i : Nat
 bad : Option Int
structure RE where
 e : Ex
 st : PSt
structure RS where
 s : Str
 st : PSt
structure Itm where
 p : Int
 key : Str
 own : Str
 e : Ex
abbrev PF := PSt → RE
structure PC where
 L : List Tk
 E : Nat
 srt : List Itm → List Itm
def zTk : Tk := ⟨0, 0, 0, []⟩
def zEx : Ex := .mk 0 0 0 [] [] [] [] []
def atE : Ex → Int
 | .mk _ p _ _ _ _ _ _ => p
def advP (st : PSt) : PSt := ⟨st.i + 1, st.bad⟩
def failP (q : Int) (st : PSt) : PSt := ⟨st.i, some (st.bad.getD q)⟩
def placeP (C : PC) (st : PSt) : Int := match C.L[st.i]? with
 | some t => t.i
 | none => C.E
def ahd (C : PC) (st : PSt) (n : Nat) : Tk := if st.bad.isSome = true then zTk else (C.L[st.i + n]?).getD zTk
def seesT (t : Tk) (s : Str) : Bool := (decide (t.k = 2) || decide (t.k = 6)) && decide (t.s = s)
def sees (C : PC) (st : PSt) (n : Nat) (s : Str) : Bool := seesT (ahd C st n) s
def mustP (C : PC) (s : Str) (st : PSt) : PSt := if sees C st 0 s = true then advP st else failP (placeP C st) st
def textP (C : PC) (k : Int) (st : PSt) : RS := if (ahd C st 0).k = k then ⟨(ahd C st 0).s, advP st⟩ else ⟨[], failP (placeP C st) st⟩
def opP (C : PC) (ops : List Str) (st : PSt) : Option Str := ops.find? fun s => sees C st 0 s
def opE (s : Str) (a b : Ex) : Ex := .mk 16 (atE a) 0 s [] [] [] [a, b]
def rowL (C : PC) (part : PF) (ops : List Str) : Nat → Ex → PSt → RE
 | 0, a, st => ⟨a, st⟩
 | f + 1, a, st => match opP C ops st with
  | none => ⟨a, st⟩
  | some s => rowL C part ops f (opE s a (part (advP st)).e) (part (advP st)).st
def rowP (C : PC) (part : PF) (ops : List Str) (st : PSt) : RE := rowL C part ops (C.L.length + 1) (part st).e (part st).st
def postL (C : PC) : Nat → Ex → PSt → RE
 | 0, a, st => ⟨a, st⟩
 | f + 1, a, st =>
  if sees C st 0 [92] = true then postL C f (.mk 11 (atE a) 0 (textP C 1 (advP st)).s [] [] [] [a]) (textP C 1 (advP st)).st
  else if sees C st 0 [46] = true then postL C f (.mk 9 (atE a) 0 (textP C 1 (advP st)).s [] [] [] [a]) (textP C 1 (advP st)).st
  else ⟨a, st⟩
def postP (C : PC) (prim : PF) (st : PSt) : RE := postL C (C.L.length + 1) (prim st).e (prim st).st
def headP (t : Tk) : Option Int := if t.k = 3 then some 13
 else if t.k = 2 ∨ t.k = 6 then (if t.s = wRef then some 17 else if t.s = wPrint then some 20 else if t.s = wShow then some 21 else if t.s = [33] then some 18 else none)
 else none
def preP (C : PC) (prim : PF) (st : PSt) : RE := match headP (ahd C st 0) with
 | some k => ⟨.mk k (placeP C st) 0 (if k = 13 then (ahd C st 0).s else []) [] [] [] [(postP C prim (advP st)).e], (postP C prim (advP st)).st⟩
 | none => postP C prim st
def atomB (C : PC) (st : PSt) : Bool := decide ((ahd C st 0).k = 1) || (decide ((ahd C st 0).k = 4) || (decide ((ahd C st 0).k = 5) || (sees C st 0 wRead || (sees C st 0 [40] || sees C st 0 [123]))))
def appL (C : PC) (prim : PF) : Nat → Ex → PSt → RE
 | 0, a, st => ⟨a, st⟩
 | f + 1, a, st => if atomB C st = true then appL C prim f (.mk 5 (atE a) 0 [] [] [] [] [a, (postP C prim st).e]) (postP C prim st).st else ⟨a, st⟩
def appP (C : PC) (prim : PF) (st : PSt) : RE := appL C prim (C.L.length + 1) (preP C prim st).e (preP C prim st).st
def mulP (C : PC) (prim : PF) (st : PSt) : RE := rowP C (appP C prim) [[42], [47], [35]] st
def sumP (C : PC) (prim : PF) (st : PSt) : RE := rowP C (mulP C prim) [[43], [45], [94]] st
def cmpP (C : PC) (prim : PF) (st : PSt) : RE := match opP C [[60], [61, 61]] (sumP C prim st).st with
 | none => sumP C prim st
 | some s => ⟨opE s (sumP C prim st).e (sumP C prim (advP (sumP C prim st).st)).e, (sumP C prim (advP (sumP C prim st).st)).st⟩
def setP (C : PC) (prim : PF) : Nat → PSt → RE
 | 0, st => ⟨zEx, st⟩
 | f + 1, st => if sees C (cmpP C prim st).st 0 sSet = true then
   ⟨.mk 19 (atE (cmpP C prim st).e) 0 [] [] [] [] [(cmpP C prim st).e, (setP C prim f (advP (cmpP C prim st).st)).e], (setP C prim f (advP (cmpP C prim st).st)).st⟩
  else cmpP C prim st
def let2P (C : PC) (pe : PF) (k p : Int) (s t : Str) (st : PSt) : RE :=
 ⟨.mk k p 0 s t [] [] [(pe (mustP C [61] st)).e, (pe (mustP C wIn (pe (mustP C [61] st)).st)).e], (pe (mustP C wIn (pe (mustP C [61] st)).st)).st⟩
def letP (C : PC) (pe : PF) (p : Int) (st : PSt) : RE := if sees C st 0 wRec = true then
  let2P C pe 7 p (textP C 1 (advP st)).s (textP C 1 (textP C 1 (advP st)).st).s (textP C 1 (textP C 1 (advP st)).st).st
 else let2P C pe 6 p (textP C 1 st).s [] (textP C 1 st).st
def ifP (C : PC) (pe : PF) (p : Int) (st : PSt) : RE :=
 let a := pe st
 let b := pe (mustP C wThen a.st)
 let c := pe (mustP C wElse b.st)
 ⟨.mk 15 p 0 [] [] [] [] [a.e, b.e, c.e], c.st⟩
structure ArmS where
 l : List Itm
 t : Str
 last : List Ex
 st : PSt
 first : Bool
def hasKey (l : List Itm) (s : Str) : Bool := l.any fun y => decide (y.key = s)
def armF (C : PC) (pe : PF) (a : ArmS) : ArmS :=
 let s1 := mustP C [124] a.st
 if (ahd C s1 0).k = 1 then
  let b := pe (mustP C sArr (textP C 1 s1).st)
  ⟨a.l, (textP C 1 s1).s, [b.e], b.st, false⟩
 else
  let r := textP C 3 s1
  let o := textP C 1 (if hasKey a.l r.s = true then failP (placeP C s1) r.st else r.st)
  let b := pe (mustP C sArr o.st)
  ⟨a.l ++ [⟨placeP C s1, r.s, o.s, b.e⟩], a.t, a.last, b.st, false⟩
def armsL (C : PC) (pe : PF) : Nat → ArmS → ArmS
 | 0, a => a
 | f + 1, a => if a.st.bad = none ∧ a.t = [] ∧ (a.first = true ∨ sees C a.st 0 [124] = true) then armsL C pe f (armF C pe a) else a
def matchP (C : PC) (pe : PF) (p : Int) (st : PSt) : RE :=
 let f := pe st
 let a := armsL C pe (C.L.length + 1) ⟨[], [], [], mustP C wWith f.st, true⟩
 ⟨.mk 14 p 0 [] a.t ((C.srt a.l).map (·.key)) ((C.srt a.l).map (·.own)) (f.e :: ((C.srt a.l).map (·.e) ++ a.last)), mustP C wEnd a.st⟩
def exprF (C : PC) (pe prim : PF) (st : PSt) : RE :=
 if sees C st 0 wFn = true then
  let r := textP C 1 (advP st)
  let a := pe (mustP C sArr r.st)
  ⟨.mk 4 (placeP C st) 0 r.s [] [] [] [a.e], a.st⟩
 else if sees C st 0 wLet = true then letP C pe (placeP C st) (advP st)
 else if sees C st 0 wIf = true then ifP C pe (placeP C st) (advP st)
 else if sees C st 0 wMatch = true then matchP C pe (placeP C st) (advP st)
 else setP C prim (C.L.length + 1) st
structure FldS where
 l : List Itm
 st : PSt
inductive FR where
 | ext (p : Int) (s : Str) (a b : Ex) (st : PSt)
 | all (l : List Itm) (st : PSt)
def fldsL (C : PC) (pe : PF) : Nat → FldS → FR
 | 0, a => .all a.l a.st
 | f + 1, a =>
  let r := textP C 1 a.st
  let x := pe (mustP C [61] (if hasKey a.l r.s = true then failP (placeP C a.st) r.st else r.st))
  if a.l = [] ∧ sees C x.st 0 [124] = true then
   let rest := pe (advP x.st)
   .ext (placeP C a.st) r.s x.e rest.e rest.st
  else if x.st.bad = none ∧ sees C x.st 0 [44] = true then fldsL C pe f ⟨a.l ++ [⟨placeP C a.st, r.s, [], x.e⟩], advP x.st⟩
  else .all (a.l ++ [⟨placeP C a.st, r.s, [], x.e⟩]) x.st
def bracesP (C : PC) (pe prim : PF) (p : Int) (st : PSt) : RE :=
 if sees C st 0 [125] = true then ⟨.mk 8 p 0 [] [] [] [] [], advP st⟩
 else if (ahd C st 0).k ≠ 1 ∨ sees C st 1 [61] = false then
  let f := postP C prim st
  let r := textP C 1 (mustP C wWith f.st)
  let a := pe (mustP C [61] r.st)
  ⟨.mk 12 p 0 r.s [] [] [] [a.e, f.e], mustP C [125] a.st⟩
 else match fldsL C pe (C.L.length + 1) ⟨[], st⟩ with
  | .ext q s a b st' => ⟨.mk 10 p 0 s [] [] [] [a, b], mustP C [125] st'⟩
  | .all l st' => ⟨.mk 8 p 0 [] [] ((C.srt l).map (·.key)) [] ((C.srt l).map (·.e)), mustP C [125] st'⟩
def primF (C : PC) (pe prim : PF) (st : PSt) : RE :=
 let t := ahd C st 0
 if t.k = 4 then ⟨.mk 1 (placeP C st) t.n [] [] [] [] [], advP st⟩
 else if t.k = 5 then ⟨.mk 2 (placeP C st) 0 t.s [] [] [] [], advP st⟩
 else if t.k = 1 then ⟨.mk 3 (placeP C st) 0 t.s [] [] [] [], advP st⟩
 else if sees C st 0 wRead = true then ⟨.mk 22 (placeP C st) 0 [] [] [] [] [], advP st⟩
 else if sees C st 0 [40] = true then ⟨(pe (advP st)).e, mustP C [41] (pe (advP st)).st⟩
 else if sees C st 0 [123] = true then bracesP C pe prim (placeP C st) (advP st)
 else ⟨.mk 0 (placeP C st) 0 [] [] [] [] [], failP (placeP C st) st⟩
structure PP where
 e : PF
 r : PF
def pP (C : PC) : Nat → PP
 | 0 => ⟨fun st => ⟨zEx, failP 0 st⟩, fun st => ⟨zEx, failP 0 st⟩⟩
 | n + 1 => ⟨exprF C (pP C n).e (primF C (pP C n).e (pP C n).r), primF C (pP C n).e (pP C n).r⟩
def progP (C : PC) : Option Ex :=
 let r := (pP C (2 * C.L.length + 2)).e ⟨0, none⟩
 if r.st.bad.isSome = true ∨ r.st.i < C.L.length then none else some r.e
mutual
def nds : Ex → Nat
 | .mk _ _ _ _ _ _ _ l => 1 + ndsL l
def ndsL : List Ex → Nat
 | [] => 0
 | x :: l => nds x + ndsL l
end
theorem ndsL_get {l : List Ex} {i : Nat} {x : Ex} (h : l[i]? = some x) : ndsL (l.take (i + 1)) = ndsL (l.take i) + nds x := by
 induction l generalizing i with
 | nil => simp at h
 | cons y l ih =>
  cases i with
  | zero => simp at h; subst h; simp [ndsL]
  | succ i => have := ih (by simpa using h); simp only [List.take_succ_cons, ndsL] at *; omega
theorem ndsL_take (l : List Ex) (i : Nat) : ndsL (l.take i) ≤ ndsL l := by
 induction l generalizing i with
 | nil => simp
 | cons y l ih =>
  cases i with
  | zero => simp [ndsL]
  | succ i => have := ih i; simp only [List.take_succ_cons, ndsL]; omega
theorem nds_le (e : Ex) : nds e ≤ csz e := by
 refine Ex.ind (P := fun e => nds e ≤ csz e) (fun k p n s t ls ns l ih => ?_) e
 have hl : ndsL l ≤ cszL l := by
  clear e
  induction l with
  | nil => simp [ndsL]
  | cons x l ih2 => have h1 := ih x (by simp); have h2 := ih2 fun y hy => ih y (by simp [hy]); simp only [ndsL, cszL]; omega
 simp only [nds, csz]
 omega
theorem k_Nodes (e : Ex) : ∀ {σ : Sg}, csz e ≤ 1048576 → ACalls Tryz.prog 26 [.v (encE e)] σ fun r σ' => r = .v (.int .i64 (nds e)) ∧ σ' = σ := by
 refine Ex.ind (P := fun e => ∀ {σ : Sg}, csz e ≤ 1048576 → ACalls Tryz.prog 26 [.v (encE e)] σ fun r σ' => r = .v (.int .i64 (nds e)) ∧ σ' = σ) (fun k p n s t ls ns l ih => ?_) e
 intro σ he
 have hn := nds_le (.mk k p n s t ls ns l)
 simp only [csz, nds] at he hn ⊢
 rw [encE_mk]
 refine acalls_fit Tryz.func26 (by kernel_rfl) c26 rfl (by simp [a26]) fun hf => ?_
 clear hf
 simp -implicitDefEqProofs (disch := omega) [-getElem?_pos, a26]
 refine W_loop (α := Nat) 0 (fun i => l.length - i) (fun i => ⟨[(1, .ptr σ.objs.length 0), (3, .v (.int .i64 (1 + ndsL (l.take i) : Nat))), (7, .v (.sl (some 8) false (l.map encE))), (8, .v (.int .i64 l.length)), (9, .v (.int .i64 i))], ⟨σ.objs ++ [obE (.mk k p n s t ls ns l)], σ.toks⟩⟩)
  (fun i => i ≤ l.length) (.eq2 (by simp [obE_mk]) (by simp [ndsL])) (by omega) fun i hi => ?_
 have hnt := ndsL_take l i
 simp -implicitDefEqProofs (disch := omega) [-getElem?_pos]
 refine .mk (fun h => ?_) fun h => ?_
 ·simp -implicitDefEqProofs (disch := omega) [-getElem?_pos]
  refine ⟨by omega, ?_⟩
  intro x hx
  have hx1 := cszL_mem (List.mem_of_getElem? hx)
  have hx2 := ndsL_get hx
  have hx3 := ndsL_take l (i + 1)
  have hcall := fun σ => ih x (List.mem_of_getElem? hx) (σ := σ) (by omega)
  have hll := cszL_len l
  cases x with
  | mk k2 p2 n2 s2 t2 ls2 ns2 l2 =>
  rw [encE_mk] at hcall ⊢
  simp -implicitDefEqProofs (disch := omega) [-getElem?_pos]
  refine (hcall _).then fun r hr => ?_
  subst hr
  generalize Ex.mk k2 p2 n2 s2 t2 ls2 ns2 l2 = x at *
  simp -implicitDefEqProofs (disch := omega) [-getElem?_pos]
  refine ⟨i + 1, by omega, by dsimp only; omega, .dropX (ys := [obE (.mk k p n s t ls ns l)]) (xs := [_]) rfl rfl (by simp) (by simp [obE_mk]) (by simp [hx2]; omega) (by simp)⟩
 ·rw [List.take_of_length_le (by omega)]
  simp -implicitDefEqProofs (disch := omega) [-getElem?_pos]
  exact .fin _ ⟨by simp, rfl⟩ (.refl _)
mutual
def dep : Ex → Nat
 | .mk _ _ _ _ _ _ _ l => depL l + 1
def depL : List Ex → Nat
 | [] => 0
 | x :: l => max (dep x) (depL l)
end
theorem depL_get {l : List Ex} {i : Nat} {x : Ex} (h : l[i]? = some x) : depL (l.take (i + 1)) = max (depL (l.take i)) (dep x) := by
 induction l generalizing i with
 | nil => simp at h
 | cons y l ih =>
  cases i with
  | zero => simp at h; subst h; simp [depL]
  | succ i => have := ih (by simpa using h); simp only [List.take_succ_cons, depL] at *; omega
theorem dep_le (e : Ex) : dep e ≤ csz e := by
 refine Ex.ind (P := fun e => dep e ≤ csz e) (fun k p n s t ls ns l ih => ?_) e
 have hl : depL l ≤ cszL l := by
  clear e
  induction l with
  | nil => simp [depL]
  | cons x l ih2 => have h1 := ih x (by simp); have h2 := ih2 fun y hy => ih y (by simp [hy]); simp only [depL, cszL]; omega
 simp only [dep, csz]
 omega
theorem depL_take (l : List Ex) (i : Nat) : depL (l.take i) ≤ depL l := by
 induction l generalizing i with
 | nil => simp
 | cons y l ih =>
  cases i with
  | zero => simp [depL]
  | succ i => have := ih i; simp only [List.take_succ_cons, depL]; omega
theorem k_Depth (e : Ex) : ∀ {σ : Sg}, csz e ≤ 1048576 → ACalls Tryz.prog 25 [.v (encE e)] σ fun r σ' => r = .v (.int .i64 (dep e)) ∧ σ' = σ := by
 refine Ex.ind (P := fun e => ∀ {σ : Sg}, csz e ≤ 1048576 → ACalls Tryz.prog 25 [.v (encE e)] σ fun r σ' => r = .v (.int .i64 (dep e)) ∧ σ' = σ) (fun k p n s t ls ns l ih => ?_) e
 intro σ he
 have hn := dep_le (.mk k p n s t ls ns l)
 simp only [csz, dep] at he hn ⊢
 rw [encE_mk]
 refine acalls_fit Tryz.func25 (by kernel_rfl) c25 rfl (by simp [a25]) fun hf => ?_
 clear hf
 simp -implicitDefEqProofs (disch := omega) [-getElem?_pos, a25]
 refine W_loop (α := Nat) 0 (fun i => l.length - i) (fun i => ⟨[(1, .ptr σ.objs.length 0), (3, .v (.int .i64 (depL (l.take i) : Nat))), (7, .v (.sl (some 8) false (l.map encE))), (8, .v (.int .i64 l.length)), (9, .v (.int .i64 i))], ⟨σ.objs ++ [obE (.mk k p n s t ls ns l)], σ.toks⟩⟩)
  (fun i => i ≤ l.length) (.eq2 (by simp [obE_mk]) (by simp [depL])) (by omega) fun i hi => ?_
 have hnt := depL_take l i
 simp -implicitDefEqProofs (disch := omega) [-getElem?_pos]
 refine .mk (fun h => ?_) fun h => ?_
 ·simp -implicitDefEqProofs (disch := omega) [-getElem?_pos]
  refine ⟨by omega, ?_⟩
  intro x hx
  have hx1 := cszL_mem (List.mem_of_getElem? hx)
  have hx2 := depL_get hx
  have hx3 := depL_take l (i + 1)
  have hcall := fun σ => ih x (List.mem_of_getElem? hx) (σ := σ) (by omega)
  have hll := cszL_len l
  cases x with
  | mk k2 p2 n2 s2 t2 ls2 ns2 l2 =>
  rw [encE_mk] at hcall ⊢
  simp -implicitDefEqProofs (disch := omega) [-getElem?_pos]
  refine (hcall _).then fun r hr => ?_
  subst hr
  generalize Ex.mk k2 p2 n2 s2 t2 ls2 ns2 l2 = x at *
  simp -implicitDefEqProofs (disch := omega) [-getElem?_pos]
  refine ⟨i + 1, by omega, by dsimp only; omega, .dropX (ys := [obE (.mk k p n s t ls ns l)]) (xs := [_]) rfl rfl (by simp) (by simp [obE_mk]) (by simp [hx2]; omega) (by simp)⟩
 ·rw [List.take_of_length_le (by omega)]
  simp -implicitDefEqProofs (disch := omega) [-getElem?_pos]
  exact .fin _ ⟨by simp, rfl⟩ (.refl _)
theorem span_lt {q : UInt8 → Bool} {b : Str} {i : Nat} {c : UInt8} (h : b[i]? = some c) (hq : q c = true) : i < spanE q b i ∧ spanE q b i ≤ b.length := by
 have hl := (List.getElem?_eq_some_iff.1 h).1
 have h1 := spanE_ge q b (i + 1)
 have h2 := spanE_le (q := q) (b := b) (i := i) (by omega)
 rw [← spanE_hit h hq] at h1
 omega
theorem textL_to : ∀ (n : Nat) (r : Str) (k : Nat) (out s : Str) (to : Nat), r.length ≤ n → textL r k out = .ok s to → k < to ∧ to ≤ k + r.length
 | n, [], k, out, s, to, _, h => by simp [textL] at h
 | 0, c :: r, k, out, s, to, hn, h => by simp at hn
 | n + 1, c :: r, k, out, s, to, hn, h => by
  simp only [List.length_cons] at hn
  by_cases h34 : c.toNat = 34
  ·rw [textL_q h34] at h
   cases h
   simp
  ·cases hp : plaB c with
   | false => rw [textL_odd h34 hp] at h; cases h
   | true =>
    by_cases h92 : c.toNat = 92
    ·cases r with
     | nil => rw [textL_esc0 h92 hp] at h; cases h
     | cons d r =>
      simp only [List.length_cons] at hn
      by_cases h110 : d.toNat = 110
      ·rw [textL_escn h92 hp h110] at h
       have := textL_to n r _ _ _ _ (by omega) h
       simp only [List.length_cons]
       omega
      ·by_cases hd : d.toNat = 34 ∨ d.toNat = 92
       ·rw [textL_escd h92 hp h110 hd] at h
        have := textL_to n r _ _ _ _ (by omega) h
        simp only [List.length_cons]
        omega
       ·rw [textL_esco h92 hp h110 (fun h => hd (.inl h)) (fun h => hd (.inr h))] at h
        cases h
    ·rw [textL_plain h34 hp h92] at h
     have := textL_to n r _ _ _ _ (by omega) h
     simp only [List.length_cons]
     omega
theorem sign_le {b : Str} {i : Nat} {l : List Str} (hi : i < b.length) (h : signF b i l ≠ []) : i + (signF b i l).length ≤ b.length := by
 unfold signF at h ⊢
 cases hf : l.find? fun s => decide (((b.drop i).take 2).take s.length = s) with
 | none => rw [hf] at h; simp at h
 | some s =>
  have := List.find?_some hf
  simp only [decide_eq_true_eq] at this
  have hl := congrArg List.length this
  simp only [List.length_take, List.length_drop] at hl
  simp only [Option.getD_some]
  omega
theorem oneL_to {b : Str} {i : Nat} {c : UInt8} {t : Tk} {to : Nat} (hc : b[i]? = some c) (h : oneL b i c = .tok t to) : i < to ∧ to ≤ b.length := by
 have hl := (List.getElem?_eq_some_iff.1 hc).1
 unfold oneL at h
 split at h
 ·rename_i hlo
  unfold nameN at h
  split at h
  ·cases h
  ·cases h; exact span_lt hc (by simp [ldB, hlo])
 ·split at h
  ·rename_i hup
   unfold nameN at h
   split at h
   ·cases h
   ·cases h; exact span_lt hc (by simp [ludB, hup])
  ·split at h
   ·rename_i hdi
    unfold numN at h
    split at h
    ·cases h
    ·cases h; exact span_lt hc hdi
   ·split at h
    ·cases ht : textL (b.drop (i + 1)) (i + 1) [] with
     | bad q => rw [ht] at h; cases h
     | ok s e =>
      rw [ht] at h
      have h1 := textL_to _ _ _ _ _ _ (Nat.le_refl _) ht
      unfold textN at h
      split at h
      ·cases h
      ·rename_i heq
       split at h
       ·cases h
       ·cases h
        cases heq
        rw [List.length_drop] at h1
        omega
    ·unfold signN at h
     split at h
     ·cases h
     ·rename_i hne
      cases h
      have := sign_le hl hne
      have h0 : (signF b i signsL).length ≠ 0 := fun h => hne (List.length_eq_zero_iff.1 h)
      omega
inductive CR where
 | ok (l : List Tk)
 | bad (q : Nat)
 | great
def cutF : Nat → Str → Nat → List Tk → CR
 | 0, _, _, _ => .great
 | f + 1, b, i, acc => match b[spanE blaB b i]? with
  | none => .ok acc
  | some c => match oneL b (spanE blaB b i) c with
   | .tok t to => cutF f b to (acc ++ [t])
   | .bad q => .bad q
def cutL (b : Str) : CR := if 4000 < b.length then .great else cutF (b.length + 1) b 0 []
def CutPost (σ : Sg) (x : CR) (r : D) (σ' : Sg) : Prop := match x with
 | .ok l => r = .tup [.v (.sl (some 4) false (l.map encK)), .v .inil] ∧ σ' = σ
 | .bad q => ∃ o xs ts, r = .tup [.v .snil, .iface 56 (.ptr (σ.objs.length + o) 0)] ∧ σ' = ⟨σ.objs ++ xs, σ.toks ++ ts⟩ ∧ xs[o]? = some (spotO q 2)
 | .great => r = .tup [.v .snil, .v (.iface 32 (.int .i64 6))] ∧ σ' = σ
structure CSt where
 i : Nat
 acc : List Tk
structure CIn (b : Str) (x : CSt) : Prop where
 hi : x.i ≤ b.length
 ha : x.acc.length ≤ x.i
 he : ∃ f, b.length - x.i < f ∧ cutF (b.length + 1) b 0 [] = cutF f b x.i x.acc
theorem k_Cut {b : Str} {σ : Sg} (hb : b.length ≤ 1048576) : ACalls Tryz.prog 51 [.v (vBs b)] σ (CutPost σ (cutL b)) := by
 unfold cutL
 refine acalls_fit Tryz.func51 (by kernel_rfl) c51 rfl (by simp [a51]) fun hf => ?_
 clear hf
 simp -implicitDefEqProofs (disch := omega) [-getElem?_pos, a51]
 refine .mk (fun h => ?_) fun h => ?_
 ·rw [if_pos (by omega)]
  simp -implicitDefEqProofs (disch := omega) [-getElem?_pos]
  exact .fin _ ⟨rfl, rfl⟩ (.refl _)
 rw [if_neg (by omega)]
 simp -implicitDefEqProofs (disch := omega) [-getElem?_pos]
 refine W_loop (α := CSt) ⟨0, []⟩ (fun x => b.length - x.i) (fun x => ⟨[(0, .v (vBs b)), (4, .ptr σ.objs.length 0), (5, .tsl σ.toks.length (some 4) (x.acc.map encK))], ⟨σ.objs ++ [cut b x.i], σ.toks ++ [x.acc.length]⟩⟩)
  (fun x => CIn b x) (.trans (b := ⟨[(0, .v (vBs b)), (4, .ptr σ.objs.length 0), (5, .tsl σ.toks.length (some 4) [])], _⟩) (.tok (i := 5) (sh := some 4) (by simp) (by simp)) (.eq2 rfl (by simp))) ⟨Nat.zero_le _, by simp, _, by omega, rfl⟩ fun ⟨i, acc⟩ ⟨hi, ha, f, hf, he⟩ => ?_
 dsimp only at hi ha hf he ⊢
 rw [he]
 obtain ⟨f, rfl⟩ : ∃ f', f = f' + 1 := ⟨f - 1, by omega⟩
 have hpg := k_Pass (fd := .v (.fn 81)) (q := blaB) (b := b) (i := i) (p := σ.objs.length) (σ := ⟨σ.objs ++ [cut b i], σ.toks ++ [acc.length]⟩) (by simp) hi hb (fun c τ => by rw [WCall_fn]; exact k_Blank) (fun n k => trivial)
 have hj := spanE_le (q := blaB) hi
 have hij := spanE_ge blaB b i
 rw [cutF]
 obtain ⟨j, hjd⟩ : ∃ j, spanE blaB b i = j := ⟨_, rfl⟩
 rw [hjd] at hpg hj hij ⊢
 simp -implicitDefEqProofs (disch := omega) [-getElem?_pos]
 refine hpg.mono fun r σ' hr => ?_
 obtain ⟨rfl, rfl⟩ := hr
 simp -implicitDefEqProofs (disch := omega) [-getElem?_pos]
 refine .mk (fun h => ?_) fun h => ?_
 ·have hn : b[j]? = none := by rw [List.getElem?_eq_none_iff]; omega
  rw [hn]
  simp -implicitDefEqProofs (disch := omega) [-getElem?_pos, hn]
  exact .fin _ ⟨rfl, rfl⟩ (.tup2 .tsl (.refl _))
 ·obtain ⟨c, hc⟩ : ∃ c, b[j]? = some c := ⟨b[j]'(by omega), List.getElem?_eq_getElem _⟩
  rw [hc]
  dsimp only
  simp -implicitDefEqProofs (disch := omega) [-getElem?_pos]
  refine (k_Next (b := b) (i := j) (p := σ.objs.length) (c := c) (σ := ⟨σ.objs ++ [cut b j], σ.toks ++ [acc.length]⟩) (by simp) hc hb).mono fun r σ' hr => ?_
  cases hx : oneL b j c with
  | tok t to =>
   rw [hx] at hr
   obtain ⟨rfl, rfl⟩ := hr
   have ht := oneL_to hc hx
   dsimp only
   have he' : cutF (b.length + 1) b 0 [] = cutF f b to (acc ++ [t]) := by
    rw [he, cutF, hjd, hc]
    dsimp only
    rw [hx]
   simp -implicitDefEqProofs (disch := omega) [-getElem?_pos, encK]
   refine ⟨by omega, ⟨to, acc ++ [t]⟩, ⟨ht.2, by simp; omega, f, by dsimp only; omega, he'⟩, by dsimp only; omega, .dropX (ys := [cut b to]) rfl (by simp) (by simp) (by simp [cut]) (by simp [encK]) (by simp)⟩
  | bad q =>
   rw [hx] at hr
   obtain ⟨o, xs, ts, e, rfl, rfl, hxs⟩ := hr
   dsimp only
   simp -implicitDefEqProofs (disch := omega) [-getElem?_pos]
   refine ⟨_, _, WeakR.refl _ _ _, 1 + o, cut b e :: (xs ++ [.cells [.v (.int .i64 0), .v (.int .i64 0), .v (.int .i64 0), .v (.str [])]]), acc.length :: ts, by rw [Nat.add_assoc], rfl, ?_⟩
   have hl : o < xs.length := (List.getElem?_eq_some_iff.1 hxs).1
   rw [Nat.add_comm, List.getElem?_cons_succ, List.getElem?_append_left hl]
   exact hxs
def qB (c : UInt8) : Option Str := if c.toNat = 10 then some [92, 110] else if plaB c = false then none else if c.toNat = 34 ∨ c.toNat = 92 then some [92, c] else some [c]
def qL : Str → Str → Option Str
 | [], out => some (out ++ [34])
 | c :: r, out => match qB c with
  | none => none
  | some s => qL r (out ++ s)
structure QSt where
 k : Nat
 out : Str
structure QIn (b : Str) (x : QSt) : Prop where
 hk : x.k ≤ b.length
 ho : x.out.length ≤ 1 + 2 * x.k
 he : qL b [34] = qL (b.drop x.k) x.out
def quoteE (t : Str) : Option Str := if 2000 < t.length then none else qL t [34]
def QPost (x : Option Str) (r : D) : Prop := match x with
 | some s => r = .tup [.v (.str s), .v .inil]
 | none => r = .tup [.v (.str []), .v (.iface 32 (.int .i64 1))]
theorem qL_step {b : Str} {k : Nat} {c : UInt8} {out : Str} (h : b[k]? = some c) : qL (b.drop k) out = match qB c with | none => none | some s => qL (b.drop (k + 1)) (out ++ s) := by
 rw [drop_cons h]
 rfl
@[simp] theorem qb1_0 {Q : XE → St → Prop} {st : St} : QBlk 1 Q (.exit 0) st = Q (.exit 0) st := QBlk_exit (by decide)
@[simp] theorem qb1_2 {Q : XE → St → Prop} {st : St} : QBlk 1 Q (.exit 2) st = Q (.exit 2) st := QBlk_exit (by decide)
@[simp] theorem qb1_3 {Q : XE → St → Prop} {st : St} : QBlk 1 Q (.exit 3) st = Q (.exit 3) st := QBlk_exit (by decide)
@[simp] theorem qb1_4 {Q : XE → St → Prop} {st : St} : QBlk 1 Q (.exit 4) st = Q (.exit 4) st := QBlk_exit (by decide)
@[simp] theorem qb1_5 {Q : XE → St → Prop} {st : St} : QBlk 1 Q (.exit 5) st = Q (.exit 5) st := QBlk_exit (by decide)
@[simp] theorem qb1_6 {Q : XE → St → Prop} {st : St} : QBlk 1 Q (.exit 6) st = Q (.exit 6) st := QBlk_exit (by decide)
@[simp] theorem qb2_0 {Q : XE → St → Prop} {st : St} : QBlk 2 Q (.exit 0) st = Q (.exit 0) st := QBlk_exit (by decide)
@[simp] theorem qb2_1 {Q : XE → St → Prop} {st : St} : QBlk 2 Q (.exit 1) st = Q (.exit 1) st := QBlk_exit (by decide)
@[simp] theorem qb2_3 {Q : XE → St → Prop} {st : St} : QBlk 2 Q (.exit 3) st = Q (.exit 3) st := QBlk_exit (by decide)
@[simp] theorem qb2_4 {Q : XE → St → Prop} {st : St} : QBlk 2 Q (.exit 4) st = Q (.exit 4) st := QBlk_exit (by decide)
@[simp] theorem qb2_5 {Q : XE → St → Prop} {st : St} : QBlk 2 Q (.exit 5) st = Q (.exit 5) st := QBlk_exit (by decide)
@[simp] theorem qb2_6 {Q : XE → St → Prop} {st : St} : QBlk 2 Q (.exit 6) st = Q (.exit 6) st := QBlk_exit (by decide)
@[simp] theorem qb3_0 {Q : XE → St → Prop} {st : St} : QBlk 3 Q (.exit 0) st = Q (.exit 0) st := QBlk_exit (by decide)
@[simp] theorem qb3_1 {Q : XE → St → Prop} {st : St} : QBlk 3 Q (.exit 1) st = Q (.exit 1) st := QBlk_exit (by decide)
@[simp] theorem qb3_2 {Q : XE → St → Prop} {st : St} : QBlk 3 Q (.exit 2) st = Q (.exit 2) st := QBlk_exit (by decide)
@[simp] theorem qb3_4 {Q : XE → St → Prop} {st : St} : QBlk 3 Q (.exit 4) st = Q (.exit 4) st := QBlk_exit (by decide)
@[simp] theorem qb3_5 {Q : XE → St → Prop} {st : St} : QBlk 3 Q (.exit 5) st = Q (.exit 5) st := QBlk_exit (by decide)
@[simp] theorem qb3_6 {Q : XE → St → Prop} {st : St} : QBlk 3 Q (.exit 6) st = Q (.exit 6) st := QBlk_exit (by decide)
@[simp] theorem qb4_0 {Q : XE → St → Prop} {st : St} : QBlk 4 Q (.exit 0) st = Q (.exit 0) st := QBlk_exit (by decide)
@[simp] theorem qb4_1 {Q : XE → St → Prop} {st : St} : QBlk 4 Q (.exit 1) st = Q (.exit 1) st := QBlk_exit (by decide)
@[simp] theorem qb4_2 {Q : XE → St → Prop} {st : St} : QBlk 4 Q (.exit 2) st = Q (.exit 2) st := QBlk_exit (by decide)
@[simp] theorem qb4_3 {Q : XE → St → Prop} {st : St} : QBlk 4 Q (.exit 3) st = Q (.exit 3) st := QBlk_exit (by decide)
@[simp] theorem qb4_5 {Q : XE → St → Prop} {st : St} : QBlk 4 Q (.exit 5) st = Q (.exit 5) st := QBlk_exit (by decide)
@[simp] theorem qb4_6 {Q : XE → St → Prop} {st : St} : QBlk 4 Q (.exit 6) st = Q (.exit 6) st := QBlk_exit (by decide)
@[simp] theorem qb5_0 {Q : XE → St → Prop} {st : St} : QBlk 5 Q (.exit 0) st = Q (.exit 0) st := QBlk_exit (by decide)
@[simp] theorem qb5_1 {Q : XE → St → Prop} {st : St} : QBlk 5 Q (.exit 1) st = Q (.exit 1) st := QBlk_exit (by decide)
@[simp] theorem qb5_2 {Q : XE → St → Prop} {st : St} : QBlk 5 Q (.exit 2) st = Q (.exit 2) st := QBlk_exit (by decide)
@[simp] theorem qb5_3 {Q : XE → St → Prop} {st : St} : QBlk 5 Q (.exit 3) st = Q (.exit 3) st := QBlk_exit (by decide)
@[simp] theorem qb5_4 {Q : XE → St → Prop} {st : St} : QBlk 5 Q (.exit 4) st = Q (.exit 4) st := QBlk_exit (by decide)
@[simp] theorem qb5_6 {Q : XE → St → Prop} {st : St} : QBlk 5 Q (.exit 6) st = Q (.exit 6) st := QBlk_exit (by decide)
@[simp] theorem qb6_0 {Q : XE → St → Prop} {st : St} : QBlk 6 Q (.exit 0) st = Q (.exit 0) st := QBlk_exit (by decide)
@[simp] theorem qb6_1 {Q : XE → St → Prop} {st : St} : QBlk 6 Q (.exit 1) st = Q (.exit 1) st := QBlk_exit (by decide)
@[simp] theorem qb6_2 {Q : XE → St → Prop} {st : St} : QBlk 6 Q (.exit 2) st = Q (.exit 2) st := QBlk_exit (by decide)
@[simp] theorem qb6_3 {Q : XE → St → Prop} {st : St} : QBlk 6 Q (.exit 3) st = Q (.exit 3) st := QBlk_exit (by decide)
@[simp] theorem qb6_4 {Q : XE → St → Prop} {st : St} : QBlk 6 Q (.exit 4) st = Q (.exit 4) st := QBlk_exit (by decide)
@[simp] theorem qb6_5 {Q : XE → St → Prop} {st : St} : QBlk 6 Q (.exit 5) st = Q (.exit 5) st := QBlk_exit (by decide)
theorem k_Quote {b : Str} {σ : Sg} (hb : b.length ≤ 1048576) : ACalls Tryz.prog 55 [.v (.str b)] σ fun r σ' => QPost (quoteE b) r ∧ σ' = σ := by
 unfold quoteE
 refine acalls_fit Tryz.func55 (by kernel_rfl) c55 rfl (by simp [a55]) fun hf => ?_
 clear hf
 simp -implicitDefEqProofs (disch := omega) [-getElem?_pos, a55]
 refine .mk (fun h => ?_) fun h => ?_
 ·rw [if_pos (by omega)]
  simp -implicitDefEqProofs (disch := omega) [-getElem?_pos]
  exact .fin _ ⟨rfl, rfl⟩ (.refl _)
 rw [if_neg (by omega)]
 simp -implicitDefEqProofs (disch := omega) [-getElem?_pos]
 refine ⟨by omega, ?_⟩
 refine W_loop (α := QSt) ⟨0, [34]⟩ (fun x => b.length - x.k) (fun x => ⟨[(4, .tsl σ.toks.length none (bytesV x.out)), (13, .v (vBs b)), (14, .v (.int .i64 b.length)), (15, .v (.int .i64 x.k))], ⟨σ.objs, σ.toks ++ [x.out.length]⟩⟩)
  (fun x => QIn b x) (.tokF (i := 4) (sh := none) (xs := bytesV [34]) (by simp) (by rfl) (by decide)) ⟨Nat.zero_le _, by simp, rfl⟩ fun ⟨k, out⟩ ⟨hk, ho, he⟩ => ?_
 dsimp only at hk ho he ⊢
 have lo : (bytesV out).length = out.length := by simp [bytesV]
 have bA : bytesV out ++ [V.int .u8 92, V.int .u8 110] = bytesV (out ++ [92, 110]) := by simp [bytesV]
 have bB : ∀ c : UInt8, bytesV out ++ [V.int .u8 92, V.int .u8 c.toNat] = bytesV (out ++ [92, c]) := fun c => by simp [bytesV]
 have bC : bytesV out ++ [V.int .u8 34] = bytesV (out ++ [34]) := by simp [bytesV]
 have cp := fun c σ => k_Plain (c := c) (σ := σ)
 unfold vB at cp
 simp -implicitDefEqProofs (disch := omega) [-getElem?_pos]
 refine .mk (fun h => ?_) fun h => ?_
 ·obtain ⟨c, hc⟩ : ∃ c, b[k]? = some c := ⟨b[k]'(by omega), List.getElem?_eq_getElem _⟩
  rw [qL_step hc] at he
  simp -implicitDefEqProofs (disch := omega) [-getElem?_pos]
  refine ⟨by omega, fun c' hc' => ?_⟩
  rw [hc] at hc'
  cases hc'
  refine .mk (fun h10 => ?_) fun h10 => ?_
  ·rw [qB, if_pos (by omega)] at he
   simp -implicitDefEqProofs (disch := omega) [-getElem?_pos]
   exact ⟨by omega, ⟨k + 1, out ++ [92, 110]⟩, ⟨by show k + 1 ≤ b.length; omega, by simp; omega, he⟩, by show b.length - (k + 1) < b.length - k; omega, .eq2 (by simp) (by simp [bA])⟩
  ·simp -implicitDefEqProofs (disch := omega) [-getElem?_pos]
   refine (cp _ _).then fun r hr => ?_
   subst hr
   cases hpc : plaB c with
   | false =>
    rw [qB, if_neg (by omega), if_pos hpc] at he
    rw [he]
    simp -implicitDefEqProofs (disch := omega) [-getElem?_pos]
    exact .fin _ ⟨rfl, rfl⟩ (.refl _)
   | true =>
    simp -implicitDefEqProofs (disch := omega) [-getElem?_pos]
    refine .mk (fun h34 => ?_) fun h34 => ?_
    ·skip
     rw [qB, if_neg (by omega), if_neg (by simp [hpc]), if_pos (by omega)] at he
     simp -implicitDefEqProofs (disch := omega) [-getElem?_pos]
     exact ⟨by omega, by omega, ⟨k + 1, out ++ [92, c]⟩, ⟨by show k + 1 ≤ b.length; omega, by simp; omega, he⟩, by show b.length - (k + 1) < b.length - k; omega, .eq2 (by simp) (by simp [bB])⟩
    ·simp -implicitDefEqProofs (disch := omega) [-getElem?_pos]
     refine .mk (fun h92 => ?_) fun h92 => ?_
     ·skip
      rw [qB, if_neg (by omega), if_neg (by simp [hpc]), if_pos (by omega)] at he
      simp -implicitDefEqProofs (disch := omega) [-getElem?_pos]
      exact ⟨by omega, by omega, ⟨k + 1, out ++ [92, c]⟩, ⟨by show k + 1 ≤ b.length; omega, by simp; omega, he⟩, by show b.length - (k + 1) < b.length - k; omega, .eq2 (by simp) (by simp [bB])⟩
     ·rw [qB, if_neg (by omega), if_neg (by simp [hpc]), if_neg (by omega)] at he
      simp -implicitDefEqProofs (disch := omega) [-getElem?_pos]
      exact ⟨by omega, ⟨k + 1, out ++ [c]⟩, ⟨by show k + 1 ≤ b.length; omega, by simp; omega, he⟩, by show b.length - (k + 1) < b.length - k; omega, .eq2 (by simp) (by simp [bytesV])⟩
 ·rw [List.drop_eq_nil_of_le (by omega)] at he
  have he2 : qL b [34] = some (out ++ [34]) := he
  rw [he2]
  simp -implicitDefEqProofs (disch := omega) [-getElem?_pos, bC]
  exact ⟨by omega, .fin _ ⟨rfl, rfl⟩ (.refl _)⟩
set_option maxHeartbeats 1000000
structure FT where
 p : Int
 nm : Bool
 lb : Bool
 tg : Bool
 op : Bool
def encF (f : FT) : D := .v (.agg [.int .i64 f.p, .bool f.nm, .bool f.lb, .bool f.tg, .bool f.op])
def formsT : List (Int × FT) := [(1, ⟨0, false, false, false, false⟩), (2, ⟨0, false, false, false, false⟩), (3, ⟨0, true, false, false, false⟩), (22, ⟨0, false, false, false, false⟩), (4, ⟨1, true, false, false, false⟩), (5, ⟨2, false, false, false, false⟩), (6, ⟨2, true, false, false, false⟩), (7, ⟨2, true, false, false, false⟩), (9, ⟨1, false, true, false, false⟩), (10, ⟨2, false, true, false, false⟩), (11, ⟨1, false, true, false, false⟩), (12, ⟨2, false, true, false, false⟩), (13, ⟨1, false, false, true, false⟩), (15, ⟨3, false, false, false, false⟩), (16, ⟨2, false, false, false, true⟩), (17, ⟨1, false, false, false, false⟩), (18, ⟨1, false, false, false, false⟩), (19, ⟨2, false, false, false, false⟩), (20, ⟨1, false, false, false, false⟩), (21, ⟨1, false, false, false, false⟩)]
def formsE : List (V × D) := formsT.map fun q => (.int .i64 q.1, encF q.2)
def formT (k : Int) : Option FT := formsT.lookup k
theorem find_form (k : Int) : mfind (.int .i64 k) formsE = (formT k).map encF := by
 unfold formsE formT
 generalize formsT = l
 induction l with
 | nil => rfl
 | cons q l ih =>
  obtain ⟨a, f⟩ := q
  rw [List.map_cons, mfind, List.lookup_cons, ih]
  by_cases h : k = a
  ·subst h; simp [keq]
  ·have hb : (k == a) = false := by simp [h]
   simp [keq, h, hb]
theorem forms_ok : keysOk (.int .i64) formsE = true := by rfl
theorem k_Forms {σ : Sg} : ACalls Tryz.prog 142 [] σ fun r σ' => r = .map σ.objs.length ∧ σ' = ⟨σ.objs ++ [.map formsE], σ.toks⟩ := by
 refine acalls_fit Tryz.func142 (by kernel_rfl) c142 rfl (by simp [a142]) fun hf => ?_
 clear hf
 simp -implicitDefEqProofs (disch := omega) [-getElem?_pos, a142]
 exact ⟨_, _, WeakR.refl _ _ _, rfl, rfl⟩
def partsN (k labels : Int) (other : Bool) : Int := if k = 8 then labels else if k = 14 then labels + (if other = true then 1 else 0) + 1 else match formT k with
 | none => -1
 | some f => f.p
theorem k_Parts {k labels : Int} {o : Bool} {σ : Sg} (hl : 0 ≤ labels) (hl2 : labels ≤ 2000000) : ACalls Tryz.prog 106 [.v (.int .i64 k), .v (.int .i64 labels), .v (.bool o)] σ fun r σ' => r = .v (.int .i64 (partsN k labels o)) ∧ σ' = σ := by
 have kf := fun σ => k_Forms (σ := σ)
 refine acalls_fit Tryz.func106 (by kernel_rfl) c106 rfl (by simp [a106]) fun hf => ?_
 clear hf
 by_cases h8 : k = 8
 ·subst h8
  simp -implicitDefEqProofs (disch := omega) [-getElem?_pos, a106]
  exact .fin _ ⟨rfl, rfl⟩ (.refl _)
 by_cases h14 : k = 14
 ·subst h14
  cases o with
  | true =>
   simp -implicitDefEqProofs (disch := omega) [-getElem?_pos, a106]
   exact .fin _ ⟨rfl, rfl⟩ (.refl _)
  | false =>
   simp -implicitDefEqProofs (disch := omega) [-getElem?_pos, a106]
   exact .fin _ ⟨by simp [partsN], rfl⟩ (.refl _)
 simp -implicitDefEqProofs (disch := omega) [-getElem?_pos, a106, h8, h14]
 refine (kf _).mono fun r σ' hr => ?_
 obtain ⟨rfl, rfl⟩ := hr
 cases hk : formT k with
 | none =>
  simp -implicitDefEqProofs (disch := omega) [-getElem?_pos, find_form, forms_ok, hk]
  exact .fin _ ⟨by simp [partsN, h8, h14, hk], rfl⟩ (.refl _)
 | some f =>
  simp -implicitDefEqProofs (disch := omega) [-getElem?_pos, find_form, forms_ok, hk, encF]
  exact .fin _ ⟨by simp [partsN, h8, h14, hk], rfl⟩ (.refl _)
theorem beq_sd {a b : Str} : (a == b) = decide (a = b) := by cases h : decide (a = b) <;> simp at h <;> simp [h]
def isL (s : Str) (k : Int) : Bool := if 20 < s.length then false else match cutL s with
 | .ok [t] => decide (t.k = k) && decide (t.s = s)
 | _ => false
theorem k_Is {s : Str} {k : Int} {σ : Sg} (hs : s.length ≤ 1048576) : ACalls Tryz.prog 110 [.v (.str s), .v (.int .i64 k)] σ fun r σ' => r = .v (.bool (isL s k)) ∧ σ' = σ := by
 have kc := k_Cut (b := s) (σ := σ) hs
 refine acalls_fit Tryz.func110 (by kernel_rfl) c110 rfl (by simp [a110]) fun hf => ?_
 clear hf
 simp -implicitDefEqProofs (disch := omega) [-getElem?_pos, a110]
 refine .mk (fun h => ?_) fun h => ?_
 ·simp -implicitDefEqProofs (disch := omega) [-getElem?_pos]
  exact .fin _ ⟨by rw [isL, if_pos (by omega)], rfl⟩ (.refl _)
 have hI : isL s k = match cutL s with
  | .ok [t] => decide (t.k = k) && decide (t.s = s)
  | _ => false := by rw [isL, if_neg (by omega)]
 simp -implicitDefEqProofs (disch := omega) [-getElem?_pos]
 refine ⟨by omega, ?_⟩
 cases hx : cutL s with
 | ok l =>
  rw [hx] at kc hI
  refine (show ACalls Tryz.prog 51 [.v (vBs s)] σ fun r σ' => r = .tup [.v (.sl (some 4) false (l.map encK)), .v .inil] ∧ σ' = σ from kc).then fun r hr => ?_
  subst hr
  match l with
  | [] =>
   simp -implicitDefEqProofs (disch := omega) [-getElem?_pos]
   exact .fin _ ⟨by rw [hI], rfl⟩ (.refl _)
  | [t] =>
   simp -implicitDefEqProofs (disch := omega) [-getElem?_pos, encK]
   refine .mk (fun hq => ?_) fun hq => ?_
   ·simp -implicitDefEqProofs (disch := omega) [-getElem?_pos]
    exact .fin _ ⟨by rw [hI]; simp [hq, beq_sd], rfl⟩ (.refl _)
   ·simp -implicitDefEqProofs (disch := omega) [-getElem?_pos]
    exact .fin _ ⟨by rw [hI]; simp [hq], rfl⟩ (.refl _)
  | t :: t2 :: l =>
   simp -implicitDefEqProofs (disch := omega) [-getElem?_pos]
   refine .mk (fun hq => absurd hq (by omega)) fun hq => ?_
   simp -implicitDefEqProofs (disch := omega) [-getElem?_pos]
   exact .fin _ ⟨by rw [hI], rfl⟩ (.refl _)
 | bad q =>
  rw [hx] at kc hI
  refine kc.mono fun r σ' hr => ?_
  obtain ⟨o, xs, ts, rfl, rfl, hxs⟩ := hr
  simp -implicitDefEqProofs (disch := omega) [-getElem?_pos]
  exact .fin _ ⟨by rw [hI], rfl⟩ (.refl _)
 | great =>
  rw [hx] at kc hI
  refine (show ACalls Tryz.prog 51 [.v (vBs s)] σ fun r σ' => r = .tup [.v .snil, .v (.iface 32 (.int .i64 6))] ∧ σ' = σ from kc).then fun r hr => ?_
  subst hr
  simp -implicitDefEqProofs (disch := omega) [-getElem?_pos]
  exact .fin _ ⟨by rw [hI], rfl⟩ (.refl _)
theorem k_All1 {s : Str} {k : Int} {o : Nat} {σ : Sg} (hs : s.length ≤ 1048576) (ho : σ.objs[o]? = some (.cells [.v (.int .i64 k)])) : ACalls Tryz.prog 144 [.v (.str s), .ptr o 0] σ fun r σ' => r = .v (.bool (!isL s k)) ∧ σ' = σ := by
 refine acalls_fit Tryz.func144 (by kernel_rfl) c144 rfl (by simp [a144]) fun hf => ?_
 clear hf
 simp -implicitDefEqProofs (disch := omega) [-getElem?_pos, a144, ho]
 refine (k_Is hs).then fun r hr => ?_
 subst hr
 simp -implicitDefEqProofs (disch := omega) [-getElem?_pos]
 exact .fin _ ⟨by simp, rfl⟩ (.refl _)
theorem k_IndexFuncStr {xs : List V} {f : Bool} {fd : D} {p : V → Bool} {σ : Sg} (hp : ∀ x ∈ xs, WCall Tryz.prog fd [.v x] σ fun r σ' => r = .v (.bool (p x)) ∧ σ' = σ) :
  ACalls Tryz.prog 177 [.v (.sl none f xs), fd] σ fun r σ' => r = .v (.int .i64 ((xs.findIdx? p).elim (-1) fun i => (i : Int))) ∧ σ' = σ := by
 refine acalls_fit Tryz.func177 (by kernel_rfl) c177 rfl (by simp [a177]) fun hf => ?_
 simp at hf
 simp -implicitDefEqProofs (disch := omega) [-getElem?_pos, a177]
 refine W_loop (α := Nat) 0 (fun i => xs.length - i) (fun i => ⟨[(0, .v (.sl none f xs)), (1, fd), (7, .v (.int .i64 xs.length)), (8, .v (.int .i64 i))], σ⟩) (fun i => i ≤ xs.length ∧ xs.findIdx? p = ((xs.drop i).findIdx? p).map fun k => k + i)
  (.eq (by simp)) ⟨by omega, by simp⟩ fun i ⟨hi, he⟩ => ?_
 simp -implicitDefEqProofs (disch := omega) [-getElem?_pos]
 refine .mk (fun h => ?_) fun h => ?_
 ·simp -implicitDefEqProofs (disch := omega) [-getElem?_pos]
  refine ⟨by omega, fun x hx => ?_⟩
  refine (hp x (List.mem_of_getElem? hx)).then fun r hr => ?_
  subst hr
  have hdc := drop_cons hx
  rw [hdc, List.findIdx?_cons] at he
  simp -implicitDefEqProofs (disch := omega) [-getElem?_pos]
  refine .mk (fun hq => ?_) fun hq => ?_
  ·rw [if_pos hq] at he
   simp -implicitDefEqProofs (disch := omega) [-getElem?_pos]
   refine .fin _ ⟨?_, rfl⟩ (.refl _)
   rw [he]
   simp
  ·rw [if_neg hq] at he
   simp -implicitDefEqProofs (disch := omega) [-getElem?_pos]
   refine ⟨i + 1, ⟨by omega, ?_⟩, by dsimp only; omega, .eq (by simp)⟩
   rw [he]
   simp only [Option.map_map]
   congr 1
   funext k
   simp only [Function.comp]
   omega
 ·simp -implicitDefEqProofs (disch := omega) [-getElem?_pos]
  refine .fin _ ⟨?_, rfl⟩ (.refl _)
  rw [he, List.drop_eq_nil_of_le (by omega)]
  rfl
theorem k_ContainsFuncStr {xs : List V} {f : Bool} {fd : D} {p : V → Bool} {σ : Sg} (hp : ∀ x ∈ xs, WCall Tryz.prog fd [.v x] σ fun r σ' => r = .v (.bool (p x)) ∧ σ' = σ) :
  ACalls Tryz.prog 143 [.v (.sl none f xs), fd] σ fun r σ' => r = .v (.bool (xs.any p)) ∧ σ' = σ := by
 refine acalls_fit Tryz.func143 (by kernel_rfl) c143 rfl (by simp [a143]) fun hf => ?_
 simp -implicitDefEqProofs (disch := omega) [-getElem?_pos, a143]
 refine (k_IndexFuncStr hp).then fun r hr => ?_
 subst hr
 simp -implicitDefEqProofs (disch := omega) [-getElem?_pos]
 refine .fin _ ⟨?_, rfl⟩ (.refl _)
 congr 2
 cases h : xs.findIdx? p with
 | none =>
  have h2 := List.findIdx?_eq_none_iff.1 h
  simp
  exact fun x hx => by simpa using h2 x hx
 | some i =>
  have h2 := List.findIdx?_eq_some_iff_getElem.1 h
  obtain ⟨hlt, hq, _⟩ := h2
  simp
  exact ⟨_, List.getElem_mem hlt, hq⟩
def notIs (k : Int) : V → Bool
 | .str s => !isL s k
 | _ => false
theorem any_is (k : Int) : ∀ l : List Str, (l.map V.str).any (notIs k) = !(l.all fun s => isL s k)
 | [] => rfl
 | s :: l => by rw [List.map_cons, List.any_cons, List.all_cons, any_is k l, Bool.not_and]; rfl
theorem k_All {l : List Str} {k : Int} {σ : Sg} (hs : nsz l ≤ 1048576) : ACalls Tryz.prog 108 [.v (vS l), .v (.int .i64 k)] σ fun r σ' => r = .v (.bool (l.all fun s => isL s k)) ∧ σ' = σ := by
 have hsz : ∀ s ∈ l, s.length ≤ 1048576 := fun s h => by
  have : s.length + 1 ≤ nsz l := by
   clear hs
   induction l with
   | nil => cases h
   | cons x l ih =>
    simp only [nsz]
    rcases List.mem_cons.1 h with rfl | h
    ·omega
    ·have := ih h; omega
  omega
 refine acalls_fit Tryz.func108 (by kernel_rfl) c108 rfl (by simp [a108]) fun hf => ?_
 clear hf
 simp -implicitDefEqProofs (disch := omega) [-getElem?_pos, a108]
 refine (k_ContainsFuncStr (p := notIs k) (fun x hx => ?_)).then fun r hr => ?_
 ·obtain ⟨s, hm, rfl⟩ := List.mem_map.1 hx
  rw [WCall_caps]
  exact k_All1 (hsz s hm) (by simp)
 ·rw [any_is] at hr
  subst hr
  simp -implicitDefEqProofs (disch := omega) [-getElem?_pos]
  exact .fin _ ⟨by simp, rfl⟩ (.refl _)
def riseL : List Str → Bool
 | [] => true
 | [_] => true
 | a :: b :: r => decide (a < b) && riseL (b :: r)
theorem riseL_iff : ∀ l : List Str, riseL l = true ↔ ∀ i a b, l[i]? = some a → l[i + 1]? = some b → a < b
 | [] => by simp [riseL]
 | [x] => by simp [riseL]
 | x :: y :: r => by
  rw [riseL, Bool.and_eq_true, decide_eq_true_iff, riseL_iff (y :: r)]
  constructor
  ·rintro ⟨h1, h2⟩ i a b ha hb
   cases i with
   | zero => simp at ha hb; subst ha hb; exact h1
   | succ i => exact h2 i a b (by simpa using ha) (by simpa using hb)
  ·intro h
   exact ⟨h 0 x y rfl rfl, fun i a b ha hb => h (i + 1) a b (by simpa using ha) (by simpa using hb)⟩
theorem less_eq (x y : Str) : Op.bytesLess x y = decide (x < y) := bytesLess_eq x y
theorem k_Rises {l : List Str} {σ : Sg} : ACalls Tryz.prog 109 [.v (vS l)] σ fun r σ' => r = .v (.bool (riseL l && decide (l.length ≤ 30))) ∧ σ' = σ := by
 refine acalls_fit Tryz.func109 (by kernel_rfl) c109 rfl (by simp [a109]) fun hf => ?_
 simp at hf
 simp -implicitDefEqProofs (disch := omega) [-getElem?_pos, a109]
 refine W_loop (α := Nat) 0 (fun i => l.length - i) (fun i => ⟨[(0, .v (vS l)), (5, .v (.int .i64 l.length)), (6, .v (.int .i64 i))], σ⟩) (fun i => i ≤ l.length ∧ ∀ j a b, j + 1 < i → l[j]? = some a → l[j + 1]? = some b → a < b)
  (.eq (by simp)) ⟨Nat.zero_le _, fun j a b h => by omega⟩ fun i ⟨hi, hr⟩ => ?_
 simp -implicitDefEqProofs (disch := omega) [-getElem?_pos]
 refine .mk (fun h => ?_) fun h => ?_
 ·obtain ⟨x, hx⟩ : ∃ x, l[i]? = some x := ⟨l[i], List.getElem?_eq_getElem h⟩
  simp -implicitDefEqProofs (disch := omega) [-getElem?_pos, hx]
  refine .mk (fun h0 => ?_) fun h0 => ?_
  ·obtain ⟨y, hy⟩ : ∃ y, l[i - 1]? = some y := ⟨l[i - 1], List.getElem?_eq_getElem (by omega)⟩
   have ei : ((i : Int) - 1).toNat = i - 1 := by omega
   simp -implicitDefEqProofs (disch := omega) [-getElem?_pos, hx, ei, hy]
   refine ⟨by omega, by omega, by omega, ?_⟩
   simp -implicitDefEqProofs (disch := omega) [-getElem?_pos, hx, less_eq]
   refine .mk (fun hq => ?_) fun hq => ?_
   ·simp -implicitDefEqProofs (disch := omega) [-getElem?_pos]
    refine ⟨i + 1, ⟨by omega, fun j a b hj ha hb => ?_⟩, by dsimp only; omega, .eq (by simp)⟩
    by_cases hji : j + 1 < i
    ·exact hr j a b hji ha hb
    ·have : j = i - 1 := by omega
     subst this
     rw [hy] at ha
     rw [show i - 1 + 1 = i by omega, hx] at hb
     cases ha
     cases hb
     exact hq
   ·simp -implicitDefEqProofs (disch := omega) [-getElem?_pos]
    have hR : riseL l = false := by
     cases hb : riseL l with
     | false => rfl
     | true => exact absurd ((riseL_iff l).1 hb (i - 1) y x hy (by rw [show i - 1 + 1 = i by omega]; exact hx)) hq
    exact .fin _ ⟨by rw [hR]; rfl, rfl⟩ (.refl _)
  ·simp -implicitDefEqProofs (disch := omega) [-getElem?_pos, hx]
   refine ⟨i + 1, ⟨by omega, fun j a b hj => ?_⟩, by dsimp only; omega, .eq (by simp)⟩
   omega
 ·simp -implicitDefEqProofs (disch := omega) [-getElem?_pos]
  have hR : riseL l = true := (riseL_iff l).2 fun j a b ha hb => hr j a b (by have := (List.getElem?_eq_some_iff.1 hb).1; omega) ha hb
  refine .fin _ ⟨?_, rfl⟩ (.refl _)
  rw [hR, Bool.true_and]
  congr 2
  simp
  omega
def opsL : List Str := [[43], [45], [42], [47], [60], [61, 61], [94], [35]]
def textB (k : Int) (s : Str) : Bool := if k = 2 then (quoteE s).isSome else match formT k with
 | some f => if f.nm || f.lb then isL s 1 else if f.tg then isL s 3 else if f.op then decide (s ∈ opsL) else decide (s = [])
 | none => decide (s = [])
theorem k_SText {k p n : Int} {s t : Str} {ls ns : List Str} {l : List Ex} {σ : Sg} (hs : s.length ≤ 1048576) : ACalls Tryz.prog 107 [.v (encE (.mk k p n s t ls ns l))] σ fun r σ' => r = .v (.bool (textB k s)) ∧ σ' = σ := by
 have kf := fun σ => k_Forms (σ := σ)
 have kq := fun σ => k_Quote (b := s) (σ := σ) hs
 have ki := fun (k : Int) σ => k_Is (s := s) (k := k) (σ := σ) hs
 have ko : ∀ σ, ACalls Tryz.prog 118 [.v (.sl none true [.str [43], .str [45], .str [42], .str [47], .str [60], .str [61, 61], .str [94], .str [35]]), .v (.str s)] σ fun r σ' => r = .v (.bool (decide (s ∈ opsL))) ∧ σ' = σ := fun σ => (k_ContainsStr (l := opsL) (s := s) (σ := σ)).argA VLe.lax.d
 rw [encE_mk]
 refine acalls_fit Tryz.func107 (by kernel_rfl) c107 rfl (by simp [a107]) fun hf => ?_
 clear hf
 obtain ⟨X, hX⟩ : ∃ X, X = Ob.cells [.v (.int .i64 k), .v (.int .i64 p), .v (.int .i64 n), .v (.str s), .v (.str t), .v (.sl none false (ls.map .str)), .v (.sl none false (ns.map .str)), .v (.sl (some 8) false (l.map encE))] := ⟨_, rfl⟩
 simp -implicitDefEqProofs (disch := omega) [-getElem?_pos, a107]
 rw [← hX]
 have hk2 : textB k s = if k = 2 then (quoteE s).isSome else match formT k with
  | some f => if f.nm || f.lb then isL s 1 else if f.tg then isL s 3 else if f.op then decide (s ∈ opsL) else decide (s = [])
  | none => decide (s = []) := rfl
 generalize textB k s = B at hk2 ⊢
 refine ⟨(kf _).mono fun r σ' hr => ?_, (kf _).mono fun r σ' hr => ?_⟩
 all_goals
  obtain ⟨rfl, rfl⟩ := hr
  by_cases h2 : k = 2
  ·subst h2
   rw [if_pos rfl] at hk2
   simp -implicitDefEqProofs (disch := omega) [-getElem?_pos, find_form, forms_ok, show formT 2 = some ⟨0, false, false, false, false⟩ from rfl, encF, hX]
   refine (kq _).then fun r hr => ?_
   cases hqe : quoteE s with
   | none =>
    rw [hqe] at hr hk2
    unfold QPost at hr
    dsimp only at hr
    subst hr
    simp -implicitDefEqProofs (disch := omega) [-getElem?_pos]
    exact .fin (.v (.bool false)) ⟨by rw [hk2]; rfl, rfl⟩ (.refl _)
   | some z =>
    rw [hqe] at hr hk2
    unfold QPost at hr
    dsimp only at hr
    subst hr
    simp -implicitDefEqProofs (disch := omega) [-getElem?_pos]
    exact .fin (.v (.bool true)) ⟨by rw [hk2]; rfl, rfl⟩ (.refl _)
  rw [if_neg h2] at hk2
  have hse : List.isEmpty s = decide (s = []) := by cases s <;> simp
  cases hk : formT k with
  | none =>
   rw [hk] at hk2
   simp -implicitDefEqProofs (disch := omega) [-getElem?_pos, find_form, forms_ok, hk, hX, h2]
   exact .fin (.v (.bool (List.isEmpty s))) ⟨by rw [hk2, hse], rfl⟩ (.refl _)
  | some f =>
   obtain ⟨q, nm, lb, tg, op⟩ := f
   rw [hk] at hk2
   cases nm with
   | true =>
    cases lb <;> cases tg <;> cases op
    all_goals
     simp only [Bool.or_false, Bool.or_true, Bool.or_self, Bool.true_or, Bool.false_or, Bool.false_eq_true, if_true, if_false] at hk2
     simp -implicitDefEqProofs (disch := omega) [-getElem?_pos, find_form, forms_ok, hk, encF, hX, h2]
     refine (ki 1 _).then fun r hr => ?_
     subst hr
     simp -implicitDefEqProofs (disch := omega) [-getElem?_pos]
     exact .fin (.v (.bool (isL s 1))) ⟨by rw [hk2], rfl⟩ (.refl _)
   | false =>
   cases lb with
   | true =>
    cases tg <;> cases op
    all_goals
     simp only [Bool.or_false, Bool.or_true, Bool.or_self, Bool.true_or, Bool.false_or, Bool.false_eq_true, if_true, if_false] at hk2
     simp -implicitDefEqProofs (disch := omega) [-getElem?_pos, find_form, forms_ok, hk, encF, hX, h2]
     refine (ki 1 _).then fun r hr => ?_
     subst hr
     simp -implicitDefEqProofs (disch := omega) [-getElem?_pos]
     exact .fin (.v (.bool (isL s 1))) ⟨by rw [hk2], rfl⟩ (.refl _)
   | false =>
   cases tg with
   | true =>
    cases op
    all_goals
     simp only [Bool.or_false, Bool.or_true, Bool.or_self, Bool.true_or, Bool.false_or, Bool.false_eq_true, if_true, if_false] at hk2
     simp -implicitDefEqProofs (disch := omega) [-getElem?_pos, find_form, forms_ok, hk, encF, hX, h2]
     refine (ki 3 _).then fun r hr => ?_
     subst hr
     simp -implicitDefEqProofs (disch := omega) [-getElem?_pos]
     exact .fin (.v (.bool (isL s 3))) ⟨by rw [hk2], rfl⟩ (.refl _)
   | false =>
   cases op with
   | true =>
    simp only [Bool.or_false, Bool.or_true, Bool.or_self, Bool.true_or, Bool.false_or, Bool.false_eq_true, if_true, if_false] at hk2
    simp -implicitDefEqProofs (disch := omega) [-getElem?_pos, find_form, forms_ok, hk, encF, hX, h2]
    refine (ko _).then fun r hr => ?_
    subst hr
    simp -implicitDefEqProofs (disch := omega) [-getElem?_pos]
    exact .fin (.v (.bool (decide (s ∈ opsL)))) ⟨by rw [hk2], rfl⟩ (.refl _)
   | false =>
    simp only [Bool.or_false, Bool.or_true, Bool.or_self, Bool.true_or, Bool.false_or, Bool.false_eq_true, if_true, if_false] at hk2
    simp -implicitDefEqProofs (disch := omega) [-getElem?_pos, find_form, forms_ok, hk, encF, hX, h2]
    exact .fin (.v (.bool (List.isEmpty s))) ⟨by rw [hk2, hse], rfl⟩ (.refl _)
end Go.Proofs.YtpdeaekmgljeaaaGreatDoor
