/-
  Regions whose order is drawn, on abstract values: what a quiet operation yields does not hang on its turn. (Own work; seat-independent.)
-/
import Derived.Test.YtbifjffjibnjjaaDoorAbsL
set_option linter.unusedVariables false
set_option linter.unusedSimpArgs false
namespace Go.Abs
open Go

section
variable {P : Program} {s s' : List (Nat × D)}

theorem ev_on {e : E} (h : ∀ n ∈ e.tmps, look s n = look s' n) : ev s e = ev s' e := by
  cases e with
  | t n => exact h n (by simp [E.tmps])
  | c x => rfl

theorem evs_on : ∀ {es : List E}, (∀ n ∈ es.flatMap E.tmps, look s n = look s' n) → es.map (ev s) = es.map (ev s')
  | [], _ => rfl
  | e :: es, h => by
    simp only [List.map_cons]
    rw [ev_on fun n hn => h n (by simp [hn]), evs_on fun n hn => h n (by rw [List.flatMap_cons]; exact List.mem_append.2 (.inr hn))]

theorem evo_on {e : Option E} (h : ∀ n ∈ E.otmps e, look s n = look s' n) : e.map (ev s) = e.map (ev s') := by
  cases e with
  | none => rfl
  | some e => simp only [Option.map_some]; rw [ev_on h]

theorem evp_on : ∀ {ps : List (Nat × Nat × E)}, (∀ n ∈ ps.flatMap (fun p => p.2.2.tmps), look s n = look s' n) → (ps.map fun p => (p.1, p.2.1, ev s p.2.2)) = ps.map fun p => (p.1, p.2.1, ev s' p.2.2)
  | [], _ => rfl
  | p :: ps, h => by
    simp only [List.map_cons]
    rw [ev_on fun n hn => h n (by rw [List.flatMap_cons]; exact List.mem_append.2 (.inl hn)), evp_on fun n hn => h n (by rw [List.flatMap_cons]; exact List.mem_append.2 (.inr hn))]

theorem WOp_on {op : AOp} {σ : Sg} {K : D → Sg → Prop} (h : ∀ n ∈ op.tmps, look s n = look s' n) : WOp P op s σ K = WOp P op s' σ K := by
  cases op <;> simp only [AOp.tmps, List.mem_append] at h <;> simp only [WOp]
  case mv x => rw [ev_on h]
  case pick c a b => rw [ev_on fun n hn => h n (.inl hn), ev_on fun n hn => h n (.inr (.inl hn)), ev_on fun n hn => h n (.inr (.inr hn))]
  case box x => rw [ev_on h]
  case build zs ps => rw [evp_on h]
  case mksl sh xs => rw [evs_on h]
  case load sh a => rw [ev_on h]
  case store n a x => rw [ev_on fun n hn => h n (.inl hn), ev_on fun n hn => h n (.inr hn)]
  case nilck x => rw [ev_on h]
  case bin op k c x y => rw [ev_on fun n hn => h n (.inl hn), ev_on fun n hn => h n (.inr hn)]
  case un op x => rw [ev_on h]
  case conv c x => rw [ev_on h]
  case mkif t x => rw [ev_on h]
  case mkfn f caps => cases caps with
    | nil => rfl
    | cons c cs => show K (.fn f ((c :: cs).map (ev s))) σ = K (.fn f ((c :: cs).map (ev s'))) σ; rw [evs_on h]
  case slice k x lo hi mx => rw [ev_on fun n hn => h n (.inl hn), evo_on fun n hn => h n (.inr (.inl hn)), evo_on fun n hn => h n (.inr (.inr (.inl hn))), evo_on fun n hn => h n (.inr (.inr (.inr hn)))]
  case faddr off x => rw [ev_on h]
  case field sh off x => rw [ev_on h]
  case iaddr sh x i => rw [ev_on fun n hn => h n (.inl hn), ev_on fun n hn => h n (.inr hn)]
  case index x i => rw [ev_on fun n hn => h n (.inl hn), ev_on fun n hn => h n (.inr hn)]
  case extract x i => rw [ev_on h]
  case call f args => rw [ev_on fun n hn => h n (.inl hn), evs_on fun n hn => h n (.inr hn)]
  case inv name x args => rw [ev_on fun n hn => h n (.inl hn), evs_on fun n hn => h n (.inr hn)]
  case len k x => rw [ev_on h]
  case append sh b a x => rw [ev_on fun n hn => h n (.inl hn), ev_on fun n hn => h n (.inr hn)]
  case min xs => rw [evs_on h]
  case ext x xs => rw [evs_on h]

/-! ### Weaker ends -/

theorem WInt_mono {op : BinOp} {k l : IntKind} {a b : Int} {K K' : V → Prop} (hK : ∀ v, K v → K' v) (h : WInt op k a l b K) : WInt op k a l b K' := by
  cases op <;> simp only [WInt] at h ⊢ <;> first | exact h | exact ⟨h.1, hK _ h.2⟩ | exact ⟨h.1, h.2.1, hK _ h.2.2⟩

theorem WStr_mono {op : BinOp} {a b : List UInt8} {K K' : V → Prop} (hK : ∀ v, K v → K' v) (h : WStr op a b K) : WStr op a b K' := by
  cases op <;> simp only [WStr] at h ⊢ <;> first | exact h | exact hK _ h | exact ⟨h.1, hK _ h.2⟩

theorem WEq_mono {k : EqK} {c : Bool} {x y : D} {B B' : Bool → Prop} (hB : ∀ b, B b → B' b) (h : WEq P k c x y B) : WEq P k c x y B' := by
  unfold WEq at h ⊢
  split at h
  all_goals first
    | exact ⟨h.1, hB _ h.2⟩
    | exact ⟨h.1, h.2.1, hB _ h.2.2⟩
    | exact ⟨h.1, fun e => hB _ (h.2.1 e), fun e => ⟨(h.2.2 e).1, (h.2.2 e).2.1, hB _ (h.2.2 e).2.2⟩⟩
    | exact ⟨h.1, fun b hb => hB _ (h.2 b hb)⟩
    | exact h.elim
    | skip
  split at h
  · split at h
    · exact hB _ h
    · exact h.elim
  · exact h.elim

theorem WBin_mono {op : BinOp} {k : EqK} {c : Bool} {x y : D} {K K' : V → Prop} (hK : ∀ v, K v → K' v) (h : WBin P op k c x y K) : WBin P op k c x y K' := by
  unfold WBin at h ⊢
  split at h
  · exact WInt_mono hK h
  · exact WStr_mono hK h
  · cases op <;> first | exact WEq_mono (fun b => hK _) h | exact h

theorem WUn_mono {op : UnOp} {x : D} {K K' : V → Prop} (hK : ∀ v, K v → K' v) (h : WUn op x K) : WUn op x K' := by
  unfold WUn at h ⊢
  split at h <;> first | exact hK _ h | exact h

theorem WConv_mono {c : ConvK} {x : D} {K K' : V → Prop} (hK : ∀ v, K v → K' v) (h : WConv c x K) : WConv c x K' := by
  unfold WConv at h ⊢
  split at h <;> first | exact hK _ h | exact ⟨h.1, hK _ h.2⟩ | exact ⟨h.choose, h.choose_spec.1, hK _ h.choose_spec.2⟩ | exact h

theorem WLoad_mono {sh : Sh} {a : D} {σ : Sg} {K K' : D → Prop} (hK : ∀ v, K v → K' v) (h : WLoad sh a σ K) : WLoad sh a σ K' := by
  cases a with
  | imm sh' x off =>
    simp only [WLoad] at h ⊢
    split
    · rename_i hc; rw [if_pos hc] at h; exact hK _ h
    · rename_i hc
      rw [if_neg hc] at h
      cases sh with
      | none => dsimp only at h ⊢; cases hx : x.cells[off]? with
        | none => rw [hx] at h; exact h
        | some c => rw [hx] at h; exact hK _ h
      | some n => exact ⟨h.1, hK _ h.2⟩
  | ptr o off =>
    simp only [WLoad] at h ⊢
    rcases hob : σ.objs[o]? with _ | (cs | es | _ | _)
    · rw [hob] at h; exact h
    · rw [hob] at h
      cases sh with
      | none => dsimp only at h ⊢; cases hx : cs[off]? with
        | none => rw [hx] at h; exact h
        | some c => rw [hx] at h; exact hK _ h
      | some n => exact ⟨h.1, h.2.1, hK _ h.2.2⟩
    · rw [hob] at h; exact h
    · rw [hob] at h; exact h
    · rw [hob] at h; exact h
  | v y =>
    cases y with
    | box sh' x off =>
      simp only [WLoad] at h ⊢
      split
      · rename_i hc; rw [if_pos hc] at h; exact hK _ h
      · rename_i hc
        rw [if_neg hc] at h
        cases sh with
        | none => dsimp only at h ⊢; cases hx : x.cells[off]? with
          | none => rw [hx] at h; exact h
          | some c => rw [hx] at h; exact hK _ h
        | some n => exact ⟨h.1, hK _ h.2⟩
    | _ => exact h
  | _ => exact h
theorem WLdk_mono {sh : Sh} {a : D} {σ : Sg} {K K' : D → Prop} (hK : ∀ v, K v → K' v) (h : WLdk sh a σ K) : WLdk sh a σ K' := by
  have hl := fun h => WLoad_mono (sh := sh) (a := a) (σ := σ) hK h
  cases a with
  | v y =>
    cases y with
    | adr b off =>
      obtain ⟨o, cs, h1, h2⟩ := h
      refine ⟨o, cs, h1, ?_⟩
      cases sh with
      | none => dsimp only at h2 ⊢; cases hx : cs[off]? with
        | none => rw [hx] at h2; exact h2
        | some c => rw [hx] at h2; exact hK _ h2
      | some n => exact ⟨h2.1, h2.2.1, hK _ h2.2.2⟩
    | _ => exact hl h
  | _ => exact hl h

theorem WStore_mono {n : Nat} {a x : D} {σ : Sg} {K K' : D → Sg → Prop} (hK : ∀ d σ, K d σ → K' d σ) (h : WStore n a x σ K) : WStore n a x σ K' := by
  cases a with
  | ptr o off =>
    simp only [WStore] at h ⊢
    rcases hob : σ.objs[o]? with _ | (cs | es | _ | _)
    · rw [hob] at h; exact h
    · rw [hob] at h; exact ⟨h.1, h.2.1, h.2.2.1, h.2.2.2.1, hK _ _ h.2.2.2.2⟩
    · rw [hob] at h; exact h
    · rw [hob] at h; exact h
    · rw [hob] at h; exact h
  | v y =>
    cases y with
    | adr b off =>
      obtain ⟨o, cs, h1, h2, h3, h4, h5, h6⟩ := h
      exact ⟨o, cs, h1, h2, h3, h4, h5, hK _ _ h6⟩
    | _ => exact h
  | _ => exact h

theorem WNil_mono {x : D} {K K' : D → Prop} (hK : ∀ v, K v → K' v) (h : WNil x K) : WNil x K' := by
  unfold WNil at h ⊢
  split at h <;> first | exact hK _ h | exact h

theorem WSlice_mono {k : SlK} {x : D} {lo hi mx : Option D} {K K' : V → Prop} (hK : ∀ v, K v → K' v) (h : WSlice k x lo hi mx K) : WSlice k x lo hi mx K' := by
  have key : ∀ {o : Option (Int × Int × Option Int)} {n : Nat} {sh : Sh} {xs : List V} {K K' : V → Prop}, (∀ v, K v → K' v) →
      (match o with | some (l, h, none) => 0 ≤ l ∧ l ≤ h ∧ h ≤ n ∧ K (.sl sh false ((xs.take h.toNat).drop l.toNat)) | some (l, h, some m) => 0 ≤ l ∧ l ≤ h ∧ h = m ∧ m ≤ n ∧ K (.sl sh true ((xs.take h.toNat).drop l.toNat)) | none => False) →
      (match o with | some (l, h, none) => 0 ≤ l ∧ l ≤ h ∧ h ≤ n ∧ K' (.sl sh false ((xs.take h.toNat).drop l.toNat)) | some (l, h, some m) => 0 ≤ l ∧ l ≤ h ∧ h = m ∧ m ≤ n ∧ K' (.sl sh true ((xs.take h.toNat).drop l.toNat)) | none => False) := by
    intro o n sh xs K K' hK h
    rcases o with _ | ⟨l, h', _ | m⟩
    · exact h
    · exact ⟨h.1, h.2.1, h.2.2.1, hK _ h.2.2.2⟩
    · exact ⟨h.1, h.2.1, h.2.2.1, h.2.2.2.1, hK _ h.2.2.2.2⟩
  unfold WSlice at h ⊢
  split at h
  · rename_i s
    rcases hb : bounds s.length lo hi mx with _ | ⟨l, h', _ | m⟩ <;> rw [hb] at h
    · exact h
    · exact ⟨h.1, h.2.1, h.2.2.1, hK _ h.2.2.2⟩
    · exact h
  · exact ⟨h.1, key hK h.2⟩
  · exact ⟨h.1, key hK h.2⟩
  · rcases hb : bounds 0 lo hi mx with _ | ⟨l, h', q⟩ <;> rw [hb] at h
    · exact h
    · exact ⟨h.1, h.2.1, h.2.2.1, hK _ h.2.2.2⟩
  · exact h

theorem WSl_mono {k : SlK} {x : D} {lo hi mx : Option D} {K K' : D → Prop} (hK : ∀ v, K v → K' v) (h : WSl k x lo hi mx K) : WSl k x lo hi mx K' := by
  unfold WSl at h ⊢
  split at h
  · rename_i sh o off len sh' cp
    unfold WSlM at h ⊢
    refine ⟨h.1, ?_⟩
    replace h := h.2
    cases cp with
    | none => exact h
    | some c =>
      dsimp only at h ⊢
      rcases hb : bounds len lo hi mx with _ | ⟨l, h', _ | m⟩ <;> rw [hb] at h
      · exact h
      · exact ⟨h.1, h.2.1, h.2.2.1, hK _ h.2.2.2⟩
      · exact ⟨h.1, h.2.1, h.2.2.1, h.2.2.2.1, hK _ h.2.2.2.2⟩
  · exact WSlice_mono (fun v => hK _) h

theorem WFaddr_mono {off : Nat} {x : D} {K K' : D → Prop} (hK : ∀ v, K v → K' v) (h : WFaddr off x K) : WFaddr off x K' := by
  unfold WFaddr at h ⊢
  split at h <;> first | exact hK _ h | exact h

theorem WField_mono {sh : Sh} {off : Nat} {x : D} {K K' : D → Prop} (hK : ∀ v, K v → K' v) (h : WField sh off x K) : WField sh off x K' := by
  unfold WField at h ⊢
  split at h
  · rename_i cs
    cases sh with
    | none => dsimp only at h ⊢; cases hx : cs[off]? with
      | none => rw [hx] at h; exact h
      | some c => rw [hx] at h; exact hK _ h
    | some n => exact ⟨h.1, hK _ h.2⟩
  · rename_i cs
    cases sh with
    | none => dsimp only at h ⊢; cases hx : cs[off]? with
      | none => rw [hx] at h; exact h
      | some c => rw [hx] at h; exact hK _ h
    | some n => exact ⟨h.1, hK _ h.2⟩
  · exact h

theorem WIaddr_mono {sh : Sh} {x i : D} {K K' : D → Prop} (hK : ∀ v, K v → K' v) (h : WIaddr sh x i K) : WIaddr sh x i K' := by
  unfold WIaddr at h ⊢
  split at h <;> first | exact ⟨h.1, h.2.1, h.2.2.1, fun y hy => hK _ (h.2.2.2 y hy)⟩ | exact ⟨h.1, h.2.1, h.2.2.1, hK _ h.2.2.2⟩ | exact h

theorem WIndex_mono {x i : D} {K K' : V → Prop} (hK : ∀ v, K v → K' v) (h : WIndex x i K) : WIndex x i K' := by
  unfold WIndex at h ⊢
  split at h <;> first | exact ⟨h.1, h.2.1, fun y hy => hK _ (h.2.2 y hy)⟩ | exact h

theorem WExtract_mono {x : D} {i : Nat} {K K' : D → Prop} (hK : ∀ v, K v → K' v) (h : WExtract x i K) : WExtract x i K' := by
  cases x with
  | tup ds =>
    simp only [WExtract] at h ⊢
    cases hx : ds[i]? with
    | none => rw [hx] at h; exact h
    | some c => rw [hx] at h; exact hK _ h
  | _ => exact h

theorem WLen_mono {k : LenK} {x : D} {σ : Sg} {K K' : V → Prop} (hK : ∀ v, K v → K' v) (h : WLen k x σ K) : WLen k x σ K' := by
  unfold WLen at h ⊢
  split at h <;> first | exact hK _ h | skip
  · rename_i o
    rcases hob : σ.objs[o]? with _ | (cs | es | _ | _)
    · rw [hob] at h; exact h
    · rw [hob] at h; exact h
    · rw [hob] at h; exact ⟨h.1, hK _ h.2⟩
    · rw [hob] at h; exact h
    · rw [hob] at h; exact h
  · exact h

theorem WAppend_mono {sh : Sh} {b : Nat} {a x : D} {σ : Sg} {K K' : D → Sg → Prop} (hK : ∀ d σ, K d σ → K' d σ) (h : WAppend sh b a x σ K) : WAppend sh b a x σ K' := by
  unfold WAppend at h ⊢
  split at h
  · exact h
  · rename_i ys hys
    split at h
    · exact ⟨h.1, hK _ _ h.2⟩
    · exact ⟨h.1, h.2.1, hK _ _ h.2.2⟩
    · exact ⟨h.1, h.2.1, h.2.2.1, hK _ _ h.2.2.2⟩
    · exact h

theorem WMin_mono {xs : List D} {K K' : V → Prop} (hK : ∀ v, K v → K' v) (h : WMin xs K) : WMin xs K' := by
  unfold WMin at h ⊢
  split at h <;> first | exact ⟨h.1, hK _ h.2⟩ | exact h

theorem WMksl_mono {sh : Sh} {xs : List D} {K K' : V → Prop} (hK : ∀ v, K v → K' v) (h : WMksl sh xs K) : WMksl sh xs K' := by
  unfold WMksl at h ⊢
  split at h <;> first | exact ⟨h.1, hK _ h.2⟩ | exact h

theorem WApm0_mono {sh : Sh} {b : Nat} {ys : List V} {σ : Sg} {K K' : D → Sg → Prop} (hK : ∀ d σ, K d σ → K' d σ) (h : WApm0 sh b ys σ K) : WApm0 sh b ys σ K' :=
  ⟨fun e => hK _ _ (h.1 e), fun e => ⟨(h.2 e).1, fun c h1 h2 => hK _ _ ((h.2 e).2 c h1 h2)⟩⟩
theorem WApmV_mono {sh : Sh} {b : Nat} {s : D} {ys : List V} {σ : Sg} {K K' : D → Sg → Prop} (hK : ∀ d σ, K d σ → K' d σ) (h : WApmV sh b s ys σ K) : WApmV sh b s ys σ K' := by
  unfold WApmV at h ⊢
  split at h
  · exact WApm0_mono hK h
  · exact ⟨h.1, WApm0_mono hK h.2⟩
  · refine ⟨h.1, ?_⟩
    replace h := h.2
    unfold WApm1 at h ⊢
    split at h
    · exact ⟨fun e => ⟨(h.1 e).1, hK _ _ (h.1 e).2⟩, fun e => ⟨(h.2 e).1, (h.2 e).2.1, fun c h1 h2 => hK _ _ ((h.2 e).2.2 c h1 h2)⟩⟩
    · exact h
  · exact h
theorem WApm_mono {sh : Sh} {b : Nat} {s x : D} {σ : Sg} {K K' : D → Sg → Prop} (hK : ∀ d σ, K d σ → K' d σ) (h : WApm sh b s x σ K) : WApm sh b s x σ K' := by
  unfold WApm at h ⊢
  split at h
  · exact h
  · exact WApmV_mono hK h
theorem WApd0_mono {sh : Sh} {b n : Nat} {yd : List D} {σ : Sg} {K K' : D → Sg → Prop} (hK : ∀ d σ, K d σ → K' d σ) (h : WApd0 sh b n yd σ K) : WApd0 sh b n yd σ K' :=
  ⟨fun e => hK _ _ (h.1 e), fun e => ⟨(h.2 e).1, fun c h1 h2 => hK _ _ ((h.2 e).2 c h1 h2)⟩⟩
theorem WApdV_mono {sh : Sh} {b n : Nat} {s : D} {yd : List D} {σ : Sg} {K K' : D → Sg → Prop} (hK : ∀ d σ, K d σ → K' d σ) (h : WApdV sh b s n yd σ K) : WApdV sh b s n yd σ K' := by
  unfold WApdV at h ⊢
  split at h
  · exact WApd0_mono hK h
  · exact ⟨h.1, WApd0_mono hK h.2⟩
  · refine ⟨h.1, ?_⟩
    replace h := h.2
    unfold WApd1 at h ⊢
    split at h
    · exact ⟨fun e => ⟨(h.1 e).1, hK _ _ (h.1 e).2⟩, fun e => ⟨(h.2 e).1, (h.2 e).2.1, fun c h1 h2 => hK _ _ ((h.2 e).2.2 c h1 h2)⟩⟩
    · exact h
  · exact h
theorem WApd_mono {sh : Sh} {b : Nat} {s x : D} {σ : Sg} {K K' : D → Sg → Prop} (hK : ∀ d σ, K d σ → K' d σ) (h : WApd sh b s x σ K) : WApd sh b s x σ K' := by
  unfold WApd at h ⊢
  split at h
  · exact h
  · exact WApdV_mono hK h
theorem WClear_mono {zs : List V} {x : D} {σ : Sg} {K K' : D → Sg → Prop} (hK : ∀ d σ, K d σ → K' d σ) (h : WClear zs x σ K) : WClear zs x σ K' := by
  unfold WClear at h ⊢
  split at h
  · exact hK _ _ h
  · exact hK _ _ h
  · split at h
    · exact ⟨h.1, h.2.1, h.2.2.1, hK _ _ h.2.2.2⟩
    · exact h
  · exact h
theorem WCopy_mono {sh : Sh} {s x : D} {σ : Sg} {K K' : D → Sg → Prop} (hK : ∀ d σ, K d σ → K' d σ) (h : WCopy sh s x σ K) : WCopy sh s x σ K' := by
  unfold WCopy at h ⊢
  split at h
  · exact h
  · split at h
    · split at h
      · exact ⟨h.1, h.2.1, h.2.2.1, h.2.2.2.1, hK _ _ h.2.2.2.2⟩
      · exact h
    · exact h
theorem WCap_mono {x : D} {K K' : D → Prop} (hK : ∀ d, K d → K' d) (h : WCap x K) : WCap x K' := by
  unfold WCap at h ⊢
  split at h <;> first | exact hK _ h | exact fun c h1 h2 => hK _ (h c h1 h2) | exact h

theorem WX_mono {x : XOp} {ds : List D} {σ : Sg} {K K' : D → Sg → Prop} (hK : ∀ d σ, K d σ → K' d σ) (h : WX x ds σ K) : WX x ds σ K' := by
  cases x with
  | mkmap => exact hK _ _ h
  | stop => exact h
  | mput kk =>
    simp only [WX] at h ⊢
    split at h
    · rename_i o k d
      rcases hob : σ.objs[o]? with _ | (cs | es | _ | _)
      · rw [hob] at h; exact h
      · rw [hob] at h; exact h
      · rw [hob] at h; exact ⟨h.1, h.2.1, hK _ _ h.2.2⟩
      · rw [hob] at h; exact h
      · rw [hob] at h; exact h
    · exact h
  | mget kk ok z =>
    simp only [WX] at h ⊢
    split at h
    · exact ⟨h.1, hK _ _ h.2⟩
    · exact ⟨h.1, h.2.1, hK _ _ h.2.2⟩
    · rename_i o k
      rcases hob : σ.objs[o]? with _ | (cs | es | _ | _)
      · rw [hob] at h; exact h
      · rw [hob] at h; exact h
      · rw [hob] at h; exact ⟨h.1, h.2.1, hK _ _ h.2.2⟩
      · rw [hob] at h; exact h
      · rw [hob] at h; exact h
    · exact h
  | appm sh b =>
    simp only [WX] at h ⊢
    split at h
    · exact WApm_mono hK h
    · exact h
  | appd sh b =>
    simp only [WX] at h ⊢
    split at h
    · exact WApd_mono hK h
    · exact h
  | mksld sh =>
    simp only [WX] at h ⊢
    exact ⟨h.1, h.2.1, hK _ _ h.2.2⟩
  | mkvec sh b zs =>
    simp only [WX] at h ⊢
    split at h
    · exact ⟨h.1, h.2.1, h.2.2.1, fun e => hK _ _ (h.2.2.2.1 e), fun e => hK _ _ (h.2.2.2.2 e)⟩
    · exact h
  | copy sh =>
    simp only [WX] at h ⊢
    split at h
    · exact WCopy_mono hK h
    · exact h
  | appz sh b zs =>
    simp only [WX] at h ⊢
    split at h
    · exact ⟨h.1, h.2.1, WApmV_mono hK h.2.2⟩
    · exact h
  | clear zs =>
    simp only [WX] at h ⊢
    split at h
    · exact WClear_mono hK h
    · exact h
  | max =>
    simp only [WX] at h ⊢
    split at h
    · exact ⟨h.1, hK _ _ h.2⟩
    · exact h
  | sto =>
    simp only [WX] at h ⊢
    split at h
    · exact WStore_mono hK h
    · exact h
  | bind =>
    simp only [WX] at h ⊢
    split at h
    · exact hK _ _ h
    · exact h
  | ibox =>
    simp only [WX] at h ⊢
    split at h
    · rename_i x
      cases hx : x.toV with
      | none => rw [hx] at h; exact h
      | some v => rw [hx] at h; exact ⟨h.1, hK _ _ h.2⟩
    · exact h
  | xbox =>
    simp only [WX] at h ⊢
    split at h
    · exact ⟨h.1, fun b => hK _ _ (h.2 b)⟩
    · exact h
  | iexp sh =>
    simp only [WX] at h ⊢
    split at h
    · rename_i o off len sh' cp k n
      refine ⟨h.1, h.2.1, h.2.2.1, ?_⟩
      have h4 := h.2.2.2
      rcases hob : σ.objs[o]? with _ | (cs | es | _ | _)
      · rw [hob] at h4; exact h4
      · rw [hob] at h4; exact ⟨h4.1, fun b => hK _ _ (h4.2 b)⟩
      · rw [hob] at h4; exact h4
      · rw [hob] at h4; exact h4
      · rw [hob] at h4; exact h4
    · exact h
  | ldk sh =>
    simp only [WX] at h ⊢
    split at h
    · exact WLdk_mono (fun d => hK _ _) h
    · exact h
  | give =>
    simp only [WX] at h ⊢
    split at h
    · obtain ⟨cs, xs, h1, h2, h3, h4, h5, h6⟩ := h
      exact ⟨cs, xs, h1, h2, h3, h4, h5, hK _ _ h6⟩
    · exact h
  | cap =>
    simp only [WX] at h ⊢
    split at h
    · exact WCap_mono (fun d => hK _ _) h
    · exact h
  | mkslm sh =>
    simp only [WX, WMkslm] at h ⊢
    refine WMksl_mono (fun v h => ?_) h
    cases v <;> first | exact h.elim | exact ⟨h.1, hK _ _ h.2⟩
  | mrange =>
    simp only [WX] at h ⊢
    split at h
    · exact hK _ _ h
    · rename_i o
      rcases hob : σ.objs[o]? with _ | (cs | es | _ | _)
      · rw [hob] at h; exact h
      · rw [hob] at h; exact h
      · rw [hob] at h; exact ⟨h.1, hK _ _ h.2⟩
      · rw [hob] at h; exact h
      · rw [hob] at h; exact h
    · exact h
  | mdel kk =>
    simp only [WX] at h ⊢
    split at h
    · exact ⟨h.1, hK _ _ h.2⟩
    · rename_i o k
      rcases hob : σ.objs[o]? with _ | (cs | es | _ | _)
      · rw [hob] at h; exact h
      · rw [hob] at h; exact h
      · rw [hob] at h; exact ⟨h.1, h.2.1, h.2.2.1, hK _ _ h.2.2.2⟩
      · rw [hob] at h; exact h
      · rw [hob] at h; exact h
    · exact h
  | mnext =>
    simp only [WX] at h ⊢
    split at h
    · rename_i i
      split at h
      · exact hK _ _ h
      · unfold WNext at h ⊢
        split at h
        · exact ⟨h.1, h.2.1, fun e => hK _ _ (h.2.2.1 e), fun j x e1 e2 => hK _ _ (h.2.2.2 j x e1 e2)⟩
        · exact h
      · exact h
    · exact h
  | mentry =>
    simp only [WX] at h ⊢
    split at h
    · rename_i i
      split at h
      · unfold WEntry at h ⊢
        split at h
        · obtain ⟨h0, h1, pre, j, x, h2, h3, h4⟩ := h
          exact ⟨h0, h1, pre, j, x, h2, h3, hK _ _ h4⟩
        · exact h
      · exact h
    · exact h

theorem WOp_mono {op : AOp} {σ : Sg} {K K' : D → Sg → Prop} (hK : ∀ d σ, K d σ → K' d σ) (h : WOp P op s σ K) : WOp P op s σ K' := by
  cases op <;> simp only [WOp] at h ⊢
  case mv x => exact hK _ _ h
  case pick c a b =>
    generalize ev s c = d at h
    cases d with
    | v x => cases x with
      | bool p => exact ⟨fun e => hK _ _ (h.1 e), fun e => hK _ _ (h.2 e)⟩
      | _ => exact h
    | _ => exact h
  case alloc => exact hK _ _ h
  case box x => exact ⟨h.1, hK _ _ h.2⟩
  case build zs ps =>
    split at h
    · exact hK _ _ h
    · exact h
  case mksl sh xs => exact WMksl_mono (fun v => hK _ _) h
  case load sh a => exact WLoad_mono (fun v => hK _ _) h
  case store n a x => exact WStore_mono hK h
  case nilck x => exact WNil_mono (fun v => hK _ _) h
  case bin op k c x y => exact WBin_mono (fun v => hK _ _) h
  case un op x => exact WUn_mono (fun v => hK _ _) h
  case conv c x => exact WConv_mono (fun v => hK _ _) h
  case mkif t x => exact hK _ _ h
  case mkfn f caps => exact hK _ _ h
  case slice k x lo hi mx => exact WSl_mono (fun v => hK _ _) h
  case faddr off x => exact WFaddr_mono (fun v => hK _ _) h
  case field sh off x => exact WField_mono (fun v => hK _ _) h
  case iaddr sh x i => exact WIaddr_mono (fun v => hK _ _) h
  case index x i => exact WIndex_mono (fun v => hK _ _) h
  case extract x i => exact WExtract_mono (fun v => hK _ _) h
  case call f args =>
    split at h
    · exact h.mono hK
    · exact h.mono hK
    · exact h.mono hK
    · exact h
  case inv name x args =>
    unfold WInv at h ⊢
    split at h
    · exact h.imp fun g h => ⟨h.1, h.2.mono hK⟩
    · exact h.imp fun g h => ⟨h.1, h.2.mono hK⟩
    · exact h
  case len k x => exact WLen_mono (fun v => hK _ _) h
  case append sh b a x => exact WAppend_mono hK h
  case min xs => exact WMin_mono (fun v => hK _ _) h
  case ext x xs => exact WX_mono hK h

theorem WO_mono : ∀ {ros : List RO} {s : List (Nat × D)} {σ : Sg} {K K' : List (Nat × D) → Sg → Prop}, (∀ s σ, K s σ → K' s σ) → WO P ros s σ K → WO P ros s σ K'
  | [], s, σ, K, K', hK, h => hK _ _ h
  | ⟨dst, none, op⟩ :: r, s, σ, K, K', hK, h => by
    simp only [WO] at h ⊢
    exact WOp_mono (fun d σ' h => WO_mono hK h) h
  | ⟨dst, some (n, want), op⟩ :: r, s, σ, K, K', hK, h => by
    simp only [WO] at h ⊢
    generalize look s n = d at h
    cases d with
    | v x => cases x with
      | bool p => exact ⟨fun e => WOp_mono (fun d σ' h => WO_mono hK h) (h.1 e), fun e => WO_mono hK (h.2 e)⟩
      | _ => exact h
    | tup ds => cases ds with
      | nil => exact WO_mono hK h
      | cons d ds => exact h
    | _ => exact h

end
end Go.Abs
