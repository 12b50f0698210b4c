/-
  Regions whose order is drawn, on abstract values: what a quiet operation yields does not hang on its turn. (Own work; seat-independent.)
-/
import Derived.Test.YtbifjffjibnjjaaDoorM03
import Derived.Lib.SlBytesConst
set_option linter.unusedVariables false
set_option linter.unusedSimpArgs false
namespace Go.Abs
open Go

section
variable {P : Program} {s s' : List (Nat × D)}

theorem ev_on {e : E} (h : ∀ n ∈ e.tmps, look s n = look s' n) : ev s e = ev s' e := by
  cases e with
  | t n => exact h n (by simp [E.tmps])
  | c x => rfl

theorem evs_on : ∀ {es : List E}, (∀ n ∈ es.flatMap E.tmps, look s n = look s' n) → es.map (ev s) = es.map (ev s')
  | [], _ => rfl
  | e :: es, h => by
    simp only [List.map_cons]
    rw [ev_on fun n hn => h n (by simp [hn]), evs_on fun n hn => h n (by rw [List.flatMap_cons]; exact List.mem_append.2 (.inr hn))]

theorem evo_on {e : Option E} (h : ∀ n ∈ E.otmps e, look s n = look s' n) : e.map (ev s) = e.map (ev s') := by
  cases e with
  | none => rfl
  | some e => simp only [Option.map_some]; rw [ev_on h]

theorem evp_on : ∀ {ps : List (Nat × Nat × E)}, (∀ n ∈ ps.flatMap (fun p => p.2.2.tmps), look s n = look s' n) → (ps.map fun p => (p.1, p.2.1, ev s p.2.2)) = ps.map fun p => (p.1, p.2.1, ev s' p.2.2)
  | [], _ => rfl
  | p :: ps, h => by
    simp only [List.map_cons]
    rw [ev_on fun n hn => h n (by rw [List.flatMap_cons]; exact List.mem_append.2 (.inl hn)), evp_on fun n hn => h n (by rw [List.flatMap_cons]; exact List.mem_append.2 (.inr hn))]

theorem WOp_on {op : AOp} {σ : Sg} {K : D → Sg → Prop} (h : ∀ n ∈ op.tmps, look s n = look s' n) : WOp P op s σ K = WOp P op s' σ K := by
  cases op <;> simp only [AOp.tmps, List.mem_append] at h <;> simp only [WOp]
  case mv x => rw [ev_on h]
  case pick c a b => rw [ev_on fun n hn => h n (.inl hn), ev_on fun n hn => h n (.inr (.inl hn)), ev_on fun n hn => h n (.inr (.inr hn))]
  case box x => rw [ev_on h]
  case build zs ps => rw [evp_on h]
  case mksl sh xs => rw [evs_on h]
  case load sh a => rw [ev_on h]
  case store n a x => rw [ev_on fun n hn => h n (.inl hn), ev_on fun n hn => h n (.inr hn)]
  case nilck x => rw [ev_on h]
  case bin op k c x y => rw [ev_on fun n hn => h n (.inl hn), ev_on fun n hn => h n (.inr hn)]
  case un op x => rw [ev_on h]
  case conv c x => rw [ev_on h]
  case mkif t x => rw [ev_on h]
  case mkfn f caps => cases caps with
    | nil => rfl
    | cons c cs => show K (.fn f ((c :: cs).map (ev s))) σ = K (.fn f ((c :: cs).map (ev s'))) σ; rw [evs_on h]
  case slice k x lo hi mx => rw [ev_on fun n hn => h n (.inl hn), evo_on fun n hn => h n (.inr (.inl hn)), evo_on fun n hn => h n (.inr (.inr (.inl hn))), evo_on fun n hn => h n (.inr (.inr (.inr hn)))]
  case faddr off x => rw [ev_on h]
  case field sh off x => rw [ev_on h]
  case iaddr sh x i => rw [ev_on fun n hn => h n (.inl hn), ev_on fun n hn => h n (.inr hn)]
  case index x i => rw [ev_on fun n hn => h n (.inl hn), ev_on fun n hn => h n (.inr hn)]
  case extract x i => rw [ev_on h]
  case call f args => rw [ev_on fun n hn => h n (.inl hn), evs_on fun n hn => h n (.inr hn)]
  case inv name x args => rw [ev_on fun n hn => h n (.inl hn), evs_on fun n hn => h n (.inr hn)]
  case len k x => rw [ev_on h]
  case append sh b a x => rw [ev_on fun n hn => h n (.inl hn), ev_on fun n hn => h n (.inr hn)]
  case min xs => rw [evs_on h]
  case ext x xs => rw [evs_on h]

/-! ### Weaker ends -/

theorem WInt_mono {op : BinOp} {k l : IntKind} {a b : Int} {K K' : V → Prop} (hK : ∀ v, K v → K' v) (h : WInt op k a l b K) : WInt op k a l b K' := by
  cases op <;> simp only [WInt] at h ⊢ <;> first | exact h | exact ⟨h.1, hK _ h.2⟩ | exact ⟨h.1, h.2.1, hK _ h.2.2⟩

theorem WStr_mono {op : BinOp} {a b : List UInt8} {K K' : V → Prop} (hK : ∀ v, K v → K' v) (h : WStr op a b K) : WStr op a b K' := by
  cases op <;> simp only [WStr] at h ⊢ <;> first | exact h | exact hK _ h | exact ⟨h.1, hK _ h.2⟩

theorem WEq_mono {k : EqK} {c : Bool} {x y : D} {B B' : Bool → Prop} (hB : ∀ b, B b → B' b) (h : WEq P k c x y B) : WEq P k c x y B' := by
  unfold WEq at h ⊢
  split at h
  all_goals first
    | exact ⟨h.1, hB _ h.2⟩
    | exact ⟨h.1, h.2.1, hB _ h.2.2⟩
    | exact ⟨h.1, fun e => hB _ (h.2.1 e), fun e => ⟨(h.2.2 e).1, (h.2.2 e).2.1, hB _ (h.2.2 e).2.2⟩⟩
    | exact ⟨h.1, fun b hb => hB _ (h.2 b hb)⟩
    | exact h.elim
    | skip
  split at h
  · split at h
    · exact hB _ h
    · exact h.elim
  · exact h.elim

theorem WBin_mono {op : BinOp} {k : EqK} {c : Bool} {x y : D} {K K' : V → Prop} (hK : ∀ v, K v → K' v) (h : WBin P op k c x y K) : WBin P op k c x y K' := by
  unfold WBin at h ⊢
  split at h
  · exact WInt_mono hK h
  · exact WStr_mono hK h
  · cases op <;> first | exact WEq_mono (fun b => hK _) h | exact h

theorem WUn_mono {op : UnOp} {x : D} {K K' : V → Prop} (hK : ∀ v, K v → K' v) (h : WUn op x K) : WUn op x K' := by
  unfold WUn at h ⊢
  split at h <;> first | exact hK _ h | exact h

theorem WConv_mono {c : ConvK} {x : D} {K K' : V → Prop} (hK : ∀ v, K v → K' v) (h : WConv c x K) : WConv c x K' := by
  unfold WConv at h ⊢
  split at h <;> first | exact hK _ h | exact ⟨h.1, hK _ h.2⟩ | exact ⟨h.choose, h.choose_spec.1, hK _ h.choose_spec.2⟩ | exact h

theorem WLoad_mono {sh : Sh} {a : D} {σ : Sg} {K K' : D → Prop} (hK : ∀ v, K v → K' v) (h : WLoad sh a σ K) : WLoad sh a σ K' := by
  cases a with
  | imm sh' x off =>
    simp only [WLoad] at h ⊢
    split
    · rename_i hc; rw [if_pos hc] at h; exact hK _ h
    · rename_i hc
      rw [if_neg hc] at h
      cases sh with
      | none => dsimp only at h ⊢; cases hx : x.cells[off]? with
        | none => rw [hx] at h; exact h
        | some c => rw [hx] at h; exact hK _ h
      | some n => exact ⟨h.1, hK _ h.2⟩
  | ptr o off =>
    simp only [WLoad] at h ⊢
    rcases hob : σ.objs[o]? with _ | (cs | es | _ | _)
    · rw [hob] at h; exact h
    · rw [hob] at h
      cases sh with
      | none => dsimp only at h ⊢; cases hx : cs[off]? with
        | none => rw [hx] at h; exact h
        | some c => rw [hx] at h; exact hK _ h
      | some n => exact ⟨h.1, h.2.1, hK _ h.2.2⟩
    · rw [hob] at h; exact h
    · rw [hob] at h; exact h
    · rw [hob] at h; exact h
  | v y =>
    cases y with
    | box sh' x off =>
      simp only [WLoad] at h ⊢
      split
      · rename_i hc; rw [if_pos hc] at h; exact hK _ h
      · rename_i hc
        rw [if_neg hc] at h
        cases sh with
        | none => dsimp only at h ⊢; cases hx : x.cells[off]? with
          | none => rw [hx] at h; exact h
          | some c => rw [hx] at h; exact hK _ h
        | some n => exact ⟨h.1, hK _ h.2⟩
    | _ => exact h
  | _ => exact h
theorem WLdk_mono {sh : Sh} {a : D} {σ : Sg} {K K' : D → Prop} (hK : ∀ v, K v → K' v) (h : WLdk sh a σ K) : WLdk sh a σ K' := by
  have hl := fun h => WLoad_mono (sh := sh) (a := a) (σ := σ) hK h
  cases a with
  | v y =>
    cases y with
    | adr b off =>
      obtain ⟨o, cs, h1, h2⟩ := h
      refine ⟨o, cs, h1, ?_⟩
      cases sh with
      | none => dsimp only at h2 ⊢; cases hx : cs[off]? with
        | none => rw [hx] at h2; exact h2
        | some c => rw [hx] at h2; exact hK _ h2
      | some n => exact ⟨h2.1, h2.2.1, hK _ h2.2.2⟩
    | _ => exact hl h
  | _ => exact hl h

theorem WStore_mono {n : Nat} {a x : D} {σ : Sg} {K K' : D → Sg → Prop} (hK : ∀ d σ, K d σ → K' d σ) (h : WStore n a x σ K) : WStore n a x σ K' := by
  cases a with
  | ptr o off =>
    simp only [WStore] at h ⊢
    rcases hob : σ.objs[o]? with _ | (cs | es | _ | _)
    · rw [hob] at h; exact h
    · rw [hob] at h; exact ⟨h.1, h.2.1, h.2.2.1, h.2.2.2.1, hK _ _ h.2.2.2.2⟩
    · rw [hob] at h; exact h
    · rw [hob] at h; exact h
    · rw [hob] at h; exact h
  | v y =>
    cases y with
    | adr b off =>
      obtain ⟨o, cs, h1, h2, h3, h4, h5, h6⟩ := h
      exact ⟨o, cs, h1, h2, h3, h4, h5, hK _ _ h6⟩
    | _ => exact h
  | _ => exact h

theorem WNil_mono {x : D} {K K' : D → Prop} (hK : ∀ v, K v → K' v) (h : WNil x K) : WNil x K' := by
  unfold WNil at h ⊢
  split at h <;> first | exact hK _ h | exact h

theorem WSlice_mono {k : SlK} {x : D} {lo hi mx : Option D} {K K' : V → Prop} (hK : ∀ v, K v → K' v) (h : WSlice k x lo hi mx K) : WSlice k x lo hi mx K' := by
  have key : ∀ {o : Option (Int × Int × Option Int)} {n : Nat} {sh : Sh} {xs : List V} {K K' : V → Prop}, (∀ v, K v → K' v) →
      (match o with | some (l, h, none) => 0 ≤ l ∧ l ≤ h ∧ h ≤ n ∧ K (.sl sh false ((xs.take h.toNat).drop l.toNat)) | some (l, h, some m) => 0 ≤ l ∧ l ≤ h ∧ h = m ∧ m ≤ n ∧ K (.sl sh true ((xs.take h.toNat).drop l.toNat)) | none => False) →
      (match o with | some (l, h, none) => 0 ≤ l ∧ l ≤ h ∧ h ≤ n ∧ K' (.sl sh false ((xs.take h.toNat).drop l.toNat)) | some (l, h, some m) => 0 ≤ l ∧ l ≤ h ∧ h = m ∧ m ≤ n ∧ K' (.sl sh true ((xs.take h.toNat).drop l.toNat)) | none => False) := by
    intro o n sh xs K K' hK h
    rcases o with _ | ⟨l, h', _ | m⟩
    · exact h
    · exact ⟨h.1, h.2.1, h.2.2.1, hK _ h.2.2.2⟩
    · exact ⟨h.1, h.2.1, h.2.2.1, h.2.2.2.1, hK _ h.2.2.2.2⟩
  unfold WSlice at h ⊢
  split at h
  · rename_i s
    rcases hb : bounds s.length lo hi mx with _ | ⟨l, h', _ | m⟩ <;> rw [hb] at h
    · exact h
    · exact ⟨h.1, h.2.1, h.2.2.1, hK _ h.2.2.2⟩
    · exact h
  · exact ⟨h.1, key hK h.2⟩
  · exact ⟨h.1, key hK h.2⟩
  · rcases hb : bounds 0 lo hi mx with _ | ⟨l, h', q⟩ <;> rw [hb] at h
    · exact h
    · exact ⟨h.1, h.2.1, h.2.2.1, hK _ h.2.2.2⟩
  · exact h

theorem WSl_mono {k : SlK} {x : D} {lo hi mx : Option D} {K K' : D → Prop} (hK : ∀ v, K v → K' v) (h : WSl k x lo hi mx K) : WSl k x lo hi mx K' := by
  unfold WSl at h ⊢
  split at h
  · rename_i sh o off len sh' cp
    unfold WSlM at h ⊢
    refine ⟨h.1, ?_⟩
    replace h := h.2
    cases cp with
    | none => exact h
    | some c =>
      dsimp only at h ⊢
      rcases hb : bounds len lo hi mx with _ | ⟨l, h', _ | m⟩ <;> rw [hb] at h
      · exact h
      · exact ⟨h.1, h.2.1, h.2.2.1, hK _ h.2.2.2⟩
      · exact ⟨h.1, h.2.1, h.2.2.1, h.2.2.2.1, hK _ h.2.2.2.2⟩
  · exact WSlice_mono (fun v => hK _) h

theorem WFaddr_mono {off : Nat} {x : D} {K K' : D → Prop} (hK : ∀ v, K v → K' v) (h : WFaddr off x K) : WFaddr off x K' := by
  unfold WFaddr at h ⊢
  split at h <;> first | exact hK _ h | exact h

theorem WField_mono {sh : Sh} {off : Nat} {x : D} {K K' : D → Prop} (hK : ∀ v, K v → K' v) (h : WField sh off x K) : WField sh off x K' := by
  unfold WField at h ⊢
  split at h
  · rename_i cs
    cases sh with
    | none => dsimp only at h ⊢; cases hx : cs[off]? with
      | none => rw [hx] at h; exact h
      | some c => rw [hx] at h; exact hK _ h
    | some n => exact ⟨h.1, hK _ h.2⟩
  · rename_i cs
    cases sh with
    | none => dsimp only at h ⊢; cases hx : cs[off]? with
      | none => rw [hx] at h; exact h
      | some c => rw [hx] at h; exact hK _ h
    | some n => exact ⟨h.1, hK _ h.2⟩
  · exact h

theorem WIaddr_mono {sh : Sh} {x i : D} {K K' : D → Prop} (hK : ∀ v, K v → K' v) (h : WIaddr sh x i K) : WIaddr sh x i K' := by
  unfold WIaddr at h ⊢
  split at h <;> first | exact ⟨h.1, h.2.1, h.2.2.1, fun y hy => hK _ (h.2.2.2 y hy)⟩ | exact ⟨h.1, h.2.1, h.2.2.1, hK _ h.2.2.2⟩ | exact h

theorem WIndex_mono {x i : D} {K K' : V → Prop} (hK : ∀ v, K v → K' v) (h : WIndex x i K) : WIndex x i K' := by
  unfold WIndex at h ⊢
  split at h <;> first | exact ⟨h.1, h.2.1, fun y hy => hK _ (h.2.2 y hy)⟩ | exact h

theorem WExtract_mono {x : D} {i : Nat} {K K' : D → Prop} (hK : ∀ v, K v → K' v) (h : WExtract x i K) : WExtract x i K' := by
  cases x with
  | tup ds =>
    simp only [WExtract] at h ⊢
    cases hx : ds[i]? with
    | none => rw [hx] at h; exact h
    | some c => rw [hx] at h; exact hK _ h
  | _ => exact h

theorem WLen_mono {k : LenK} {x : D} {σ : Sg} {K K' : V → Prop} (hK : ∀ v, K v → K' v) (h : WLen k x σ K) : WLen k x σ K' := by
  unfold WLen at h ⊢
  split at h <;> first | exact hK _ h | skip
  · rename_i o
    rcases hob : σ.objs[o]? with _ | (cs | es | _ | _)
    · rw [hob] at h; exact h
    · rw [hob] at h; exact h
    · rw [hob] at h; exact ⟨h.1, hK _ h.2⟩
    · rw [hob] at h; exact h
    · rw [hob] at h; exact h
  · exact h

theorem WAppend_mono {sh : Sh} {b : Nat} {a x : D} {σ : Sg} {K K' : D → Sg → Prop} (hK : ∀ d σ, K d σ → K' d σ) (h : WAppend sh b a x σ K) : WAppend sh b a x σ K' := by
  unfold WAppend at h ⊢
  split at h
  · exact h
  · rename_i ys hys
    split at h
    · exact ⟨h.1, hK _ _ h.2⟩
    · exact ⟨h.1, h.2.1, hK _ _ h.2.2⟩
    · exact ⟨h.1, h.2.1, h.2.2.1, hK _ _ h.2.2.2⟩
    · exact h

theorem WMin_mono {xs : List D} {K K' : V → Prop} (hK : ∀ v, K v → K' v) (h : WMin xs K) : WMin xs K' := by
  unfold WMin at h ⊢
  split at h <;> first | exact ⟨h.1, hK _ h.2⟩ | exact h

theorem WMksl_mono {sh : Sh} {xs : List D} {K K' : V → Prop} (hK : ∀ v, K v → K' v) (h : WMksl sh xs K) : WMksl sh xs K' := by
  unfold WMksl at h ⊢
  split at h <;> first | exact ⟨h.1, hK _ h.2⟩ | exact h

theorem WApm0_mono {sh : Sh} {b : Nat} {ys : List V} {σ : Sg} {K K' : D → Sg → Prop} (hK : ∀ d σ, K d σ → K' d σ) (h : WApm0 sh b ys σ K) : WApm0 sh b ys σ K' :=
  ⟨fun e => hK _ _ (h.1 e), fun e => ⟨(h.2 e).1, fun c h1 h2 => hK _ _ ((h.2 e).2 c h1 h2)⟩⟩
theorem WApmV_mono {sh : Sh} {b : Nat} {s : D} {ys : List V} {σ : Sg} {K K' : D → Sg → Prop} (hK : ∀ d σ, K d σ → K' d σ) (h : WApmV sh b s ys σ K) : WApmV sh b s ys σ K' := by
  unfold WApmV at h ⊢
  split at h
  · exact WApm0_mono hK h
  · exact ⟨h.1, WApm0_mono hK h.2⟩
  · refine ⟨h.1, ?_⟩
    replace h := h.2
    unfold WApm1 at h ⊢
    split at h
    · exact ⟨fun e => ⟨(h.1 e).1, hK _ _ (h.1 e).2⟩, fun e => ⟨(h.2 e).1, (h.2 e).2.1, fun c h1 h2 => hK _ _ ((h.2 e).2.2 c h1 h2)⟩⟩
    · exact h
  · exact h
theorem WApm_mono {sh : Sh} {b : Nat} {s x : D} {σ : Sg} {K K' : D → Sg → Prop} (hK : ∀ d σ, K d σ → K' d σ) (h : WApm sh b s x σ K) : WApm sh b s x σ K' := by
  unfold WApm at h ⊢
  split at h
  · exact h
  · exact WApmV_mono hK h
theorem WClear_mono {zs : List V} {x : D} {σ : Sg} {K K' : D → Sg → Prop} (hK : ∀ d σ, K d σ → K' d σ) (h : WClear zs x σ K) : WClear zs x σ K' := by
  unfold WClear at h ⊢
  split at h
  · exact hK _ _ h
  · exact hK _ _ h
  · split at h
    · exact ⟨h.1, h.2.1, h.2.2.1, hK _ _ h.2.2.2⟩
    · exact h
  · exact h
theorem WCopy_mono {sh : Sh} {s x : D} {σ : Sg} {K K' : D → Sg → Prop} (hK : ∀ d σ, K d σ → K' d σ) (h : WCopy sh s x σ K) : WCopy sh s x σ K' := by
  unfold WCopy at h ⊢
  split at h
  · exact h
  · split at h
    · split at h
      · exact ⟨h.1, h.2.1, h.2.2.1, h.2.2.2.1, hK _ _ h.2.2.2.2⟩
      · exact h
    · exact h
theorem WCap_mono {x : D} {K K' : D → Prop} (hK : ∀ d, K d → K' d) (h : WCap x K) : WCap x K' := by
  unfold WCap at h ⊢
  split at h <;> first | exact hK _ h | exact fun c h1 h2 => hK _ (h c h1 h2) | exact h

theorem WX_mono {x : XOp} {ds : List D} {σ : Sg} {K K' : D → Sg → Prop} (hK : ∀ d σ, K d σ → K' d σ) (h : WX x ds σ K) : WX x ds σ K' := by
  cases x with
  | mkmap => exact hK _ _ h
  | stop => exact h
  | mput kk =>
    simp only [WX] at h ⊢
    split at h
    · rename_i o k d
      rcases hob : σ.objs[o]? with _ | (cs | es | _ | _)
      · rw [hob] at h; exact h
      · rw [hob] at h; exact h
      · rw [hob] at h; exact ⟨h.1, h.2.1, hK _ _ h.2.2⟩
      · rw [hob] at h; exact h
      · rw [hob] at h; exact h
    · exact h
  | mget kk ok z =>
    simp only [WX] at h ⊢
    split at h
    · exact ⟨h.1, hK _ _ h.2⟩
    · rename_i o k
      rcases hob : σ.objs[o]? with _ | (cs | es | _ | _)
      · rw [hob] at h; exact h
      · rw [hob] at h; exact h
      · rw [hob] at h; exact ⟨h.1, h.2.1, hK _ _ h.2.2⟩
      · rw [hob] at h; exact h
      · rw [hob] at h; exact h
    · exact h
  | appm sh b =>
    simp only [WX] at h ⊢
    split at h
    · exact WApm_mono hK h
    · exact h
  | mkvec sh b zs =>
    simp only [WX] at h ⊢
    split at h
    · exact ⟨h.1, h.2.1, h.2.2.1, fun e => hK _ _ (h.2.2.2.1 e), fun e => hK _ _ (h.2.2.2.2 e)⟩
    · exact h
  | copy sh =>
    simp only [WX] at h ⊢
    split at h
    · exact WCopy_mono hK h
    · exact h
  | appz sh b zs =>
    simp only [WX] at h ⊢
    split at h
    · exact ⟨h.1, h.2.1, WApmV_mono hK h.2.2⟩
    · exact h
  | clear zs =>
    simp only [WX] at h ⊢
    split at h
    · exact WClear_mono hK h
    · exact h
  | max =>
    simp only [WX] at h ⊢
    split at h
    · exact ⟨h.1, hK _ _ h.2⟩
    · exact h
  | sto =>
    simp only [WX] at h ⊢
    split at h
    · exact WStore_mono hK h
    · exact h
  | bind =>
    simp only [WX] at h ⊢
    split at h
    · exact hK _ _ h
    · exact h
  | ibox =>
    simp only [WX] at h ⊢
    split at h
    · rename_i x
      cases hx : x.toV with
      | none => rw [hx] at h; exact h
      | some v => rw [hx] at h; exact ⟨h.1, hK _ _ h.2⟩
    · exact h
  | xbox =>
    simp only [WX] at h ⊢
    split at h
    · exact ⟨h.1, fun b => hK _ _ (h.2 b)⟩
    · exact h
  | iexp sh =>
    simp only [WX] at h ⊢
    split at h
    · rename_i o off len sh' cp k n
      refine ⟨h.1, h.2.1, h.2.2.1, ?_⟩
      have h4 := h.2.2.2
      rcases hob : σ.objs[o]? with _ | (cs | es | _ | _)
      · rw [hob] at h4; exact h4
      · rw [hob] at h4; exact ⟨h4.1, fun b => hK _ _ (h4.2 b)⟩
      · rw [hob] at h4; exact h4
      · rw [hob] at h4; exact h4
      · rw [hob] at h4; exact h4
    · exact h
  | ldk sh =>
    simp only [WX] at h ⊢
    split at h
    · exact WLdk_mono (fun d => hK _ _) h
    · exact h
  | give =>
    simp only [WX] at h ⊢
    split at h
    · obtain ⟨cs, xs, h1, h2, h3, h4, h5, h6⟩ := h
      exact ⟨cs, xs, h1, h2, h3, h4, h5, hK _ _ h6⟩
    · exact h
  | cap =>
    simp only [WX] at h ⊢
    split at h
    · exact WCap_mono (fun d => hK _ _) h
    · exact h
  | mkslm sh =>
    simp only [WX, WMkslm] at h ⊢
    refine WMksl_mono (fun v h => ?_) h
    cases v <;> first | exact h.elim | exact ⟨h.1, hK _ _ h.2⟩
  | mrange =>
    simp only [WX] at h ⊢
    split at h
    · exact hK _ _ h
    · rename_i o
      rcases hob : σ.objs[o]? with _ | (cs | es | _ | _)
      · rw [hob] at h; exact h
      · rw [hob] at h; exact h
      · rw [hob] at h; exact ⟨h.1, hK _ _ h.2⟩
      · rw [hob] at h; exact h
      · rw [hob] at h; exact h
    · exact h
  | mdel kk =>
    simp only [WX] at h ⊢
    split at h
    · exact ⟨h.1, hK _ _ h.2⟩
    · rename_i o k
      rcases hob : σ.objs[o]? with _ | (cs | es | _ | _)
      · rw [hob] at h; exact h
      · rw [hob] at h; exact h
      · rw [hob] at h; exact ⟨h.1, h.2.1, h.2.2.1, hK _ _ h.2.2.2⟩
      · rw [hob] at h; exact h
      · rw [hob] at h; exact h
    · exact h
  | mnext =>
    simp only [WX] at h ⊢
    split at h
    · rename_i i
      split at h
      · exact hK _ _ h
      · unfold WNext at h ⊢
        split at h
        · exact ⟨h.1, h.2.1, fun e => hK _ _ (h.2.2.1 e), fun j x e1 e2 => hK _ _ (h.2.2.2 j x e1 e2)⟩
        · exact h
      · exact h
    · exact h
  | mentry =>
    simp only [WX] at h ⊢
    split at h
    · rename_i i
      split at h
      · unfold WEntry at h ⊢
        split at h
        · obtain ⟨h0, h1, pre, j, x, h2, h3, h4⟩ := h
          exact ⟨h0, h1, pre, j, x, h2, h3, hK _ _ h4⟩
        · exact h
      · exact h
    · exact h

theorem WOp_mono {op : AOp} {σ : Sg} {K K' : D → Sg → Prop} (hK : ∀ d σ, K d σ → K' d σ) (h : WOp P op s σ K) : WOp P op s σ K' := by
  cases op <;> simp only [WOp] at h ⊢
  case mv x => exact hK _ _ h
  case pick c a b =>
    generalize ev s c = d at h
    cases d with
    | v x => cases x with
      | bool p => exact ⟨fun e => hK _ _ (h.1 e), fun e => hK _ _ (h.2 e)⟩
      | _ => exact h
    | _ => exact h
  case alloc => exact hK _ _ h
  case box x => exact ⟨h.1, hK _ _ h.2⟩
  case build zs ps =>
    split at h
    · exact hK _ _ h
    · exact h
  case mksl sh xs => exact WMksl_mono (fun v => hK _ _) h
  case load sh a => exact WLoad_mono (fun v => hK _ _) h
  case store n a x => exact WStore_mono hK h
  case nilck x => exact WNil_mono (fun v => hK _ _) h
  case bin op k c x y => exact WBin_mono (fun v => hK _ _) h
  case un op x => exact WUn_mono (fun v => hK _ _) h
  case conv c x => exact WConv_mono (fun v => hK _ _) h
  case mkif t x => exact hK _ _ h
  case mkfn f caps => exact hK _ _ h
  case slice k x lo hi mx => exact WSl_mono (fun v => hK _ _) h
  case faddr off x => exact WFaddr_mono (fun v => hK _ _) h
  case field sh off x => exact WField_mono (fun v => hK _ _) h
  case iaddr sh x i => exact WIaddr_mono (fun v => hK _ _) h
  case index x i => exact WIndex_mono (fun v => hK _ _) h
  case extract x i => exact WExtract_mono (fun v => hK _ _) h
  case call f args =>
    split at h
    · exact h.mono hK
    · exact h.mono hK
    · exact h.mono hK
    · exact h
  case inv name x args =>
    unfold WInv at h ⊢
    split at h
    · exact h.imp fun g h => ⟨h.1, h.2.mono hK⟩
    · exact h.imp fun g h => ⟨h.1, h.2.mono hK⟩
    · exact h
  case len k x => exact WLen_mono (fun v => hK _ _) h
  case append sh b a x => exact WAppend_mono hK h
  case min xs => exact WMin_mono (fun v => hK _ _) h
  case ext x xs => exact WX_mono hK h

theorem WO_mono : ∀ {ros : List RO} {s : List (Nat × D)} {σ : Sg} {K K' : List (Nat × D) → Sg → Prop}, (∀ s σ, K s σ → K' s σ) → WO P ros s σ K → WO P ros s σ K'
  | [], s, σ, K, K', hK, h => hK _ _ h
  | ⟨dst, none, op⟩ :: r, s, σ, K, K', hK, h => by
    simp only [WO] at h ⊢
    exact WOp_mono (fun d σ' h => WO_mono hK h) h
  | ⟨dst, some (n, want), op⟩ :: r, s, σ, K, K', hK, h => by
    simp only [WO] at h ⊢
    generalize look s n = d at h
    cases d with
    | v x => cases x with
      | bool p => exact ⟨fun e => WOp_mono (fun d σ' h => WO_mono hK h) (h.1 e), fun e => WO_mono hK (h.2 e)⟩
      | _ => exact h
    | tup ds => cases ds with
      | nil => exact WO_mono hK h
      | cons d ds => exact h
    | _ => exact h

end
end Go.Abs

/-
  Quiet operations: one answer, whatever else has happened. (Own work; seat-independent.)
-/
set_option linter.unusedVariables false
set_option linter.unusedSimpArgs false
namespace Go.Abs
open Go

def quietBin : EqK → Bool
  | .sl => false
  | _ => true

def XOp.quiet : XOp → Bool
  | .mget _ _ _ => true
  | .stop => true
  | _ => false

def AOp.quiet : AOp → Bool
  | .bin _ k _ _ _ => quietBin k
  | .alloc _ => false
  | .box _ => false
  | .store _ _ _ => false
  | .call _ _ => false
  | .inv _ _ _ => false
  | .append _ _ _ _ => false
  | .ext x _ => x.quiet
  | _ => true

section
variable {P : Program} {s : List (Nat × D)}

theorem WInt_det {op : BinOp} {k l : IntKind} {a b : Int} {K : V → Prop} (h : WInt op k a l b K) : ∃ v, K v ∧ ∀ K' : V → Prop, K' v → WInt op k a l b K' := by
  cases op <;> simp only [WInt] at h ⊢
  case add => exact ⟨_, h.2, fun K' hk => ⟨h.1, hk⟩⟩
  case sub => exact ⟨_, h.2, fun K' hk => ⟨h.1, hk⟩⟩
  case mul => exact ⟨_, h.2, fun K' hk => ⟨h.1, hk⟩⟩
  case quo => exact ⟨_, h.2.2, fun K' hk => ⟨h.1, h.2.1, hk⟩⟩
  case rem => exact ⟨_, h.2.2, fun K' hk => ⟨h.1, h.2.1, hk⟩⟩
  case and => exact ⟨_, h.2, fun K' hk => ⟨h.1, hk⟩⟩
  case or => exact ⟨_, h.2, fun K' hk => ⟨h.1, hk⟩⟩
  case xor => exact ⟨_, h.2, fun K' hk => ⟨h.1, hk⟩⟩
  case shl => exact ⟨_, h.2, fun K' hk => ⟨h.1, hk⟩⟩
  case shr => exact ⟨_, h.2, fun K' hk => ⟨h.1, hk⟩⟩
  case eql => exact ⟨_, h.2, fun K' hk => ⟨h.1, hk⟩⟩
  case neq => exact ⟨_, h.2, fun K' hk => ⟨h.1, hk⟩⟩
  case lss => exact ⟨_, h.2, fun K' hk => ⟨h.1, hk⟩⟩
  case leq => exact ⟨_, h.2, fun K' hk => ⟨h.1, hk⟩⟩
  case gtr => exact ⟨_, h.2, fun K' hk => ⟨h.1, hk⟩⟩
  case geq => exact ⟨_, h.2, fun K' hk => ⟨h.1, hk⟩⟩
  all_goals exact h.elim

theorem WStr_det {op : BinOp} {a b : List UInt8} {K : V → Prop} (h : WStr op a b K) : ∃ v, K v ∧ ∀ K' : V → Prop, K' v → WStr op a b K' := by
  cases op <;> simp only [WStr] at h ⊢
  case add => exact ⟨_, h.2, fun K' hk => ⟨h.1, hk⟩⟩
  all_goals first | exact ⟨_, h, fun K' hk => hk⟩ | exact h.elim

theorem WEq_det {k : EqK} {c : Bool} {x y : D} {B : Bool → Prop} (hk : quietBin k = true) (h : WEq P k c x y B) : ∃ b, B b ∧ ∀ B' : Bool → Prop, B' b → WEq P k c x y B' := by
  unfold WEq at h ⊢
  split at h
  all_goals first
    | exact ⟨_, h.2, fun B' hb => ⟨h.1, hb⟩⟩
    | exact ⟨_, h.2.2, fun B' hb => ⟨h.1, h.2.1, hb⟩⟩
    | (rw [h.1] at hk; cases hk)
    | exact h.elim
    | skip
  · rename_i t p a u q b
    by_cases htu : t = u
    · exact ⟨_, (h.2.2 htu).2.2, fun B' hb => ⟨h.1, fun e => (e htu).elim, fun _ => ⟨(h.2.2 htu).1, (h.2.2 htu).2.1, hb⟩⟩⟩
    · exact ⟨_, h.2.1 htu, fun B' hb => ⟨h.1, fun _ => hb, fun e => (htu e).elim⟩⟩
  · split at h
    · split at h
      · exact ⟨_, h, fun B' hb => hb⟩
      · exact h.elim
    · exact h.elim

theorem WBin_det {op : BinOp} {k : EqK} {c : Bool} {x y : D} {K : V → Prop} (hk : quietBin k = true) (h : WBin P op k c x y K) : ∃ v, K v ∧ ∀ K' : V → Prop, K' v → WBin P op k c x y K' := by
  unfold WBin at h ⊢
  split at h
  · exact WInt_det h
  · exact WStr_det h
  · cases op
    case eql => obtain ⟨b, h1, h2⟩ := WEq_det hk h; exact ⟨_, h1, fun K' hb => h2 _ hb⟩
    case neq => obtain ⟨b, h1, h2⟩ := WEq_det hk h; exact ⟨_, h1, fun K' hb => h2 _ hb⟩
    all_goals exact h.elim

theorem WUn_det {op : UnOp} {x : D} {K : V → Prop} (h : WUn op x K) : ∃ v, K v ∧ ∀ K' : V → Prop, K' v → WUn op x K' := by
  unfold WUn at h ⊢
  split at h <;> first | exact ⟨_, h, fun K' hk => hk⟩ | exact h.elim

theorem WConv_det {c : ConvK} {x : D} {K : V → Prop} (h : WConv c x K) : ∃ v, K v ∧ ∀ K' : V → Prop, K' v → WConv c x K' := by
  unfold WConv at h ⊢
  split at h
  all_goals first
    | exact h.elim
    | exact ⟨_, h, fun K' hk => hk⟩
    | exact ⟨_, h.2, fun K' hk => ⟨h.1, hk⟩⟩
    | exact ⟨_, h.choose_spec.2, fun K' hk => ⟨_, h.choose_spec.1, hk⟩⟩

theorem WLoad_det {sh : Sh} {a : D} {σ : Sg} {K : D → Prop} (h : WLoad sh a σ K) : ∃ d, K d ∧ ∀ σ' (K' : D → Prop), KeepOn (rdL sh a) σ σ' → K' d → WLoad sh a σ' K' := by
  cases a with
  | imm sh' x off =>
    simp only [WLoad] at h ⊢
    by_cases hc : off = 0 ∧ sh = sh'
    · rw [if_pos hc] at h
      exact ⟨_, h, fun σ' K' _ hk => by rw [if_pos hc]; exact hk⟩
    · rw [if_neg hc] at h
      cases sh with
      | none => dsimp only at h ⊢; cases hx : x.cells[off]? with
        | none => rw [hx] at h; exact h.elim
        | some c => rw [hx] at h; exact ⟨_, h, fun σ' K' _ hk => by rw [if_neg hc]; exact hk⟩
      | some n => exact ⟨_, h.2, fun σ' K' _ hk => by rw [if_neg hc]; exact ⟨h.1, hk⟩⟩
  | ptr o off =>
    simp only [WLoad] at h ⊢
    rcases hob : σ.objs[o]? with _ | (cs | es | _ | _)
    · rw [hob] at h; exact h.elim
    · rw [hob] at h
      cases sh with
      | none => dsimp only at h ⊢; cases hx : cs[off]? with
        | none => rw [hx] at h; exact h.elim
        | some c =>
          rw [hx] at h
          refine ⟨_, h, fun σ' K' hs hk => ?_⟩
          rcases hs ⟨o, some (none, off)⟩ (by simp [rdL]) _ hob with hq | ⟨cs1, cs2, e, hq, hr⟩
          · dsimp only at hq
            rw [hq]; dsimp only; rw [hx]; exact hk
          · cases e
            dsimp only at hq
            have hr2 : cs2[off]? = cs[off]? := hr
            rw [hq]; dsimp only; rw [hr2, hx]; exact hk
      | some n =>
        refine ⟨_, h.2.2, fun σ' K' hs hk => ?_⟩
        rcases hs ⟨o, some (some n, off)⟩ (by simp [rdL]) _ hob with hq | ⟨cs1, cs2, e, hq, hr⟩
        · dsimp only at hq
          rw [hq]; exact ⟨h.1, h.2.1, hk⟩
        · cases e
          dsimp only at hq
          obtain ⟨hr1, hr2⟩ := hr
          rw [hq]; dsimp only; rw [hr1, hr2]; exact ⟨h.1, h.2.1, hk⟩
    · rw [hob] at h; exact h.elim
    · rw [hob] at h; exact h.elim
    · rw [hob] at h; exact h.elim
  | v y =>
    cases y with
    | box sh' x off =>
      simp only [WLoad] at h ⊢
      by_cases hc : off = 0 ∧ sh = sh'
      · rw [if_pos hc] at h
        exact ⟨_, h, fun σ' K' _ hk => by rw [if_pos hc]; exact hk⟩
      · rw [if_neg hc] at h
        cases sh with
        | none => dsimp only at h ⊢; cases hx : x.cells[off]? with
          | none => rw [hx] at h; exact h.elim
          | some c => rw [hx] at h; exact ⟨_, h, fun σ' K' _ hk => by rw [if_neg hc]; exact hk⟩
        | some n => exact ⟨_, h.2, fun σ' K' _ hk => by rw [if_neg hc]; exact ⟨h.1, hk⟩⟩
    | _ => exact h.elim
  | _ => exact h.elim

theorem WNil_det {x : D} {K : D → Prop} (h : WNil x K) : ∃ v, K v ∧ ∀ K' : D → Prop, K' v → WNil x K' := by
  unfold WNil at h ⊢
  split at h <;> first | exact ⟨_, h, fun K' hk => hk⟩ | exact h.elim

theorem WSlice_det {k : SlK} {x : D} {lo hi mx : Option D} {K : V → Prop} (h : WSlice k x lo hi mx K) : ∃ v, K v ∧ ∀ K' : V → Prop, K' v → WSlice k x lo hi mx K' := by
  unfold WSlice at h ⊢
  split at h
  · rename_i s
    rcases hb : bounds s.length lo hi mx with _ | ⟨l, h', _ | m⟩ <;> rw [hb] at h
    · exact h.elim
    · exact ⟨_, h.2.2.2, fun K' hk => ⟨h.1, h.2.1, h.2.2.1, hk⟩⟩
    · exact h.elim
  · rename_i sh sh' f xs
    rcases hb : bounds xs.length lo hi mx with _ | ⟨l, h', _ | m⟩ <;> rw [hb] at h
    · exact h.2.elim
    · exact ⟨_, h.2.2.2.2, fun K' hk => ⟨h.1, h.2.1, h.2.2.1, h.2.2.2.1, hk⟩⟩
    · exact ⟨_, h.2.2.2.2.2, fun K' hk => ⟨h.1, h.2.1, h.2.2.1, h.2.2.2.1, h.2.2.2.2.1, hk⟩⟩
  · rename_i sh t sh' xs
    rcases hb : bounds xs.length lo hi mx with _ | ⟨l, h', _ | m⟩ <;> rw [hb] at h
    · exact h.2.elim
    · exact ⟨_, h.2.2.2.2, fun K' hk => ⟨h.1, h.2.1, h.2.2.1, h.2.2.2.1, hk⟩⟩
    · exact ⟨_, h.2.2.2.2.2, fun K' hk => ⟨h.1, h.2.1, h.2.2.1, h.2.2.2.1, h.2.2.2.2.1, hk⟩⟩
  · rcases hb : bounds 0 lo hi mx with _ | ⟨l, h', q⟩ <;> rw [hb] at h
    · exact h.elim
    · exact ⟨_, h.2.2.2, fun K' hk => ⟨h.1, h.2.1, h.2.2.1, hk⟩⟩
  · exact h.elim

theorem WSl_det {k : SlK} {x : D} {lo hi mx : Option D} {K : D → Prop} (h : WSl k x lo hi mx K) : ∃ v, K v ∧ ∀ K' : D → Prop, K' v → WSl k x lo hi mx K' := by
  unfold WSl at h ⊢
  split at h
  · rename_i sh o off len sh' cp
    unfold WSlM at h ⊢
    obtain ⟨e, h⟩ := h
    cases cp with
    | none => exact h.elim
    | some c =>
      dsimp only at h ⊢
      rcases hb : bounds len lo hi mx with _ | ⟨l, h', _ | m⟩ <;> rw [hb] at h
      · exact h.elim
      · exact ⟨_, h.2.2.2, fun K' hk => ⟨e, h.1, h.2.1, h.2.2.1, hk⟩⟩
      · exact ⟨_, h.2.2.2.2, fun K' hk => ⟨e, h.1, h.2.1, h.2.2.1, h.2.2.2.1, hk⟩⟩
  · obtain ⟨v, h1, h2⟩ := WSlice_det h
    exact ⟨_, h1, fun K' hk => h2 _ hk⟩

theorem WFaddr_det {off : Nat} {x : D} {K : D → Prop} (h : WFaddr off x K) : ∃ v, K v ∧ ∀ K' : D → Prop, K' v → WFaddr off x K' := by
  unfold WFaddr at h ⊢
  split at h <;> first | exact ⟨_, h, fun K' hk => hk⟩ | exact h.elim

theorem WField_det {sh : Sh} {off : Nat} {x : D} {K : D → Prop} (h : WField sh off x K) : ∃ v, K v ∧ ∀ K' : D → Prop, K' v → WField sh off x K' := by
  unfold WField at h ⊢
  split at h
  · rename_i cs
    cases sh with
    | none => dsimp only at h ⊢; cases hx : cs[off]? with
      | none => rw [hx] at h; exact h.elim
      | some c => rw [hx] at h; exact ⟨_, h, fun K' hk => hk⟩
    | some n => exact ⟨_, h.2, fun K' hk => ⟨h.1, hk⟩⟩
  · rename_i cs
    cases sh with
    | none => dsimp only at h ⊢; cases hx : cs[off]? with
      | none => rw [hx] at h; exact h.elim
      | some c => rw [hx] at h; exact ⟨_, h, fun K' hk => hk⟩
    | some n => exact ⟨_, h.2, fun K' hk => ⟨h.1, hk⟩⟩
  · exact h.elim

theorem WIaddr_det {sh : Sh} {x i : D} {K : D → Prop} (h : WIaddr sh x i K) : ∃ v, K v ∧ ∀ K' : D → Prop, K' v → WIaddr sh x i K' := by
  unfold WIaddr at h ⊢
  split at h
  all_goals first
    | exact h.elim
    | (obtain ⟨h1, h2, h3, h4⟩ := h
       refine ⟨_, h4 _ (List.getElem?_eq_getElem (by omega)), fun K' hk => ⟨h1, h2, h3, fun y hy => ?_⟩⟩
       rw [List.getElem?_eq_getElem (by omega)] at hy
       cases hy
       exact hk)
    | exact ⟨_, h.2.2.2, fun K' hk => ⟨h.1, h.2.1, h.2.2.1, hk⟩⟩

theorem WIndex_det {x i : D} {K : V → Prop} (h : WIndex x i K) : ∃ v, K v ∧ ∀ K' : V → Prop, K' v → WIndex x i K' := by
  unfold WIndex at h ⊢
  split at h
  · obtain ⟨h2, h3, h4⟩ := h
    refine ⟨_, h4 _ (List.getElem?_eq_getElem (by omega)), fun K' hk => ⟨h2, h3, fun y hy => ?_⟩⟩
    rw [List.getElem?_eq_getElem (by omega)] at hy
    cases hy
    exact hk
  · exact h.elim

theorem WExtract_det {x : D} {i : Nat} {K : D → Prop} (h : WExtract x i K) : ∃ v, K v ∧ ∀ K' : D → Prop, K' v → WExtract x i K' := by
  cases x with
  | tup ds =>
    simp only [WExtract] at h ⊢
    cases hx : ds[i]? with
    | none => rw [hx] at h; exact h.elim
    | some c => rw [hx] at h; exact ⟨_, h, fun K' hk => hk⟩
  | _ => exact h.elim

theorem WLen_det {k : LenK} {x : D} {σ : Sg} {K : V → Prop} (h : WLen k x σ K) : ∃ v, K v ∧ ∀ σ' (K' : V → Prop), KeepOn (rdD x) σ σ' → K' v → WLen k x σ' K' := by
  unfold WLen at h ⊢
  split at h <;> first | exact ⟨_, h, fun σ' K' _ hk => hk⟩ | skip
  · rename_i o
    rcases hob : σ.objs[o]? with _ | (cs | es | _ | _)
    · rw [hob] at h; exact h.elim
    · rw [hob] at h; exact h.elim
    · rw [hob] at h; exact ⟨_, h.2, fun σ' K' hs hk => by rw [show σ'.objs[o]? = _ from (hs ⟨o, none⟩ (by simp [rdD, rdH]) _ hob).resolve_right id]; exact ⟨h.1, hk⟩⟩
    · rw [hob] at h; exact h.elim
    · rw [hob] at h; exact h.elim
  · exact h.elim

theorem WMin_det {xs : List D} {K : V → Prop} (h : WMin xs K) : ∃ v, K v ∧ ∀ K' : V → Prop, K' v → WMin xs K' := by
  unfold WMin at h ⊢
  split at h <;> first | exact ⟨_, h.2, fun K' hk => ⟨h.1, hk⟩⟩ | exact h.elim

theorem WMksl_det {sh : Sh} {xs : List D} {K : V → Prop} (h : WMksl sh xs K) : ∃ v, K v ∧ ∀ K' : V → Prop, K' v → WMksl sh xs K' := by
  unfold WMksl at h ⊢
  split at h <;> first | exact ⟨_, h.2, fun K' hk => ⟨h.1, hk⟩⟩ | exact h.elim

theorem det_of {rds : List Rd} {W1 : (V → Prop) → Prop} {W2 : Sg → (D → Sg → Prop) → Prop} {σ : Sg} {K : D → Sg → Prop} (h : ∃ v, K (.v v) σ ∧ ∀ K' : V → Prop, K' v → W1 K') (e : ∀ σ' K', W2 σ' K' = W1 fun v => K' (.v v) σ') :
    ∃ d, K d σ ∧ ∀ σ' (K' : D → Sg → Prop), KeepOn rds σ σ' → K' d σ' → W2 σ' K' := by
  obtain ⟨v, h1, h2⟩ := h
  exact ⟨_, h1, fun σ' K' _ hk => by rw [e]; exact h2 _ hk⟩

theorem detD_of {rds : List Rd} {W1 : (D → Prop) → Prop} {W2 : Sg → (D → Sg → Prop) → Prop} {σ : Sg} {K : D → Sg → Prop} (h : ∃ v, K v σ ∧ ∀ K' : D → Prop, K' v → W1 K') (e : ∀ σ' K', W2 σ' K' = W1 fun v => K' v σ') :
    ∃ d, K d σ ∧ ∀ σ' (K' : D → Sg → Prop), KeepOn rds σ σ' → K' d σ' → W2 σ' K' := by
  obtain ⟨v, h1, h2⟩ := h
  exact ⟨_, h1, fun σ' K' _ hk => by rw [e]; exact h2 _ hk⟩

theorem WX_det {x : XOp} (hq : x.quiet = true) {ds : List D} {σ : Sg} {K : D → Sg → Prop} (h : WX x ds σ K) : ∃ d, K d σ ∧ ∀ σ' (K' : D → Sg → Prop), KeepOn (rdH ds) σ σ' → K' d σ' → WX x ds σ' K' := by
  cases x with
  | mkmap => cases hq
  | mput => cases hq
  | appm => cases hq
  | mkvec => cases hq
  | copy => cases hq
  | cap => cases hq
  | mrange => cases hq
  | mnext => cases hq
  | mentry => cases hq
  | mkslm => cases hq
  | appz => cases hq
  | clear => cases hq
  | give => cases hq
  | max => cases hq
  | bind => cases hq
  | sto => cases hq
  | ibox => cases hq
  | xbox => cases hq
  | iexp => cases hq
  | ldk => cases hq
  | mdel => cases hq
  | stop => exact h.elim
  | mget kk ok z =>
    simp only [WX] at h ⊢
    split at h
    · exact ⟨_, h.2, fun σ' K' _ hk => ⟨h.1, hk⟩⟩
    · rename_i o k
      rcases hob : σ.objs[o]? with _ | (cs | es | _ | _)
      · rw [hob] at h; exact h.elim
      · rw [hob] at h; exact h.elim
      · rw [hob] at h; exact ⟨_, h.2.2, fun σ' K' hs hk => by rw [show σ'.objs[o]? = _ from (hs ⟨o, none⟩ (by simp [rdD, rdH]) _ hob).resolve_right id]; exact ⟨h.1, h.2.1, hk⟩⟩
      · rw [hob] at h; exact h.elim
      · rw [hob] at h; exact h.elim
    · exact h.elim

theorem WOp_det {op : AOp} (hq : op.quiet = true) {σ : Sg} {K : D → Sg → Prop} (h : WOp P op s σ K) : ∃ d, K d σ ∧ ∀ σ' (K' : D → Sg → Prop), KeepOn (op.reads s) σ σ' → K' d σ' → WOp P op s σ' K' := by
  cases op <;> simp only [AOp.quiet] at hq <;> simp only [WOp] at h ⊢
  case mv x => exact ⟨_, h, fun σ' K' _ hk => hk⟩
  case pick c a b =>
    generalize ev s c = d at h
    cases d with
    | v x => cases x with
      | bool p => cases p with
        | true => exact ⟨_, h.1 rfl, fun σ' K' _ hk => ⟨fun _ => hk, fun e => nomatch e⟩⟩
        | false => exact ⟨_, h.2 rfl, fun σ' K' _ hk => ⟨fun e => (nomatch e), fun _ => hk⟩⟩
      | _ => exact h.elim
    | _ => exact h.elim
  case build zs ps =>
    split at h
    · exact ⟨_, h, fun σ' K' _ hk => hk⟩
    · exact h.elim
  case mksl sh xs => exact det_of (WMksl_det h) fun _ _ => rfl
  case load sh a => obtain ⟨d, h1, h2⟩ := WLoad_det h; exact ⟨d, h1, fun σ' K' hs hk => h2 σ' _ hs hk⟩
  case nilck x => exact detD_of (WNil_det h) fun _ _ => rfl
  case bin op k c x y => exact det_of (WBin_det hq h) fun _ _ => rfl
  case un op x => exact det_of (WUn_det h) fun _ _ => rfl
  case conv c x => exact det_of (WConv_det h) fun _ _ => rfl
  case mkif t x => exact ⟨_, h, fun σ' K' _ hk => hk⟩
  case mkfn f caps => exact ⟨_, h, fun σ' K' _ hk => hk⟩
  case slice k x lo hi mx => exact detD_of (WSl_det h) fun _ _ => rfl
  case faddr off x => exact detD_of (WFaddr_det h) fun _ _ => rfl
  case field sh off x => exact detD_of (WField_det h) fun _ _ => rfl
  case iaddr sh x i => exact detD_of (WIaddr_det h) fun _ _ => rfl
  case index x i => exact det_of (WIndex_det h) fun _ _ => rfl
  case extract x i => exact detD_of (WExtract_det h) fun _ _ => rfl
  case len k x => obtain ⟨d, h1, h2⟩ := WLen_det h; exact ⟨_, h1, fun σ' K' hs hk => h2 σ' _ hs hk⟩
  case min xs => exact det_of (WMin_det h) fun _ _ => rfl
  case ext x xs => exact WX_det hq h
  all_goals cases hq

theorem reads_on {s' : List (Nat × D)} {op : AOp} (h : ∀ n ∈ op.tmps, look s n = look s' n) : op.reads s = op.reads s' := by
  cases op <;> try rfl
  case load sh a => exact congrArg (rdL sh) (ev_on h)
  case len k x => exact congrArg rdD (ev_on h)
  case ext x xs => exact congrArg rdH (evs_on h)

theorem KeepOn.sub {rds rds' : List Rd} {σ σ' : Sg} (h : KeepOn rds σ σ') (hs : ∀ o ∈ rds', o ∈ rds) : KeepOn rds' σ σ' := fun o ho => h o (hs o ho)
theorem Keep.on {rds : List Rd} {σ σ' : Sg} (h : Keep σ σ') : KeepOn rds σ σ' := fun r _ ob e => .inl (h r.o ob e)

end
end Go.Abs

/-
  What the small language's weakest precondition says of a function's code holds of its calls. (Own work; seat-independent.)
-/
set_option linter.unusedVariables false
set_option linter.unusedSimpArgs false
namespace Go.Abs
open Go

def dstOk (nt : Nat) : Option Nat → Bool
  | some d => decide (d < nt)
  | none => true

/-- What an operation must come after (where it is asked for). -/
def phOf (ops : Array Oper) (ms : List Nat) (o : Oper) : List Nat := if ms.contains 1000000 = true then (o.after.toList.filter fun e => Region.binds .any e).filterMap fun e => (ops[e.on]?).bind (·.dst) else []
def compRO (P : Program) (nt : Nat) (ops : Array Oper) (ms : List Nat) (o : Oper) : Option RO :=
  match compT P o ms (phOf ops ms o) with
  | none => none
  | some op =>
    if dstOk nt o.dst = true then
      match o.guard with
      | none => some ⟨o.dst, none, op⟩
      | some (j, want) => (match (ops[j]?).bind (·.dst) with
        | some d => some ⟨o.dst, some (d, want), op⟩
        | none => none)
    else none

/-- The bytes of a constant string: a row is built, and turned into its own type. -/
def isLit (P : Program) (nt : Nat) (o o' : Oper) : Option (RO × RO) :=
  match o.op, o'.op, o.guard, o'.guard, o.dst with
  | .buildSlice t len ps, .convert src dst (.tmp d'), none, none, some d =>
    if src = t ∧ dst = t ∧ d' = d ∧ d < nt ∧ dstOk nt o'.dst = true then
      match P.underlying t with
      | some (.slice e) => (match P.underlying e, compMksl P t len ps.toList with
        | some (.int .u8), some op => some (⟨some d, none, op⟩, ⟨o'.dst, none, .mv (.t d)⟩)
        | _, _ => none)
      | _ => none
    else none
  | _, _, _, _, _ => none

def compROs (P : Program) (nt : Nat) (ops : Array Oper) (ms : List Nat) : List Oper → Option (List RO)
  | [] => some []
  | [o] => (match compRO P nt ops ms o with
    | some r => some [r]
    | none => none)
  | o :: o' :: l => (match isLit P nt o o' with
    | some (r, r') => (match compROs P nt ops ms l with
      | some rs => some (r :: r' :: rs)
      | none => none)
    | none => (match compRO P nt ops ms o, compROs P nt ops ms (o' :: l) with
      | some r, some rs => some (r :: rs)
      | _, _ => none))

theorem compROs_cons {P : Program} {nt : Nat} {ops : Array Oper} {ms : List Nat} {o : Oper} {l : List Oper} {ros : List RO} (h : compROs P nt ops ms (o :: l) = some ros) :
    (∃ r rs, compRO P nt ops ms o = some r ∧ compROs P nt ops ms l = some rs ∧ ros = r :: rs) ∨ (∃ o' l' r r' rs, l = o' :: l' ∧ isLit P nt o o' = some (r, r') ∧ compROs P nt ops ms l' = some rs ∧ ros = r :: r' :: rs) := by
  cases l with
  | nil =>
    simp only [compROs] at h
    split at h
    · rename_i r hr; cases h; exact .inl ⟨r, [], hr, rfl, rfl⟩
    · cases h
  | cons o' l =>
    simp only [compROs] at h
    split at h
    · rename_i r r' hl
      split at h
      · rename_i rs hrs; cases h; exact .inr ⟨o', l, r, r', rs, rfl, hl, hrs, rfl⟩
      · cases h
    · split at h
      · rename_i r rs hr hrs; cases h; exact .inl ⟨r, rs, hr, hrs, rfl⟩
      · cases h

theorem isLit_spec {P : Program} {nt : Nat} {o o' : Oper} {r r' : RO} (h : isLit P nt o o' = some (r, r')) : ∃ (t e : TypeId) (len : Nat) (ps : Array (Nat × Operand)) (ie : TypeInfo) (z : Value) (sh : Sh) (es : List E) (d : Nat),
    o.op = .buildSlice t len ps ∧ o'.op = .convert t t (.tmp d) ∧ o.guard = none ∧ o'.guard = none ∧ o.dst = some d ∧ d < nt ∧ (∀ k, o'.dst = some k → k < nt) ∧ r = ⟨some d, none, .mksl sh es⟩ ∧ r' = ⟨o'.dst, none, .mv (.t d)⟩ ∧
    P.underlying t = some (.slice e) ∧ P.underlying e = some (.int .u8) ∧ P.info? e = some ie ∧ ie.zero = some z ∧ ie.size = shn sh ∧ 0 < ie.size ∧ z.cells.size = ie.size ∧
    len = ps.size ∧ ps.toList.map (·.1) = List.range ps.size ∧ len * ie.size ≤ 2 ^ 24 ∧ cEs (ps.toList.map (·.2)) = some es := by
  unfold isLit at h
  split at h
  · rename_i t len ps src dst d' d ho ho' hg hg' hd
    split at h
    · rename_i hc
      obtain ⟨rfl, rfl, rfl, hlt, hok⟩ := hc
      split at h
      · rename_i e hu
        split at h
        · rename_i op he hop
          cases h
          unfold compMksl at hop
          split at hop
          · split at hop
            · split at hop
              · split at hop
                · rename_i e2 hu2 _ _ _ ie sh es hie hsh hes _ z hz hc
                  cases hop
                  rw [hu] at hu2
                  cases hu2
                  obtain ⟨i', dd, hi', hd', _, hsz⟩ := tsh_spec hsh
                  rw [hie] at hi'
                  cases hi'
                  refine ⟨_, e, len, ps, ie, z, sh, es, _, ho, ho', hg, hg', hd, hlt, ?_, rfl, rfl, hu, he, hie, hz, hsz, hc.1, hc.2.1, by simpa using hc.2.2.1, by simpa using hc.2.2.2.1, hc.2.2.2.2, hes⟩
                  intro k hk
                  rw [hk] at hok
                  simpa [dstOk] using hok
                · cases hop
              · cases hop
            · cases hop
          · cases hop
        · cases h
      · cases h
    · cases h
  · cases h

def dstsOf : List RO → List Nat
  | [] => []
  | r :: rs => match r.dst with
    | some d => d :: dstsOf rs
    | none => dstsOf rs

def outsOf (keep : List Nat) : List RO → List Nat
  | [] => []
  | r :: rs => match r.dst with
    | some d => if keep.contains d then d :: outsOf keep rs else outsOf keep rs
    | none => outsOf keep rs

section
variable {P : Program}

theorem look_upd : ∀ (env : List (Nat × D)) (n : Nat) (d : D) (k : Nat), look (upd env n d) k = if k = n then d else look env k
  | [], n, d, k => by simp only [upd, look]; by_cases h : n = k <;> simp [h, eq_comm]
  | (j, x) :: r, n, d, k => by
    have ih := look_upd r n d k
    simp only [upd]
    by_cases hjn : j = n
    · subst hjn
      simp only [if_true, look]
      by_cases hjk : j = k
      · subst hjk; simp
      · simp [hjk, Ne.symm hjk]
    · simp only [hjn, if_false, look]
      by_cases hjk : j = k
      · subst hjk; simp [hjn]
      · simp only [hjk, if_false]; exact ih

theorem outs_rep {m : Gh} {w : World} {s : List (Nat × D)} {tmps : Array Value} (hs : EnvR m w s tmps) : ∀ (os : List Nat) (env : List (Nat × D)), (∀ n, RepD m w (look env n) (tmps.getD n undef) ∨ n ∈ os) →
    EnvR m w (outs os s env) tmps
  | [], env, h => fun n => (h n).resolve_right (by simp)
  | o :: os, env, h => by
    refine outs_rep hs os (upd env o (look s o)) fun n => ?_
    rw [look_upd]
    by_cases hno : n = o
    · subst hno; left; rw [if_pos rfl]; exact hs n
    · rw [if_neg hno]
      rcases h n with h1 | h1
      · exact .inl h1
      · exact .inr ((List.mem_cons.1 h1).resolve_left hno)

theorem push_rep {m : Gh} {w : World} {s : List (Nat × D)} {a : Act} (hs : EnvR m w s a.tmps) {dst : Option Nat} (hd : ∀ n, dst = some n → n < a.tmps.size) {d : D} {u : Value} (hr : RepD m w d u) : EnvR m w (push dst d s) (a.put dst u).tmps := by
  cases dst with
  | none => exact hs
  | some n =>
    intro k
    have hn := hd n rfl
    simp only [push, look, Act.put]
    by_cases hnk : n = k
    · subst hnk
      rw [if_pos rfl]
      have : (a.tmps.setIfInBounds n u).getD n undef = u := by simp [Array.getD, hn]
      rw [this]
      exact hr
    · rw [if_neg hnk]
      have : (a.tmps.setIfInBounds n u).getD k undef = a.tmps.getD k undef := by simp [Array.getD_eq_getD_getElem?, Array.getElem?_setIfInBounds_ne hnk]
      rw [this]
      exact hs k

theorem put_size (a : Act) (dst : Option Nat) (u : Value) : (a.put dst u).tmps.size = a.tmps.size := by cases dst <;> simp [Act.put]
theorem put_defers' (a : Act) (dst : Option Nat) (u : Value) : (a.put dst u).defers = a.defers := by cases dst <;> simp [Act.put]

theorem put_same (a : Act) (dst : Option Nat) (u : Value) (n : Nat) (h : dst ≠ some n) : (a.put dst u).tmps.getD n undef = a.tmps.getD n undef := by
  cases dst with
  | none => rfl
  | some d =>
    have : d ≠ n := fun e => h (by rw [e])
    simp [Act.put, Array.getD_eq_getD_getElem?, Array.getElem?_setIfInBounds_ne this]

theorem mem_outsOf {keep : List Nat} {n : Nat} : ∀ (rs : List RO), n ∈ outsOf keep rs ↔ n ∈ dstsOf rs ∧ n ∈ keep
  | [] => by simp [outsOf, dstsOf]
  | r :: rs => by
    have ih := mem_outsOf (keep := keep) (n := n) rs
    simp only [outsOf, dstsOf]
    cases r.dst with
    | none => exact ih
    | some d =>
      dsimp only
      by_cases hk : keep.contains d = true
      · rw [if_pos hk]
        simp only [List.mem_cons, ih]
        constructor
        · rintro (rfl | h)
          · exact ⟨.inl rfl, by simpa using hk⟩
          · exact ⟨.inr h.1, h.2⟩
        · rintro ⟨rfl | h, h2⟩
          · exact .inl rfl
          · exact .inr ⟨h, h2⟩
      · rw [if_neg hk]
        simp only [List.mem_cons, ih]
        constructor
        · exact fun h => ⟨.inr h.1, h.2⟩
        · rintro ⟨rfl | h, h2⟩
          · exact (hk (by simpa using h2)).elim
          · exact ⟨h, h2⟩

theorem outs_dom {s : List (Nat × D)} {n : Nat} : ∀ (os : List Nat) (env : List (Nat × D)), n ∉ os → look (outs os s env) n = look env n
  | [], env, _ => rfl
  | o :: os, env, h => by
    simp only [List.mem_cons, not_or] at h
    rw [outs, outs_dom os _ h.2, look_upd, if_neg h.1]

theorem compRO_spec {nt : Nat} {ops : Array Oper} {ms : List Nat} {o : Oper} {r : RO} (h : compRO P nt ops ms o = some r) :
    compT P o ms (phOf ops ms o) = some r.op ∧ r.dst = o.dst ∧ (∀ d, o.dst = some d → d < nt) ∧
      ((o.guard = none ∧ r.g = none) ∨ ∃ j want d, o.guard = some (j, want) ∧ (ops[j]?).bind (·.dst) = some d ∧ r.g = some (d, want)) := by
  unfold compRO at h
  split at h
  · cases h
  · rename_i op hop
    split at h
    · rename_i hd
      have hd' : ∀ d, o.dst = some d → d < nt := by intro d hdd; rw [hdd] at hd; simpa [dstOk] using hd
      split at h
      · cases h; exact ⟨hop, rfl, hd', .inl ⟨‹_›, rfl⟩⟩
      · rename_i j want hg
        split at h
        · rename_i d hdj; cases h; exact ⟨hop, rfl, hd', .inr ⟨j, want, d, hg, hdj, rfl⟩⟩
        · cases h
    · cases h

theorem bool_at {m : Gh} {w : World} {tmps : Array Value} {n : Nat} {p : Bool} (h : RepD m w (.v (.bool p)) (tmps.getD n undef)) : tmps[n]? = some (.bool p) := by
  have := h.bool_inv
  rw [Array.getD_eq_getD_getElem?] at this
  cases ht : tmps[n]? with
  | none => rw [ht] at this; simp [undef] at this
  | some v => rw [ht] at this; simp at this; rw [this]

theorem undef_at {m : Gh} {w : World} {tmps : Array Value} {n : Nat} (h : RepD m w (.tup []) (tmps.getD n undef)) : ∀ b, tmps[n]? ≠ some (.bool b) := by
  intro b hb
  rw [Array.getD_eq_getD_getElem?, hb] at h
  simp only [Option.getD_some] at h
  cases h

theorem WO_sound {nt : Nat} {ops : Array Oper} {ms : List Nat} {Q : Exit → Act → World → Prop} : ∀ (l : List Oper) (ros : List RO) (pre : List Oper), ops.toList = pre ++ l → compROs P nt ops ms l = some ros →
    ∀ (σ : Sg) (m : Gh) (w : World) (a : Act) (s : List (Nat × D)) (K : List (Nat × D) → Sg → Prop), Inv σ m w → EnvR m w s a.tmps → a.tmps.size = nt → a.defers = [] → WO P ros s σ K →
      (∀ s' σ' m' w' a', K s' σ' → Inv σ' m' w' → EnvR m' w' s' a'.tmps → a'.tmps.size = nt → a'.defers = [] → Ext m w m' w' → (∀ n, n ∉ dstsOf ros → a'.tmps.getD n undef = a.tmps.getD n undef) → Q .normal a' w') →
      wpOps P ops Q (List.range' pre.length l.length) a w
  | [], ros, pre, _, hc, σ, m, w, a, s, K, hI, hE, hsz, hdf, hW, hk => by
    cases hc
    exact hk s σ m w a hW hI hE hsz hdf (.refl m w) fun _ _ => rfl
  | o :: l, ros, pre, hops, hc, σ, m, w, a, s, K, hI, hE, hsz, hdf, hW, hk => by
    rcases compROs_cons hc with ⟨r, rs, hr, hrs, rfl⟩ | ⟨o', l, r, r', rs, rfl, hlit, hrs, rfl⟩
    · obtain ⟨hcomp, hdst, hdlt, hg⟩ := compRO_spec hr
      have hget : ops[pre.length]? = some o := by
        rw [← Array.getElem?_toList, hops, List.getElem?_append_right (Nat.le_refl _)]
        simp
      have hops' : ops.toList = (pre ++ [o]) ++ l := by rw [hops]; simp
      have hlen : (pre ++ [o]).length = pre.length + 1 := by simp
      have next : ∀ (σ' : Sg) (m' : Gh) (w' : World) (s' : List (Nat × D)) (a' : Act), WO P rs s' σ' K → Inv σ' m' w' → EnvR m' w' s' a'.tmps → a'.tmps.size = nt → a'.defers = [] → Ext m w m' w' → (∀ n, o.dst ≠ some n → a'.tmps.getD n undef = a.tmps.getD n undef) → wpOps P ops Q (List.range' (pre.length + 1) l.length) a' w' := by
        intro σ' m' w' s' a' hW' hI' hE' hsz' hdf' hX' hsame
        have := WO_sound l rs (pre ++ [o]) hops' hrs σ' m' w' a' s' K hI' hE' hsz' hdf' hW' fun s'' σ'' m'' w'' a'' h1 h2 h3 h4 h5 h6 h7 => hk s'' σ'' m'' w'' a'' h1 h2 h3 h4 h5 (hX'.trans h6) fun n hn => by
          have h8 : n ∉ dstsOf rs ∧ o.dst ≠ some n := by
            rw [← hdst]
            cases hrd : r.dst with
            | none => simp only [dstsOf, hrd] at hn; exact ⟨hn, by simp⟩
            | some d => simp only [dstsOf, hrd, List.mem_cons, not_or] at hn; exact ⟨hn.2, fun e => hn.1 (Option.some.inj e).symm⟩
          rw [h7 n h8.1, hsame n h8.2]
        rw [hlen] at this
        exact this
      have run : ∀ (s1 : List (Nat × D)), EnvR m w s1 a.tmps → WOp P r.op s1 σ (fun d σ' => WO P rs (push r.dst d s1) σ' K) → o.wp P a w (wpOps P ops Q (List.range' (pre.length + 1) l.length)) Q := by
        intro s1 hE1 hW1
        refine compT_ok hcomp σ m w a s1 _ hI hE1 hW1 _ Q fun d σ' m' w' u hW' hI' hX' hR' => ?_
        refine next σ' m' w' _ _ hW' hI' ?_ (by rw [put_size]; exact hsz) (by rw [put_defers']; exact hdf) hX' (put_same a o.dst _)
        rw [hdst]
        exact push_rep (hE1.mono hX') (fun n hn => by rw [hsz]; exact hdlt n hn) hR'
      have skip : ∀ (s1 : List (Nat × D)), EnvR m w s1 a.tmps → WO P rs (push r.dst .undef s1) σ K → wpOps P ops Q (List.range' (pre.length + 1) l.length) (a.put o.dst undef) w := by
        intro s1 hE1 hW1
        refine next σ m w _ _ hW1 hI ?_ (by rw [put_size]; exact hsz) (by rw [put_defers']; exact hdf) (.refl m w) (put_same a o.dst _)
        rw [hdst]
        exact push_rep hE1 (fun n hn => by rw [hsz]; exact hdlt n hn) (.tup [] [] rfl (by simp))
      simp only [List.length_cons, List.range'_succ, wpOps, hget]
      obtain ⟨rdst, rg, rop⟩ := r
      rcases hg with ⟨hg, hrg⟩ | ⟨j, want, d, hg, hjd, hrg⟩
      · have hrg' : rg = none := hrg
        subst hrg'
        have hw : Region.wanted o (yielded ops a.tmps) = true := by simp [Region.wanted, hg]
        rw [if_pos hw]
        exact .inl (run s hE hW)
      · have hrg' : rg = some (d, want) := hrg
        subst hrg'
        have hy1 : ∀ p, a.tmps[d]? = some (.bool p) → yielded ops a.tmps j = some p := by
          intro p hp
          simp [yielded, hjd, hp]
        have hy2 : (∀ b, a.tmps[d]? ≠ some (.bool b)) → ∀ q, yielded ops a.tmps j ≠ some q := by
          intro hn q
          simp only [yielded, hjd, Option.bind_some]
          cases ht : a.tmps[d]? with
          | none => simp
          | some v =>
            cases v with
            | bool b => exact absurd ht (hn b)
            | _ => simp
        simp only [WO] at hW
        have hEd := hE d
        split at hW
        · rename_i p hp
          rw [hp] at hEd
          have hy' := hy1 p (bool_at hEd)
          have hE1 : ∀ q : Bool, p = q → EnvR m w ((d, .v (.bool q)) :: s) a.tmps := by
            rintro q rfl k
            simp only [look]
            by_cases hdk : d = k
            · subst hdk; rw [if_pos rfl]; exact hEd
            · rw [if_neg hdk]; exact hE k
          by_cases hpw : p = want
          · have hw : Region.wanted o (yielded ops a.tmps) = true := by simp [Region.wanted, hg, hy', hpw]
            rw [if_pos hw]
            exact .inl (run _ (hE1 want hpw) (hW.1 hpw))
          · have hw : ¬ Region.wanted o (yielded ops a.tmps) = true := by simp [Region.wanted, hg, hy', hpw]
            rw [if_neg hw]
            have hpn : p = !want := by cases p <;> cases want <;> simp_all
            exact skip _ (hE1 _ hpn) (hW.2 hpn)
        · rename_i hp
          rw [hp] at hEd
          have hu := hy2 (undef_at hEd)
          have hw : ¬ Region.wanted o (yielded ops a.tmps) = true := by
            simp only [Region.wanted, hg]
            simpa using hu want
          rw [if_neg hw]
          exact skip s hE hW
        · exact hW.elim
    · obtain ⟨t, e, len, ps, ie, z, sh, es, d, ho, ho', hg, hg', hd, hdlt, hdlt', rfl, rfl, hu, he, hie, hz, hsz1, hpos, hzs, hlen1, hidx, hsmall, hes⟩ := isLit_spec hlit
      have hget : ops[pre.length]? = some o := by
        rw [← Array.getElem?_toList, hops, List.getElem?_append_right (Nat.le_refl _)]
        simp
      have hget' : ops[pre.length + 1]? = some o' := by
        rw [← Array.getElem?_toList, hops, List.getElem?_append_right (by omega)]
        simp
      have hops' : ops.toList = (pre ++ [o, o']) ++ l := by rw [hops]; simp
      have hlen : (pre ++ [o, o']).length = pre.length + 1 + 1 := by simp
      obtain ⟨C, x, hrun, hW', hrep, _⟩ := mksl_core ho hu hie hz hsz1 hpos hzs hlen1 hidx hsmall hes (K := fun y σ' => WO P rs (push o'.dst (ev ((d, y) :: s) (.t d)) ((d, y) :: s)) σ' K) hI hE (by simpa [WO, push, WOp] using hW)
      simp only [List.length_cons, List.range'_succ, wpOps, hget, hget']
      have hw : Region.wanted o (yielded ops a.tmps) = true := by simp [Region.wanted, hg]
      have hw' : ∀ tmps, Region.wanted o' (yielded ops tmps) = true := fun tmps => by simp [Region.wanted, hg']
      rw [if_pos hw]
      refine .inl ?_
      unfold Oper.wp
      rw [hrun]
      simp only [Oper.upon]
      rw [if_pos (hw' _)]
      refine .inl ?_
      have hval : (a.put o.dst (.slice (some ⟨w.heap.size, 0, none⟩) len len)).eval (.tmp d) = .slice (some ⟨w.heap.size, 0, none⟩) len len := by
        have hds : d < a.tmps.size := by omega
        simp [Act.eval, Act.put, hd, Array.getD, hds]
      have hrun2 : (execOp (a.put o.dst (.slice (some ⟨w.heap.size, 0, none⟩) len len)).eval o').run P (w.alloc (.cells C e)) = .ok (.value (.slice (some ⟨w.heap.size, 0, none⟩) len len)) (w.alloc (.cells C e (C.size, C.size + 1))) := by
        have hc := Lib.run_convert_bytes_const (P := P) w t e C len len hu he
        simp only [execOp, ho', hval, Sem.run_bind, hc, Result.andThen_ok, Sem.run_pure]
      rw [hrun2]
      dsimp only
      have hX : Ext m w m (w.alloc (.cells C e (C.size, C.size + 1))) := .alloc m w _
      have hE1 : EnvR m (w.alloc (.cells C e (C.size, C.size + 1))) ((d, .v x) :: s) (a.put o.dst (.slice (some ⟨w.heap.size, 0, none⟩) len len)).tmps := by
        have := push_rep (hE.mono hX) (dst := o.dst) (fun n hn => by rw [hd] at hn; cases hn; omega) (hrep (C.size, C.size + 1))
        simpa [hd, push] using this
      have hE2 := push_rep hE1 (dst := o'.dst) (fun n hn => by rw [put_size, hsz]; exact hdlt' n hn) (d := .v x) (u := .slice (some ⟨w.heap.size, 0, none⟩) len len) (hrep (C.size, C.size + 1))
      have hev : ev ((d, D.v x) :: s) (.t d) = .v x := by simp [ev, look]
      rw [hev] at hW'
      have := WO_sound l rs (pre ++ [o, o']) hops' hrs σ m _ _ _ K (hI.alloc _) hE2 (by rw [put_size, put_size]; exact hsz) (by rw [put_defers', put_defers']; exact hdf) hW' fun s'' σ'' m'' w'' a'' h1 h2 h3 h4 h5 h6 h7 => hk s'' σ'' m'' w'' a'' h1 h2 h3 h4 h5 (hX.trans h6) fun n hn => by
        have hn' : n ∉ dstsOf rs ∧ o.dst ≠ some n ∧ o'.dst ≠ some n := by
          rw [hd]
          simp only [dstsOf] at hn
          cases hd' : o'.dst with
          | none => rw [hd'] at hn; simp only [List.mem_cons, not_or] at hn; exact ⟨hn.2, fun e => hn.1 (Option.some.inj e).symm, by simp⟩
          | some k => rw [hd'] at hn; simp only [List.mem_cons, not_or] at hn; exact ⟨hn.2.2, fun e => hn.1 (Option.some.inj e).symm, fun e => hn.2.1 (Option.some.inj e).symm⟩
        rw [h7 n hn'.1, put_same _ _ _ n hn'.2.2, put_same _ _ _ n hn'.2.1]
      rw [hlen] at this
      exact this


end
end Go.Abs

/-
  A region whose order is drawn: one order stands for all. (Own work; seat-independent.)
-/
set_option linter.unusedVariables false
set_option linter.unusedSimpArgs false
namespace Go.Abs
open Go

/-- Only what is looked up matters. -/
def Ext1 (K : List (Nat × D) → Sg → Prop) : Prop := ∀ s s' σ, (∀ n, look s n = look s' n) → K s σ → K s' σ

theorem look_push {dst : Option Nat} {d : D} {s : List (Nat × D)} {n : Nat} : look (push dst d s) n = if dst = some n then d else look s n := by
  cases dst with
  | none => simp [push]
  | some k => by_cases h : k = n <;> simp [push, look, h]

theorem look_shade {s : List (Nat × D)} {n : Nat} {d : D} (h : look s n = d) (k : Nat) : look ((n, d) :: s) k = look s k := by
  simp only [look]
  by_cases hk : n = k
  · subst hk; rw [if_pos rfl, h]
  · rw [if_neg hk]

def noDst (d : Option Nat) (l : List Nat) : Bool := match d with | some n => !l.contains n | none => true
def unlike : Option Nat → Option Nat → Bool
  | some a, some b => !(a == b)
  | _, _ => true
def apart (q i : RO) : Bool := noDst q.dst i.tmps && noDst i.dst q.tmps && unlike q.dst i.dst

theorem noDst_spec {d : Option Nat} {l : List Nat} (h : noDst d l = true) {n : Nat} (hn : n ∈ l) : d ≠ some n := by
  rintro rfl
  simp [noDst, hn] at h

theorem unlike_spec {a b : Option Nat} (h : unlike a b = true) {n : Nat} : ¬ (a = some n ∧ b = some n) := by
  rintro ⟨rfl, rfl⟩
  simp [unlike] at h

section
variable {P : Program}

theorem WO_ext : ∀ {ros : List RO} {s s' : List (Nat × D)} {σ : Sg} {K : List (Nat × D) → Sg → Prop}, Ext1 K → (∀ n, look s n = look s' n) → WO P ros s σ K → WO P ros s' σ K
  | [], s, s', σ, K, hK, hs, h => hK s s' σ hs h
  | ⟨dst, none, op⟩ :: r, s, s', σ, K, hK, hs, h => by
    simp only [WO] at h ⊢
    rw [WOp_on (s' := s') fun n _ => hs n] at h
    exact WOp_mono (fun d σ' h => WO_ext hK (fun n => by rw [look_push, look_push, hs n]) h) h
  | ⟨dst, some (n, want), op⟩ :: r, s, s', σ, K, hK, hs, h => by
    simp only [WO] at h ⊢
    rw [← hs n]
    generalize look s n = d at h
    have hsh : ∀ d k, look ((n, d) :: s) k = look ((n, d) :: s') k := fun d k => by simp only [look]; rw [hs k]
    cases d with
    | v x => cases x with
      | bool p =>
        refine ⟨fun e => ?_, fun e => ?_⟩
        · have h1 := h.1 e
          rw [WOp_on (s' := (n, .v (.bool want)) :: s') fun k _ => hsh _ k] at h1
          exact WOp_mono (fun d σ' h => WO_ext hK (fun k => by rw [look_push, look_push, hsh]) h) h1
        · exact WO_ext hK (fun k => by rw [look_push, look_push, hsh]) (h.2 e)
      | _ => exact h
    | tup ds => cases ds with
      | nil => exact WO_ext hK (fun k => by rw [look_push, look_push, hs k]) h
      | cons d ds => exact h
    | _ => exact h

theorem WOx_ext : ∀ {rds : Hist} {ros : List (RO × Bool)} {s s' : List (Nat × D)} {σ : Sg} {K : List (Nat × D) → Sg → Prop}, Ext1 K → (∀ n, look s n = look s' n) → WOx P rds ros s σ K → WOx P rds ros s' σ K
  | _, [], s, s', σ, K, hK, hs, h => hK s s' σ hs h
  | rds, (r, b) :: rs, s, s', σ, K, hK, hs, h => by
    simp only [WOx] at h ⊢
    rw [← reads_on (s := s) (s' := s') fun n _ => hs n]
    exact WO_ext (fun s1 s2 σ' hs' hh => ⟨hh.1, WOx_ext hK hs' hh.2⟩) hs h

theorem feeds_set {q : RO} {L L' : List Nat} (h : ∀ n, n ∈ L ↔ n ∈ L') : q.feeds L = q.feeds L' := by
  unfold RO.feeds
  cases q.dst with
  | none => rfl
  | some d =>
    have := h d
    by_cases h1 : d ∈ L
    · simp [h1, this.1 h1]
    · have h2 : d ∉ L' := fun h2 => h1 (this.2 h2)
      simp [h1, h2]
theorem loose_set : ∀ {h : Hist} {L L' : List Nat}, (∀ n, n ∈ L ↔ n ∈ L') → loose L h = loose L' h
  | [], _, _, _ => rfl
  | (q, rd) :: h, L, L', hs => by
    simp only [loose]
    rw [feeds_set hs, loose_set (h := h) hs, loose_set (h := h) (L := q.tmps ++ L) (L' := q.tmps ++ L') fun n => by simp only [List.mem_append, hs n]]
/-- What the second knows of, the first does. -/
def HSub (h h' : Hist) : Prop := ∀ L, ∀ o ∈ loose L h', o ∈ loose L h
theorem HSub.cons {h h' : Hist} (k : HSub h h') (x : RO × List Rd) : HSub (x :: h) (x :: h') := by
  intro L o ho
  obtain ⟨q, rd⟩ := x
  simp only [loose] at ho ⊢
  split at ho
  · rw [if_pos (by assumption)]
    exact k _ o ho
  · rw [if_neg (by assumption)]
    rcases List.mem_append.1 ho with ho | ho
    · exact List.mem_append.2 (.inl ho)
    · exact List.mem_append.2 (.inr (k _ o ho))
theorem feeds_app {q i : RO} (h : noDst q.dst i.tmps = true) (L : List Nat) : q.feeds (i.tmps ++ L) = q.feeds L := by
  unfold RO.feeds
  cases hd : q.dst with
  | none => rfl
  | some d =>
    rw [hd] at h
    simp only [noDst, Bool.not_eq_true', List.contains_eq_mem, decide_eq_false_iff_not] at h
    simp [h]
theorem HSub.swap {q i : RO} {a b : List Rd} (h1 : noDst q.dst i.tmps = true) (h2 : noDst i.dst q.tmps = true) (h : Hist) : HSub ((i, b) :: (q, a) :: h) ((q, a) :: (i, b) :: h) := by
  intro L o ho
  simp only [loose] at ho ⊢
  rw [feeds_app h1, loose_set (h := h) (L := q.tmps ++ (i.tmps ++ L)) (L' := i.tmps ++ (q.tmps ++ L)) fun n => by simp only [List.mem_append]; exact or_left_comm]
  rw [feeds_app h2] at ho
  by_cases hq : q.feeds L = true <;> by_cases hi : i.feeds L = true
  · rw [if_pos hq, if_pos hi] at ho
    rw [if_pos hi, if_pos hq]
    exact ho
  · rw [if_pos hq, if_neg hi] at ho
    rw [if_neg hi, if_pos hq]
    exact ho
  · rw [if_neg hq, if_pos hi] at ho
    rw [if_pos hi, if_neg hq]
    exact ho
  · rw [if_neg hq, if_neg hi] at ho
    rw [if_neg hi, if_neg hq]
    simp only [List.mem_append] at ho ⊢
    exact or_left_comm.1 ho
theorem loose_apart {q i : RO} {a : List Rd} (h1 : noDst q.dst i.tmps = true) (h : Hist) : loose i.tmps ((q, a) :: h) = a ++ loose i.tmps h := by
  have := feeds_app h1 []
  rw [List.append_nil] at this
  have h0 : q.feeds [] = false := by unfold RO.feeds; cases q.dst <;> rfl
  simp only [loose]
  rw [this, h0]
  rfl
theorem WOx_sub : ∀ {ros : List (RO × Bool)} {rds rds' : Hist} {s : List (Nat × D)} {σ : Sg} {K : List (Nat × D) → Sg → Prop}, HSub rds rds' → WOx P rds ros s σ K → WOx P rds' ros s σ K
  | [], _, _, s, σ, K, _, h => h
  | (r, b) :: rs, rds, rds', s, σ, K, hs, h => by
    simp only [WOx] at h ⊢
    exact WO_mono (fun s' σ' hh => ⟨hh.1.imp id (Or.imp id fun k => k.sub (hs _)), WOx_sub (hs.cons _) hh.2⟩) h

/-- What a quiet operation yields it yields at every later turn. -/
theorem ro_det {r : RO} (hq : r.op.quiet = true) {s : List (Nat × D)} {σ : Sg} {K : List (Nat × D) → Sg → Prop} (hK : Ext1 K) (h : WO P [r] s σ K) :
    ∃ d, K (push r.dst d s) σ ∧ ∀ s2 σ2 K2, Ext1 K2 → (∀ n ∈ r.tmps, look s n = look s2 n) → KeepOn (r.op.reads s) σ σ2 → K2 (push r.dst d s2) σ2 → WO P [r] s2 σ2 K2 := by
  obtain ⟨dst, g, op⟩ := r
  cases g with
  | none =>
    simp only [WO] at h
    obtain ⟨d, h1, h2⟩ := WOp_det hq h
    refine ⟨d, h1, fun s2 σ2 K2 hK2 hs hk hh => ?_⟩
    simp only [WO]
    rw [← WOp_on (s := s) fun n hn => hs n (by simp [RO.tmps, hn])]
    exact h2 σ2 _ hk hh
  | some nw =>
    obtain ⟨n, want⟩ := nw
    simp only [WO] at h
    have hn : ∀ s2 : List (Nat × D), (∀ n' ∈ (RO.mk dst (some (n, want)) op).tmps, look s n' = look s2 n') → look s n = look s2 n := fun s2 hs => hs n (by simp [RO.tmps])
    generalize hd : look s n = dn at h
    cases dn with
    | v x => cases x with
      | bool p =>
        by_cases hp : p = want
        · subst hp
          obtain ⟨d, h1, h2⟩ := WOp_det hq (h.1 rfl)
          refine ⟨d, hK _ _ _ (fun k => by rw [look_push, look_push, look_shade hd]) h1, fun s2 σ2 K2 hK2 hs hk hh => ?_⟩
          have hd2 : look s2 n = .v (.bool p) := by rw [← hn s2 hs]; exact hd
          simp only [WO]
          rw [hd2]
          refine ⟨fun _ => ?_, fun e => by cases p <;> cases e⟩
          rw [← WOp_on (s := (n, .v (.bool p)) :: s) fun k hk => by rw [look_shade hd, look_shade hd2]; exact hs k (by simp [RO.tmps, hk])]
          exact h2 σ2 _ (by rw [reads_on (s' := s) fun k _ => look_shade hd k]; exact hk) (hK2 _ _ _ (fun k => by rw [look_push, look_push, look_shade hd2]) hh)
        · have hp' : p = !want := by cases p <;> cases want <;> simp_all
          refine ⟨.undef, hK _ _ _ (fun k => by rw [look_push, look_push, look_shade (by rw [hd, hp'])]) (h.2 hp'), fun s2 σ2 K2 hK2 hs hk hh => ?_⟩
          have hd2 : look s2 n = .v (.bool p) := by rw [← hn s2 hs]; exact hd
          simp only [WO]
          rw [hd2]
          exact ⟨fun e => (hp e).elim, fun _ => hK2 _ _ _ (fun k => by rw [look_push, look_push, look_shade (by rw [hd2, hp'])]) hh⟩
      | _ => exact h.elim
    | tup ds => cases ds with
      | nil =>
        refine ⟨.undef, h, fun s2 σ2 K2 hK2 hs hk hh => ?_⟩
        have hd2 : look s2 n = .tup [] := by rw [← hn s2 hs]; exact hd
        simp only [WO]
        rw [hd2]
        exact hh
      | cons d ds => exact h.elim
    | _ => exact h.elim

theorem push_comm {a b : Option Nat} (h : unlike a b = true) {d e : D} {s : List (Nat × D)} (n : Nat) : look (push a d (push b e s)) n = look (push b e (push a d s)) n := by
  rw [look_push, look_push, look_push, look_push]
  have := unlike_spec h (n := n)
  by_cases ha : a = some n <;> by_cases hb : b = some n <;> simp_all

/-- An operation does not see what it does not look at. -/
theorem ro_frame {q i : RO} (ha : apart q i = true) {d : D} {s : List (Nat × D)} {σ : Sg} {K : List (Nat × D) → Sg → Prop} (hK : Ext1 K) (h : WO P [i] (push q.dst d s) σ K) :
    WO P [i] s σ fun s3 σ3 => K (push q.dst d s3) σ3 ∧ ∀ n ∈ q.tmps, look s n = look s3 n := by
  simp only [apart, Bool.and_eq_true] at ha
  obtain ⟨⟨h1, h2⟩, h3⟩ := ha
  have hl : ∀ n ∈ i.tmps, look (push q.dst d s) n = look s n := fun n hn => by rw [look_push, if_neg (noDst_spec h1 hn)]
  obtain ⟨dst, g, op⟩ := i
  have hq : ∀ (e : D) (s' : List (Nat × D)), (∀ n, look s' n = look s n) → ∀ n ∈ q.tmps, look s n = look (push dst e s') n := fun e s' hs' n hn => by rw [look_push, if_neg (noDst_spec h2 hn), hs' n]
  cases g with
  | none =>
    simp only [WO] at h ⊢
    rw [WOp_on (s' := s) fun n hn => hl n (by simp [RO.tmps, hn])] at h
    exact WOp_mono (fun e σ' hh => ⟨hK _ _ _ (fun n => (push_comm h3 n).symm) hh, hq e s fun _ => rfl⟩) h
  | some nw =>
    obtain ⟨n, want⟩ := nw
    simp only [WO] at h ⊢
    rw [hl n (by simp [RO.tmps])] at h
    generalize hd : look s n = dn at h
    have hd' : look (push q.dst d s) n = dn := by rw [hl n (by simp [RO.tmps])]; exact hd
    cases dn with
    | v x => cases x with
      | bool p =>
        refine ⟨fun e => ?_, fun e => ?_⟩
        · subst e
          have h4 := h.1 rfl
          rw [WOp_on (s' := (n, .v (.bool p)) :: s) fun k hk => by rw [look_shade hd', look_shade hd]; exact hl k (by simp [RO.tmps, hk])] at h4
          refine WOp_mono (fun e σ' hh => ⟨hK _ _ _ (fun k => ?_) hh, hq e _ (look_shade hd)⟩) h4
          rw [look_push, look_shade hd', look_push, look_push, look_push, look_shade hd]
          have := unlike_spec h3 (n := k)
          by_cases ha : q.dst = some k <;> by_cases hb : dst = some k <;> simp_all
        · subst e
          refine ⟨hK _ _ _ (fun k => ?_) (h.2 rfl), hq _ _ (look_shade hd)⟩
          rw [look_push, look_shade hd', look_push, look_push, look_push, look_shade hd]
          have := unlike_spec h3 (n := k)
          by_cases ha : q.dst = some k <;> by_cases hb : dst = some k <;> simp_all
      | _ => exact h
    | tup ds => cases ds with
      | nil => exact ⟨hK _ _ _ (fun k => (push_comm h3 k).symm) h, hq _ _ fun _ => rfl⟩
      | cons d ds => exact h
    | _ => exact h

theorem WOx_swap {rds : Hist} {q i : RO} {bq bi : Bool} {r : List (RO × Bool)} (hbl : bi = false ∨ q.op.blind = true) (hq : q.op.quiet = true) (ha : apart q i = true) {s : List (Nat × D)} {σ : Sg} {K : List (Nat × D) → Sg → Prop} (hK : Ext1 K)
    (h : WOx P rds ((q, bq) :: (i, bi) :: r) s σ K) : WOx P rds ((i, bi) :: (q, bq) :: r) s σ K := by
  have ha' := ha
  simp only [apart, Bool.and_eq_true] at ha'
  obtain ⟨⟨a1, a2⟩, _⟩ := ha'
  simp only [WOx, loose_apart a1] at h ⊢
  have hK2 : Ext1 fun s' σ' => (bi = true ∨ Keep σ σ' ∨ KeepOn (q.op.reads s ++ loose i.tmps rds) σ σ') ∧ WOx P ((i, i.op.reads s) :: (q, q.op.reads s) :: rds) r s' σ' K := fun s1 s2 σ' hs hh => ⟨hh.1, WOx_ext hK hs hh.2⟩
  obtain ⟨d, h1, h2⟩ := ro_det hq (K := fun s' σ' => (bq = true ∨ Keep σ σ' ∨ KeepOn (loose q.tmps rds) σ σ') ∧ WO P [i] s' σ' fun s'' σ'' => (bi = true ∨ Keep σ' σ'' ∨ KeepOn (q.op.reads s ++ loose i.tmps rds) σ' σ'') ∧ WOx P ((i, i.op.reads s') :: (q, q.op.reads s) :: rds) r s'' σ'' K)
    (fun s1 s2 σ' hs hh => ⟨hh.1, by rw [← reads_on (s := s1) (s' := s2) fun n _ => hs n]; exact WO_ext (fun s3 s4 σ3 hs3 h3 => ⟨h3.1, WOx_ext hK hs3 h3.2⟩) hs hh.2⟩) h
  have hri : i.op.reads (push q.dst d s) = i.op.reads s := reads_on fun n hn => by
    rw [look_push, if_neg (noDst_spec a1 (by simp [RO.tmps, hn]))]
  rw [hri] at h1
  refine WO_mono (fun s3 σ3 hh => ?_) (ro_frame ha hK2 h1.2)
  obtain ⟨⟨hk, hr⟩, hs⟩ := hh
  have hk1 : KeepOn (q.op.reads s) σ σ3 := by
    rcases hk with hk | hk | hk
    · rcases hbl with hb | hb
      · rw [hb] at hk; cases hk
      · rw [AOp.blind_reads hb]; intro o ho; cases ho
    · exact hk.on
    · exact hk.sub fun o ho => List.mem_append.2 (.inl ho)
  have hk2 : bi = true ∨ Keep σ σ3 ∨ KeepOn (loose i.tmps rds) σ σ3 := by
    rcases hk with hk | hk | hk
    · exact .inl hk
    · exact .inr (.inl hk)
    · exact .inr (.inr (hk.sub fun o ho => List.mem_append.2 (.inr ho)))
  have hrq : q.op.reads s = q.op.reads s3 := reads_on fun n hn => hs n (by simp [RO.tmps, hn])
  refine ⟨hk2, h2 s3 σ3 _ (fun s1 s2 σ' hs' hh => ⟨hh.1, WOx_ext hK hs' hh.2⟩) hs hk1 ⟨.inr (.inl (.refl _)), WOx_sub ?_ hr⟩⟩
  rw [← hrq]
  exact HSub.swap a1 a2 rds

theorem WOx_tail {a : RO × Bool} {l l' : List (RO × Bool)} (hl : ∀ rds s σ K, Ext1 K → WOx P rds l s σ K → WOx P rds l' s σ K) {rds : Hist} {s : List (Nat × D)} {σ : Sg} {K : List (Nat × D) → Sg → Prop} (hK : Ext1 K) (h : WOx P rds (a :: l) s σ K) : WOx P rds (a :: l') s σ K := by
  obtain ⟨r, b⟩ := a
  simp only [WOx] at h ⊢
  exact WO_mono (fun s' σ' hh => ⟨hh.1, hl _ _ _ _ hK hh.2⟩) h

theorem WOx_front {i : RO × Bool} {post : List (RO × Bool)} : ∀ (pre : List (RO × Bool)), (∀ q ∈ pre, q.1.op.quiet = true ∧ apart q.1 i.1 = true ∧ (i.2 = false ∨ q.1.op.blind = true)) →
    ∀ (rds : Hist) (s : List (Nat × D)) (σ : Sg) (K : List (Nat × D) → Sg → Prop), Ext1 K → WOx P rds (pre ++ i :: post) s σ K → WOx P rds (i :: (pre ++ post)) s σ K
  | [], _, rds, s, σ, K, _, h => h
  | q :: pre, hp, rds, s, σ, K, hK, h => by
    have h1 : WOx P rds (q :: i :: (pre ++ post)) s σ K := WOx_tail (fun rds s σ K hK h => WOx_front pre (fun q' hq' => hp q' (by simp [hq'])) rds s σ K hK h) hK h
    obtain ⟨hq, ha, hb⟩ := hp q (by simp)
    obtain ⟨i, bi⟩ := i
    obtain ⟨q, bq⟩ := q
    exact WOx_swap hb hq ha hK h1

/-- What does not hang on how the temporaries are kept, nor on more history than is told. -/
structure ExtH (K : Hist → List (Nat × D) → Sg → Prop) : Prop where
  env : ∀ h s s' σ, (∀ n, look s n = look s' n) → K h s σ → K h s' σ
  hist : ∀ h h' s σ, HSub h h' → K h s σ → K h' s σ
theorem WOxH_ext : ∀ {rds : Hist} {ros : List (RO × Bool)} {s s' : List (Nat × D)} {σ : Sg} {K : Hist → List (Nat × D) → Sg → Prop}, ExtH K → (∀ n, look s n = look s' n) → WOxH P rds ros s σ K → WOxH P rds ros s' σ K
  | _, [], s, s', σ, K, hK, hs, h => hK.env _ s s' σ hs h
  | rds, (r, b) :: rs, s, s', σ, K, hK, hs, h => by
    simp only [WOxH] at h ⊢
    rw [← reads_on (s := s) (s' := s') fun n _ => hs n]
    exact WO_ext (fun s1 s2 σ' hs' hh => ⟨hh.1, WOxH_ext hK hs' hh.2⟩) hs h
theorem WOxH_sub : ∀ {ros : List (RO × Bool)} {rds rds' : Hist} {s : List (Nat × D)} {σ : Sg} {K : Hist → List (Nat × D) → Sg → Prop}, ExtH K → HSub rds rds' → WOxH P rds ros s σ K → WOxH P rds' ros s σ K
  | [], _, _, s, σ, K, hK, hs, h => hK.hist _ _ _ _ hs h
  | (r, b) :: rs, rds, rds', s, σ, K, hK, hs, h => by
    simp only [WOxH] at h ⊢
    exact WO_mono (fun s' σ' hh => ⟨hh.1.imp id (Or.imp id fun k => k.sub (hs _)), WOxH_sub hK (hs.cons _) hh.2⟩) h
theorem WOxH_swap {rds : Hist} {q i : RO} {bq bi : Bool} {r : List (RO × Bool)} (hbl : bi = false ∨ q.op.blind = true) (hq : q.op.quiet = true) (ha : apart q i = true) {s : List (Nat × D)} {σ : Sg} {K : Hist → List (Nat × D) → Sg → Prop} (hK : ExtH K)
    (h : WOxH P rds ((q, bq) :: (i, bi) :: r) s σ K) : WOxH P rds ((i, bi) :: (q, bq) :: r) s σ K := by
  have ha' := ha
  simp only [apart, Bool.and_eq_true] at ha'
  obtain ⟨⟨a1, a2⟩, _⟩ := ha'
  simp only [WOxH, loose_apart a1] at h ⊢
  have hK2 : Ext1 fun s' σ' => (bi = true ∨ Keep σ σ' ∨ KeepOn (q.op.reads s ++ loose i.tmps rds) σ σ') ∧ WOxH P ((i, i.op.reads s) :: (q, q.op.reads s) :: rds) r s' σ' K := fun s1 s2 σ' hs hh => ⟨hh.1, WOxH_ext hK hs hh.2⟩
  obtain ⟨d, h1, h2⟩ := ro_det hq (K := fun s' σ' => (bq = true ∨ Keep σ σ' ∨ KeepOn (loose q.tmps rds) σ σ') ∧ WO P [i] s' σ' fun s'' σ'' => (bi = true ∨ Keep σ' σ'' ∨ KeepOn (q.op.reads s ++ loose i.tmps rds) σ' σ'') ∧ WOxH P ((i, i.op.reads s') :: (q, q.op.reads s) :: rds) r s'' σ'' K)
    (fun s1 s2 σ' hs hh => ⟨hh.1, by rw [← reads_on (s := s1) (s' := s2) fun n _ => hs n]; exact WO_ext (fun s3 s4 σ3 hs3 h3 => ⟨h3.1, WOxH_ext hK hs3 h3.2⟩) hs hh.2⟩) h
  have hri : i.op.reads (push q.dst d s) = i.op.reads s := reads_on fun n hn => by
    rw [look_push, if_neg (noDst_spec a1 (by simp [RO.tmps, hn]))]
  rw [hri] at h1
  refine WO_mono (fun s3 σ3 hh => ?_) (ro_frame ha hK2 h1.2)
  obtain ⟨⟨hk, hr⟩, hs⟩ := hh
  have hk1 : KeepOn (q.op.reads s) σ σ3 := by
    rcases hk with hk | hk | hk
    · rcases hbl with hb | hb
      · rw [hb] at hk; cases hk
      · rw [AOp.blind_reads hb]; intro o ho; cases ho
    · exact hk.on
    · exact hk.sub fun o ho => List.mem_append.2 (.inl ho)
  have hk2 : bi = true ∨ Keep σ σ3 ∨ KeepOn (loose i.tmps rds) σ σ3 := by
    rcases hk with hk | hk | hk
    · exact .inl hk
    · exact .inr (.inl hk)
    · exact .inr (.inr (hk.sub fun o ho => List.mem_append.2 (.inr ho)))
  have hrq : q.op.reads s = q.op.reads s3 := reads_on fun n hn => hs n (by simp [RO.tmps, hn])
  refine ⟨hk2, h2 s3 σ3 _ (fun s1 s2 σ' hs' hh => ⟨hh.1, WOxH_ext hK hs' hh.2⟩) hs hk1 ⟨.inr (.inl (.refl _)), WOxH_sub hK ?_ hr⟩⟩
  rw [← hrq]
  exact HSub.swap a1 a2 rds

theorem WOxH_tail {a : RO × Bool} {l l' : List (RO × Bool)} (hl : ∀ rds s σ K, ExtH K → WOxH P rds l s σ K → WOxH P rds l' s σ K) {rds : Hist} {s : List (Nat × D)} {σ : Sg} {K : Hist → List (Nat × D) → Sg → Prop} (hK : ExtH K) (h : WOxH P rds (a :: l) s σ K) : WOxH P rds (a :: l') s σ K := by
  obtain ⟨r, b⟩ := a
  simp only [WOxH] at h ⊢
  exact WO_mono (fun s' σ' hh => ⟨hh.1, hl _ _ _ _ hK hh.2⟩) h

theorem WOxH_front {i : RO × Bool} {post : List (RO × Bool)} : ∀ (pre : List (RO × Bool)), (∀ q ∈ pre, q.1.op.quiet = true ∧ apart q.1 i.1 = true ∧ (i.2 = false ∨ q.1.op.blind = true)) →
    ∀ (rds : Hist) (s : List (Nat × D)) (σ : Sg) (K : Hist → List (Nat × D) → Sg → Prop), ExtH K → WOxH P rds (pre ++ i :: post) s σ K → WOxH P rds (i :: (pre ++ post)) s σ K
  | [], _, rds, s, σ, K, _, h => h
  | q :: pre, hp, rds, s, σ, K, hK, h => by
    have h1 : WOxH P rds (q :: i :: (pre ++ post)) s σ K := WOxH_tail (fun rds s σ K hK h => WOxH_front pre (fun q' hq' => hp q' (by simp [hq'])) rds s σ K hK h) hK h
    obtain ⟨hq, ha, hb⟩ := hp q (by simp)
    obtain ⟨i, bi⟩ := i
    obtain ⟨q, bq⟩ := q
    exact WOxH_swap hb hq ha hK h1

/-! ### The orders that the machine may take -/

def bindsOf (ops : Array Oper) (i : Nat) : List Nat := match ops[i]? with
  | some o => (o.after.toList.filter fun e => Region.binds .any e).map (·.on)
  | none => []

def okT (ops : Array Oper) (T : List (List Nat)) : Bool := (List.range ops.size).all fun i =>
  (bindsOf ops i).all (fun e => decide (e < i)) && ((T.getD i []).all fun j => (bindsOf ops i).any fun e => e == j || (T.getD e []).contains j)

def okPair (ops : Array Oper) (T : List (List Nat)) (q i : Nat × RO × Bool) : Bool :=
  !(q.1 == i.1) && !(bindsOf ops q.1).contains i.1 && ((T.getD i.1 []).contains q.1 || (q.2.1.op.quiet && apart q.2.1 i.2.1 && (!i.2.2 || q.2.1.op.blind)))

def okPairs (ops : Array Oper) (T : List (List Nat)) : List (Nat × RO × Bool) → Bool
  | [] => true
  | q :: l => l.all (okPair ops T q) && okPairs ops T l

theorem okPairs_sub {ops : Array Oper} {T : List (List Nat)} : ∀ {pre : List (Nat × RO × Bool)} {x : Nat × RO × Bool} {post : List (Nat × RO × Bool)}, okPairs ops T (pre ++ x :: post) = true →
    okPairs ops T (pre ++ post) = true ∧ (∀ q ∈ pre, okPair ops T q x = true) ∧ (∀ y ∈ post, okPair ops T x y = true)
  | [], x, post, h => by
    simp only [List.nil_append, okPairs, Bool.and_eq_true] at h
    exact ⟨h.2, by simp, fun y hy => List.all_eq_true.1 h.1 y hy⟩
  | q :: pre, x, post, h => by
    simp only [List.cons_append, okPairs, Bool.and_eq_true] at h ⊢
    obtain ⟨h1, h2, h3⟩ := okPairs_sub h.2
    refine ⟨⟨List.all_eq_true.2 fun y hy => List.all_eq_true.1 h.1 y ?_, h1⟩, fun q' hq' => ?_, h3⟩
    · rcases List.mem_append.1 hy with hy | hy
      · exact List.mem_append.2 (.inl hy)
      · exact List.mem_append.2 (.inr (List.mem_cons_of_mem _ hy))
    · rcases List.mem_cons.1 hq' with rfl | hq'
      · exact List.all_eq_true.1 h.1 x (by simp)
      · exact h2 q' hq'

theorem okT_reach {ops : Array Oper} {T : List (List Nat)} (hT : okT ops T = true) {listed : Nat → Prop} (hdown : ∀ j, j < ops.size → listed j → ∀ e ∈ bindsOf ops j, listed e) :
    ∀ (i : Nat), i < ops.size → (∀ e ∈ bindsOf ops i, listed e) → ∀ j ∈ T.getD i [], listed j := by
  intro i
  induction i using Nat.strongRecOn with
  | _ i ih =>
    intro hi he j hj
    have h := List.all_eq_true.1 hT i (List.mem_range.2 hi)
    simp only [Bool.and_eq_true] at h
    have hj' := List.all_eq_true.1 h.2 j hj
    obtain ⟨e, hee, hor⟩ := List.any_eq_true.1 hj'
    have hlt : e < i := by simpa using List.all_eq_true.1 h.1 e hee
    simp only [Bool.or_eq_true, beq_iff_eq, List.contains_iff_mem] at hor
    rcases hor with rfl | hor
    · exact he _ hee
    · exact ih e hlt (by omega) (hdown e (by omega) (he e hee)) j hor

theorem mem_bindsOf {ops : Array Oper} {i : Nat} {o : Oper} (ho : ops[i]? = some o) {e : Nat} : e ∈ bindsOf ops i ↔ ∃ x ∈ o.after, Region.binds .any x = true ∧ x.on = e := by
  simp only [bindsOf, ho, List.mem_map, List.mem_filter]
  constructor
  · rintro ⟨x, ⟨h1, h2⟩, h3⟩; exact ⟨x, by simpa using h1, h2, h3⟩
  · rintro ⟨x, h1, h2, h3⟩; exact ⟨x, ⟨by simpa using h1, h2⟩, h3⟩

theorem ready_iff {ops : Array Oper} {listed : Array Bool} {i : Nat} : i ∈ Region.ready .any ops listed ↔ i < ops.size ∧ listed.getD i true = false ∧ ∀ e ∈ bindsOf ops i, listed.getD e false = true := by
  simp only [Region.ready, List.mem_filter, List.mem_range, Bool.and_eq_true, Bool.not_eq_true']
  constructor
  · rintro ⟨h1, h2, h3⟩
    refine ⟨h1, h2, fun e he => ?_⟩
    have ho : ops[i]? = some ops[i] := Array.getElem?_eq_getElem h1
    rw [ho] at h3
    obtain ⟨x, hx, hb, rfl⟩ := (mem_bindsOf ho).1 he
    simp only [Option.map_some, Option.getD_some] at h3
    have h4 := (Array.all_eq_true'.1 h3) x hx
    simpa [hb] using h4
  · rintro ⟨h1, h2, h3⟩
    refine ⟨h1, h2, ?_⟩
    have ho : ops[i]? = some ops[i] := Array.getElem?_eq_getElem h1
    rw [ho]
    simp only [Option.map_some, Option.getD_some]
    refine Array.all_eq_true'.2 fun x hx => ?_
    by_cases hb : Region.binds .any x = true
    · simp [hb, h3 x.on ((mem_bindsOf ho).2 ⟨x, hx, hb, rfl⟩)]
    · simp [hb]

theorem one_sound {nt : Nat} {ops : Array Oper} {ms : List Nat} {Q : Exit → Act → World → Prop} {i : Nat} {o : Oper} {r : RO} (hget : ops[i]? = some o) (hr : compRO P nt ops ms o = some r) (Kc : Act → World → Prop)
    {σ : Sg} {m : Gh} {w : World} {a : Act} {s : List (Nat × D)} {K : List (Nat × D) → Sg → Prop} (hI : Inv σ m w) (hE : EnvR m w s a.tmps) (hsz : a.tmps.size = nt) (hdf : a.defers = []) (hW : WO P [r] s σ K)
    (next : ∀ (s' : List (Nat × D)) (σ' : Sg) (m' : Gh) (w' : World) (a' : Act), K s' σ' → Inv σ' m' w' → EnvR m' w' s' a'.tmps → a'.tmps.size = nt → a'.defers = [] → Ext m w m' w' →
      (∀ n, r.dst ≠ some n → a'.tmps.getD n undef = a.tmps.getD n undef) → Kc a' w') : wpOp P ops Q i Kc a w := by
  obtain ⟨hcomp, hdst, hdlt, hg⟩ := compRO_spec hr
  have run : ∀ (s1 : List (Nat × D)), EnvR m w s1 a.tmps → WOp P r.op s1 σ (fun d σ' => K (push r.dst d s1) σ') → o.wp P a w Kc Q := by
    intro s1 hE1 hW1
    refine compT_ok hcomp σ m w a s1 _ hI hE1 hW1 _ Q fun d σ' m' w' u hW' hI' hX' hR' => ?_
    refine next _ σ' m' w' _ hW' hI' ?_ (by rw [put_size]; exact hsz) (by rw [put_defers']; exact hdf) hX' fun n hn => put_same a o.dst _ n (by rw [← hdst]; exact hn)
    rw [hdst]
    exact push_rep (hE1.mono hX') (fun n hn => by rw [hsz]; exact hdlt n hn) hR'
  have skip : ∀ (s1 : List (Nat × D)), EnvR m w s1 a.tmps → K (push r.dst .undef s1) σ → Kc (a.put o.dst undef) w := by
    intro s1 hE1 hW1
    refine next _ σ m w _ hW1 hI ?_ (by rw [put_size]; exact hsz) (by rw [put_defers']; exact hdf) (.refl m w) fun n hn => put_same a o.dst _ n (by rw [← hdst]; exact hn)
    rw [hdst]
    exact push_rep hE1 (fun n hn => by rw [hsz]; exact hdlt n hn) (.tup [] [] rfl (by simp))
  unfold wpOp
  rw [hget]
  dsimp only
  obtain ⟨rdst, rg, rop⟩ := r
  rcases hg with ⟨hg, hrg⟩ | ⟨j, want, d, hg, hjd, hrg⟩
  · have hrg' : rg = none := hrg
    subst hrg'
    have hw : Region.wanted o (yielded ops a.tmps) = true := by simp [Region.wanted, hg]
    rw [if_pos hw]
    exact .inl (run s hE hW)
  · have hrg' : rg = some (d, want) := hrg
    subst hrg'
    have hy1 : ∀ p, a.tmps[d]? = some (.bool p) → yielded ops a.tmps j = some p := by
      intro p hp
      simp [yielded, hjd, hp]
    have hy2 : (∀ b, a.tmps[d]? ≠ some (.bool b)) → ∀ q, yielded ops a.tmps j ≠ some q := by
      intro hn q
      simp only [yielded, hjd, Option.bind_some]
      cases ht : a.tmps[d]? with
      | none => simp
      | some v =>
        cases v with
        | bool b => exact absurd ht (hn b)
        | _ => simp
    simp only [WO] at hW
    have hEd := hE d
    split at hW
    · rename_i p hp
      rw [hp] at hEd
      have hy' := hy1 p (bool_at hEd)
      have hE1 : ∀ q : Bool, p = q → EnvR m w ((d, .v (.bool q)) :: s) a.tmps := by
        rintro q rfl k
        simp only [look]
        by_cases hdk : d = k
        · subst hdk; rw [if_pos rfl]; exact hEd
        · rw [if_neg hdk]; exact hE k
      by_cases hpw : p = want
      · have hw : Region.wanted o (yielded ops a.tmps) = true := by simp [Region.wanted, hg, hy', hpw]
        rw [if_pos hw]
        exact .inl (run _ (hE1 want hpw) (hW.1 hpw))
      · have hw : ¬ Region.wanted o (yielded ops a.tmps) = true := by simp [Region.wanted, hg, hy', hpw]
        rw [if_neg hw]
        have hpn : p = !want := by cases p <;> cases want <;> simp_all
        exact skip _ (hE1 _ hpn) (hW.2 hpn)
    · rename_i hp
      rw [hp] at hEd
      have hu := hy2 (undef_at hEd)
      have hw : ¬ Region.wanted o (yielded ops a.tmps) = true := by
        simp only [Region.wanted, hg]
        simpa using hu want
      rw [if_neg hw]
      exact skip s hE hW
    · exact hW.elim

theorem getD_set {l : Array Bool} {i j : Nat} {d : Bool} : (l.setIfInBounds i true).getD j d = if i = j ∧ j < l.size then true else l.getD j d := by
  rw [Array.getD_eq_getD_getElem?, Array.getElem?_setIfInBounds, Array.getD_eq_getD_getElem?]
  by_cases h : i = j
  · subst h
    by_cases h2 : i < l.size
    · simp [h2]
    · simp [h2]
  · simp [h]

theorem any_sound {nt : Nat} {ops : Array Oper} {ms : List Nat} {T : List (List Nat)} {Q : Exit → Act → World → Prop} (hT : okT ops T = true) : ∀ (fuel : Nat) (L : List (Nat × RO × Bool)) (listed : Array Bool), fuel = L.length → listed.size = ops.size →
    (∀ x ∈ L, x.1 < ops.size ∧ ∀ o, ops[x.1]? = some o → compRO P nt ops ms o = some x.2.1) → okPairs ops T L = true → (∀ i, i < ops.size → (listed.getD i true = false ↔ ∃ x ∈ L, x.1 = i)) →
    (∀ j, j < ops.size → listed.getD j false = true → ∀ e ∈ bindsOf ops j, listed.getD e false = true) →
    ∀ (rds : Hist) (σ : Sg) (m : Gh) (w : World) (a : Act) (s : List (Nat × D)) (K : List (Nat × D) → Sg → Prop), Ext1 K → Inv σ m w → EnvR m w s a.tmps → a.tmps.size = nt → a.defers = [] → WOx P rds (L.map (·.2)) s σ K →
      (∀ s' σ' m' w' a', K s' σ' → Inv σ' m' w' → EnvR m' w' s' a'.tmps → a'.tmps.size = nt → a'.defers = [] → Ext m w m' w' → (∀ n, (∀ x ∈ L, x.2.1.dst ≠ some n) → a'.tmps.getD n undef = a.tmps.getD n undef) → Q .normal a' w') →
      wpAny P .any ops Q fuel listed a w := by
  intro fuel
  induction fuel with
  | zero =>
    intro L listed hf hls hC hP hL hdown rds σ m w a s K hK hI hE hsz hdf hW hk
    have hnil : L = [] := List.length_eq_zero_iff.1 hf.symm
    subst hnil
    refine ⟨?_, hk s σ m w a hW hI hE hsz hdf (.refl m w) fun _ _ => rfl⟩
    refine List.eq_nil_iff_forall_not_mem.2 fun i hi => ?_
    obtain ⟨h1, h2, _⟩ := ready_iff.1 hi
    obtain ⟨x, hx, _⟩ := (hL i h1).1 h2
    simp at hx
  | succ fuel ih =>
    intro L listed hf hls hC hP hL hdown rds σ m w a s K hK hI hE hsz hdf hW hk
    have lst : ∀ i, i < ops.size → (listed.getD i false = true ↔ ¬ ∃ x ∈ L, x.1 = i) := by
      intro i hi
      rw [← hL i hi]
      have : ∀ d, listed.getD i d = listed[i]'(by omega) := fun d => by simp [Array.getD, hls, hi]
      rw [this, this]
      cases listed[i]'(by omega) <;> simp
    refine ⟨fun hnil => ?_, fun i hi => ?_⟩
    · -- something is ready
      exfalso
      cases L with
      | nil => simp at hf
      | cons x L =>
        have hx := hC x (by simp)
        have hxr : x.1 ∈ Region.ready .any ops listed := by
          refine ready_iff.2 ⟨hx.1, (hL x.1 hx.1).2 ⟨x, by simp, rfl⟩, fun e he => ?_⟩
          have h := List.all_eq_true.1 hT x.1 (List.mem_range.2 hx.1)
          simp only [Bool.and_eq_true] at h
          have hlt : e < x.1 := by simpa using List.all_eq_true.1 h.1 e he
          refine (lst e (by omega)).2 ?_
          rintro ⟨y, hy, rfl⟩
          rcases List.mem_cons.1 hy with rfl | hy
          · omega
          · simp only [okPairs, Bool.and_eq_true] at hP
            have h5 := List.all_eq_true.1 hP.1 y hy
            simp only [okPair, Bool.and_eq_true, Bool.not_eq_true'] at h5
            have h6 := h5.1.2
            simp [he] at h6
        rw [hnil] at hxr
        simp at hxr
    · obtain ⟨h1, h2, h3⟩ := ready_iff.1 hi
      obtain ⟨x, hx, hxi⟩ := (hL i h1).1 h2
      obtain ⟨pre, post, rfl⟩ := List.append_of_mem hx
      obtain ⟨hP', hpre, hpost⟩ := okPairs_sub hP
      have hget : ops[i]? = some ops[i] := Array.getElem?_eq_getElem h1
      have hcomp := (hC x hx).2 ops[i] (by rw [hxi]; exact hget)
      have hdown' : ∀ j, j < ops.size → listed.getD j false = true → ∀ e ∈ bindsOf ops j, listed.getD e false = true := hdown
      have hfront := WOx_front (P := P) (i := x.2) (post := post.map (·.2)) (pre.map (·.2)) (by
        intro q hq
        obtain ⟨y, hy, rfl⟩ := List.mem_map.1 hq
        have h5 := hpre y hy
        simp only [okPair, Bool.and_eq_true, Bool.or_eq_true, Bool.not_eq_true', List.contains_iff_mem] at h5
        rcases h5.2 with h6 | h6
        · exfalso
          rw [hxi] at h6
          have := okT_reach hT (listed := fun j => listed.getD j false = true) hdown i h1 h3 y.1 h6
          exact (lst y.1 (hC y (List.mem_append.2 (.inl hy))).1).1 this ⟨y, List.mem_append.2 (.inl hy), rfl⟩
        · exact ⟨h6.1.1, h6.1.2, h6.2⟩) rds s σ K hK (by simpa using hW)
      obtain ⟨xi, xr, xb⟩ := x
      dsimp only at hxi hcomp hfront
      subst hxi
      simp only [WOx] at hfront
      refine one_sound hget hcomp _ hI hE hsz hdf hfront fun s' σ' m' w' a' hK' hI' hE' hsz' hdf' hX' hsame => ?_
      have hne : ∀ y ∈ pre ++ post, y.1 ≠ xi := by
        intro y hy e
        rcases List.mem_append.1 hy with hy | hy
        · have h5 := hpre y hy
          simp [okPair, e] at h5
        · have h5 := hpost y hy
          simp [okPair, e] at h5
      refine ih (pre ++ post) (listed.setIfInBounds xi true) (by simp at hf ⊢; omega) (by simp [hls]) (fun y hy => hC y ?_) hP' (fun j hj => ?_) (fun j hj hjl e he => ?_) _ σ' m' w' a' s' K hK hI' hE' hsz' hdf' (by simpa using hK'.2)
        fun s'' σ'' m'' w'' a'' k1 k2 k3 k4 k5 k6 k7 => hk s'' σ'' m'' w'' a'' k1 k2 k3 k4 k5 (hX'.trans k6) fun n hn => ?_
      · rcases List.mem_append.1 hy with hy | hy
        · exact List.mem_append.2 (.inl hy)
        · exact List.mem_append.2 (.inr (List.mem_cons_of_mem _ hy))
      · rw [getD_set]
        by_cases hij : xi = j
        · subst hij
          rw [if_pos ⟨rfl, by omega⟩]
          simp only [Bool.true_eq_false, false_iff]
          rintro ⟨y, hy, e⟩
          exact hne y hy e
        · rw [if_neg (fun e => hij e.1), hL j hj]
          constructor
          · rintro ⟨y, hy, rfl⟩
            rcases List.mem_append.1 hy with hy | hy
            · exact ⟨y, List.mem_append.2 (.inl hy), rfl⟩
            · rcases List.mem_cons.1 hy with rfl | hy
              · exact (hij rfl).elim
              · exact ⟨y, List.mem_append.2 (.inr hy), rfl⟩
          · rintro ⟨y, hy, rfl⟩
            rcases List.mem_append.1 hy with hy | hy
            · exact ⟨y, List.mem_append.2 (.inl hy), rfl⟩
            · exact ⟨y, List.mem_append.2 (.inr (List.mem_cons_of_mem _ hy)), rfl⟩
      · have mono : ∀ e, listed.getD e false = true → (listed.setIfInBounds xi true).getD e false = true := by
          intro e he
          rw [getD_set]
          split
          · rfl
          · exact he
        rw [getD_set] at hjl
        split at hjl
        · rename_i hxj
          rw [← hxj.1] at he
          exact mono e (h3 e he)
        · exact mono e (hdown j hj hjl e he)
      · rw [k7 n fun y hy => hn y ?_, hsame n (hn (xi, xr, xb) (by simp))]
        rcases List.mem_append.1 hy with hy | hy
        · exact List.mem_append.2 (.inl hy)
        · exact List.mem_append.2 (.inr (List.mem_cons_of_mem _ hy))

/-! ### Two operations whose order is free, though both do something -/

theorem WOxH_app : ∀ {q ros : List (RO × Bool)} {rds : Hist} {s : List (Nat × D)} {σ : Sg} {K : List (Nat × D) → Sg → Prop} {K2 : Hist → List (Nat × D) → Sg → Prop}, (∀ h s σ, K2 h s σ → WOx P h ros s σ K) → WOxH P rds q s σ K2 → WOx P rds (q ++ ros) s σ K
  | [], ros, rds, s, σ, K, K2, hk, h => hk _ _ _ h
  | (r, b) :: q, ros, rds, s, σ, K, K2, hk, h => by
    simp only [WOx, WOxH, List.cons_append] at h ⊢
    exact WO_mono (fun s' σ' hh => ⟨hh.1, WOxH_app hk hh.2⟩) h

/-- One turn of a region whose order is drawn. -/
theorem any_step {nt : Nat} {ops : Array Oper} {ms : List Nat} {T : List (List Nat)} {Q : Exit → Act → World → Prop} (hT : okT ops T = true) {pre post : List (Nat × RO × Bool)} {x : Nat × RO × Bool} {listed : Array Bool}
    (hC : ∀ o, ops[x.1]? = some o → compRO P nt ops ms o = some x.2.1) (hpre : ∀ q ∈ pre, okPair ops T q x = true) (hun : ∀ y ∈ pre, listed.getD y.1 false ≠ true)
    (hdown : ∀ j, j < ops.size → listed.getD j false = true → ∀ e ∈ bindsOf ops j, listed.getD e false = true) (hi : x.1 ∈ Region.ready .any ops listed)
    {rds : Hist} {σ : Sg} {m : Gh} {w : World} {a : Act} {s : List (Nat × D)} {K : List (Nat × D) → Sg → Prop} (hK : Ext1 K) (hI : Inv σ m w) (hE : EnvR m w s a.tmps) (hsz : a.tmps.size = nt) (hdf : a.defers = []) (hW : WOx P rds ((pre ++ x :: post).map (·.2)) s σ K)
    (Kc : Act → World → Prop) (next : ∀ (rds' : Hist) (s' : List (Nat × D)) (σ' : Sg) (m' : Gh) (w' : World) (a' : Act), WOx P rds' ((pre ++ post).map (·.2)) s' σ' K → Inv σ' m' w' → EnvR m' w' s' a'.tmps → a'.tmps.size = nt → a'.defers = [] → Ext m w m' w' →
      (∀ n, x.2.1.dst ≠ some n → a'.tmps.getD n undef = a.tmps.getD n undef) → Kc a' w') : wpOp P ops Q x.1 Kc a w := by
  obtain ⟨h1, h2, h3⟩ := ready_iff.1 hi
  have hget : ops[x.1]? = some ops[x.1] := Array.getElem?_eq_getElem h1
  have hcomp := hC ops[x.1] hget
  have hfront := WOx_front (P := P) (i := x.2) (post := post.map (·.2)) (pre.map (·.2)) (by
    intro q hq
    obtain ⟨y, hy, rfl⟩ := List.mem_map.1 hq
    have h5 := hpre y hy
    simp only [okPair, Bool.and_eq_true, Bool.or_eq_true, Bool.not_eq_true', List.contains_iff_mem] at h5
    rcases h5.2 with h6 | h6
    · exact absurd (okT_reach hT (listed := fun j => listed.getD j false = true) hdown x.1 h1 h3 y.1 h6) (hun y hy)
    · exact ⟨h6.1.1, h6.1.2, h6.2⟩) rds s σ K hK (by simpa using hW)
  obtain ⟨xi, xr, xb⟩ := x
  dsimp only at hcomp hfront h1 hget ⊢
  simp only [WOx] at hfront
  exact one_sound hget hcomp _ hI hE hsz hdf hfront fun s' σ' m' w' a' hK' hI' hE' hsz' hdf' hX' hsame => next _ s' σ' m' w' a' (by simpa using hK'.2) hI' hE' hsz' hdf' hX' hsame

/-- .. with history. -/
theorem any_stepH {nt : Nat} {ops : Array Oper} {ms : List Nat} {T : List (List Nat)} {Q : Exit → Act → World → Prop} (hT : okT ops T = true) {pre post : List (Nat × RO × Bool)} {x : Nat × RO × Bool} {listed : Array Bool}
    (hC : ∀ o, ops[x.1]? = some o → compRO P nt ops ms o = some x.2.1) (hpre : ∀ q ∈ pre, okPair ops T q x = true) (hun : ∀ y ∈ pre, listed.getD y.1 false ≠ true)
    (hdown : ∀ j, j < ops.size → listed.getD j false = true → ∀ e ∈ bindsOf ops j, listed.getD e false = true) (hi : x.1 ∈ Region.ready .any ops listed)
    {rds : Hist} {σ : Sg} {m : Gh} {w : World} {a : Act} {s : List (Nat × D)} {K : Hist → List (Nat × D) → Sg → Prop} (hK : ExtH K) (hI : Inv σ m w) (hE : EnvR m w s a.tmps) (hsz : a.tmps.size = nt) (hdf : a.defers = []) (hW : WOxH P rds ((pre ++ x :: post).map (·.2)) s σ K)
    (Kc : Act → World → Prop) (next : ∀ (rds' : Hist) (s' : List (Nat × D)) (σ' : Sg) (m' : Gh) (w' : World) (a' : Act), WOxH P rds' ((pre ++ post).map (·.2)) s' σ' K → Inv σ' m' w' → EnvR m' w' s' a'.tmps → a'.tmps.size = nt → a'.defers = [] → Ext m w m' w' →
      (∀ n, x.2.1.dst ≠ some n → a'.tmps.getD n undef = a.tmps.getD n undef) → Kc a' w') : wpOp P ops Q x.1 Kc a w := by
  obtain ⟨h1, h2, h3⟩ := ready_iff.1 hi
  have hget : ops[x.1]? = some ops[x.1] := Array.getElem?_eq_getElem h1
  have hcomp := hC ops[x.1] hget
  have hfront := WOxH_front (P := P) (i := x.2) (post := post.map (·.2)) (pre.map (·.2)) (by
    intro q hq
    obtain ⟨y, hy, rfl⟩ := List.mem_map.1 hq
    have h5 := hpre y hy
    simp only [okPair, Bool.and_eq_true, Bool.or_eq_true, Bool.not_eq_true', List.contains_iff_mem] at h5
    rcases h5.2 with h6 | h6
    · exact absurd (okT_reach hT (listed := fun j => listed.getD j false = true) hdown x.1 h1 h3 y.1 h6) (hun y hy)
    · exact ⟨h6.1.1, h6.1.2, h6.2⟩) rds s σ K hK (by simpa using hW)
  obtain ⟨xi, xr, xb⟩ := x
  dsimp only at hcomp hfront h1 hget ⊢
  simp only [WOxH] at hfront
  exact one_sound hget hcomp _ hI hE hsz hdf hfront fun s' σ' m' w' a' hK' hI' hE' hsz' hdf' hX' hsame => next _ s' σ' m' w' a' (by simpa using hK'.2) hI' hE' hsz' hdf' hX' hsame

theorem listed_step {ops : Array Oper} {listed : Array Bool} {pre post : List (Nat × RO × Bool)} {x : Nat × RO × Bool} (hls : listed.size = ops.size) (h1 : x.1 < ops.size) (hne : ∀ y ∈ pre ++ post, y.1 ≠ x.1) (h3 : ∀ e ∈ bindsOf ops x.1, listed.getD e false = true)
    (hL : ∀ i, i < ops.size → (listed.getD i true = false ↔ ∃ y ∈ pre ++ x :: post, y.1 = i)) (hdown : ∀ j, j < ops.size → listed.getD j false = true → ∀ e ∈ bindsOf ops j, listed.getD e false = true) :
    (listed.setIfInBounds x.1 true).size = ops.size ∧ (∀ i, i < ops.size → ((listed.setIfInBounds x.1 true).getD i true = false ↔ ∃ y ∈ pre ++ post, y.1 = i)) ∧
    (∀ j, j < ops.size → (listed.setIfInBounds x.1 true).getD j false = true → ∀ e ∈ bindsOf ops j, (listed.setIfInBounds x.1 true).getD e false = true) := by
  refine ⟨by simp [hls], fun j hj => ?_, fun j hj hjl e he => ?_⟩
  · rw [getD_set]
    by_cases hij : x.1 = j
    · subst hij
      rw [if_pos ⟨rfl, by omega⟩]
      simp only [Bool.true_eq_false, false_iff]
      rintro ⟨y, hy, e⟩
      exact hne y hy e
    · rw [if_neg (fun e => hij e.1), hL j hj]
      constructor
      · rintro ⟨y, hy, rfl⟩
        rcases List.mem_append.1 hy with hy | hy
        · exact ⟨y, List.mem_append.2 (.inl hy), rfl⟩
        · rcases List.mem_cons.1 hy with rfl | hy
          · exact (hij rfl).elim
          · exact ⟨y, List.mem_append.2 (.inr hy), rfl⟩
      · rintro ⟨y, hy, rfl⟩
        rcases List.mem_append.1 hy with hy | hy
        · exact ⟨y, List.mem_append.2 (.inl hy), rfl⟩
        · exact ⟨y, List.mem_append.2 (.inr (List.mem_cons_of_mem _ hy)), rfl⟩
  · have mono : ∀ e, listed.getD e false = true → (listed.setIfInBounds x.1 true).getD e false = true := by
      intro e he
      rw [getD_set]
      split
      · rfl
      · exact he
    rw [getD_set] at hjl
    split at hjl
    · rename_i hxj
      rw [← hxj.1] at he
      exact mono e (h3 e he)
    · exact mono e (hdown j hj hjl e he)
theorem okPair_ne {ops : Array Oper} {T : List (List Nat)} {q i : Nat × RO × Bool} (h : okPair ops T q i = true) : q.1 ≠ i.1 ∧ i.1 ∉ bindsOf ops q.1 := by
  simp only [okPair, Bool.and_eq_true, Bool.not_eq_true', beq_eq_false_iff_ne, ne_eq] at h
  exact ⟨h.1.1, fun hm => by simp [hm] at h⟩

theorem any_alt {nt : Nat} {ops : Array Oper} {ms : List Nat} {T : List (List Nat)} {Q : Exit → Act → World → Prop} (hT : okT ops T = true) : ∀ (fuel : Nat) (q : List (Nat × RO × Bool)) (c al : Nat × RO × Bool) (l r : List (Nat × RO × Bool)) (listed : Array Bool), fuel = q.length + 2 + l.length + r.length → listed.size = ops.size →
    (∀ x ∈ q ++ c :: (l ++ al :: r), x.1 < ops.size ∧ ∀ o, ops[x.1]? = some o → compRO P nt ops ms o = some x.2.1) → okPairs ops T (q ++ c :: (l ++ r)) = true → okPairs ops T (q ++ (l ++ al :: r)) = true → c.2.1.op.quiet = false → c.1 ≠ al.1 → al.1 ∉ bindsOf ops c.1 →
    (∀ i, i < ops.size → (listed.getD i true = false ↔ ∃ x ∈ q ++ c :: (l ++ al :: r), x.1 = i)) → (∀ j, j < ops.size → listed.getD j false = true → ∀ e ∈ bindsOf ops j, listed.getD e false = true) →
    ∀ (rds : Hist) (σ : Sg) (m : Gh) (w : World) (a : Act) (s : List (Nat × D)) (K : List (Nat × D) → Sg → Prop), Ext1 K → Inv σ m w → EnvR m w s a.tmps → a.tmps.size = nt → a.defers = [] →
      WOxH P rds (q.map (·.2)) s σ (fun h s σ => WOx P h (c.2 :: (l.map (·.2) ++ al.2 :: r.map (·.2))) s σ K ∧ WOx P h (al.2 :: c.2 :: (l.map (·.2) ++ r.map (·.2))) s σ K) →
      (∀ s' σ' m' w' a', K s' σ' → Inv σ' m' w' → EnvR m' w' s' a'.tmps → a'.tmps.size = nt → a'.defers = [] → Ext m w m' w' → (∀ n, (∀ x ∈ q ++ c :: (l ++ al :: r), x.2.1.dst ≠ some n) → a'.tmps.getD n undef = a.tmps.getD n undef) → Q .normal a' w') →
      wpAny P .any ops Q fuel listed a w := by
  intro fuel
  induction fuel with
  | zero =>
    intro q c al l r listed hf
    omega
  | succ fuel ih =>
    intro q c al l r listed hf hls hC hP1 hP2 hcq hca hcb hL hdown rds σ m w a s K hK hI hE hsz hdf hW hk
    have lst : ∀ i, i < ops.size → (listed.getD i false = true ↔ ¬ ∃ x ∈ q ++ c :: (l ++ al :: r), x.1 = i) := by
      intro i hi
      rw [← hL i hi]
      have : ∀ d, listed.getD i d = listed[i]'(by omega) := fun d => by simp [Array.getD, hls, hi]
      rw [this, this]
      cases listed[i]'(by omega) <;> simp
    have hun : ∀ y ∈ q ++ c :: (l ++ al :: r), listed.getD y.1 false ≠ true := fun y hy h => (lst y.1 (hC y hy).1).1 h ⟨y, hy, rfl⟩
    -- of those that are after x none binds x
    have rdy : ∀ x ∈ q ++ c :: (l ++ al :: r), (∀ y ∈ q ++ c :: (l ++ al :: r), y.1 < x.1 → y.1 ∉ bindsOf ops x.1) → x.1 ∈ Region.ready .any ops listed := by
      intro x hx hno
      refine ready_iff.2 ⟨(hC x hx).1, (hL x.1 (hC x hx).1).2 ⟨x, hx, rfl⟩, fun e he => ?_⟩
      have h := List.all_eq_true.1 hT x.1 (List.mem_range.2 (hC x hx).1)
      simp only [Bool.and_eq_true] at h
      have hlt : e < x.1 := by simpa using List.all_eq_true.1 h.1 e he
      refine (lst e (by have := (hC x hx).1; omega)).2 ?_
      rintro ⟨y, hy, rfl⟩
      exact hno y hy hlt he
    have pairs1 : ∀ {pre : List (Nat × RO × Bool)} {x : Nat × RO × Bool} {post : List (Nat × RO × Bool)}, q ++ c :: (l ++ r) = pre ++ x :: post → okPairs ops T (pre ++ post) = true ∧ (∀ p ∈ pre, okPair ops T p x = true) ∧ (∀ y ∈ post, okPair ops T x y = true) := fun e => okPairs_sub (e ▸ hP1)
    have pairs2 : ∀ {pre : List (Nat × RO × Bool)} {x : Nat × RO × Bool} {post : List (Nat × RO × Bool)}, q ++ (l ++ al :: r) = pre ++ x :: post → okPairs ops T (pre ++ post) = true ∧ (∀ p ∈ pre, okPair ops T p x = true) ∧ (∀ y ∈ post, okPair ops T x y = true) := fun e => okPairs_sub (e ▸ hP2)
    have hc := pairs1 (pre := q) (x := c) (post := l ++ r) rfl
    have hal := pairs2 (pre := q ++ l) (x := al) (post := r) (by simp)
    refine ⟨fun hnil => ?_, fun i hi => ?_⟩
    · -- something is ready
      exfalso
      have : ∃ x, x ∈ Region.ready .any ops listed := by
        cases q with
        | nil =>
          refine ⟨c.1, rdy c (by simp) fun y hy hlt hb => ?_⟩
          simp only [List.nil_append, List.mem_cons, List.mem_append] at hy
          rcases hy with rfl | hy | rfl | hy
          · omega
          · exact (okPair_ne (hc.2.2 y (by simp [hy]))).2 hb
          · exact hcb hb
          · exact (okPair_ne (hc.2.2 y (by simp [hy]))).2 hb
        | cons x q =>
          have g1 := pairs1 (pre := []) (x := x) (post := q ++ c :: (l ++ r)) rfl
          have g2 := pairs2 (pre := []) (x := x) (post := q ++ (l ++ al :: r)) rfl
          refine ⟨x.1, rdy x (by simp) fun y hy hlt hb => ?_⟩
          simp only [List.cons_append, List.mem_cons, List.mem_append] at hy
          rcases hy with rfl | hy | rfl | hy | rfl | hy
          · omega
          · exact (okPair_ne (g1.2.2 y (by simp [hy]))).2 hb
          · exact (okPair_ne (g1.2.2 y (by simp))).2 hb
          · exact (okPair_ne (g1.2.2 y (by simp [hy]))).2 hb
          · exact (okPair_ne (g2.2.2 y (by simp))).2 hb
          · exact (okPair_ne (g1.2.2 y (by simp [hy]))).2 hb
      obtain ⟨x, hx⟩ := this
      rw [hnil] at hx
      cases hx
    · obtain ⟨h1, h2, h3⟩ := ready_iff.1 hi
      obtain ⟨x, hx, rfl⟩ := (hL i h1).1 h2
      have hx' := hx
      simp only [List.mem_append, List.mem_cons] at hx'
      have hx'' : x ∈ q ∨ x = c ∨ x = al ∨ x ∈ l ++ r := by
        simp only [List.mem_append]
        rcases hx' with h | h | h | h | h <;> simp [h]
      rcases hx'' with hq | rfl | rfl | hr
      · obtain ⟨pre, post, rfl⟩ := List.append_of_mem hq
        have g1 := pairs1 (pre := pre) (x := x) (post := post ++ c :: (l ++ r)) (by simp)
        have g2 := pairs2 (pre := pre) (x := x) (post := post ++ (l ++ al :: r)) (by simp)
        have hne : ∀ y ∈ pre ++ (post ++ c :: (l ++ al :: r)), y.1 ≠ x.1 := by
          intro y hy
          simp only [List.mem_append, List.mem_cons] at hy
          rcases hy with hy | hy | rfl | hy | rfl | hy
          · exact (okPair_ne (g1.2.1 y hy)).1
          · exact (okPair_ne (g1.2.2 y (by simp [hy]))).1.symm
          · exact (okPair_ne (g1.2.2 y (by simp))).1.symm
          · exact (okPair_ne (g1.2.2 y (by simp [hy]))).1.symm
          · exact (okPair_ne (g2.2.2 y (by simp))).1.symm
          · exact (okPair_ne (g1.2.2 y (by simp [hy]))).1.symm
        obtain ⟨n1, n2, n3⟩ := listed_step hls h1 hne h3 (fun i hi => by rw [hL i hi]; simp) hdown
        refine any_stepH hT (hC x hx).2 g1.2.1 (fun y hy => hun y (by simp [hy])) hdown hi ⟨fun _ s1 s2 σ hs hh => ⟨WOx_ext hK hs hh.1, WOx_ext hK hs hh.2⟩, fun _ _ _ _ hs hh => ⟨WOx_sub hs hh.1, WOx_sub hs hh.2⟩⟩ hI hE hsz hdf hW _ fun rds' s' σ' m' w' a' hW' hI' hE' hsz' hdf' hX' hsame => ?_
        refine ih (pre ++ post) c al l r _ (by simp at hf ⊢; omega) n1 (fun y hy => hC y (by simp only [List.mem_append, List.mem_cons] at hy ⊢; rcases hy with (hy | hy) | hy <;> simp [hy])) (by simpa using g1.1) (by simpa using g2.1) hcq hca hcb (fun i hi => by rw [n2 i hi]; simp) n3 rds' σ' m' w' a' s' K hK hI' hE' hsz' hdf' hW'
          fun s'' σ'' m'' w'' a'' k1 k2 k3 k4 k5 k6 k7 => hk s'' σ'' m'' w'' a'' k1 k2 k3 k4 k5 (hX'.trans k6) fun n hn => ?_
        rw [k7 n fun y hy => hn y (by simp only [List.mem_append, List.mem_cons] at hy ⊢; rcases hy with (hy | hy) | hy <;> simp [hy]), hsame n (hn x hx)]
      · have hne : ∀ y ∈ q ++ (l ++ al :: r), y.1 ≠ x.1 := by
          intro y hy
          simp only [List.mem_append, List.mem_cons] at hy
          rcases hy with hy | hy | rfl | hy
          · exact (okPair_ne (hc.2.1 y hy)).1
          · exact (okPair_ne (hc.2.2 y (by simp [hy]))).1.symm
          · exact hca.symm
          · exact (okPair_ne (hc.2.2 y (by simp [hy]))).1.symm
        obtain ⟨n1, n2, n3⟩ := listed_step hls h1 hne h3 hL hdown
        have hW1 : WOx P rds ((q ++ x :: (l ++ al :: r)).map (·.2)) s σ K := by
          rw [List.map_append]
          exact WOxH_app (fun _ s σ h => by simpa using h.1) hW
        refine any_step hT (hC x hx).2 hc.2.1 (fun y hy => hun y (by simp [hy])) hdown hi hK hI hE hsz hdf hW1 _ fun rds' s' σ' m' w' a' hW' hI' hE' hsz' hdf' hX' hsame => ?_
        refine any_sound hT fuel (q ++ (l ++ al :: r)) _ (by simp at hf ⊢; omega) n1 (fun y hy => hC y (by simp only [List.mem_append, List.mem_cons] at hy ⊢; rcases hy with hy | hy | hy | hy <;> simp [hy])) hP2 n2 n3 rds' σ' m' w' a' s' K hK hI' hE' hsz' hdf' hW'
          fun s'' σ'' m'' w'' a'' k1 k2 k3 k4 k5 k6 k7 => hk s'' σ'' m'' w'' a'' k1 k2 k3 k4 k5 (hX'.trans k6) fun n hn => ?_
        rw [k7 n fun y hy => hn y (by simp only [List.mem_append, List.mem_cons] at hy ⊢; rcases hy with hy | hy | hy | hy <;> simp [hy]), hsame n (hn x hx)]
      · have hne : ∀ y ∈ (q ++ c :: l) ++ r, y.1 ≠ x.1 := by
          intro y hy
          simp only [List.mem_append, List.mem_cons] at hy
          rcases hy with (hy | rfl | hy) | hy
          · exact (okPair_ne (hal.2.1 y (by simp [hy]))).1
          · exact hca
          · exact (okPair_ne (hal.2.1 y (by simp [hy]))).1
          · exact (okPair_ne (hal.2.2 y hy)).1.symm
        obtain ⟨n1, n2, n3⟩ := listed_step (pre := q ++ c :: l) hls h1 hne h3 (fun i hi => by rw [hL i hi]; simp) hdown
        have hW1 : WOx P rds ((q ++ x :: (c :: (l ++ r))).map (·.2)) s σ K := by
          rw [List.map_append]
          exact WOxH_app (fun _ s σ h => by simpa using h.2) hW
        refine any_step hT (hC x hx).2 (fun y hy => hal.2.1 y (by simp [hy])) (fun y hy => hun y (by simp [hy])) hdown hi hK hI hE hsz hdf hW1 _ fun rds' s' σ' m' w' a' hW' hI' hE' hsz' hdf' hX' hsame => ?_
        refine any_sound hT fuel (q ++ c :: (l ++ r)) _ (by simp at hf ⊢; omega) n1 (fun y hy => hC y (by simp only [List.mem_append, List.mem_cons] at hy ⊢; rcases hy with hy | hy | hy | hy <;> simp [hy])) hP1 (fun i hi => by rw [n2 i hi]; simp) n3 rds' σ' m' w' a' s' K hK hI' hE' hsz' hdf' hW'
          fun s'' σ'' m'' w'' a'' k1 k2 k3 k4 k5 k6 k7 => hk s'' σ'' m'' w'' a'' k1 k2 k3 k4 k5 (hX'.trans k6) fun n hn => ?_
        rw [k7 n fun y hy => hn y (by simp only [List.mem_append, List.mem_cons] at hy ⊢; rcases hy with hy | hy | hy | hy <;> simp [hy]), hsame n (hn x hx)]
      · exfalso
        have h5 := hc.2.2 x hr
        simp only [okPair, Bool.and_eq_true, Bool.or_eq_true, Bool.not_eq_true', List.contains_iff_mem, hcq, Bool.false_eq_true, false_and, or_false] at h5
        exact hun c (by simp) (okT_reach hT (listed := fun j => listed.getD j false = true) hdown x.1 h1 h3 c.1 h5.2)
end
end Go.Abs

/-
  The code of a function, in the small language; what its weakest precondition says holds of its runs. (Own work; seat-independent.)
-/
set_option linter.unusedVariables false
set_option linter.unusedSimpArgs false
namespace Go.Abs
open Go

def quietAt (P : Program) (ops : Array Oper) (ms : List Nat) (i : Nat) : Bool := match (ops[i]?).bind (compT P · ms []) with
  | some op => op.quiet
  | none => false

def grow (ops : Array Oper) : Nat → List (List Nat) → List (List Nat)
  | 0, T => T
  | k + 1, T => grow ops k (T ++ [((bindsOf ops T.length).flatMap fun e => e :: T.getD e []).eraseDups])

def canonGo (ops : Array Oper) (qt : Nat → Bool) : Nat → List Nat → List Nat
  | 0, _ => []
  | f + 1, L => match (List.range ops.size).filter fun i => !L.contains i && (bindsOf ops i).all L.contains with
    | [] => []
    | i :: rd => match (i :: rd).find? qt with
      | some j => j :: canonGo ops qt f (j :: L)
      | none => i :: canonGo ops qt f (i :: L)

def anyRO (P : Program) (nt : Nat) (ops : Array Oper) (ms : List Nat) (T : List (List Nat)) : List Nat → List Nat → Option (List (Nat × RO × Bool))
  | _, [] => some []
  | bef, i :: l => match ops[i]?, anyRO P nt ops ms T (i :: bef) l with
    | some o, some rs => (match compRO P nt ops ms o with
      | some r => some ((i, r, bef.all (T.getD i []).contains) :: rs)
      | none => none)
    | _, _ => none

def compAny (P : Program) (nt : Nat) (ops : Array Oper) (ms : List Nat := []) : Option (List (Nat × RO × Bool)) :=
  match anyRO P nt ops ms (grow ops ops.size []) [] (canonGo ops (quietAt P ops ms) ops.size []) with
  | some L => if (okT ops (grow ops ops.size []) && okPairs ops (grow ops ops.size []) L && (L.length == ops.size) && ((List.range ops.size).all fun i => L.any fun x => x.1 == i) && P.follows .mixedOrders) = true then some L else none
  | none => none

def altOk (P : Program) (ops : Array Oper) (T : List (List Nat)) (q : List (Nat × RO × Bool)) (c al : Nat × RO × Bool) (l r : List (Nat × RO × Bool)) : Bool :=
  okT ops T && okPairs ops T (q ++ c :: (l ++ r)) && okPairs ops T (q ++ (l ++ al :: r)) && ((q ++ c :: (l ++ al :: r)).length == ops.size) && ((List.range ops.size).all fun i => (q ++ c :: (l ++ al :: r)).any fun x => x.1 == i) &&
    !c.2.1.op.quiet && !(c.1 == al.1) && !(bindsOf ops c.1).contains al.1 && P.follows .mixedOrders
/-- Two operations whose order is free: a call and what makes room for its outcome, or two stores. -/
def marks (T : List (List Nat)) (c : Nat × RO × Bool) (q : List (Nat × RO × Bool)) : Bool := q.all fun x => (T.getD c.1 []).contains x.1 || x.2.1.op.blind
def altTry (P : Program) (ops : Array Oper) (T : List (List Nat)) (L : List (Nat × RO × Bool)) (i j : Nat) : Option (List (Nat × RO × Bool) × (Nat × RO × Bool) × (Nat × RO × Bool) × List (Nat × RO × Bool) × List (Nat × RO × Bool)) :=
  match L.drop i with
  | c :: l => (match l.drop j with
    | al :: r => if altOk P ops T (L.take i) (c.1, c.2.1, marks T c (L.take i)) (al.1, al.2.1, marks T al (L.take i ++ l.take j)) (l.take j) r = true then some (L.take i, (c.1, c.2.1, marks T c (L.take i)), (al.1, al.2.1, marks T al (L.take i ++ l.take j)), l.take j, r) else none
    | [] => none)
  | [] => none
def altPairs (L : List (Nat × RO × Bool)) : List (Nat × Nat) :=
  ((List.range L.length).filter fun i => match L[i]? with | some x => !x.2.1.op.quiet | none => false).flatMap fun i =>
    ((List.range (L.length - (i + 1))).filter fun j => match L[i + 1 + j]? with | some x => !x.2.1.op.quiet | none => false).map fun j => (i, j)
def compAlt (P : Program) (nt : Nat) (ops : Array Oper) (ms : List Nat := []) : Option (List (Nat × RO × Bool) × (Nat × RO × Bool) × (Nat × RO × Bool) × List (Nat × RO × Bool) × List (Nat × RO × Bool)) :=
  match anyRO P nt ops ms (grow ops ops.size []) [] (canonGo ops (quietAt P ops ms) ops.size []) with
  | some L => (altPairs L).findSome? fun x => altTry P ops (grow ops ops.size []) L x.1 x.2
  | none => none
theorem compAlt_spec {P : Program} {nt : Nat} {ops : Array Oper} {ms : List Nat} {q : List (Nat × RO × Bool)} {c al : Nat × RO × Bool} {l r : List (Nat × RO × Bool)} (h : compAlt P nt ops ms = some (q, c, al, l, r)) :
    ∃ L b b', anyRO P nt ops ms (grow ops ops.size []) [] (canonGo ops (quietAt P ops ms) ops.size []) = some L ∧ L = q ++ (c.1, c.2.1, b) :: (l ++ (al.1, al.2.1, b') :: r) ∧ altOk P ops (grow ops ops.size []) q c al l r = true := by
  unfold compAlt at h
  split at h
  · rename_i L hL
    obtain ⟨⟨i, j⟩, _, h⟩ := List.exists_of_findSome?_eq_some h
    unfold altTry at h
    split at h
    · rename_i c0 l0 hc
      split at h
      · rename_i al0 r0 ha
        split at h
        · rename_i hok
          simp only [Option.some.injEq, Prod.mk.injEq] at h
          obtain ⟨rfl, rfl, rfl, rfl, rfl⟩ := h
          refine ⟨L, c0.2.2, al0.2.2, hL, ?_, hok⟩
          have h1 := List.take_append_drop i L
          have h2 := List.take_append_drop j l0
          rw [hc] at h1
          rw [ha] at h2
          rw [h2]
          exact h1.symm
        · cases h
      · cases h
    · cases h
  · cases h

theorem anyRO_spec {P : Program} {nt : Nat} {ops : Array Oper} {ms : List Nat} {T : List (List Nat)} : ∀ (l bef : List Nat) (L : List (Nat × RO × Bool)), anyRO P nt ops ms T bef l = some L →
    ∀ x ∈ L, x.1 < ops.size ∧ ∀ o, ops[x.1]? = some o → compRO P nt ops ms o = some x.2.1
  | [], bef, L, h => by cases h; simp
  | i :: l, bef, L, h => by
    simp only [anyRO] at h
    split at h
    · rename_i o rs ho hrs
      split at h
      · rename_i r hr
        cases h
        intro x hx
        rcases List.mem_cons.1 hx with rfl | hx
        · exact ⟨(Array.getElem?_eq_some_iff.1 ho).1, fun o' ho' => by rw [ho] at ho'; cases ho'; exact hr⟩
        · exact anyRO_spec l _ rs hrs x hx
      · cases h
    · cases h

/-- What is not covered. -/
def stopX : X := .reg [] [⟨none, none, .ext .stop []⟩]
theorem W_stop {P : Program} {B : Sg} {Q : XE → St → Prop} {st : St} (h : W P B stopX Q st) : False := by
  simp only [stopX, W, WO, WOp, WX] at h

def compC (P : Program) (nt : Nat) (ms keep : List Nat) : Code → Option X
  | .skip => some .skip
  | .label _ => some .skip
  | .region _ ops false => (match compROs P nt ops ms ops.toList with
    | some rs => some (.reg (outsOf keep rs) rs)
    | none => none)
  | .region _ ops true => (match compAny P nt ops ms with
    | some L => some (.any (outsOf keep (L.map (·.2.1))) (L.map (·.2)))
    | none => (match compAlt P nt ops ms with
      | some (q, c, al, l, r) => some (.alt (outsOf keep ((q ++ c :: (l ++ al :: r)).map (·.2.1))) (q.map (·.2)) c.2 al.2 (l.map (·.2)) (r.map (·.2)))
      | none => some stopX))
  | .seq a b => (match compC P nt ms keep a, compC P nt ms keep b with
    | some x, some y => some (.seq x y)
    | _, _ => none)
  | .cond c a b => (match cE c, compC P nt ms keep a, compC P nt ms keep b with
    | some e, some x, some y => some (.cond e x y)
    | _, _, _ => none)
  | .block id a => (match compC P nt ms keep a with
    | some x => some (.block id x)
    | none => none)
  | .loop a => (match compC P nt ms keep a with
    | some x => some (.loop x)
    | none => none)
  | .exit id => some (.exit id)
  | .ret => some .ret
  | _ => none

/-- A result: a slot, or what lies where a slot points to. -/
inductive RV where
  | tmp (t : Nat)
  | cell (a : Nat) (sh : Sh)
  deriving Inhabited

def resTmps (P : Program) : List ResultVar → Option (List RV)
  | [] => some []
  | .tmp t :: r => (match resTmps P r with
    | some l => some (.tmp t :: l)
    | none => none)
  | .cell a t :: r => (match tsh P t, resTmps P r with
    | some sh, some l => some (.cell a sh :: l)
    | _, _ => none)

structure AFun where
  nt : Nat
  res : List RV
  body : X
  deriving Inhabited

def compF (P : Program) (keep : List Nat) (fn : Func) (ms : List Nat := []) : Option AFun :=
  match fn.body, resTmps P fn.results.toList with
  | some c, some res => (match compC P fn.ntmps ms keep c with
    | some x => some ⟨fn.ntmps, res, x⟩
    | none => none)
  | _, _ => none

section
variable {P : Program}

def toX : XE → Exit
  | .normal => .normal
  | .exit id => .exit id
  | .ret => .ret

/-- What is known behind a piece of code. -/
def Behind (nt : Nat) (keep : List Nat) (m0 : Gh) (w0 : World) (Q : XE → St → Prop) : Exit → Act → World → Prop := fun e a w =>
  a.defers = [] ∧ a.tmps.size = nt ∧ ∃ e' st m, e = toX e' ∧ Q e' st ∧ Inv st.σ m w ∧ EnvR m w st.env a.tmps ∧ Ext m0 w0 m w ∧ ∀ n, n ∉ keep → look st.env n = .junk

theorem min_of {p : Nat → Prop} (h : ∃ n, p n) : ∃ n, p n ∧ ∀ k, p k → n ≤ k := by
  obtain ⟨n, hn⟩ := h
  induction n using Nat.strongRecOn with
  | _ n ih =>
    by_cases hk : ∃ k, k < n ∧ p k
    · obtain ⟨k, hk, hp⟩ := hk; exact ih k hk hp
    · exact ⟨n, hn, fun k hp => Nat.le_of_not_lt fun hlt => hk ⟨k, hlt, hp⟩⟩

theorem outs_look {s s' : List (Nat × D)} (h : ∀ n, look s n = look s' n) : ∀ {os : List Nat} {env : List (Nat × D)}, outs os s env = outs os s' env
  | [], env => rfl
  | o :: os, env => by simp only [outs]; rw [h o, outs_look h]

theorem mem_dstsOf {n : Nat} : ∀ {rs : List RO}, n ∈ dstsOf rs ↔ ∃ r ∈ rs, r.dst = some n
  | [] => by simp [dstsOf]
  | r :: rs => by
    have ih := mem_dstsOf (n := n) (rs := rs)
    simp only [dstsOf]
    cases hd : r.dst with
    | none => simp [ih, hd]
    | some d => simp [ih, hd, eq_comm]

theorem wp_loop_rank {c : Code} {Q : Exit → Act → World → Prop} {a : Act} {w : World} (I : Nat → Act → World → Prop) (h0 : ∃ n, I n a w)
    (round : ∀ n a w, I n a w → c.wp P (Exit.then (fun a' w' => ∃ n', n' < n ∧ I n' a' w') Q) a w) : (Code.loop c).wp P Q a w := by
  classical
  let μ : Act → World → Nat := fun a w => if h : ∃ n, I n a w then Classical.choose (min_of h) else 0
  have hμ : ∀ a w (h : ∃ n, I n a w), I (μ a w) a w ∧ ∀ k, I k a w → μ a w ≤ k := by
    intro a w h
    have := Classical.choose_spec (min_of h)
    simp only [μ, dif_pos h]
    exact this
  refine wp_loop (fun a w => ∃ n, I n a w) μ h0 fun a w h => ?_
  refine wp_mono (round _ a w (hμ a w h).1) fun e a' w' he => ?_
  cases e with
  | normal =>
    obtain ⟨n', hlt, hI⟩ := he
    exact ⟨⟨n', hI⟩, Nat.lt_of_le_of_lt ((hμ a' w' ⟨n', hI⟩).2 n' hI) hlt⟩
  | _ => exact he

theorem W_sound {nt : Nat} {ms keep : List Nat} {B : Sg} {m0 : Gh} {w0 : World} (hB : Inv B m0 w0) : ∀ (c : Code) (x : X), compC P nt ms keep c = some x →
    ∀ (Q : XE → St → Prop) (st : St) (m : Gh) (w : World) (a : Act), Ext m0 w0 m w → Inv st.σ m w → EnvR m w st.env a.tmps → a.tmps.size = nt → a.defers = [] → (∀ n, n ∉ keep → look st.env n = .junk) → W P B x Q st → c.wp P (Behind nt keep m0 w0 Q) a w := by
  intro c
  induction c with
  | skip => intro x hx Q st m w a hX hI hE hsz hdf hdom hW; cases hx; exact wp_skip ⟨hdf, hsz, .normal, st, m, rfl, hW, hI, hE, hX, hdom⟩
  | label l => intro x hx Q st m w a hX hI hE hsz hdf hdom hW; cases hx; exact wp_label ⟨hdf, hsz, .normal, st, m, rfl, hW, hI, hE, hX, hdom⟩
  | exit id => intro x hx Q st m w a hX hI hE hsz hdf hdom hW; cases hx; exact wp_exit ⟨hdf, hsz, .exit id, st, m, rfl, hW, hI, hE, hX, hdom⟩
  | ret => intro x hx Q st m w a hX hI hE hsz hdf hdom hW; cases hx; exact wp_ret ⟨hdf, hsz, .ret, st, m, rfl, hW, hI, hE, hX, hdom⟩
  | region id ops draw =>
    intro x hx Q st m w a hX hI hE hsz hdf hdom hW
    cases draw with
    | true =>
      simp only [compC] at hx
      split at hx
      · rename_i L hL
        cases hx
        simp only [W] at hW
        unfold compAny at hL
        split at hL
        · rename_i L' hL'
          split at hL
          · rename_i hok
            have e : L' = L := Option.some.inj hL
            subst e
            simp only [Bool.and_eq_true, beq_iff_eq] at hok
            obtain ⟨⟨⟨⟨hT, hP⟩, hlen⟩, hall⟩, hmix⟩ := hok
            have hXd : Ext m w m { w with drawn := w.drawn + 1 } :=
              ⟨rfl, rfl, rfl, Nat.le_refl _, fun _ _ h => .inl h, fun _ tk h => ⟨tk, h, rfl, Nat.le_refl _, fun _ => rfl⟩, fun _ _ h => ⟨rfl, h.2⟩, fun _ _ h => ⟨rfl, h⟩⟩
            have hId : Inv st.σ m { w with drawn := w.drawn + 1 } :=
              ⟨hI.lobj, hI.ltok, hI.nodup, fun o ob b h1 h2 => (hI.ob o ob b h1 h2).mono hXd rfl, hI.gone, fun tk h => hI.tk tk h, hI.glob.mono hXd⟩
            refine wp_region_any hmix (any_sound (nt := nt) hT ops.size L' _ hlen.symm (by simp) (anyRO_spec _ _ _ hL') hP (fun i hi => ?_) (fun j hj hjl => ?_) [] st.σ m _ a st.env _ ?_ hId (hE.mono hXd) hsz hdf hW
              fun s' σ' m' w' a' hK hI' hE' hsz' hdf' hX' hsame => ?_)
            · have h1 : (Array.replicate ops.size false).getD i true = false := by simp [Array.getD, hi]
              refine ⟨fun _ => ?_, fun _ => h1⟩
              obtain ⟨x, hx, hxi⟩ := List.any_eq_true.1 (List.all_eq_true.1 hall i (List.mem_range.2 hi))
              exact ⟨x, hx, by simpa using hxi⟩
            · simp [Array.getD, hj] at hjl
            · intro s1 s2 σ' hs hh
              refine cast ?_ hh
              rw [outs_look hs]
            · refine ⟨hdf', hsz', .normal, _, m', rfl, hK, hI', ?_, hX.trans (hXd.trans hX'), fun n hn => ?_⟩
              · refine outs_rep hE' _ _ fun n => ?_
                by_cases hk : n ∈ keep
                · by_cases hd : n ∈ dstsOf (L'.map (·.2.1))
                  · exact .inr ((mem_outsOf _).2 ⟨hd, hk⟩)
                  · left
                    rw [hsame n fun x hx e => hd (mem_dstsOf.2 ⟨x.2.1, List.mem_map.2 ⟨x, hx, rfl⟩, e⟩)]
                    exact (hE n).mono (hXd.trans hX')
                · left; rw [hdom n hk]; exact .junk _
              · show look (outs _ _ _) n = _
                rw [outs_dom _ _ fun h => hn ((mem_outsOf _).1 h).2]
                exact hdom n hn
          · cases hL
        · cases hL
      · split at hx
        · rename_i q c al l r hA
          cases hx
          simp only [W] at hW
          obtain ⟨L', b, b', hL', hLe, hok⟩ := compAlt_spec hA
          simp only [altOk, Bool.and_eq_true, beq_iff_eq, Bool.not_eq_true', beq_eq_false_iff_ne, ne_eq] at hok
          obtain ⟨⟨⟨⟨⟨⟨⟨⟨hT, hP1⟩, hP2⟩, hlen⟩, hall⟩, hcq⟩, hca⟩, hcb⟩, hmix⟩ := hok
          have hXd : Ext m w m { w with drawn := w.drawn + 1 } :=
            ⟨rfl, rfl, rfl, Nat.le_refl _, fun _ _ h => .inl h, fun _ tk h => ⟨tk, h, rfl, Nat.le_refl _, fun _ => rfl⟩, fun _ _ h => ⟨rfl, h.2⟩, fun _ _ h => ⟨rfl, h⟩⟩
          have hId : Inv st.σ m { w with drawn := w.drawn + 1 } :=
            ⟨hI.lobj, hI.ltok, hI.nodup, fun o ob b h1 h2 => (hI.ob o ob b h1 h2).mono hXd rfl, hI.gone, fun tk h => hI.tk tk h, hI.glob.mono hXd⟩
          have hC : ∀ x ∈ q ++ c :: (l ++ al :: r), x.1 < ops.size ∧ ∀ o, ops[x.1]? = some o → compRO P nt ops ms o = some x.2.1 := by
            intro x hx
            have hsp := anyRO_spec _ _ _ hL'
            by_cases hxc : x = c
            · subst hxc
              exact hsp (x.1, x.2.1, b) (by rw [hLe]; simp)
            by_cases hxa : x = al
            · subst hxa
              exact hsp (x.1, x.2.1, b') (by rw [hLe]; simp)
            · refine hsp x ?_
              rw [hLe]
              simp only [List.mem_append, List.mem_cons] at hx ⊢
              rcases hx with hx | hx | hx | hx | hx
              · exact .inl hx
              · exact absurd hx hxc
              · exact .inr (.inr (.inl hx))
              · exact absurd hx hxa
              · exact .inr (.inr (.inr (.inr hx)))
          refine wp_region_any hmix (any_alt (nt := nt) hT ops.size q c al l r _ (by rw [← hlen]; simp; omega) (by simp) hC hP1 hP2 hcq hca (by simpa using hcb) (fun i hi => ?_) (fun j hj hjl => ?_) [] st.σ m _ a st.env (fun s σ' => Q .normal ⟨outs _ s st.env, σ'⟩) ?_ hId (hE.mono hXd) hsz hdf hW
            fun s' σ' m' w' a' hK hI' hE' hsz' hdf' hX' hsame => ?_)
          · have h1 : (Array.replicate ops.size false).getD i true = false := by simp [Array.getD, hi]
            refine ⟨fun _ => ?_, fun _ => h1⟩
            obtain ⟨x, hx, hxi⟩ := List.any_eq_true.1 (List.all_eq_true.1 hall i (List.mem_range.2 hi))
            exact ⟨x, hx, by simpa using hxi⟩
          · simp [Array.getD, hj] at hjl
          · intro s1 s2 σ' hs hh
            refine cast ?_ hh
            rw [outs_look hs]
          · refine ⟨hdf', hsz', .normal, _, m', rfl, hK, hI', ?_, hX.trans (hXd.trans hX'), fun n hn => ?_⟩
            · refine outs_rep hE' _ _ fun n => ?_
              by_cases hk : n ∈ keep
              · by_cases hd : n ∈ dstsOf ((q ++ c :: (l ++ al :: r)).map (·.2.1))
                · exact .inr ((mem_outsOf _).2 ⟨hd, hk⟩)
                · left
                  rw [hsame n fun x hx e => hd (mem_dstsOf.2 ⟨x.2.1, List.mem_map.2 ⟨x, hx, rfl⟩, e⟩)]
                  exact (hE n).mono (hXd.trans hX')
              · left; rw [hdom n hk]; exact .junk _
            · show look (outs _ _ _) n = _
              rw [outs_dom _ _ fun h => hn ((mem_outsOf _).1 h).2]
              exact hdom n hn
        · cases hx
          exact (W_stop hW).elim
    | false =>
      simp only [compC] at hx
      split at hx
      · rename_i rs hrs
        cases hx
        simp only [W] at hW
        refine wp_region ?_
        rw [List.range_eq_range', ← Array.length_toList]
        refine WO_sound (nt := nt) ops.toList rs [] rfl hrs st.σ m w a st.env _ hI hE hsz hdf hW fun s' σ' m' w' a' hK hI' hE' hsz' hdf' hX' hsame => ?_
        refine ⟨hdf', hsz', .normal, _, m', rfl, hK, hI', ?_, hX.trans hX', fun n hn => ?_⟩
        · refine outs_rep hE' _ _ fun n => ?_
          by_cases hk : n ∈ keep
          · by_cases hd : n ∈ dstsOf rs
            · exact .inr ((mem_outsOf rs).2 ⟨hd, hk⟩)
            · left; rw [hsame n hd]; exact (hE n).mono hX'
          · left; rw [hdom n hk]; exact .junk _
        · show look (outs _ _ _) n = _
          rw [outs_dom _ _ fun h => hn ((mem_outsOf rs).1 h).2]
          exact hdom n hn
      · cases hx
  | seq c1 c2 ih1 ih2 =>
    intro x hx Q st m w a hX hI hE hsz hdf hdom hW
    simp only [compC] at hx
    split at hx
    · rename_i x1 x2 h1 h2
      cases hx
      simp only [W] at hW
      refine wp_seq (wp_mono (ih1 x1 h1 _ st m w a hX hI hE hsz hdf hdom hW) fun e a' w' he => ?_)
      obtain ⟨hdf', hsz', e', st', m', rfl, hQ, hI', hE', hX', hdom'⟩ := he
      cases e' with
      | normal => exact ih2 x2 h2 Q st' m' w' a' hX' hI' hE' hsz' hdf' hdom' hQ
      | exit id => exact ⟨hdf', hsz', .exit id, st', m', rfl, hQ, hI', hE', hX', hdom'⟩
      | ret => exact ⟨hdf', hsz', .ret, st', m', rfl, hQ, hI', hE', hX', hdom'⟩
    · cases hx
  | cond c a1 b1 iha ihb =>
    intro x hx Q st m w a hX hI hE hsz hdf hdom hW
    simp only [compC] at hx
    split at hx
    · rename_i e xa xb he hxa hxb
      cases hx
      simp only [W] at hW
      split at hW
      · rename_i p hp
        have hr := ev_rep hE he
        rw [hp] at hr
        exact wp_cond_split hr.bool_inv (fun ht => iha xa hxa Q st m w a hX hI hE hsz hdf hdom (hW.1 ht)) (fun hf => ihb xb hxb Q st m w a hX hI hE hsz hdf hdom (hW.2 hf))
      · exact hW.elim
    · cases hx
  | block id c ih =>
    intro x hx Q st m w a hX hI hE hsz hdf hdom hW
    simp only [compC] at hx
    split at hx
    · rename_i x1 h1
      cases hx
      simp only [W] at hW
      refine wp_block (wp_mono (ih x1 h1 _ st m w a hX hI hE hsz hdf hdom hW) fun e a' w' he => ?_)
      obtain ⟨hdf', hsz', e', st', m', rfl, hQ, hI', hE', hX', hdom'⟩ := he
      cases e' with
      | normal => exact ⟨hdf', hsz', .normal, st', m', rfl, hQ, hI', hE', hX', hdom'⟩
      | ret => exact ⟨hdf', hsz', .ret, st', m', rfl, hQ, hI', hE', hX', hdom'⟩
      | exit j =>
        simp only [toX, Exit.inBlock]
        dsimp only at hQ
        split at hQ
        · rename_i hj; rw [if_pos hj]; exact ⟨hdf', hsz', .normal, st', m', rfl, hQ, hI', hE', hX', hdom'⟩
        · rename_i hj; rw [if_neg hj]; exact ⟨hdf', hsz', .exit j, st', m', rfl, hQ, hI', hE', hX', hdom'⟩
    · cases hx
  | loop c ih =>
    intro x hx Q st m w a hX hI hE hsz hdf hdom hW
    simp only [compC] at hx
    split at hx
    · rename_i x1 h1
      cases hx
      simp only [W] at hW
      obtain ⟨I, ⟨n0, st0, hweak, hI0⟩, hround⟩ := hW
      refine wp_loop_rank (fun n a w => a.defers = [] ∧ a.tmps.size = nt ∧ ∃ st m, I n st ∧ Inv st.σ m w ∧ EnvR m w st.env a.tmps ∧ Ext m0 w0 m w ∧ ∀ n, n ∉ keep → look st.env n = .junk) ?_ fun n a w hh => ?_
      · obtain ⟨m', hI', hE', hX'⟩ := hweak.2 m0 m w0 w a.tmps hB hX hI hE
        exact ⟨n0, hdf, hsz, st0, m', hI0, hI', hE', hX', fun n hn => hweak.1 n (hdom n hn)⟩
      · obtain ⟨hdf, hsz, st', m, hin, hI, hE, hX, hdom⟩ := hh
        refine wp_mono (ih x1 h1 _ st' m w a hX hI hE hsz hdf hdom (hround n st' hin)) fun e a' w' he => ?_
        obtain ⟨hdf', hsz', e', st2, m', rfl, hQ, hI', hE', hX', hdom'⟩ := he
        cases e' with
        | normal =>
          obtain ⟨n', st3, hlt, hweak, hin'⟩ := hQ
          obtain ⟨m'', hI'', hE'', hX''⟩ := hweak.2 m0 m' w0 w' a'.tmps hB hX' hI' hE'
          exact ⟨n', hlt, hdf', hsz', st3, m'', hin', hI'', hE'', hX'', fun n hn => hweak.1 n (hdom' n hn)⟩
        | exit id => exact ⟨hdf', hsz', .exit id, st2, m', rfl, hQ, hI', hE', hX', hdom'⟩
        | ret => exact ⟨hdf', hsz', .ret, st2, m', rfl, hQ, hI', hE', hX', hdom'⟩
    · cases hx
  | _ => intro x hx; simp [compC] at hx

end
end Go.Abs
