/-
  Quiet operations: one answer, whatever else has happened. (Own work; seat-independent.)
-/
import Derived.Test.YtbifjffjibnjjaaDoorAbsR
set_option linter.unusedVariables false
set_option linter.unusedSimpArgs false
namespace Go.Abs
open Go

def quietBin : EqK → Bool
  | .sl => false
  | _ => true

def XOp.quiet : XOp → Bool
  | .mget _ _ _ => true
  | .stop => true
  | _ => false

def AOp.quiet : AOp → Bool
  | .bin _ k _ _ _ => quietBin k
  | .alloc _ => false
  | .box _ => false
  | .store _ _ _ => false
  | .call _ _ => false
  | .inv _ _ _ => false
  | .append _ _ _ _ => false
  | .ext x _ => x.quiet
  | _ => true

section
variable {P : Program} {s : List (Nat × D)}

theorem WInt_det {op : BinOp} {k l : IntKind} {a b : Int} {K : V → Prop} (h : WInt op k a l b K) : ∃ v, K v ∧ ∀ K' : V → Prop, K' v → WInt op k a l b K' := by
  cases op <;> simp only [WInt] at h ⊢
  case add => exact ⟨_, h.2, fun K' hk => ⟨h.1, hk⟩⟩
  case sub => exact ⟨_, h.2, fun K' hk => ⟨h.1, hk⟩⟩
  case mul => exact ⟨_, h.2, fun K' hk => ⟨h.1, hk⟩⟩
  case quo => exact ⟨_, h.2.2, fun K' hk => ⟨h.1, h.2.1, hk⟩⟩
  case rem => exact ⟨_, h.2.2, fun K' hk => ⟨h.1, h.2.1, hk⟩⟩
  case and => exact ⟨_, h.2, fun K' hk => ⟨h.1, hk⟩⟩
  case or => exact ⟨_, h.2, fun K' hk => ⟨h.1, hk⟩⟩
  case xor => exact ⟨_, h.2, fun K' hk => ⟨h.1, hk⟩⟩
  case shl => exact ⟨_, h.2, fun K' hk => ⟨h.1, hk⟩⟩
  case shr => exact ⟨_, h.2, fun K' hk => ⟨h.1, hk⟩⟩
  case eql => exact ⟨_, h.2, fun K' hk => ⟨h.1, hk⟩⟩
  case neq => exact ⟨_, h.2, fun K' hk => ⟨h.1, hk⟩⟩
  case lss => exact ⟨_, h.2, fun K' hk => ⟨h.1, hk⟩⟩
  case leq => exact ⟨_, h.2, fun K' hk => ⟨h.1, hk⟩⟩
  case gtr => exact ⟨_, h.2, fun K' hk => ⟨h.1, hk⟩⟩
  case geq => exact ⟨_, h.2, fun K' hk => ⟨h.1, hk⟩⟩
  all_goals exact h.elim

theorem WStr_det {op : BinOp} {a b : List UInt8} {K : V → Prop} (h : WStr op a b K) : ∃ v, K v ∧ ∀ K' : V → Prop, K' v → WStr op a b K' := by
  cases op <;> simp only [WStr] at h ⊢
  case add => exact ⟨_, h.2, fun K' hk => ⟨h.1, hk⟩⟩
  all_goals first | exact ⟨_, h, fun K' hk => hk⟩ | exact h.elim

theorem WEq_det {k : EqK} {c : Bool} {x y : D} {B : Bool → Prop} (hk : quietBin k = true) (h : WEq P k c x y B) : ∃ b, B b ∧ ∀ B' : Bool → Prop, B' b → WEq P k c x y B' := by
  unfold WEq at h ⊢
  split at h
  all_goals first
    | exact ⟨_, h.2, fun B' hb => ⟨h.1, hb⟩⟩
    | exact ⟨_, h.2.2, fun B' hb => ⟨h.1, h.2.1, hb⟩⟩
    | (rw [h.1] at hk; cases hk)
    | exact h.elim
    | skip
  · rename_i t p a u q b
    by_cases htu : t = u
    · exact ⟨_, (h.2.2 htu).2.2, fun B' hb => ⟨h.1, fun e => (e htu).elim, fun _ => ⟨(h.2.2 htu).1, (h.2.2 htu).2.1, hb⟩⟩⟩
    · exact ⟨_, h.2.1 htu, fun B' hb => ⟨h.1, fun _ => hb, fun e => (htu e).elim⟩⟩
  · split at h
    · split at h
      · exact ⟨_, h, fun B' hb => hb⟩
      · exact h.elim
    · exact h.elim

theorem WBin_det {op : BinOp} {k : EqK} {c : Bool} {x y : D} {K : V → Prop} (hk : quietBin k = true) (h : WBin P op k c x y K) : ∃ v, K v ∧ ∀ K' : V → Prop, K' v → WBin P op k c x y K' := by
  unfold WBin at h ⊢
  split at h
  · exact WInt_det h
  · exact WStr_det h
  · cases op
    case eql => obtain ⟨b, h1, h2⟩ := WEq_det hk h; exact ⟨_, h1, fun K' hb => h2 _ hb⟩
    case neq => obtain ⟨b, h1, h2⟩ := WEq_det hk h; exact ⟨_, h1, fun K' hb => h2 _ hb⟩
    all_goals exact h.elim

theorem WUn_det {op : UnOp} {x : D} {K : V → Prop} (h : WUn op x K) : ∃ v, K v ∧ ∀ K' : V → Prop, K' v → WUn op x K' := by
  unfold WUn at h ⊢
  split at h <;> first | exact ⟨_, h, fun K' hk => hk⟩ | exact h.elim

theorem WConv_det {c : ConvK} {x : D} {K : V → Prop} (h : WConv c x K) : ∃ v, K v ∧ ∀ K' : V → Prop, K' v → WConv c x K' := by
  unfold WConv at h ⊢
  split at h
  all_goals first
    | exact h.elim
    | exact ⟨_, h, fun K' hk => hk⟩
    | exact ⟨_, h.2, fun K' hk => ⟨h.1, hk⟩⟩
    | exact ⟨_, h.choose_spec.2, fun K' hk => ⟨_, h.choose_spec.1, hk⟩⟩

theorem WLoad_det {sh : Sh} {a : D} {σ : Sg} {K : D → Prop} (h : WLoad sh a σ K) : ∃ d, K d ∧ ∀ σ' (K' : D → Prop), KeepOn (rdL sh a) σ σ' → K' d → WLoad sh a σ' K' := by
  cases a with
  | imm sh' x off =>
    simp only [WLoad] at h ⊢
    by_cases hc : off = 0 ∧ sh = sh'
    · rw [if_pos hc] at h
      exact ⟨_, h, fun σ' K' _ hk => by rw [if_pos hc]; exact hk⟩
    · rw [if_neg hc] at h
      cases sh with
      | none => dsimp only at h ⊢; cases hx : x.cells[off]? with
        | none => rw [hx] at h; exact h.elim
        | some c => rw [hx] at h; exact ⟨_, h, fun σ' K' _ hk => by rw [if_neg hc]; exact hk⟩
      | some n => exact ⟨_, h.2, fun σ' K' _ hk => by rw [if_neg hc]; exact ⟨h.1, hk⟩⟩
  | ptr o off =>
    simp only [WLoad] at h ⊢
    rcases hob : σ.objs[o]? with _ | (cs | es | _ | _)
    · rw [hob] at h; exact h.elim
    · rw [hob] at h
      cases sh with
      | none => dsimp only at h ⊢; cases hx : cs[off]? with
        | none => rw [hx] at h; exact h.elim
        | some c =>
          rw [hx] at h
          refine ⟨_, h, fun σ' K' hs hk => ?_⟩
          rcases hs ⟨o, some (none, off)⟩ (by simp [rdL]) _ hob with hq | ⟨cs1, cs2, e, hq, hr⟩
          · dsimp only at hq
            rw [hq]; dsimp only; rw [hx]; exact hk
          · cases e
            dsimp only at hq
            have hr2 : cs2[off]? = cs[off]? := hr
            rw [hq]; dsimp only; rw [hr2, hx]; exact hk
      | some n =>
        refine ⟨_, h.2.2, fun σ' K' hs hk => ?_⟩
        rcases hs ⟨o, some (some n, off)⟩ (by simp [rdL]) _ hob with hq | ⟨cs1, cs2, e, hq, hr⟩
        · dsimp only at hq
          rw [hq]; exact ⟨h.1, h.2.1, hk⟩
        · cases e
          dsimp only at hq
          obtain ⟨hr1, hr2⟩ := hr
          rw [hq]; dsimp only; rw [hr1, hr2]; exact ⟨h.1, h.2.1, hk⟩
    · rw [hob] at h; exact h.elim
    · rw [hob] at h; exact h.elim
    · rw [hob] at h; exact h.elim
  | v y =>
    cases y with
    | box sh' x off =>
      simp only [WLoad] at h ⊢
      by_cases hc : off = 0 ∧ sh = sh'
      · rw [if_pos hc] at h
        exact ⟨_, h, fun σ' K' _ hk => by rw [if_pos hc]; exact hk⟩
      · rw [if_neg hc] at h
        cases sh with
        | none => dsimp only at h ⊢; cases hx : x.cells[off]? with
          | none => rw [hx] at h; exact h.elim
          | some c => rw [hx] at h; exact ⟨_, h, fun σ' K' _ hk => by rw [if_neg hc]; exact hk⟩
        | some n => exact ⟨_, h.2, fun σ' K' _ hk => by rw [if_neg hc]; exact ⟨h.1, hk⟩⟩
    | _ => exact h.elim
  | _ => exact h.elim

theorem WNil_det {x : D} {K : D → Prop} (h : WNil x K) : ∃ v, K v ∧ ∀ K' : D → Prop, K' v → WNil x K' := by
  unfold WNil at h ⊢
  split at h <;> first | exact ⟨_, h, fun K' hk => hk⟩ | exact h.elim

theorem WSlice_det {k : SlK} {x : D} {lo hi mx : Option D} {K : V → Prop} (h : WSlice k x lo hi mx K) : ∃ v, K v ∧ ∀ K' : V → Prop, K' v → WSlice k x lo hi mx K' := by
  unfold WSlice at h ⊢
  split at h
  · rename_i s
    rcases hb : bounds s.length lo hi mx with _ | ⟨l, h', _ | m⟩ <;> rw [hb] at h
    · exact h.elim
    · exact ⟨_, h.2.2.2, fun K' hk => ⟨h.1, h.2.1, h.2.2.1, hk⟩⟩
    · exact h.elim
  · rename_i sh sh' f xs
    rcases hb : bounds xs.length lo hi mx with _ | ⟨l, h', _ | m⟩ <;> rw [hb] at h
    · exact h.2.elim
    · exact ⟨_, h.2.2.2.2, fun K' hk => ⟨h.1, h.2.1, h.2.2.1, h.2.2.2.1, hk⟩⟩
    · exact ⟨_, h.2.2.2.2.2, fun K' hk => ⟨h.1, h.2.1, h.2.2.1, h.2.2.2.1, h.2.2.2.2.1, hk⟩⟩
  · rename_i sh t sh' xs
    rcases hb : bounds xs.length lo hi mx with _ | ⟨l, h', _ | m⟩ <;> rw [hb] at h
    · exact h.2.elim
    · exact ⟨_, h.2.2.2.2, fun K' hk => ⟨h.1, h.2.1, h.2.2.1, h.2.2.2.1, hk⟩⟩
    · exact ⟨_, h.2.2.2.2.2, fun K' hk => ⟨h.1, h.2.1, h.2.2.1, h.2.2.2.1, h.2.2.2.2.1, hk⟩⟩
  · rcases hb : bounds 0 lo hi mx with _ | ⟨l, h', q⟩ <;> rw [hb] at h
    · exact h.elim
    · exact ⟨_, h.2.2.2, fun K' hk => ⟨h.1, h.2.1, h.2.2.1, hk⟩⟩
  · exact h.elim

theorem WSl_det {k : SlK} {x : D} {lo hi mx : Option D} {K : D → Prop} (h : WSl k x lo hi mx K) : ∃ v, K v ∧ ∀ K' : D → Prop, K' v → WSl k x lo hi mx K' := by
  unfold WSl at h ⊢
  split at h
  · rename_i sh o off len sh' cp
    unfold WSlM at h ⊢
    obtain ⟨e, h⟩ := h
    cases cp with
    | none => exact h.elim
    | some c =>
      dsimp only at h ⊢
      rcases hb : bounds len lo hi mx with _ | ⟨l, h', _ | m⟩ <;> rw [hb] at h
      · exact h.elim
      · exact ⟨_, h.2.2.2, fun K' hk => ⟨e, h.1, h.2.1, h.2.2.1, hk⟩⟩
      · exact ⟨_, h.2.2.2.2, fun K' hk => ⟨e, h.1, h.2.1, h.2.2.1, h.2.2.2.1, hk⟩⟩
  · obtain ⟨v, h1, h2⟩ := WSlice_det h
    exact ⟨_, h1, fun K' hk => h2 _ hk⟩

theorem WFaddr_det {off : Nat} {x : D} {K : D → Prop} (h : WFaddr off x K) : ∃ v, K v ∧ ∀ K' : D → Prop, K' v → WFaddr off x K' := by
  unfold WFaddr at h ⊢
  split at h <;> first | exact ⟨_, h, fun K' hk => hk⟩ | exact h.elim

theorem WField_det {sh : Sh} {off : Nat} {x : D} {K : D → Prop} (h : WField sh off x K) : ∃ v, K v ∧ ∀ K' : D → Prop, K' v → WField sh off x K' := by
  unfold WField at h ⊢
  split at h
  · rename_i cs
    cases sh with
    | none => dsimp only at h ⊢; cases hx : cs[off]? with
      | none => rw [hx] at h; exact h.elim
      | some c => rw [hx] at h; exact ⟨_, h, fun K' hk => hk⟩
    | some n => exact ⟨_, h.2, fun K' hk => ⟨h.1, hk⟩⟩
  · rename_i cs
    cases sh with
    | none => dsimp only at h ⊢; cases hx : cs[off]? with
      | none => rw [hx] at h; exact h.elim
      | some c => rw [hx] at h; exact ⟨_, h, fun K' hk => hk⟩
    | some n => exact ⟨_, h.2, fun K' hk => ⟨h.1, hk⟩⟩
  · exact h.elim

theorem WIaddr_det {sh : Sh} {x i : D} {K : D → Prop} (h : WIaddr sh x i K) : ∃ v, K v ∧ ∀ K' : D → Prop, K' v → WIaddr sh x i K' := by
  unfold WIaddr at h ⊢
  split at h
  all_goals first
    | exact h.elim
    | (obtain ⟨h1, h2, h3, h4⟩ := h
       refine ⟨_, h4 _ (List.getElem?_eq_getElem (by omega)), fun K' hk => ⟨h1, h2, h3, fun y hy => ?_⟩⟩
       rw [List.getElem?_eq_getElem (by omega)] at hy
       cases hy
       exact hk)
    | exact ⟨_, h.2.2.2, fun K' hk => ⟨h.1, h.2.1, h.2.2.1, hk⟩⟩

theorem WIndex_det {x i : D} {K : V → Prop} (h : WIndex x i K) : ∃ v, K v ∧ ∀ K' : V → Prop, K' v → WIndex x i K' := by
  unfold WIndex at h ⊢
  split at h
  · obtain ⟨h2, h3, h4⟩ := h
    refine ⟨_, h4 _ (List.getElem?_eq_getElem (by omega)), fun K' hk => ⟨h2, h3, fun y hy => ?_⟩⟩
    rw [List.getElem?_eq_getElem (by omega)] at hy
    cases hy
    exact hk
  · exact h.elim

theorem WExtract_det {x : D} {i : Nat} {K : D → Prop} (h : WExtract x i K) : ∃ v, K v ∧ ∀ K' : D → Prop, K' v → WExtract x i K' := by
  cases x with
  | tup ds =>
    simp only [WExtract] at h ⊢
    cases hx : ds[i]? with
    | none => rw [hx] at h; exact h.elim
    | some c => rw [hx] at h; exact ⟨_, h, fun K' hk => hk⟩
  | _ => exact h.elim

theorem WLen_det {k : LenK} {x : D} {σ : Sg} {K : V → Prop} (h : WLen k x σ K) : ∃ v, K v ∧ ∀ σ' (K' : V → Prop), KeepOn (rdD x) σ σ' → K' v → WLen k x σ' K' := by
  unfold WLen at h ⊢
  split at h <;> first | exact ⟨_, h, fun σ' K' _ hk => hk⟩ | skip
  · rename_i o
    rcases hob : σ.objs[o]? with _ | (cs | es | _ | _)
    · rw [hob] at h; exact h.elim
    · rw [hob] at h; exact h.elim
    · rw [hob] at h; exact ⟨_, h.2, fun σ' K' hs hk => by rw [show σ'.objs[o]? = _ from (hs ⟨o, none⟩ (by simp [rdD, rdH]) _ hob).resolve_right id]; exact ⟨h.1, hk⟩⟩
    · rw [hob] at h; exact h.elim
    · rw [hob] at h; exact h.elim
  · exact h.elim

theorem WMin_det {xs : List D} {K : V → Prop} (h : WMin xs K) : ∃ v, K v ∧ ∀ K' : V → Prop, K' v → WMin xs K' := by
  unfold WMin at h ⊢
  split at h <;> first | exact ⟨_, h.2, fun K' hk => ⟨h.1, hk⟩⟩ | exact h.elim

theorem WMksl_det {sh : Sh} {xs : List D} {K : V → Prop} (h : WMksl sh xs K) : ∃ v, K v ∧ ∀ K' : V → Prop, K' v → WMksl sh xs K' := by
  unfold WMksl at h ⊢
  split at h <;> first | exact ⟨_, h.2, fun K' hk => ⟨h.1, hk⟩⟩ | exact h.elim

theorem det_of {rds : List Rd} {W1 : (V → Prop) → Prop} {W2 : Sg → (D → Sg → Prop) → Prop} {σ : Sg} {K : D → Sg → Prop} (h : ∃ v, K (.v v) σ ∧ ∀ K' : V → Prop, K' v → W1 K') (e : ∀ σ' K', W2 σ' K' = W1 fun v => K' (.v v) σ') :
    ∃ d, K d σ ∧ ∀ σ' (K' : D → Sg → Prop), KeepOn rds σ σ' → K' d σ' → W2 σ' K' := by
  obtain ⟨v, h1, h2⟩ := h
  exact ⟨_, h1, fun σ' K' _ hk => by rw [e]; exact h2 _ hk⟩

theorem detD_of {rds : List Rd} {W1 : (D → Prop) → Prop} {W2 : Sg → (D → Sg → Prop) → Prop} {σ : Sg} {K : D → Sg → Prop} (h : ∃ v, K v σ ∧ ∀ K' : D → Prop, K' v → W1 K') (e : ∀ σ' K', W2 σ' K' = W1 fun v => K' v σ') :
    ∃ d, K d σ ∧ ∀ σ' (K' : D → Sg → Prop), KeepOn rds σ σ' → K' d σ' → W2 σ' K' := by
  obtain ⟨v, h1, h2⟩ := h
  exact ⟨_, h1, fun σ' K' _ hk => by rw [e]; exact h2 _ hk⟩

theorem WX_det {x : XOp} (hq : x.quiet = true) {ds : List D} {σ : Sg} {K : D → Sg → Prop} (h : WX x ds σ K) : ∃ d, K d σ ∧ ∀ σ' (K' : D → Sg → Prop), KeepOn (rdH ds) σ σ' → K' d σ' → WX x ds σ' K' := by
  cases x with
  | mkmap => cases hq
  | mput => cases hq
  | appm => cases hq
  | appd => cases hq
  | mksld => cases hq
  | mkvec => cases hq
  | copy => cases hq
  | cap => cases hq
  | mrange => cases hq
  | mnext => cases hq
  | mentry => cases hq
  | mkslm => cases hq
  | appz => cases hq
  | clear => cases hq
  | give => cases hq
  | max => cases hq
  | bind => cases hq
  | sto => cases hq
  | ibox => cases hq
  | xbox => cases hq
  | iexp => cases hq
  | ldk => cases hq
  | mdel => cases hq
  | stop => exact h.elim
  | mget kk ok z =>
    simp only [WX] at h ⊢
    split at h
    · exact ⟨_, h.2, fun σ' K' _ hk => ⟨h.1, hk⟩⟩
    · exact ⟨_, h.2.2, fun σ' K' _ hk => ⟨h.1, h.2.1, hk⟩⟩
    · rename_i o k
      rcases hob : σ.objs[o]? with _ | (cs | es | _ | _)
      · rw [hob] at h; exact h.elim
      · rw [hob] at h; exact h.elim
      · rw [hob] at h; exact ⟨_, h.2.2, fun σ' K' hs hk => by rw [show σ'.objs[o]? = _ from (hs ⟨o, none⟩ (by simp [rdD, rdH]) _ hob).resolve_right id]; exact ⟨h.1, h.2.1, hk⟩⟩
      · rw [hob] at h; exact h.elim
      · rw [hob] at h; exact h.elim
    · exact h.elim

theorem WOp_det {op : AOp} (hq : op.quiet = true) {σ : Sg} {K : D → Sg → Prop} (h : WOp P op s σ K) : ∃ d, K d σ ∧ ∀ σ' (K' : D → Sg → Prop), KeepOn (op.reads s) σ σ' → K' d σ' → WOp P op s σ' K' := by
  cases op <;> simp only [AOp.quiet] at hq <;> simp only [WOp] at h ⊢
  case mv x => exact ⟨_, h, fun σ' K' _ hk => hk⟩
  case pick c a b =>
    generalize ev s c = d at h
    cases d with
    | v x => cases x with
      | bool p => cases p with
        | true => exact ⟨_, h.1 rfl, fun σ' K' _ hk => ⟨fun _ => hk, fun e => nomatch e⟩⟩
        | false => exact ⟨_, h.2 rfl, fun σ' K' _ hk => ⟨fun e => (nomatch e), fun _ => hk⟩⟩
      | _ => exact h.elim
    | _ => exact h.elim
  case build zs ps =>
    split at h
    · exact ⟨_, h, fun σ' K' _ hk => hk⟩
    · exact h.elim
  case mksl sh xs => exact det_of (WMksl_det h) fun _ _ => rfl
  case load sh a => obtain ⟨d, h1, h2⟩ := WLoad_det h; exact ⟨d, h1, fun σ' K' hs hk => h2 σ' _ hs hk⟩
  case nilck x => exact detD_of (WNil_det h) fun _ _ => rfl
  case bin op k c x y => exact det_of (WBin_det hq h) fun _ _ => rfl
  case un op x => exact det_of (WUn_det h) fun _ _ => rfl
  case conv c x => exact det_of (WConv_det h) fun _ _ => rfl
  case mkif t x => exact ⟨_, h, fun σ' K' _ hk => hk⟩
  case mkfn f caps => exact ⟨_, h, fun σ' K' _ hk => hk⟩
  case slice k x lo hi mx => exact detD_of (WSl_det h) fun _ _ => rfl
  case faddr off x => exact detD_of (WFaddr_det h) fun _ _ => rfl
  case field sh off x => exact detD_of (WField_det h) fun _ _ => rfl
  case iaddr sh x i => exact detD_of (WIaddr_det h) fun _ _ => rfl
  case index x i => exact det_of (WIndex_det h) fun _ _ => rfl
  case extract x i => exact detD_of (WExtract_det h) fun _ _ => rfl
  case len k x => obtain ⟨d, h1, h2⟩ := WLen_det h; exact ⟨_, h1, fun σ' K' hs hk => h2 σ' _ hs hk⟩
  case min xs => exact det_of (WMin_det h) fun _ _ => rfl
  case ext x xs => exact WX_det hq h
  all_goals cases hq

theorem reads_on {s' : List (Nat × D)} {op : AOp} (h : ∀ n ∈ op.tmps, look s n = look s' n) : op.reads s = op.reads s' := by
  cases op <;> try rfl
  case load sh a => exact congrArg (rdL sh) (ev_on h)
  case len k x => exact congrArg rdD (ev_on h)
  case ext x xs => exact congrArg rdH (evs_on h)

theorem KeepOn.sub {rds rds' : List Rd} {σ σ' : Sg} (h : KeepOn rds σ σ') (hs : ∀ o ∈ rds', o ∈ rds) : KeepOn rds' σ σ' := fun o ho => h o (hs o ho)
theorem Keep.on {rds : List Rd} {σ σ' : Sg} (h : Keep σ σ') : KeepOn rds σ σ' := fun r _ ob e => .inl (h r.o ob e)

end
end Go.Abs
