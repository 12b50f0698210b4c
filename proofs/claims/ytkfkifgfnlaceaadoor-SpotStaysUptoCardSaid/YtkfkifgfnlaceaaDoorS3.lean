/-
  Where a place of a text is: line and column. (Own work.)
-/
import Derived.Test.YtkfkifgfnlaceaaDoorS2
import Derived.Shelf.Bytes.SlCountOne
set_option linter.unusedVariables false
set_option linter.unusedSimpArgs false
namespace Go.Proofs.YtkfkifgfnlaceaaDoor
open Go Go.Abs Go.RowKit

set_option maxHeartbeats 2000000 in
set_option maxRecDepth 1000000 in
theorem count_raw (a : Addr) (n c b2 o2 d : Nat) (xs : List Int) (cv : Int) (w : World) (hx : xs.length = n) (hc : ∀ i, i < n → w.cell? (a.add i) = some (.int .u8 (xs.getD i 0))) (hc2 : w.cell? ⟨b2, o2, none⟩ = some (.int .u8 cv)) :
    Calls Tryd.prog 29 #[.slice (some a) n c, .slice (some ⟨b2, o2, none⟩) 1 d] w fun e w' => e = .returned (.int .i64 (Lib.countByte (Lib.bytesOf xs) cv.toNat.toUInt8)) ∧ w' = w := by
  go_enter Tryd.func29, Tryd.ntmps29
  go_wp2
  rw [run_callFunc_extern Tryd.func45 (by kernel_rfl) (by kernel_rfl) (by kernel_rfl) (e := Extern.BytealgCount.count) (by kernel_rfl), Lib.run_countAt w a n c xs hx hc cv]
  simp only [Result.andThen]
  rw [Oper.upon_value]
  go_wp2
  go_ret
  exact ⟨rfl, rfl⟩
set_option maxHeartbeats 2000000 in
set_option maxRecDepth 1000000 in
theorem count_nil (b2 o2 d : Nat) (cv : Int) (w : World) (hc2 : w.cell? ⟨b2, o2, none⟩ = some (.int .u8 cv)) :
    Calls Tryd.prog 29 #[.slice none 0 0, .slice (some ⟨b2, o2, none⟩) 1 d] w fun e w' => e = .returned (.int .i64 0) ∧ w' = w := by
  go_enter Tryd.func29, Tryd.ntmps29
  go_wp2
  rw [run_callFunc_extern Tryd.func45 (by kernel_rfl) (by kernel_rfl) (by kernel_rfl) (e := Extern.BytealgCount.count) (by kernel_rfl), Lib.run_countNil w 0 0 cv]
  simp only [Result.andThen]
  rw [Oper.upon_value]
  go_wp2
  go_ret
  exact ⟨rfl, rfl⟩
theorem addr_add (b off j : Nat) : (⟨b, off, none⟩ : Addr).add j = ⟨b, off + j, none⟩ := by unfold Addr.add; split <;> simp_all
theorem bytesOf_toNat (b : Str) : Lib.bytesOf (b.map fun c => (c.toNat : Int)) = b := by
  unfold Lib.bytesOf
  rw [List.map_map]
  conv => rhs; rw [← List.map_id b]
  exact List.map_congr_left fun c _ => by simp
theorem flat_bytes : ∀ b : Str, V.flat (bytesV b) = bytesV b
  | [] => rfl
  | c :: b => congrArg (V.int .u8 c.toNat :: ·) (flat_bytes b)
theorem k_Count {f : Bool} {b : Str} {σ : Sg} : ACalls Tryd.prog 29 [.v (.sl none f (bytesV b)), .v (.sl none true [.int .u8 10])] σ fun r σ' => r = .v (.int .i64 (b.count 10)) ∧ σ' = σ := by
  refine ⟨⟨_, Tryd.func29, by kernel_rfl, by kernel_rfl⟩, fun m w us hI hlen hr => ?_⟩
  match us, hlen with
  | [u1, u2], _ =>
  have g1 := (hr 0 _ _ rfl rfl).v_inv
  have g2 := (hr 1 _ _ rfl rfl).v_inv
  have hb1 : b.count 10 ≤ b.length := List.count_le_length
  cases g2 with
  | sl _ _ _ b2 off2 cap2 us2 hs2 h12 hl2 hm2 hf2 hc2 hr2 =>
  have e2 := hf2 rfl
  subst e2
  have c2 := (hc2 0 (by simp [shn])).1
  have r2 := hr2 0 _ rfl
  generalize us2 0 = x2 at c2 r2
  cases r2 with
  | int _ _ _ =>
  obtain ⟨a, cap, rfl, hl, hm, hf, hs, h1, hh⟩ := g1.sl_inv
  rw [bytesV_length] at hl
  have hlm : b.length ≤ maxLen := Nat.le_trans hl hm
  rcases hh with ⟨he, hc0⟩ | ⟨b1, off, us, rfl, hc, hr'⟩
  · have hbn : b = [] := bytesV_inj (he.trans rfl)
    subst hbn
    subst hc0
    cases a with
    | none =>
      refine (count_nil b2 off2 _ 10 w c2).mono fun e w' ⟨he, hw⟩ => ?_
      subst hw
      exact ⟨_, _, σ, m, he, ⟨rfl, rfl⟩, hI, .refl _ _, .v _ _ (.int _ _ (by decide))⟩
    | some a =>
      refine (count_raw a 0 0 b2 off2 _ [] 10 w rfl (by simp) c2).mono fun e w' ⟨he, hw⟩ => ?_
      subst hw
      exact ⟨_, _, σ, m, he, ⟨rfl, rfl⟩, hI, .refl _ _, .v _ _ (.int _ _ (by decide))⟩
  · have hcells : ∀ i, i < b.length → w.cell? ((⟨b1, off, none⟩ : Addr).add i) = some (.int .u8 ((b.map fun c => (c.toNat : Int)).getD i 0)) := fun i hi => by
      rw [addr_add, (hc i (by simpa [shn] using hi)).1]
      have hq := hr' i (.int .u8 (b[i].toNat : Int)) (by
        have e : V.flat (bytesV b) = bytesV b := flat_bytes b
        rw [e]
        simp [bytesV, hi])
      generalize us i = ui at hq
      cases hq with
      | int _ _ _ => simp [List.getD_eq_getElem?_getD, hi]
    rw [bytesV_length]
    refine (count_raw ⟨b1, off, none⟩ b.length cap b2 off2 _ (b.map fun c => (c.toNat : Int)) 10 w (by simp) hcells c2).mono fun e w' ⟨he, hw⟩ => ?_
    subst hw
    rw [bytesOf_toNat] at he
    refine ⟨_, _, σ, m, he, ⟨rfl, rfl⟩, hI, .refl _ _, .v _ _ (.int _ _ (inR_nat (Nat.le_trans hb1 hlm)))⟩
end Go.Proofs.YtkfkifgfnlaceaaDoor
