/-
  Append, in one theorem. (Own work; seat-independent.)
-/
import Derived.Test.YtbifjffjibnjjaaDoorAbsA
set_option linter.unusedVariables false
set_option linter.unusedSimpArgs false
namespace Go.Abs
open Go

theorem V.flat_append (xs ys : List V) : V.flat (xs ++ ys) = V.flat xs ++ V.flat ys := by simp [V.flat]

theorem RepV.cells_one {w : World} {F : Nat → Nat → Prop} {cs : List V} {us : List Value} (h1 : ∀ c ∈ cs, c.one = true) (hl : cs.length = us.length)
    (hr : ∀ (i : Nat) c u, cs[i]? = some c → us[i]? = some u → RepV w F c u) : ∀ u ∈ us, u.oneCell' = true := by
  intro u hu
  obtain ⟨i, hi⟩ := List.mem_iff_getElem?.1 hu
  have hlt : i < cs.length := by rw [hl]; exact (List.getElem?_eq_some_iff.1 hi).1
  exact (hr i cs[i] u (List.getElem?_eq_getElem hlt) hi).one (h1 _ (List.getElem_mem hlt))

/-- The cells of a slice's elements, as append reads them. -/
theorem RepV.olds {P : Program} {w : World} {F : Nat → Nat → Prop} {sh : Sh} {full : Bool} {xs : List V} {a : Option Addr} {len cap : Nat} (h : RepV w F (.sl sh full xs) (.slice a len cap)) :
    ∃ olds : List Value, olds.length = xs.length * shn sh ∧ (∀ (i : Nat) c u, (V.flat xs)[i]? = some c → olds[i]? = some u → RepV w F c u) ∧
      ∀ w' : World, w'.heap = w.heap → (Builtin.firstCells (shn sh) xs.length (.slice a len cap)).run P w' = .ok olds.toArray w' := by
  obtain ⟨a', cap', he, hl, hm, hf, hs, h1, hh⟩ := h.sl_inv
  cases he
  rcases hh with ⟨rfl, rfl⟩ | ⟨b, off, us, rfl, hc, hr⟩
  · refine ⟨[], by simp, by simp [V.flat], fun w' _ => ?_⟩
    cases a with
    | none => simp [Builtin.firstCells]
    | some a => exact run_firstCells_some (P := P) w' (shn sh) 0 a 0 0 [] (by simp) fun j v hj => by simp at hj
  · refine ⟨(List.range (xs.length * shn sh)).map us, by simp, fun i c u hi hu => ?_, fun w' hw => ?_⟩
    · simp only [List.getElem?_map] at hu
      have hlt : i < xs.length * shn sh := by rw [← V.flat_length hs]; exact (List.getElem?_eq_some_iff.1 hi).1
      rw [List.getElem?_range hlt] at hu
      cases hu
      exact hr i c hi
    · have := run_firstCells_some (P := P) w' (shn sh) xs.length ⟨b, off, none⟩ xs.length cap ((List.range (xs.length * shn sh)).map us) (by simp) fun j v hj => by
        simp only [List.getElem?_map] at hj
        rcases Nat.lt_or_ge j (xs.length * shn sh) with hlt | hge
        · rw [List.getElem?_range hlt] at hj
          cases hj
          rw [Addr.add_lit, cell?_of_heap (w := w) (by rw [hw])]
          exact (hc j hlt).1
        · simp [hge] at hj
      simpa using this

/-- A slice that lies at the head of a block: its reading. -/
theorem RepV.at_head {w : World} {F : Nat → Nat → Prop} (sh : Sh) {xs : List V} {B cap : Nat} {arr : Array Value} {ty : TypeId} {fr : Nat × Nat} {cs : List Value} (hB : w.heap[B]? = some (.cells arr ty fr))
    (hlen : cs.length = xs.length * shn sh) (harr : ∀ (i : Nat) u, cs[i]? = some u → arr[i]? = some u) (hF : ∀ i, i < xs.length * shn sh → F B i)
    (hs : ∀ x ∈ xs, x.shape = sh) (h1 : ∀ c ∈ V.flat xs, c.one = true) (hl : xs.length ≤ cap) (hm : cap ≤ maxLen) {full : Bool} (hf : full = true → cap = xs.length)
    (hr : ∀ (i : Nat) c u, (V.flat xs)[i]? = some c → cs[i]? = some u → RepV w F c u) : RepV w F (.sl sh full xs) (.slice (some ⟨B, 0, none⟩) xs.length cap) := by
  refine .sl sh full xs B 0 cap (fun i => cs.getD i undef) hs h1 hl hm hf (fun i hi => ⟨?_, by simpa using hF i hi⟩) fun i c hi => ?_
  · have hi' : i < cs.length := by omega
    rw [Nat.zero_add, cell_of_row w B i arr ty fr hB, harr i cs[i] (List.getElem?_eq_getElem hi')]
    simp [List.getD, hi']
  · have hlt : i < cs.length := by rw [hlen, ← V.flat_length hs]; exact (List.getElem?_eq_some_iff.1 hi).1
    refine hr i c _ hi ?_
    simp [List.getD, hlt]

theorem append_ok {P : Program} {σ : Sg} {m : Gh} {w : World} (h : Inv σ m w) (t u ty e : TypeId) (d : TypeDesc) (i : TypeInfo) (z : Value) (sh : Sh)
    (ht : P.underlying t = some (.slice e)) (hu : P.underlying u = some d) (hd : Runs d) (hi : P.info? e = some i) (hz : i.zero = some z) (hsz : i.size = shn sh) (hzs : z.cells.size = shn sh)
    {k : Nat} {xs ys : List V} {s x : Value} (r : RepD m w (.tsl k sh xs) s) (hσ : σ.toks[k]? = some xs.length)
    {news : List Value} (src : Src P w i.size x ys.length news) (hys : ∀ y ∈ ys, y.shape = sh) (hy1 : ∀ c ∈ V.flat ys, c.one = true)
    (hnew : ∀ (j : Nat) c v, (V.flat ys)[j]? = some c → news[j]? = some v → RepV w (Fz m w) c v)
    (hm63 : xs.length + ys.length ≤ maxLen) (hbytes : (xs.length + ys.length) * i.bytes ≤ 140737488355328) :
    ∃ s' m' w', (Builtin.append_ #[t, u] ty #[s, x]).run P w = .ok s' w' ∧ Inv (σ.tput k (xs.length + ys.length)) m' w' ∧ Ext m w m' w' ∧ RepD m' w' (.tsl k sh (xs ++ ys)) s' := by
  cases r with
  | tsl _ _ _ a len cap tk hv htk hsh hle heq =>
  obtain ⟨tk2, htk2, hhw⟩ := h.tok_at hσ
  rw [htk] at htk2
  cases htk2
  obtain ⟨hcap, hown⟩ := heq hhw.symm
  obtain ⟨a', cap', he, hl, hm, hf, hs, h1, hh⟩ := hv.sl_inv
  cases he
  have hmem := List.mem_of_getElem? htk
  obtain ⟨q1, q2, q3, q4⟩ := h.tk tk hmem
  have hlen : (V.flat (xs ++ ys)).length = (xs ++ ys).length * shn sh := V.flat_length (by
    intro x hx
    rcases List.mem_append.1 hx with hx | hx
    · exact hs x hx
    · exact hys x hx)
  have hsA : ∀ x ∈ xs ++ ys, x.shape = sh := by
    intro x hx
    rcases List.mem_append.1 hx with hx | hx
    · exact hs x hx
    · exact hys x hx
  have h1A : ∀ c ∈ V.flat (xs ++ ys), c.one = true := by
    intro c hc
    rw [V.flat_append] at hc
    rcases List.mem_append.1 hc with hx | hx
    · exact h1 c hx
    · exact hy1 c hx
  have hnl : news.length = ys.length * shn sh := by rw [src.lenEq, hsz]
  obtain ⟨olds, hol, hor, horun⟩ := hv.olds (P := P)
  have hnone : ∀ u ∈ news, u.oneCell' = true := RepV.cells_one hy1 (by rw [hnl, V.flat_length hys]) hnew
  by_cases hroom : xs.length + ys.length ≤ cap
  · -- in place
    by_cases hy0 : ys = []
    · subst hy0
      have hn0 : news = [] := List.eq_nil_of_length_eq_zero (by simpa using hnl)
      subst hn0
      have hrun := run_append_none (P := P) (w := w) t u ty e d i ht hu hd hi a xs.length cap x src (by simpa using hroom)
      refine ⟨_, m, w, hrun, ?_, .refl m w, ?_⟩
      · have hσ' : σ.tput k (xs.length + ([] : List V).length) = σ := by
          simp only [Sg.tput, List.length_nil, Nat.add_zero]
          have : σ.toks.set k xs.length = σ.toks := by
            apply List.ext_getElem?
            intro j
            rw [List.getElem?_set]
            split
            · rename_i hkj; subst hkj; split
              · exact hσ.symm
              · rename_i hh; simp [List.getElem?_eq_none (Nat.le_of_not_lt hh)] at hσ
            · rfl
          rw [this]
        rw [hσ']
        exact h
      · rw [List.append_nil]
        exact .tsl k sh xs a _ cap tk hv htk hsh hle heq
    · have hpos : 0 < ys.length := by cases ys with | nil => exact (hy0 rfl).elim | cons => simp
      cases ho : tk.own with
      | none => have := q3 ho; omega
      | some b =>
        have ha := hown b ho
        subst ha
        obtain ⟨cur, tyb, hb, hfit⟩ := q4 b ho
        rw [hsh, ← hcap] at hfit
        have hfit' : xs.length * i.size + news.length ≤ cur.size := by
          rw [hnl, hsz, ← Nat.add_mul]
          exact Nat.le_trans (Nat.mul_le_mul_right _ hroom) hfit
        have hrun := run_append_room' (P := P) (w := w) t u ty e d i ht hu hd hi b xs.length cap cur tyb hb x ys.length news src hnone hroom hfit'
        rw [hsz] at hrun hfit'
        have hb' := setRow_heap w b cur (cur.toList.take (xs.length * shn sh) ++ news ++ cur.toList.drop (xs.length * shn sh + news.length)).toArray tyb (0, 0) hb
        have hpre : ∀ j, j < xs.length * shn sh → (cur.toList.take (xs.length * shn sh) ++ news ++ cur.toList.drop (xs.length * shn sh + news.length))[j]? = cur[j]? := by
          intro j hj
          rw [List.append_assoc, List.getElem?_append_left (by simp; omega), List.getElem?_take_of_lt hj]
          simp
        have hmid : ∀ j, j < news.length → (cur.toList.take (xs.length * shn sh) ++ news ++ cur.toList.drop (xs.length * shn sh + news.length))[xs.length * shn sh + j]? = news[j]? := by
          intro j hj
          have hlt : (cur.toList.take (xs.length * shn sh)).length = xs.length * shn sh := by simp; omega
          rw [List.append_assoc, List.getElem?_append_right (by omega), List.getElem?_append_left (by omega)]
          congr 1
          omega
        have hcell : ∀ off, (w.setRow b (cur.toList.take (xs.length * shn sh) ++ news ++ cur.toList.drop (xs.length * shn sh + news.length)).toArray).cell? ⟨b, off, none⟩ = (cur.toList.take (xs.length * shn sh) ++ news ++ cur.toList.drop (xs.length * shn sh + news.length))[off]? := by
          intro off
          rw [cell_of_row _ b off _ tyb (0, 0) hb']
          simp
        obtain ⟨hI, hE⟩ := tput_ok (w' := w.setRow b (cur.toList.take (xs.length * shn sh) ++ news ++ cur.toList.drop (xs.length * shn sh + news.length)).toArray) h htk (tk' := ⟨some b, sh, cap, xs.length + ys.length⟩) hsh.symm (by show tk.hw ≤ xs.length + ys.length; omega) (fun e => by
            have e' : tk.hw = xs.length + ys.length := e
            omega) rfl rfl rfl (by simp [World.setRow])
          (fun c hc hn => setRow_other w b c _ (fun e => hn (by rw [ho, e])))
          (fun c hc off hoff => by
            rw [ho] at hc
            cases hc
            rw [hsh, hhw] at hoff
            rw [hcell, hpre off hoff, cell_of_row w b off cur tyb (0, 0) hb])
          (fun c hc => .inl (ho.trans hc))
          ⟨hroom, hm, fun hx => (by cases hx), fun c hc => by
            cases hc
            refine ⟨_, tyb, hb', ?_⟩
            show cap * shn sh ≤ _
            simp only [List.size_toArray, List.length_append, List.length_take, List.length_drop, Array.length_toList]
            omega⟩
        refine ⟨_, _, _, hrun, hI, hE, ?_⟩
        have hk' : (m.tput k ⟨some b, sh, cap, xs.length + ys.length⟩).toks[k]? = some ⟨some b, sh, cap, xs.length + ys.length⟩ := by
          have hlt := (List.getElem?_eq_some_iff.1 htk).1
          simp [Gh.tput, hlt]
        have hcsl : (olds ++ news).length = (xs ++ ys).length * shn sh := by rw [List.length_append, List.length_append, hol, hnl, Nat.add_mul]
        have holdcell : ∀ (j : Nat) (v : Value), olds[j]? = some v → cur[j]? = some v := by
          intro j v hj
          have hjl : j < xs.length * shn sh := by rw [← hol]; exact (List.getElem?_eq_some_iff.1 hj).1
          rcases hh with ⟨h0, _⟩ | ⟨b', off', us, h0, hc, hr⟩
          · rw [h0] at hjl; simp at hjl
          · cases h0
            have hfc := run_firstCells_some (P := P) w (shn sh) xs.length ⟨b, 0, none⟩ xs.length cap ((List.range (xs.length * shn sh)).map us) (by simp) fun j v hj => by
              simp only [List.getElem?_map] at hj
              rcases Nat.lt_or_ge j (xs.length * shn sh) with hlt | hge
              · rw [List.getElem?_range hlt] at hj
                cases hj
                rw [Addr.add_lit]
                exact (hc j hlt).1
              · simp [hge] at hj
            rw [horun w rfl] at hfc
            have hol2 : olds = (List.range (xs.length * shn sh)).map us := by
              have := congrArg (fun r => match r with | Result.ok (v : Array Value) _ => v.toList | _ => []) hfc
              simpa using this
            rw [hol2, List.getElem?_map, List.getElem?_range hjl] at hj
            cases hj
            have := (hc j hjl).1
            rw [Nat.zero_add, cell_of_row w b j cur tyb (0, 0) hb] at this
            exact this
        have hrep := RepV.at_head (F := Fz (m.tput k ⟨some b, sh, cap, xs.length + ys.length⟩) (w.setRow b (cur.toList.take (xs.length * shn sh) ++ news ++ cur.toList.drop (xs.length * shn sh + news.length)).toArray)) (full := false) sh (xs := xs ++ ys) (cap := cap) (cs := olds ++ news) hb' hcsl
          (fun j v hj => by
            rw [List.getElem?_toArray]
            rcases Nat.lt_or_ge j olds.length with hlt | hge
            · rw [List.getElem?_append_left hlt] at hj
              rw [hpre j (by omega)]
              exact holdcell j v hj
            · rw [List.getElem?_append_right hge] at hj
              have hjn := (List.getElem?_eq_some_iff.1 hj).1
              have := hmid (j - olds.length) hjn
              rw [show xs.length * shn sh + (j - olds.length) = j by omega] at this
              rw [this]
              exact hj)
          (fun j hj => ⟨by rw [show (w.setRow b (cur.toList.take (xs.length * shn sh) ++ news ++ cur.toList.drop (xs.length * shn sh + news.length)).toArray).heap.size = w.heap.size by simp [World.setRow]]; exact h.lt_own (Gh.mem_ownb.2 ⟨tk, hmem, ho⟩), fun hx => by
            rcases Gh.tput_mut hx with hx1 | ⟨i2, x2, hne, hi2, hx1, hx2⟩ | ⟨hx1, hx2⟩
            · exact Gh.own_not_obj h.nodup hmem ho hx1
            · exact hne (Gh.own_inj h.nodup hi2 htk hx1 ho)
            · have hx3 : (xs.length + ys.length) * shn sh ≤ j := hx2
              rw [List.length_append] at hj
              omega⟩)
          hsA h1A (by rw [List.length_append]; exact hroom) hm (by simp)
          (fun j c v hj hv' => by
            rw [V.flat_append] at hj
            rcases Nat.lt_or_ge j olds.length with hlt | hge
            · rw [List.getElem?_append_left hlt] at hv'
              rw [List.getElem?_append_left (by rw [V.flat_length hs, ← hol]; exact hlt)] at hj
              exact (hor j c v hj hv').mono hE.fz
            · rw [List.getElem?_append_right hge] at hv'
              rw [List.getElem?_append_right (by rw [V.flat_length hs, ← hol]; exact hge)] at hj
              rw [V.flat_length hs, ← hol] at hj
              exact (hnew _ c v hj hv').mono hE.fz)
        rw [List.length_append] at hrep
        exact .tsl k sh (xs ++ ys) _ _ cap _ hrep hk' rfl (by rw [List.length_append]; exact Nat.le_refl _) fun _ => ⟨rfl, fun c hc => by cases hc; rfl⟩
  · -- a new block
    have hg : cap < xs.length + ys.length := by omega
    have hrun := run_append_grow' (P := P) (w := w) t u ty e d i z ht hu hd hi hz a xs.length cap olds (by rw [hsz]; exact horun w.drew rfl) x ys.length news src hg
      (by simp only [maxLen] at hm63; omega) (growslice_fits hg hbytes)
    have hge := grownCap_ge w (xs.length + ys.length) cap e
    have hcm : grownCap w (xs.length + ys.length) cap e ≤ maxLen := grownCap_le_maxLen w (xs.length + ys.length) cap e hm63
    generalize hC : grownCap w (xs.length + ys.length) cap e = C at hrun hge hcm
    generalize hA : olds.toArray ++ news.toArray ++ Builtin.zeroCells z.cells (C - (xs.length + ys.length)) = arr at hrun
    have hnewb : (w.drew.alloc (.cells arr e)).heap[w.heap.size]? = some (.cells arr e (0, 0)) := heap_alloc_new w.drew _
    have hasz : C * shn sh ≤ arr.size := by
      rw [← hA]
      simp only [Array.size_append, List.size_toArray, size_zeroCells, hol, hnl, hzs, ← Nat.add_mul]
      exact Nat.mul_le_mul_right _ (by omega)
    have hslt : w.heap.size < (w.drew.alloc (.cells arr e)).heap.size := (Array.getElem?_eq_some_iff.1 hnewb).1
    obtain ⟨hI, hE⟩ := tput_ok (w' := w.drew.alloc (.cells arr e)) h htk (tk' := ⟨some w.heap.size, sh, C, xs.length + ys.length⟩) hsh.symm (by show tk.hw ≤ xs.length + ys.length; omega)
      (fun e => by
        have e' : tk.hw = xs.length + ys.length := e
        omega) rfl rfl rfl (by omega)
      (fun c hc _ => heap_alloc_lt w.drew _ hc)
      (fun c hc off hoff => cell?_of_heap (heap_alloc_lt w.drew _ (h.lt_own (Gh.mem_ownb.2 ⟨tk, hmem, hc⟩))))
      (fun c hc => .inr (by cases hc; exact Nat.le_refl _))
      ⟨hge, hcm, fun hx => (by cases hx), fun c hc => by
        cases hc
        exact ⟨arr, e, hnewb, hasz⟩⟩
    refine ⟨_, _, _, hrun, hI, hE, ?_⟩
    have hk' : (m.tput k ⟨some w.heap.size, sh, C, xs.length + ys.length⟩).toks[k]? = some ⟨some w.heap.size, sh, C, xs.length + ys.length⟩ := by
      have hlt := (List.getElem?_eq_some_iff.1 htk).1
      simp [Gh.tput, hlt]
    have hcsl : (olds ++ news).length = (xs ++ ys).length * shn sh := by rw [List.length_append, List.length_append, hol, hnl, Nat.add_mul]
    have hrep := RepV.at_head (F := Fz (m.tput k ⟨some w.heap.size, sh, C, xs.length + ys.length⟩) (w.drew.alloc (.cells arr e))) (full := false) sh (xs := xs ++ ys) (cap := C) (cs := olds ++ news) hnewb hcsl
      (fun j v hj => by
        rw [← hA]
        have hjl := (List.getElem?_eq_some_iff.1 hj).1
        rw [← Array.getElem?_toList]
        simp only [Array.toList_append]
        rw [List.getElem?_append_left (by simpa using hjl)]
        exact hj)
      (fun j hj => ⟨hslt, fun hx => by
        rcases Gh.tput_mut hx with hx1 | ⟨i2, x2, hne, hi2, hx1, hx2⟩ | ⟨hx1, hx2⟩
        · have := h.lt_obj hx1; omega
        · have := h.lt_own (Gh.mem_ownb.2 ⟨x2, List.mem_of_getElem? hi2, hx1⟩); omega
        · have hx3 : (xs.length + ys.length) * shn sh ≤ j := hx2
          rw [List.length_append] at hj
          omega⟩)
      hsA h1A (by rw [List.length_append]; exact hge) hcm (by simp)
      (fun j c v hj hv' => by
        rw [V.flat_append] at hj
        rcases Nat.lt_or_ge j olds.length with hlt | hge
        · rw [List.getElem?_append_left hlt] at hv'
          rw [List.getElem?_append_left (by rw [V.flat_length hs, ← hol]; exact hlt)] at hj
          exact (hor j c v hj hv').mono hE.fz
        · rw [List.getElem?_append_right hge] at hv'
          rw [List.getElem?_append_right (by rw [V.flat_length hs, ← hol]; exact hge)] at hj
          rw [V.flat_length hs, ← hol] at hj
          exact (hnew _ c v hj hv').mono hE.fz)
    rw [List.length_append] at hrep
    exact .tsl k sh (xs ++ ys) _ _ C _ hrep hk' rfl (by rw [List.length_append]; exact Nat.le_refl _) fun _ => ⟨rfl, fun c hc => by cases hc; rfl⟩

end Go.Abs
