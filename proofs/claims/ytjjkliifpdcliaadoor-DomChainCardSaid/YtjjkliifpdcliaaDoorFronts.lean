/- dom.Tree's frontiers: the walk. -/
import Derived.Test.YtjjkliifpdcliaaDoorDomA
import Derived.Test.YtjjkliifpdcliaaDoorListA
import Derived.Deep.RegionHeld3
namespace Go.Proofs.YtjjkliifpdcliaaDoor
open Go.RowKit

/-- p is where i stops standing above. -/
def DFp (c : List (List Nat)) (f : Nat → Nat) (i p : Nat) : Prop := Rd c p ∧ ∃ q, Rd c q ∧ Ed c q p ∧ Anc f i q ∧ ¬ (p ≠ 0 ∧ Anc f i (f p))
open Classical in
noncomputable def fronL (c : List (List Nat)) (f : Nat → Nat) (i : Nat) : List Nat := (List.range c.length).filter fun p => decide (DFp c f i p)

theorem Tryd.infoSet : (Tryd.prog.info? 72).map (fun i => (i.zero, i.size, i.bytes)) = some (some (.pointer none), 1, 8) := by kernel_rfl
/-- Addresses of sets, laid one by one. -/
def ptM (n wb k : Nat) : Array Value := ((List.range n).map fun b => if b < k then Value.pointer (some ⟨wb + 2 * b + 1, 0, none⟩) else Value.pointer none).toArray
theorem ptM_zero (n wb : Nat) : ptM n wb 0 = (List.replicate n (Value.pointer none)).toArray := by
  unfold ptM
  congr 1
  apply List.ext_getElem
  · simp
  · intro i h1 h2; simp
theorem ptM_step (n wb k : Nat) (_h : k < n) : (ptM n wb k).setIfInBounds k (.pointer (some ⟨wb + 2 * k + 1, 0, none⟩)) = ptM n wb (k + 1) := by
  unfold ptM
  rw [List.setIfInBounds_toArray]
  congr 1
  apply List.ext_getElem
  · simp
  · intro i h1 h2
    simp only [List.getElem_set, List.getElem_map, List.getElem_range]
    by_cases e : k = i
    · subst e; simp
    · rw [if_neg e]
      by_cases e2 : i < k
      · rw [if_pos e2, if_pos (by omega)]
      · rw [if_neg e2, if_neg (by omega)]
theorem ptM_get (n wb k i : Nat) (h : i < n) : (ptM n wb k)[i]? = some (if i < k then Value.pointer (some ⟨wb + 2 * i + 1, 0, none⟩) else Value.pointer none) := by
  simp [ptM, h]
theorem make_sets (w : World) (m : Nat) (h : m ≤ 1000000) : (Instr.makeSlice 71 (.int .i64 (m : Int)) (.int .i64 (m : Int))).run Tryd.prog w = .ok (.slice (some ⟨w.heap.size, 0, none⟩) m m) (w.alloc (.cells (List.replicate m (Value.pointer none)).toArray 72)) := by
  obtain ⟨i0, hi, hz0, hz1, hz2⟩ := info_parts Tryd.infoSet
  have hmk := run_make (P := Tryd.prog) w 71 72 i0 (.pointer none) Tryd.underlying71 hi hz0 .i64 .i64 (m : Int) (m : Int) (by omega) (by omega) (by rw [hz2]; omega) (by omega)
  rw [hz1, Nat.mul_one] at hmk
  have e : madeCells (Value.pointer none).cells m = (List.replicate m (Value.pointer none)).toArray := by
    unfold madeCells
    apply Array.ext_getElem?
    intro i
    by_cases h : i < m
    · simp [h, Value.cells, Nat.mod_one]
    · simp [h]
  simpa [e] using hmk

/-- The sets, one for each place. -/
structure SetsOk (w : World) (hb wb n : Nat) (W : Nat → List Nat) : Prop where
  hd : w.heap[hb]? = some (.cells (ptM n wb n) 72)
  set : ∀ i, i < n → SetAt w (wb + 2 * i + 1) (wb + 2 * i) n (W i)
  lt : hb < wb
theorem SetsOk.upd {w w' : World} {hb wb n : Nat} {W : Nat → List Nat} {S : List Nat} (h : SetsOk w hb wb n W) (hu : Upd S w w') (hS : ∀ k ∈ S, k < hb ∨ wb + 2 * n ≤ k) : SetsOk w' hb wb n W :=
  ⟨hu.heap h.hd (fun hm => by have := hS _ hm; have := h.lt; omega), fun i hi => (h.set i hi).upd hu (fun hm => by have := hS _ hm; have := h.lt; omega) (fun hm => by have := hS _ hm; have := h.lt; omega), h.lt⟩
theorem SetsOk.head {w : World} {hb wb n : Nat} {W : Nat → List Nat} (h : SetsOk w hb wb n W) (i : Nat) (hi : i < n) : w.cell? ⟨hb, i, none⟩ = some (.pointer (some ⟨wb + 2 * i + 1, 0, none⟩)) := by
  rw [cell_of h.hd, ptM_get _ _ _ _ hi, if_pos hi]
/-- One set is another. -/
theorem SetsOk.add {w w' : World} {hb wb n : Nat} {W : Nat → List Nat} (h : SetsOk w hb wb n W) (z : Nat) (_hz : z < n) {ws : List Nat} (hs : SetAt w' (wb + 2 * z + 1) (wb + 2 * z) n ws) (hu : Upd [wb + 2 * z] w w') : SetsOk w' hb wb n (fun i => if i = z then ws else W i) := by
  refine ⟨hu.heap h.hd (by simp; have := h.lt; omega), fun i hi => ?_, h.lt⟩
  by_cases e : i = z
  · subst e; rw [if_pos rfl]; exact hs
  · rw [if_neg e]; exact (h.set i hi).upd hu (by simp; omega) (by simp; omega)

/-- How far up a place stands; nothing: none. -/
def upM (c : List (List Nat)) (v : Value) : Nat := match v with
  | .int _ (.ofNat z) => posn c z + 1
  | _ => 0

/-- The frontiers in memory. -/
def FrOk (w : World) (B : Nat) (c : List (List Nat)) (f : Nat → Nat) (fr : Value) : Prop := ∃ fb vals, fr = .slice (some ⟨fb, 0, none⟩) c.length c.length ∧ w.heap[fb]? = some (.cells (List.toArray vals) 27) ∧ vals.length = c.length ∧ B ≤ fb ∧ ∀ i, i < c.length → OwnI w B 3 (vals.getD i undef) (ints (fronL c f i))

open Classical in
theorem mem_fronL (c : List (List Nat)) (f : Nat → Nat) (i p : Nat) : p ∈ fronL c f i ↔ p < c.length ∧ DFp c f i p := by
  unfold fronL
  rw [List.mem_filter, List.mem_range, decide_eq_true_eq]

/-- The tree where its own block alone has turned. -/
theorem TreeG.move {w w' : World} {B tb : Nat} {c : List (List Nat)} {f : Nat → Nat} {va vb vc fr va' vb' vc' fr' : Value} (h : TreeG w B tb c f va vb vc fr) (hu : Upd [tb] w w')
    (hb : ∀ s0 s1 s2 s3 : Value, w.heap[tb]? = some (.cells #[s0, s1, s2, s3, va, vb, vc, fr] 58) → w'.heap[tb]? = some (.cells #[s0, s1, s2, s3, va', vb', vc', fr'] 58)) : TreeG w' B tb c f va' vb' vc' fr' := by
  obtain ⟨gb, ib, db, kb, G1, B1, G2, B2, vs, ks, ids, h1, h2, h3, h4, h5, h6, h7, h8, l1, l2, l3, l4, l5⟩ := h
  have n1 : ib ≠ tb := by rintro rfl; rw [h1] at h6; simp at h6
  have n2 : db ≠ tb := by rintro rfl; rw [h1] at h7; simp at h7
  have n3 : gb ≠ tb := by rintro rfl; have := h5.blk; rw [h1] at this; simp at this
  have n4 : kb ≠ tb := by rintro rfl; have := h8.blk; rw [h1] at this; simp at this
  have n5 : ∀ i, i < (intsL (predsL c)).length → ∀ q, (vs.getD i undef).ownBlock = some q → q ∉ [tb] := fun i hi q hq hm => by
    simp at hm
    subst hm
    exact own_heap_ne (h5.own i hi) h1 (by decide) hq
  have n6 : ∀ i, i < (intsL (kidsF c f)).length → ∀ q, (ks.getD i undef).ownBlock = some q → q ∉ [tb] := fun i hi q hq hm => by
    simp at hm
    subst hm
    exact own_heap_ne (h8.own i hi) h1 (by decide) hq
  exact ⟨gb, ib, db, kb, G1, B1, G2, B2, vs, ks, ids, hb _ _ _ _ h1, h2, h3, h4, h5.upd hu (by simpa using n3) n5, hu.heap h6 (by simpa using n1), hu.heap h7 (by simpa using n2), h8.upd hu (by simpa using n4) n6, l1, l2, l3, l4, l5⟩

set_option maxRecDepth 100000 in
set_option maxHeartbeats 4000000 in
theorem frontiers_any (c : List (List Nat)) (hc : Clean c) (hn : c.length ≤ 1000) (B tb : Nat) (f : Nat → Nat) (va vb vc fr : Value) (w : World) (h : TreeG w B tb c f va vb vc fr) (hT : TzAt w) :
    Calls Tryd.prog 30 #[.pointer (some ⟨tb, 0, none⟩)] w fun e w' => e = .returned (.tuple #[]) ∧ ∃ fr', TreeG w' B tb c f va vb vc fr' ∧ FrOk w' w.heap.size c f fr' ∧ Upd [tb] w w' := by
  have HTG : Hid (∀ W, Upd [] w W → TreeG W B tb c f va vb vc fr) := fun W hW => h.low hW (by simp)
  have HTH : Hid (∀ W (i : Int), Upd [] w W → (-9223372036854775808 ≤ i ∧ i ≤ 9223372036854775807) → Calls Tryd.prog 28 #[.pointer (some ⟨tb, 0, none⟩), .int .i64 i] W fun e w' => e = .returned (.bool (decide (thereP c i))) ∧ w' = W) := fun W i hW hi => there_any c hc hn B tb f va vb vc fr i hi W (h.low hW (by simp))
  have h' := h
  obtain ⟨gb, ib, db, kb, G1, B1, G2, B2, vs, ks, ids, h1, h2, h3, h4, h5, h6, h7, h8, l1, l2, l3, l4, l5⟩ := h'
  have ht1 : w.cell? ⟨tb, 1, none⟩ = some (.slice (some ⟨ib, 0, none⟩) c.length c.length) := by rw [cell_of h1]; rfl
  have ht0 : w.cell? ⟨tb, 0, none⟩ = some (.slice (some ⟨gb, 0, none⟩) c.length c.length) := by rw [cell_of h1]; rfl
  have HH := Lib.hid h
  have H1 := Lib.hid h1
  have HC := Lib.hid hc
  have H2 := Lib.hid h2
  have H3 := Lib.hid h3
  have H4 := Lib.hid h4
  have H5 := Lib.hid h5
  have H6 := Lib.hid h6
  have HT1 := Lib.hid ht1
  have HT0 := Lib.hid ht0
  have HTZ := Lib.hid hT
  have htbl := lt_of_heap h1
  clear h h1 h2 h3 h4 h5 h6 h7 h8 l1 l2 l3 l4 l5 hc hT ht0
  have hmk := fun W => make_sets W c.length (by omega)
  have HH0 := Lib.hid (heap_alloc_new w (.cells (List.replicate c.length (Value.pointer none)).toArray 72))
  have HU0 := Lib.hid ((Upd.refl [] w).alloc (.cells (List.replicate c.length (Value.pointer none)).toArray 72))
  have HS0 := Lib.hid (World.size_alloc w (.cells (List.replicate c.length (Value.pointer none)).toArray 72))
  rw [List.toArray_replicate] at HH0 HU0 HS0 hmk
  go_enter Tryd.func30, Tryd.ntmps30
  go_wp2_with fail
  generalize w.alloc (.cells (Array.replicate c.length (Value.pointer none)) 72) = w1 at HH0 HU0 HS0 ⊢
  clear hmk ht1
  go_loopw [18] (fun iv wr => ∃ i : Nat, i ≤ c.length ∧ iv = .int .i64 (i : Int) ∧ Hid (wr.heap[w.heap.size]? = some (.cells (ptM c.length (w.heap.size + 1) i) 72)) ∧ Hid (wr.heap.size = w.heap.size + 1 + 2 * i) ∧ Hid (∀ j, j < i → SetAt wr (w.heap.size + 1 + 2 * j + 1) (w.heap.size + 1 + 2 * j) c.length (List.replicate ((c.length + 63) / 64) 0)) ∧ Hid (Upd [] w wr)) (fun iv _ => c.length - (intOf iv).toNat)
  case atStart =>
    refine ⟨0, by omega, rfl, ?_, HS0.out, fun j hj => absurd hj (by omega), HU0.out⟩
    rw [ptM_zero, List.toArray_replicate]; exact HH0.out
  case round =>
    obtain ⟨i, hi, rfl, HHd, HZ, HST, HU⟩ := hrel
    obtain ⟨wo, rfl⟩ : ∃ wo : World, wo = wr := ⟨_, rfl⟩
    by_cases hlt : i < c.length
    · have ht1 := HU.out.cell HT1.out (by simp)
      have HNEW := Lib.hid (bnew c.length wo (by omega))
      go_wp2_with fail
      refine HNEW.out.mono ?_
      rintro e w5 ⟨rfl, hset, hu5, hz5⟩
      rw [HZ.out] at hset hz5 ⊢
      have hH5 := hu5.heap HHd.out (by simp)
      have hcg := cell_of hH5 i
      rw [ptM_get _ _ _ _ hlt, if_neg (by omega)] at hcg
      have hfg := froz_of hH5 i
      have hst := heap_setCell hH5 i (.pointer (some ⟨w.heap.size + 1 + 2 * i + 1, 0, none⟩))
      rw [ptM_step _ _ _ hlt] at hst
      have hs := (Upd.refl [w.heap.size] w5).setCell (p := ⟨w.heap.size, i, none⟩) (.inl (by simp)) (.pointer (some ⟨w.heap.size + 1 + 2 * i + 1, 0, none⟩))
      have hnext : ∀ j, j < i + 1 → SetAt (w5.setCell ⟨w.heap.size, i, none⟩ (.pointer (some ⟨w.heap.size + 1 + 2 * i + 1, 0, none⟩))) (w.heap.size + 1 + 2 * j + 1) (w.heap.size + 1 + 2 * j) c.length (List.replicate ((c.length + 63) / 64) 0) := fun j hj => by
        by_cases e : j = i
        · subst e; exact hset.upd hs (by simp; omega) (by simp; omega)
        · exact ((HST.out j (by omega)).upd hu5 (by simp) (by simp)).upd hs (by simp; omega) (by simp; omega)
      have HSTN := Lib.hid hst
      have HNX := Lib.hid hnext
      have HUN := Lib.hid ((HU.out.trans hu5).setCell (p := ⟨w.heap.size, i, none⟩) (.inr (Nat.le_refl _)) (.pointer (some ⟨w.heap.size + 1 + 2 * i + 1, 0, none⟩)))
      have HZN : Hid ((w5.setCell ⟨w.heap.size, i, none⟩ (.pointer (some ⟨w.heap.size + 1 + 2 * i + 1, 0, none⟩))).heap.size = w.heap.size + 1 + 2 * (i + 1)) := by
        show _ = _
        have : (w5.setCell ⟨w.heap.size, i, none⟩ (.pointer (some ⟨w.heap.size + 1 + 2 * i + 1, 0, none⟩))).heap.size = w5.heap.size := by simp [World.setCell]
        omega
      clear hset hu5 hz5 hH5 hst hs hnext
      go_wp2_with fail
      go_roundw
      case rel => exact ⟨i + 1, by omega, by go_num, HSTN.out, HZN.out, HNX.out, HUN.out⟩
      case measure => simp [intOf]; omega
    · obtain rfl : i = c.length := by omega
      have HSO : Hid (SetsOk wo w.heap.size (w.heap.size + 1) c.length (fun _ => List.replicate ((c.length + 63) / 64) 0)) := ⟨HHd.out, HST.out, by omega⟩
      have hszo := HZ.out
      have ht1 := HU.out.cell HT1.out (by simp)
      have HSZO := Lib.hid hszo
      clear hszo HHd HST HZ HH0 HU0 HS0
      go_wp2_with fail
      have hz0 : ∀ p, bhas (List.replicate ((c.length + 63) / 64) 0) p = false := bhas_zero _
      have HZ0 := Lib.hid hz0
      clear hz0 ht1
      go_loopw [36] (fun yv wr => ∃ (y : Nat) (W : Nat → List Nat), y ≤ c.length ∧ yv = .int .i64 (y : Int) ∧ Hid (SetsOk wr w.heap.size (w.heap.size + 1) c.length W) ∧ Hid (∀ i, i < c.length → ∀ p, bhas (W i) p = true ↔ (p < y ∧ DFp c f i p)) ∧ Hid (Upd [] w wr) ∧ Hid (w.heap.size + 1 + 2 * c.length ≤ wr.heap.size)) (fun yv _ => c.length - (intOf yv).toNat)
      case atStart => exact ⟨0, _, by omega, rfl, HSO.out, (fun i _ p => by rw [HZ0.out]; simp : ∀ i, _), HU.out, Nat.le_of_eq HSZO.out.symm⟩
      case round =>
        clear HU HSO HSZO
        obtain ⟨y, W, hy, rfl, HS, HB, HU, HZ⟩ := hrel
        obtain ⟨wo, rfl⟩ : ∃ wo : World, wo = wr := ⟨_, rfl⟩
        by_cases hyn : y < c.length
        · have hne : c ≠ [] := by rintro rfl; simp at hyn
          obtain ⟨par, hg⟩ := dfs_dg HC.out hne
          have HG := Lib.hid hg
          have HEX := Lib.hid (H2.out hne)
          have HTY := Lib.hid (HTH.out wo (y : Int) HU.out (by omega))
          have hyt : thereP c (y : Int) ↔ Rd c y := by
            unfold thereP
            rw [Int.toNat_natCast]
            exact ⟨fun h => h.2, fun h => ⟨by omega, h⟩⟩
          clear hg hne
          by_cases hyr : Rd c y
          · rw [decide_eq_true (hyt.2 hyr)] at HTY
            have HYR := Lib.hid hyr
            clear hyt hyr
            go_wp2_with fail
            refine HTY.out.mono ?_
            rintro e w' ⟨rfl, rfl⟩
            have hpc := HU.out.cell HT0.out (by simp)
            have hil : y < (intsL (predsL c)).length := by rw [intsL_len, predsL_len]; exact hyn
            have hrow := HU.out.cell (H5.out.cell y hil) (by simp)
            have hown := H5.out.own y hil
            obtain ⟨rp, rc, hrv⟩ := hown.shape
            rw [hrv] at hrow hown
            rw [intsL_get] at hrow hown
            rw [ints_len] at hrow
            have hpb : ((predsL c).getD y []).length ≤ c.length := predsL_bd c _ (by
              rw [List.getD_eq_getElem?_getD, List.getElem?_eq_getElem (by rw [predsL_len]; exact hyn)]
              exact List.getElem_mem _)
            have hpm : ∀ q, q ∈ (predsL c).getD y [] ↔ q < c.length ∧ Ed c q y := fun q => by
              rw [predsL_get c y hyn]
              simp only [List.mem_filter, List.mem_range, decide_eq_true_eq]
              exact Iff.rfl
            have HPM := Lib.hid hpm
            have HOWN := Lib.hid hown
            rw [ints_len] at HOWN
            clear hil hown hrv hpm HTY
            generalize (predsL c).getD y [] = pl at hrow HOWN hpb HPM
            go_wp2_with fail
            go_loopw [51] (fun kv wr => ∃ (k : Nat) (W : Nat → List Nat), k ≤ pl.length ∧ kv = .int .i64 (k : Int) ∧ Hid (SetsOk wr w.heap.size (w.heap.size + 1) c.length W) ∧ Hid (∀ i, i < c.length → ∀ p, bhas (W i) p = true ↔ ((p < y ∧ DFp c f i p) ∨ (p = y ∧ ∃ q, q ∈ pl.take k ∧ Rd c q ∧ Anc f i q ∧ ¬ (y ≠ 0 ∧ Anc f i (f y))))) ∧ Hid (Upd [] w wr) ∧ Hid (w.heap.size + 1 + 2 * c.length ≤ wr.heap.size)) (fun kv _ => pl.length - (intOf kv).toNat)
            case atStart =>
              refine ⟨0, W, by omega, rfl, HS.out, fun i hi p => ?_, HU.out, HZ.out⟩
              rw [HB.out i hi p, List.take_zero]
              simp
            case round =>
              clear HS HB HU HZ hpc hrow
              obtain ⟨k, W, hk, rfl, HS, HB, HU, HZ⟩ := hrel
              obtain ⟨wq, rfl⟩ : ∃ wq : World, wq = wr := ⟨_, rfl⟩
              by_cases hkl : k < pl.length
              · obtain ⟨pg, pc, e, _, _, hpc⟩ := (HOWN.out.upd HU.out (by simp)).nth k (by rw [ints_len]; exact hkl)
                rw [ints_len] at e
                injection e with e e2 e3
                subst e
                subst e3
                rw [ints_get pl k hkl] at hpc
                have hqm : pl.getD k 0 ∈ pl := by
                  rw [List.getD_eq_getElem?_getD, List.getElem?_eq_getElem hkl]
                  exact List.getElem_mem hkl
                obtain ⟨hqn, hqe⟩ := (HPM.out _).1 hqm
                have HTK : Hid (pl.take (k + 1) = pl.take k ++ [pl.getD k 0]) := by
                  show _ = _
                  rw [List.take_succ_eq_append_getElem hkl, List.getD_eq_getElem?_getD, List.getElem?_eq_getElem hkl]; rfl
                have HQE := Lib.hid hqe
                clear hqm hqe
                generalize pl.getD k 0 = q at hpc hqn HTK HQE
                have HTQ := Lib.hid (HTH.out wq (q : Int) HU.out (by omega))
                have hqt : thereP c (q : Int) ↔ Rd c q := by
                  unfold thereP
                  rw [Int.toNat_natCast]
                  exact ⟨fun h => h.2, fun h => ⟨by omega, h⟩⟩
                by_cases hqr : Rd c q
                · rw [decide_eq_true (hqt.2 hqr)] at HTQ
                  have HQR := Lib.hid hqr
                  clear hqt hqr
                  go_wp2_with fail
                  refine HTQ.out.mono ?_
                  rintro e w5 ⟨rfl, rfl⟩
                  clear HTQ
                  have hw5 : Upd [] w w5 := HU.out
                  go_wp2_with fail
                  go_loopw [7] (fun iv wr => ∃ (D : Nat → Prop) (W4 : Nat → List Nat), Hid ((∃ z : Nat, iv = .int .i64 (z : Int) ∧ Rd c z ∧ Anc f z q ∧ (y ≠ 0 → Anc f (f y) z) ∧ ∀ i, D i ↔ Anc f i z) ∨ (iv = .int .i64 (-1) ∧ y = 0 ∧ ∀ i, ¬ D i)) ∧ Hid (SetsOk wr w.heap.size (w.heap.size + 1) c.length W4) ∧ Hid (∀ i, i < c.length → ∀ p, bhas (W4 i) p = true ↔ (bhas (W i) p = true ∨ (p = y ∧ Anc f i q ∧ ¬ D i))) ∧ Hid (Upd [] w wr) ∧ Hid (w.heap.size + 1 + 2 * c.length ≤ wr.heap.size)) (fun iv _ => upM c iv)
                  case atStart =>
                    refine ⟨fun i => Anc f i q, W, .inl ⟨q, rfl, HQR.out, .refl, fun hy0 => ?_, fun i => Iff.rfl⟩, HS.out, fun i _ p => ?_, HU.out, HZ.out⟩
                    · have h1 : Anc f (f y) y := .up y hy0 .refl
                      have h2 := (HEX.out.anc y HYR.out (f y)).1 h1
                      have h3 := HEX.out.tr.lt y HYR.out hy0
                      exact (HEX.out.anc q HQR.out (f y)).2 (dm_pred h2 (fun e => by rw [← e] at h3; omega) HQE.out)
                    · constructor
                      · exact .inl
                      · rintro (h | ⟨_, h1, h2⟩)
                        · exact h
                        · exact absurd h1 h2
                  case round =>
                    clear HS HU HZ hpc hw5
                    obtain ⟨D, W4, HD, HS, HB4, HU, HZ⟩ := hrel
                    obtain ⟨w6, rfl⟩ : ∃ w6 : World, w6 = wr := ⟨_, rfl⟩
                    have ht1 := HU.out.cell HT1.out (by simp)
                    have hlen := H3.out
                    have hiy : w6.cell? ⟨ib, y, none⟩ = some (.int .i64 (if Rd c y ∧ y ≠ 0 then (f y : Int) else -1)) := by
                      rw [cell_of (HU.out.heap H6.out (by simp)), icells_get _ _ (by omega), getD_dflt 0 (-1) (by omega), H4.out y hyn]
                    rcases HD.out with ⟨z, rfl, hzr, hzq, hyz, hDz⟩ | ⟨rfl, hy0, hDn⟩
                    · have hzn := rd_lt HC.out hzr
                      have hiz : w6.cell? ⟨ib, z, none⟩ = some (.int .i64 (if Rd c z ∧ z ≠ 0 then (f z : Int) else -1)) := by
                        rw [cell_of (HU.out.heap H6.out (by simp)), icells_get _ _ (by omega), getD_dflt 0 (-1) (by omega), H4.out z hzn]
                      have hhz := HS.out.head z hzn
                      have d0 : ((z : Int) != -1) = true := by simp
                      have HZR := Lib.hid hzr
                      have HZQ := Lib.hid hzq
                      have HYZ := Lib.hid hyz
                      have HDZ := Lib.hid hDz
                      clear hzr hzq hyz hDz HD
                      by_cases hstop : y ≠ 0 ∧ z = f y
                      · obtain ⟨hy0, hzf⟩ := hstop
                        rw [if_pos ⟨HYR.out, hy0⟩] at hiy
                        have HBN : Hid (∀ i, i < c.length → ∀ p, bhas (W4 i) p = true ↔ ((p < y ∧ DFp c f i p) ∨ (p = y ∧ ∃ q, q ∈ pl.take (k + 1) ∧ Rd c q ∧ Anc f i q ∧ ¬ (y ≠ 0 ∧ Anc f i (f y))))) := fun i hi p => by
                          rw [HB4.out i hi p, HB.out i hi p, HTK.out]
                          constructor
                          · rintro ((h | ⟨e, q2, h1, h2⟩) | ⟨e, h1, h2⟩)
                            · exact .inl h
                            · exact .inr ⟨e, q2, List.mem_append_left _ h1, h2⟩
                            · refine .inr ⟨e, q, by simp, HQR.out, h1, fun h3 => h2 ?_⟩
                              rw [HDZ.out i, hzf]
                              exact h3.2
                          · rintro (h | ⟨e, q2, h1, h2, h3, h4⟩)
                            · exact .inl (.inl h)
                            · rcases List.mem_append.1 h1 with h1 | h1
                              · exact .inl (.inr ⟨e, q2, h1, h2, h3, h4⟩)
                              · rw [List.mem_singleton] at h1
                                subst h1
                                refine .inr ⟨e, h3, fun h5 => h4 ⟨hy0, ?_⟩⟩
                                rw [← hzf]
                                exact (HDZ.out i).1 h5
                        have d1 : ((z : Int) != (f y : Int)) = false := by simp [hzf]
                        clear hzf hy0 hiz hhz
                        go_wp2_with fail
                        go_roundw
                        case rel => exact ⟨k + 1, W4, by omega, by go_num, HS, HBN, HU, HZ⟩
                        case measure => simp [intOf]; omega
                      · have HNS := Lib.hid hstop
                        have d1 : ((z : Int) != (if Rd c y ∧ y ≠ 0 then (f y : Int) else -1)) = true := by
                          rw [bne_iff_ne]
                          split
                          · rename_i h
                            exact fun e => hstop ⟨h.2, by omega⟩
                          · omega
                        generalize (if Rd c y ∧ y ≠ 0 then (f y : Int) else -1) = iy at hiy d1
                        have HADD := Lib.hid (add_any (w.heap.size + 1 + 2 * z + 1) (w.heap.size + 1 + 2 * z) c.length (y : Int) (W4 z) w6 (HS.out.set z hzn))
                        have HIZ := Lib.hid hiz
                        clear hstop hiz
                        go_wp2_with fail
                        refine HADD.out.mono ?_
                        rintro e w7 ⟨r, ws', rfl, hs7, hb7, hu7⟩
                        have HS7 := Lib.hid (HS.out.add z hzn hs7 hu7)
                        have HU7 := Lib.hid (HU.out.trans' hu7 (fun a ha hlt => by simp at ha; omega))
                        have hiz := hu7.cell HIZ.out (by simp; have := lt_of_heap H6.out; omega)
                        have ht1 := HU7.out.cell HT1.out (by simp)
                        have HZ7 : Hid (w.heap.size + 1 + 2 * c.length ≤ w7.heap.size) := Nat.le_trans HZ.out hu7.size
                        have HB7 : Hid (∀ D2 : Nat → Prop, (∀ i, Anc f i q → (¬ D2 i ↔ (¬ D i ∨ i = z))) → ∀ i, i < c.length → ∀ p, bhas ((fun i => if i = z then ws' else W4 i) i) p = true ↔ (bhas (W i) p = true ∨ (p = y ∧ Anc f i q ∧ ¬ D2 i))) := fun D2 hD2 i hi p => by
                          simp only
                          by_cases e : i = z
                          · subst e
                            rw [if_pos rfl, hb7, Bool.or_eq_true, HB4.out i hi p, Bool.and_eq_true, decide_eq_true_eq, decide_eq_true_eq]
                            have h1 := hD2 i HZQ.out
                            constructor
                            · rintro ((h | ⟨e2, h2, h3⟩) | ⟨_, h2⟩)
                              · exact .inl h
                              · exact .inr ⟨e2, h2, h1.2 (.inl h3)⟩
                              · exact .inr ⟨by omega, HZQ.out, h1.2 (.inr rfl)⟩
                            · rintro (h | ⟨e2, h2, _⟩)
                              · exact .inl (.inl h)
                              · exact .inr ⟨by omega, by omega⟩
                          · rw [if_neg e, HB4.out i hi p]
                            constructor
                            · rintro (h | ⟨e2, h2, h3⟩)
                              · exact .inl h
                              · exact .inr ⟨e2, h2, (hD2 i h2).2 (.inl h3)⟩
                            · rintro (h | ⟨e2, h2, h3⟩)
                              · exact .inl h
                              · rcases (hD2 i h2).1 h3 with h4 | h4
                                · exact .inr ⟨e2, h2, h4⟩
                                · exact absurd h4 e
                        clear hs7 hb7 hu7 HADD
                        by_cases hz0 : z = 0
                        · have hy0 : y = 0 := by
                            refine Decidable.byContradiction fun hy0 => HNS.out ⟨hy0, ?_⟩
                            have h1 := HYZ.out hy0
                            rw [hz0] at h1 ⊢
                            refine (Decidable.byContradiction fun h2 => ?_)
                            exact (h1.of_ne (fun e => h2 e.symm)).1 rfl
                          rw [if_neg (fun h => h.2 hz0)] at hiz
                          have HBF := Lib.hid (HB7.out (fun _ => False) (fun i hiq => by
                            simp only [not_false_iff, true_iff]
                            rw [HDZ.out i]
                            by_cases e : i = z
                            · exact .inr e
                            · refine .inl fun h => ?_
                              rw [hz0] at h e
                              exact (h.of_ne e).1 rfl))
                          have HY0 := Lib.hid hy0
                          clear hz0 hy0 HB7
                          go_wp2_with fail
                          go_roundw
                          case rel => exact ⟨fun _ => False, _, .inr ⟨rfl, HY0.out, fun _ h => h⟩, HS7.out, HBF.out, HU7.out, HZ7.out⟩
                          case measure =>
                            show 0 < posn c z + 1
                            omega
                        · rw [if_pos ⟨HZR.out, hz0⟩] at hiz
                          have HZ0' := Lib.hid hz0
                          have HBF := Lib.hid (HB7.out (fun i => Anc f i (f z)) (fun i hiq => by
                            rw [HDZ.out i]
                            constructor
                            · intro h
                              by_cases e : i = z
                              · exact .inr e
                              · exact .inl fun h2 => h (h2.of_ne e).2
                            · rintro (h | h) h2
                              · exact h (.up z hz0 h2)
                              · subst h
                                have h3 := h2.le HEX.out.tr (HEX.out.tr.up i HZR.out hz0)
                                have h4 := HEX.out.tr.lt i HZR.out hz0
                                omega))
                          clear hz0 HB7
                          go_wp2_with fail
                          go_roundw
                          case rel =>
                            refine ⟨fun i => Anc f i (f z), _, .inl ⟨f z, rfl, HEX.out.tr.up z HZR.out HZ0'.out, Anc.trans (.up z HZ0'.out .refl) HZQ.out, fun hy0 => ?_, fun i => Iff.rfl⟩, HS7.out, HBF.out, HU7.out, HZ7.out⟩
                            exact ((HYZ.out hy0).of_ne (fun e => HNS.out ⟨hy0, e.symm⟩)).2
                          case measure =>
                            have h4 := HEX.out.tr.lt z HZR.out HZ0'.out
                            show posn c (f z) + 1 < posn c z + 1
                            omega
                    · have HBN : Hid (∀ i, i < c.length → ∀ p, bhas (W4 i) p = true ↔ ((p < y ∧ DFp c f i p) ∨ (p = y ∧ ∃ q, q ∈ pl.take (k + 1) ∧ Rd c q ∧ Anc f i q ∧ ¬ (y ≠ 0 ∧ Anc f i (f y))))) := fun i hi p => by
                        rw [HB4.out i hi p, HB.out i hi p, HTK.out]
                        constructor
                        · rintro ((h | ⟨e, q2, h1, h2⟩) | ⟨e, h1, h2⟩)
                          · exact .inl h
                          · exact .inr ⟨e, q2, List.mem_append_left _ h1, h2⟩
                          · exact .inr ⟨e, q, by simp, HQR.out, h1, fun h3 => h3.1 hy0⟩
                        · rintro (h | ⟨e, q2, h1, h2, h3, h4⟩)
                          · exact .inl (.inl h)
                          · rcases List.mem_append.1 h1 with h1 | h1
                            · exact .inl (.inr ⟨e, q2, h1, h2, h3, h4⟩)
                            · rw [List.mem_singleton] at h1
                              subst h1
                              exact .inr ⟨e, h3, hDn i⟩
                      clear hy0 hDn HD hiy
                      go_wp2_with fail
                      go_roundw
                      case rel => exact ⟨k + 1, W4, by omega, by go_num, HS, HBN, HU, HZ⟩
                      case measure => simp [intOf]; omega
                · rw [decide_eq_false (fun h => hqr (hqt.1 h))] at HTQ
                  have HBN : Hid (∀ i, i < c.length → ∀ p, bhas (W i) p = true ↔ ((p < y ∧ DFp c f i p) ∨ (p = y ∧ ∃ q, q ∈ pl.take (k + 1) ∧ Rd c q ∧ Anc f i q ∧ ¬ (y ≠ 0 ∧ Anc f i (f y))))) := fun i hi p => by
                    rw [HB.out i hi p, HTK.out]
                    constructor
                    · rintro (h | ⟨e, q2, h1, h2⟩)
                      · exact .inl h
                      · exact .inr ⟨e, q2, List.mem_append_left _ h1, h2⟩
                    · rintro (h | ⟨e, q2, h1, h2, h3, h4⟩)
                      · exact .inl h
                      · rcases List.mem_append.1 h1 with h1 | h1
                        · exact .inr ⟨e, q2, h1, h2, h3, h4⟩
                        · rw [List.mem_singleton] at h1
                          subst h1
                          exact absurd h2 hqr
                  clear hqt hqr
                  go_wp2_with fail
                  refine HTQ.out.mono ?_
                  rintro e w5 ⟨rfl, rfl⟩
                  go_wp2_with fail
                  go_roundw
                  case rel => exact ⟨k + 1, W, by omega, by go_num, HS, HBN, HU, HZ⟩
                  case measure => simp [intOf]; omega
              · obtain rfl : k = pl.length := by omega
                have HBN : Hid (∀ i, i < c.length → ∀ p, bhas (W i) p = true ↔ (p < y + 1 ∧ DFp c f i p)) := fun i hi p => by
                  rw [HB.out i hi p, List.take_length]
                  constructor
                  · rintro (h | ⟨rfl, q, h1, h2, h3, h4⟩)
                    · exact ⟨by omega, h.2⟩
                    · exact ⟨by omega, HYR.out, q, h2, ((HPM.out q).1 h1).2, h3, h4⟩
                  · rintro ⟨h1, h2⟩
                    by_cases e : p = y
                    · subst e
                      obtain ⟨_, q, h3, h4, h5, h6⟩ := h2
                      exact .inr ⟨rfl, q, (HPM.out q).2 ⟨rd_lt HC.out h3, h4⟩, h3, h5, h6⟩
                    · exact .inl ⟨by omega, h2⟩
                go_wp2_with fail
                go_roundw
                case rel => exact ⟨y + 1, W, by omega, by go_num, HS, HBN, HU, HZ⟩
                case measure => simp [intOf]; omega
          · rw [decide_eq_false (fun h => hyr (hyt.1 h))] at HTY
            have HBN : Hid (∀ i, i < c.length → ∀ p, bhas (W i) p = true ↔ (p < y + 1 ∧ DFp c f i p)) := fun i hi p => by
              rw [HB.out i hi p]
              constructor
              · exact fun h => ⟨by omega, h.2⟩
              · intro h
                refine ⟨?_, h.2⟩
                have : p ≠ y := by rintro rfl; exact hyr h.2.1
                omega
            clear hyt hyr
            go_wp2_with fail
            refine HTY.out.mono ?_
            rintro e w' ⟨rfl, rfl⟩
            go_wp2_with fail
            go_roundw
            case rel => exact ⟨y + 1, W, by omega, by go_num, HS, HBN, HU, HZ⟩
            case measure => simp [intOf]; omega
        · obtain rfl : y = c.length := by omega
          have hmkr := make_rows wo c.length (by omega)
          have hA := heap_alloc_new wo (.cells (List.replicate c.length (Value.slice none 0 0)).toArray 27)
          have hUa := (Upd.refl [] wo).alloc (.cells (List.replicate c.length (Value.slice none 0 0)).toArray 27)
          have hsz := World.size_alloc wo (.cells (List.replicate c.length (Value.slice none 0 0)).toArray 27)
          rw [List.toArray_replicate] at hmkr hA hUa hsz
          have hb1 := (HU.out.trans hUa).heap H1.out (by simp)
          have hc7 := cell_of hb1 7
          have hf7 := froz_of hb1 7
          have HG1 := Lib.hid (HTG.out _ (HU.out.trans hUa))
          have HA := Lib.hid hA
          have HUa := Lib.hid (HU.out.trans hUa)
          have HSa := Lib.hid (HS.out.upd hUa (by simp))
          have HSZ := Lib.hid hsz
          have hwo := HU.out.size
          have hwz := HZ.out
          clear hA hUa hb1 hsz
          go_wp2_with fail
          generalize wo.alloc (.cells (Array.replicate c.length (Value.slice none 0 0)) 27) = w3 at HG1 HA HUa HSa HSZ ⊢
          have HG4 := Lib.hid (HG1.out.put (k := 7) (v := .slice (some ⟨wo.heap.size, 0, none⟩) c.length c.length) (va' := va) (vb' := vb) (vc' := vc) (fr' := .slice (some ⟨wo.heap.size, 0, none⟩) c.length c.length) (fun _ _ _ _ => rfl))
          have hu4 : Upd [tb] w3 (w3.setCell ⟨tb, 7, none⟩ (.slice (some ⟨wo.heap.size, 0, none⟩) c.length c.length)) := (Upd.refl _ _).setCell (.inl (by simp)) _
          have HA4 := Lib.hid (hu4.heap HA.out (by simp; omega))
          have HSb := Lib.hid (HSa.out.upd hu4 (by simp; omega))
          have HU4 := Lib.hid ((HUa.out.mono (by simp)).trans hu4)
          have hz4 : (w3.setCell ⟨tb, 7, none⟩ (.slice (some ⟨wo.heap.size, 0, none⟩) c.length c.length)).heap.size = wo.heap.size + 1 := by
            have : (w3.setCell ⟨tb, 7, none⟩ (.slice (some ⟨wo.heap.size, 0, none⟩) c.length c.length)).heap.size = w3.heap.size := by simp [World.setCell]
            rw [this]; exact HSZ.out
          have hc74 : (w3.setCell ⟨tb, 7, none⟩ (.slice (some ⟨wo.heap.size, 0, none⟩) c.length c.length)).cell? ⟨tb, 7, none⟩ = some (.slice (some ⟨wo.heap.size, 0, none⟩) c.length c.length) := by
            obtain ⟨gb2, ib2, db2, kb2, _, _, _, _, _, _, _, q1, _⟩ := HG4.out
            rw [cell_of q1]; rfl
          have HC74 := Lib.hid hc74
          have htab : 0 ≠ tb := by
            intro e
            have h1 := HTZ.out 0 (by decide)
            have h2 := HT0.out
            rw [← e] at h2
            have h3 := h2.symm.trans h1
            injection h3 with h1
            cases h1
          have HTB : Hid (∀ cs, w.heap[tb]? = some (.cells cs 58) → (w3.setCell ⟨tb, 7, none⟩ (.slice (some ⟨wo.heap.size, 0, none⟩) c.length c.length)).heap[tb]? = some (.cells (cs.setIfInBounds 7 (.slice (some ⟨wo.heap.size, 0, none⟩) c.length c.length)) 58)) := fun cs hcs => heap_setCell (HUa.out.heap hcs (by simp)) 7 _
          have HTZ4 := Lib.hid (HTZ.out.upd HU4.out (by simpa using htab))
          have hz5 := HTZ.out.lt
          have HZ4 := Lib.hid hz4
          clear hu4 hc7 hf7 HG1 HA HSa HSZ hz4 hc74 hmkr
          generalize w3.setCell ⟨tb, 7, none⟩ (.slice (some ⟨wo.heap.size, 0, none⟩) c.length c.length) = w4 at HG4 HA4 HSb HU4 HC74 HTZ4 HZ4 HTB ⊢
          go_loopw [96] (fun iv wr => ∃ (i : Nat) (vals : List Value), i ≤ c.length ∧ iv = .int .i64 (i : Int) ∧ Hid (wr.heap[wo.heap.size]? = some (.cells vals.toArray 27)) ∧ vals.length = c.length ∧ Hid (∀ j, j < i → OwnI wr w.heap.size 3 (vals.getD j undef) (ints (blist (W j)))) ∧ Hid (Upd [wo.heap.size] w4 wr)) (fun iv _ => c.length - (intOf iv).toNat)
          case atStart => exact ⟨0, List.replicate c.length (.slice none 0 0), by omega, rfl, by rw [List.toArray_replicate]; exact HA4.out, by simp, fun j hj => absurd hj (by omega), Upd.refl _ _⟩
          case round =>
            obtain ⟨i, vals, hi, rfl, HB5, hvl, HV, HU5⟩ := hrel
            obtain ⟨wq, rfl⟩ : ∃ wq : World, wq = wr := ⟨_, rfl⟩
            by_cases hlt : i < c.length
            · have hsq := HSb.out.upd HU5.out (by simp; omega)
              have hhd := hsq.head i hlt
              have hc7 := HU5.out.cell HC74.out (by simp; omega)
              have hsz := HU5.out.size
              have hdz := HZ4.out
              have HL := Lib.hid (list_any (w.heap.size + 1 + 2 * i + 1) (w.heap.size + 1 + 2 * i) c.length (W i) wq.drew ((hsq.set i hlt).upd (Upd.refl [] wq).drew (by simp) (by simp)) ((HTZ4.out.upd HU5.out (by simp; omega)).upd (Upd.refl [] wq).drew (by simp)) (by omega))
              have hvi : vals[i]? = some (vals.getD i undef) := by rw [List.getD_eq_getElem?_getD, List.getElem?_eq_getElem (by omega)]; rfl
              have hcf : wq.cell? ⟨wo.heap.size, i, none⟩ = some (vals.getD i undef) := by
                rw [cell_of HB5.out, List.getElem?_toArray]; exact hvi
              have HC7 := Lib.hid hc7
              clear hsq hvi
              go_wp2_with fail
              go_region_held3 (fun w' => w'.cell? ⟨tb, 7, none⟩ = some (.slice (some ⟨wo.heap.size, 0, none⟩) c.length c.length))
                (first | exact hk0 | exact hc7 | exact hk10 _)
                ((go_at_call 44; refine HL.out.mono ?_; rintro e w5 ⟨u, rfl, hO, hu5⟩; have hk0 := hu5.cell (p := ⟨tb, 7, none⟩) hc7 (by simp); have hcf5 := hu5.cell (p := ⟨wo.heap.size, i, none⟩) hcf (by simp); have hB6 := hu5.heap HB5.out (by simp); have hff5 := froz_of hB6 i; obtain ⟨p6, c6, rfl⟩ := hO.shape; have hk10 := fun v => ((Upd.refl [wo.heap.size] w5).setCell (p := ⟨wo.heap.size, i, none⟩) (Or.inl (by simp)) v).cell hk0 (by simp; omega)))
              have hst := heap_setCell hB6 i (.slice p6 (ints (blist (W i))).length c6)
              rw [List.setIfInBounds_toArray] at hst
              have hs6 := (Upd.refl [wo.heap.size] w5).setCell (p := ⟨wo.heap.size, i, none⟩) (.inl (by simp)) (.slice p6 (ints (blist (W i))).length c6)
              have HVN : Hid (∀ j, j < i + 1 → OwnI (w5.setCell ⟨wo.heap.size, i, none⟩ (.slice p6 (ints (blist (W i))).length c6)) w.heap.size 3 ((vals.set i (.slice p6 (ints (blist (W i))).length c6)).getD j undef) (ints (blist (W j)))) := fun j hj => by
                by_cases e : j = i
                · subst e
                  rw [getD_set_eq _ _ _ _ (by omega)]
                  have h1 : OwnI w5 w.heap.size 3 (.slice p6 (ints (blist (W j))).length c6) (ints (blist (W j))) := row_base hO (by simp; omega)
                  exact h1.upd hs6 (fun k hk hm => by
                    simp at hm
                    subst hm
                    exact own_heap_ne hO hB6 (by decide) hk)
                · rw [getD_set_ne _ _ _ _ _ (fun e2 => e e2.symm)]
                  have h1 := (HV.out j (by omega)).upd ((Upd.refl [] wq).drew.trans hu5) (by simp)
                  exact h1.upd hs6 (fun k hk hm => by
                    simp at hm
                    subst hm
                    exact own_heap_ne h1 hB6 (by decide) hk)
              have HSTN := Lib.hid hst
              have HUN := Lib.hid ((HU5.out.trans (((Upd.refl [] wq).drew.trans hu5).mono (by simp))).trans hs6)
              clear hst hs6 hO hu5 hk0 hk10 hcf5 hff5 hB6 hcf hc7 HL
              go_wp2_with fail
              go_roundw
              case rel => exact ⟨i + 1, vals.set i (.slice p6 (ints (blist (W i))).length c6), by omega, by go_num, HSTN.out, by rw [List.length_set]; exact hvl, HVN.out, HUN.out⟩
              case measure => simp [intOf]; omega
            · obtain rfl : i = c.length := by omega
              go_wp2_with fail
              go_end0
              have hbl : ∀ i, i < c.length → ints (blist (W i)) = ints (fronL c f i) := fun i hi => by
                refine sorted_eq _ _ (ints_lt_pw (blist_sorted _)) (ints_lt_pw ?_) (fun x => ?_)
                · unfold fronL
                  exact List.pairwise_lt_range.filter _
                · rw [mem_ints, mem_ints]
                  have key : ∀ p, p ∈ blist (W i) ↔ p ∈ fronL c f i := fun p => by
                    rw [mem_blist, HB.out i hi p, mem_fronL]
                  constructor
                  · rintro ⟨p, h1, h2⟩; exact ⟨p, (key p).1 h1, h2⟩
                  · rintro ⟨p, h1, h2⟩; exact ⟨p, (key p).2 h1, h2⟩
              refine ⟨rfl, .slice (some ⟨wo.heap.size, 0, none⟩) c.length c.length, ?_, ⟨wo.heap.size, vals, rfl, HB5.out, hvl, by omega, fun i hi => by rw [← hbl i hi]; exact HV.out i hi⟩, HU4.out.trans' HU5.out (fun q hq hlt2 => by simp at hq; omega)⟩
              refine HH.out.move (HU4.out.trans' HU5.out (fun q hq hlt2 => by simp at hq; omega)) (fun s0 s1 s2 s3 hcs => ?_)
              exact HU5.out.heap (HTB.out _ hcs) (by simp; omega)

end Go.Proofs.YtjjkliifpdcliaaDoor
