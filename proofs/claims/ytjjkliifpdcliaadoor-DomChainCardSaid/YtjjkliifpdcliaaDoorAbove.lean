/- overdriveref5.Above: the document's. overdriveref5.Idoms: the document's. -/
import Derived.Test.YtjjkliifpdcliaaDoorAvoid
import Derived.Deep.QuietTactic
import Derived.BigQuiet
/-! overdriveref5.Above: the document's. -/
namespace Go.Proofs.YtjjkliifpdcliaaDoor
open Go.RowKit

theorem Tryd.infoBRow : (Tryd.prog.info? 28).map (fun i => (i.zero, i.size, i.bytes)) = some (some (.slice none 0 0), 1, 24) := by kernel_rfl
theorem make_brows (w : World) (m : Nat) (h : m ≤ 1000000) : (Instr.makeSlice 36 (.int .i64 (m : Int)) (.int .i64 (m : Int))).run Tryd.prog w = .ok (.slice (some ⟨w.heap.size, 0, none⟩) m m) (w.alloc (.cells (List.replicate m (Value.slice none 0 0)).toArray 28)) := by
  obtain ⟨i0, hi, hz0, hz1, hz2⟩ := info_parts Tryd.infoBRow
  have hmk := run_make (P := Tryd.prog) w 36 28 i0 (.slice none 0 0) Tryd.underlying36 hi hz0 .i64 .i64 (m : Int) (m : Int) (by omega) (by omega) (by rw [hz2]; omega) (by omega)
  rw [hz1, Nat.mul_one] at hmk
  simpa [madeCells_nil] using hmk

open Classical in
/-- x stands above b. -/
noncomputable def abv (g : List (List Int)) (b x : Nat) : Bool := decide (Av (Ed (cleanG g)) g.length x) && decide (Av (Ed (cleanG g)) g.length b) && !decide (Av (Ed (cleanG g)) x b)
/-- A row of the table, in the midst of its making. -/
noncomputable def rowM (g : List (List Int)) (a j b : Nat) : List Bool := (List.range g.length).map fun x => decide (x < a ∨ (x = a ∧ b < j)) && abv g b x
theorem rowM_len (g : List (List Int)) (a j b : Nat) : (rowM g a j b).length = g.length := by simp [rowM]
theorem rowM_zero (g : List (List Int)) (b : Nat) : rowM g 0 0 b = List.replicate g.length false := by
  apply List.ext_getElem
  · simp [rowM]
  · intro i h1 h2; simp [rowM]
theorem rowM_step (g : List (List Int)) (a j : Nat) (_ha : a < g.length) : (rowM g a j j).set a (abv g j a) = rowM g a (j + 1) j := by
  apply List.ext_getElem
  · simp [rowM]
  · intro i h1 h2
    simp only [rowM, List.getElem_set, List.getElem_map, List.getElem_range]
    by_cases e : a = i
    · subst e; simp
    · rw [if_neg e]
      have : ¬ i = a := fun e2 => e e2.symm
      simp [this]
theorem rowM_other (g : List (List Int)) (a j b : Nat) (h : b ≠ j) : rowM g a (j + 1) b = rowM g a j b := by
  unfold rowM
  refine List.map_congr_left (fun x _ => ?_)
  congr 1
  simp only [decide_eq_decide]
  omega
theorem rowM_next (g : List (List Int)) (a b : Nat) (hb : b < g.length) : rowM g a g.length b = rowM g (a + 1) 0 b := by
  unfold rowM
  refine List.map_congr_left (fun x _ => ?_)
  congr 1
  simp only [decide_eq_decide]
  omega
open Classical in
theorem rowM_skip (g : List (List Int)) (a b : Nat) (h : ¬ Av (Ed (cleanG g)) g.length a) : rowM g a 0 b = rowM g (a + 1) 0 b := by
  unfold rowM
  refine List.map_congr_left (fun x _ => ?_)
  by_cases e : x = a
  · subst e
    simp [abv, h]
  · congr 1
    simp only [decide_eq_decide]
    omega

/-- The table in memory: its rows one behind the other. -/
structure TabAt (w : World) (B gb wb n : Nat) (M : Nat → List Bool) : Prop where
  blk : w.heap[gb]? = some (.cells ((List.range n).map fun b => Value.slice (some ⟨wb + b, 0, none⟩) n n).toArray 28)
  row : ∀ b, b < n → w.heap[wb + b]? = some (.cells (bcells (M b)) 4)
  ge : B ≤ gb
  gl : gb < wb
theorem TabAt.upd {w w' : World} {B gb wb n : Nat} {M : Nat → List Bool} {S : List Nat} (h : TabAt w B gb wb n M) (hu : Upd S w w') (hS : ∀ k ∈ S, k ≠ gb ∧ (k < wb ∨ wb + n ≤ k)) : TabAt w' B gb wb n M :=
  ⟨hu.heap h.blk (fun hm => (hS _ hm).1 rfl), fun b hb => hu.heap (h.row b hb) (fun hm => by have := (hS _ hm).2; omega), h.ge, h.gl⟩
theorem TabAt.head {w : World} {B gb wb n : Nat} {M : Nat → List Bool} (h : TabAt w B gb wb n M) (b : Nat) (hb : b < n) : w.cell? ⟨gb, b, none⟩ = some (.slice (some ⟨wb + b, 0, none⟩) n n) := by
  rw [cell_of h.blk]; simp [hb]
theorem TabAt.cell {w : World} {B gb wb n : Nat} {M : Nat → List Bool} (h : TabAt w B gb wb n M) (b x : Nat) (hb : b < n) (hl : x < (M b).length) : w.cell? ⟨wb + b, x, none⟩ = some (.bool ((M b).getD x false)) := by
  rw [cell_of (h.row b hb), bcells_get _ _ hl]
/-- Slices that are laid one by one. -/
def hdM (n wb k : Nat) : Array Value := ((List.range n).map fun b => if b < k then Value.slice (some ⟨wb + b, 0, none⟩) n n else Value.slice none 0 0).toArray
theorem hdM_zero (n wb : Nat) : hdM n wb 0 = (List.replicate n (Value.slice none 0 0)).toArray := by
  unfold hdM
  congr 1
  apply List.ext_getElem
  · simp
  · intro i h1 h2; simp
theorem hdM_step (n wb k : Nat) (_h : k < n) : (hdM n wb k).setIfInBounds k (.slice (some ⟨wb + k, 0, none⟩) n n) = hdM n wb (k + 1) := by
  unfold hdM
  rw [List.setIfInBounds_toArray]
  congr 1
  apply List.ext_getElem
  · simp
  · intro i h1 h2
    simp only [List.getElem_set, List.getElem_map, List.getElem_range]
    by_cases e : k = i
    · subst e; simp
    · rw [if_neg e]
      by_cases e2 : i < k
      · rw [if_pos e2, if_pos (by omega)]
      · rw [if_neg e2, if_neg (by omega)]
theorem hdM_all (n wb : Nat) : hdM n wb n = ((List.range n).map fun b => Value.slice (some ⟨wb + b, 0, none⟩) n n).toArray := by
  unfold hdM
  congr 1
  refine List.map_congr_left (fun b hb => ?_)
  rw [List.mem_range] at hb
  rw [if_pos hb]
theorem hdM_get (n wb k i : Nat) (h : i < n) : (hdM n wb k)[i]? = some (if i < k then Value.slice (some ⟨wb + i, 0, none⟩) n n else Value.slice none 0 0) := by
  simp [hdM, h]

open Classical in
set_option maxRecDepth 100000 in
set_option maxHeartbeats 4000000 in
theorem rabove_any (v : Value) (g : List (List Int)) (w : World) (h : RowsAt w v g) (hn : g.length ≤ 1000) (hr : ∀ l ∈ g, l.length ≤ 100000) :
    Calls Tryd.prog 18 #[v] w fun e w' => ∃ gb wb, e = .returned (.slice (some ⟨gb, 0, none⟩) g.length g.length) ∧ TabAt w' w.heap.size gb wb g.length (fun b => rowM g g.length 0 b) ∧ Upd [] w w' := by
  have HWO : Hid (∀ W (no : Int) (d : Nat), Upd [] w W → (-9223372036854775808 ≤ no ∧ no ≤ 9223372036854775807) → (∀ x : Nat, x < g.length → ((x : Int) = no ↔ x = d)) → Calls Tryd.prog 11 #[v, .int .i64 no] W fun e w' => ∃ rb, e = .returned (.slice (some ⟨rb, 0, none⟩) g.length g.length) ∧ w'.heap[rb]? = some (.cells (bcells (avL g d)) 4) ∧ W.heap.size ≤ rb ∧ Upd [] W w') := fun W no d hW h1 h2 => without_any v g W (h.upd hW) hn hr no d h1 h2
  have hmk1 := fun W => make_brows W g.length (by omega)
  have hmk2 := fun W => make_bools W g.length (by omega)
  obtain ⟨a, cap, rfl, hl, hrow⟩ := h
  clear hrow hr hl
  go_enter Tryd.func18, Tryd.ntmps18
  go_wp2_with fail
  refine (HWO.out w (-1) g.length (Upd.refl _ _) (by omega) (fun x hx => by omega)).mono ?_
  rintro e w1 ⟨rb, rfl, hrb, hge, hu1⟩
  have HRB := Lib.hid hrb
  have HU1 := Lib.hid hu1
  have hrl := lt_of_heap hrb
  have hs1 := hu1.size
  have HG0 := Lib.hid (heap_alloc_new w1 (.cells (List.replicate g.length (Value.slice none 0 0)).toArray 28))
  have HUA := Lib.hid ((Upd.refl [] w1).alloc (.cells (List.replicate g.length (Value.slice none 0 0)).toArray 28))
  have HSA := Lib.hid (World.size_alloc w1 (.cells (List.replicate g.length (Value.slice none 0 0)).toArray 28))
  rw [List.toArray_replicate] at HG0 HUA HSA hmk1
  clear hrb hu1
  go_wp2_with fail
  generalize w1.alloc (.cells (Array.replicate g.length (Value.slice none 0 0)) 28) = w2 at HG0 HUA HSA ⊢
  have hs2 : w2.heap.size = w1.heap.size + 1 := HSA.out
  have HS2 := Lib.hid hs2
  clear hs2
  go_loopw [5] (fun iv wr => ∃ i : Nat, i ≤ g.length ∧ iv = .int .i64 (i : Int) ∧ Hid (wr.heap[w1.heap.size]? = some (.cells (hdM g.length (w1.heap.size + 1) i) 28)) ∧ Hid (wr.heap.size = w1.heap.size + 1 + i) ∧ Hid (∀ b, b < i → wr.heap[w1.heap.size + 1 + b]? = some (.cells (bcells (List.replicate g.length false)) 4)) ∧ Hid (Upd [w1.heap.size] w2 wr)) (fun iv _ => g.length - (intOf iv).toNat)
  case atStart =>
    refine ⟨0, by omega, rfl, ?_, HS2.out, fun b hb => absurd hb (by omega), Upd.refl _ _⟩
    rw [hdM_zero, List.toArray_replicate]; exact HG0.out
  case round =>
    obtain ⟨i, hi, rfl, HH, HZ, HB, HU⟩ := hrel
    obtain ⟨wo, rfl⟩ : ∃ wo : World, wo = wr := ⟨_, rfl⟩
    by_cases hlt : i < g.length
    · have hal := (Upd.refl [] wo).alloc (.cells (bcells (List.replicate g.length false)) 4)
      have hH2 := hal.heap HH.out (by simp)
      have hnew := heap_alloc_new wo (.cells (bcells (List.replicate g.length false)) 4)
      rw [HZ.out] at hnew
      have hcg := cell_of hH2 i
      rw [hdM_get _ _ _ _ hlt, if_neg (by omega)] at hcg
      have hfg := froz_of hH2 i
      have hst := heap_setCell hH2 i (.slice (some ⟨w1.heap.size + 1 + i, 0, none⟩) g.length g.length)
      rw [hdM_step _ _ _ hlt] at hst
      have hset := (Upd.refl [w1.heap.size] (wo.alloc (.cells (bcells (List.replicate g.length false)) 4))).setCell (p := ⟨w1.heap.size, i, none⟩) (.inl (by simp)) (.slice (some ⟨w1.heap.size + 1 + i, 0, none⟩) g.length g.length)
      have hbn : ∀ b, b < i + 1 → ((wo.alloc (.cells (bcells (List.replicate g.length false)) 4)).setCell ⟨w1.heap.size, i, none⟩ (.slice (some ⟨w1.heap.size + 1 + i, 0, none⟩) g.length g.length)).heap[w1.heap.size + 1 + b]? = some (.cells (bcells (List.replicate g.length false)) 4) := fun b hb => by
        refine hset.heap ?_ (by simp; omega)
        by_cases e : b = i
        · subst e; exact hnew
        · exact hal.heap (HB.out b (by omega)) (by simp)
      have HST := Lib.hid hst
      have HBN := Lib.hid hbn
      have HUN := Lib.hid ((HU.out.trans (hal.mono (by simp))).trans hset)
      have HZN : Hid (((wo.alloc (.cells (bcells (List.replicate g.length false)) 4)).setCell ⟨w1.heap.size, i, none⟩ (.slice (some ⟨w1.heap.size + 1 + i, 0, none⟩) g.length g.length)).heap.size = w1.heap.size + 1 + (i + 1)) := by
        show _ = _
        rw [show ((wo.alloc (.cells (bcells (List.replicate g.length false)) 4)).setCell ⟨w1.heap.size, i, none⟩ (.slice (some ⟨w1.heap.size + 1 + i, 0, none⟩) g.length g.length)).heap.size = wo.heap.size + 1 by simp [World.setCell], HZ.out]
        omega
      have hzo := HZ.out
      clear hal hH2 hnew hst hset hbn
      go_wp2_with fail
      go_roundw
      case rel => exact ⟨i + 1, by omega, by go_num, HST.out, HZN.out, HBN.out, HUN.out⟩
      case measure => simp [intOf]; omega
    · obtain rfl : i = g.length := by omega
      have hH := HH.out
      rw [hdM_all] at hH
      have HT0 : Hid (TabAt wo w.heap.size w1.heap.size (w1.heap.size + 1) g.length (fun b => rowM g 0 0 b)) := ⟨hH, fun b hb => by rw [rowM_zero]; exact HB.out b hb, hs1, by omega⟩
      have HU2 : Hid (Upd [] w1 wo) := HUA.out.trans' HU.out (fun q hq hlt2 => by simp at hq; omega)
      have HZ2 := Lib.hid HZ.out
      clear hH HH HB HU HG0 HUA HSA HS2 HZ
      go_wp2_with fail
      go_loopw [6] (fun iv wr => ∃ i : Nat, i ≤ g.length ∧ iv = .int .i64 (i : Int) ∧ Hid (TabAt wr w.heap.size w1.heap.size (w1.heap.size + 1) g.length (fun b => rowM g i 0 b)) ∧ Hid (Upd [] w1 wr) ∧ Hid (w1.heap.size + 1 + g.length ≤ wr.heap.size)) (fun iv _ => g.length - (intOf iv).toNat)
      case atStart => exact ⟨0, by omega, rfl, HT0.out, HU2.out, by have := HZ2.out; show _ ≤ _; omega⟩
      case round =>
        clear HT0 HU2 HZ2
        obtain ⟨x, hx, rfl, HT, HU, HZ⟩ := hrel
        obtain ⟨wq, rfl⟩ : ∃ wq : World, wq = wr := ⟨_, rfl⟩
        by_cases hxn : x < g.length
        · have hrc := cell_of (HU.out.heap HRB.out (by simp)) x
          rw [bcells_get _ _ (by rw [avL_len]; exact hxn), avL_get g _ _ hxn] at hrc
          by_cases hra : Av (Ed (cleanG g)) g.length x
          · rw [decide_eq_true hra] at hrc
            have HRA := Lib.hid hra
            have HWN := Lib.hid (HWO.out wq (x : Int) x (HU1.out.trans HU.out) (by omega) (fun y hy => by omega))
            clear hra
            go_wp2_with fail
            refine HWN.out.mono ?_
            rintro e w5 ⟨rb2, rfl, hrb2, hge2, hu5⟩
            have HT5 := Lib.hid (HT.out.upd hu5 (by simp))
            have HU5 := Lib.hid (HU.out.trans hu5)
            have hz5 := HZ.out
            have hs5 := hu5.size
            have HRB2 := Lib.hid hrb2
            clear hrb2 hu5 HT HU HWN hrc
            go_wp2_with fail
            go_loopw [8] (fun jv wr => ∃ j : Nat, j ≤ g.length ∧ jv = .int .i64 (j : Int) ∧ Hid (TabAt wr w.heap.size w1.heap.size (w1.heap.size + 1) g.length (fun b => rowM g x j b)) ∧ Hid (wr.heap[rb2]? = some (.cells (bcells (avL g x)) 4)) ∧ Hid (Upd [] w1 wr) ∧ Hid (w5.heap.size ≤ wr.heap.size)) (fun jv _ => g.length - (intOf jv).toNat)
            case atStart => exact ⟨0, by omega, rfl, HT5.out, HRB2.out, HU5.out, Nat.le_refl _⟩
            case round =>
              clear HT5 HRB2 HU5
              obtain ⟨j, hj, rfl, HT, HR2, HU, HZ5⟩ := hrel
              obtain ⟨w6, rfl⟩ : ∃ w6 : World, w6 = wr := ⟨_, rfl⟩
              by_cases hjn : j < g.length
              · have hrc := cell_of (HU.out.heap HRB.out (by simp)) j
                rw [bcells_get _ _ (by rw [avL_len]; exact hjn), avL_get g _ _ hjn] at hrc
                have hwc := cell_of HR2.out j
                rw [bcells_get _ _ (by rw [avL_len]; exact hjn), avL_get g _ _ hjn] at hwc
                have hhd := HT.out.head j hjn
                have hcc := HT.out.cell j x hjn (by rw [rowM_len]; exact hxn)
                have hrow := HT.out.row j hjn
                have hfz := froz_of hrow x
                have hset := fun v => heap_setCell hrow x (.bool v)
                have HTN : Hid (∀ v, v = abv g j x → TabAt (w6.setCell ⟨w1.heap.size + 1 + j, x, none⟩ (.bool v)).drew w.heap.size w1.heap.size (w1.heap.size + 1) g.length (fun b => rowM g x (j + 1) b)) := by
                  rintro v rfl
                  have hs := (Upd.refl [w1.heap.size + 1 + j] w6).setCell (p := ⟨w1.heap.size + 1 + j, x, none⟩) (.inl (by simp)) (.bool (abv g j x))
                  refine ⟨hs.drew.heap HT.out.blk (by simp; omega), fun b hb => ?_, HT.out.ge, HT.out.gl⟩
                  by_cases e : b = j
                  · subst e
                    have h1 := hset (abv g b x)
                    rw [bcells_set, rowM_step g x b hxn] at h1
                    exact h1
                  · rw [rowM_other g x j b e]
                    exact hs.drew.heap (HT.out.row b hb) (by simp; omega)
                have HRN : Hid (∀ v, (w6.setCell ⟨w1.heap.size + 1 + j, x, none⟩ (.bool v)).drew.heap[rb2]? = some (.cells (bcells (avL g x)) 4)) := fun v => ((Upd.refl [w1.heap.size + 1 + j] w6).setCell (p := ⟨w1.heap.size + 1 + j, x, none⟩) (.inl (by simp)) (.bool v)).drew.heap HR2.out (by simp; have := HZ.out; omega)
                have HUN : Hid (∀ v, Upd [] w1 (w6.setCell ⟨w1.heap.size + 1 + j, x, none⟩ (.bool v)).drew) := fun v => (HU.out.setCell (p := ⟨w1.heap.size + 1 + j, x, none⟩) (.inr (by show _ ≤ _; simp; omega)) (.bool v)).drew
                have HSN : Hid (∀ v, w5.heap.size ≤ (w6.setCell ⟨w1.heap.size + 1 + j, x, none⟩ (.bool v)).drew.heap.size) := fun v => by
                  have := ((Upd.refl [w1.heap.size + 1 + j] w6).setCell (p := ⟨w1.heap.size + 1 + j, x, none⟩) (.inl (by simp)) (.bool v)).drew.size
                  have := HZ5.out
                  omega
                have HAB : Hid (abv g j x = (decide (Av (Ed (cleanG g)) g.length j) && !decide (Av (Ed (cleanG g)) x j))) := by
                  show _ = _
                  unfold abv
                  rw [decide_eq_true HRA.out, Bool.true_and]
                clear hset hrow
                generalize (rowM g x j j).getD x false = old at hcc
                cases hb1 : decide (Av (Ed (cleanG g)) g.length j) with
                | false =>
                  rw [hb1] at hrc HAB
                  rw [Bool.false_and] at HAB
                  clear hb1
                  go_wp2_with fail
                  go_region
                  go_wp2_with fail
                  go_roundw
                  case rel => exact ⟨j + 1, by omega, by go_num, HTN.out _ HAB.out.symm, HRN.out _, HUN.out _, HSN.out _⟩
                  case measure => simp [intOf]; omega
                | true =>
                  rw [hb1] at hrc HAB
                  rw [Bool.true_and] at HAB
                  clear hb1
                  generalize decide (Av (Ed (cleanG g)) x j) = bv at hwc HAB
                  go_wp2_with fail
                  go_region
                  go_wp2_with fail
                  go_roundw
                  case rel => exact ⟨j + 1, by omega, by go_num, HTN.out _ HAB.out.symm, HRN.out _, HUN.out _, HSN.out _⟩
                  case measure => simp [intOf]; omega
              · obtain rfl : j = g.length := by omega
                have HTE : Hid (TabAt w6 w.heap.size w1.heap.size (w1.heap.size + 1) g.length (fun b => rowM g (x + 1) 0 b)) := by
                  have h1 := HT.out
                  refine ⟨h1.blk, fun b hb => ?_, h1.ge, h1.gl⟩
                  rw [← rowM_next g x b hb]
                  exact h1.row b hb
                have hzz : w1.heap.size + 1 + g.length ≤ w6.heap.size := by have := HZ5.out; omega
                have HZZ := Lib.hid hzz
                clear hzz
                go_wp2_with fail
                go_roundw
                case rel => exact ⟨x + 1, by omega, by go_num, HTE, HU, HZZ⟩
                case measure => simp [intOf]; omega
          · rw [decide_eq_false hra] at hrc
            have HTS : Hid (TabAt wq w.heap.size w1.heap.size (w1.heap.size + 1) g.length (fun b => rowM g (x + 1) 0 b)) := by
              have h1 := HT.out
              refine ⟨h1.blk, fun b hb => ?_, h1.ge, h1.gl⟩
              rw [← rowM_skip g x b hra]
              exact h1.row b hb
            clear hra
            go_wp2_with fail
            go_roundw
            case rel => exact ⟨x + 1, by omega, by go_num, HTS, HU, HZ⟩
            case measure => simp [intOf]; omega
        · obtain rfl : x = g.length := by omega
          go_wp2_with fail
          go_ret
          exact ⟨_, _, rfl, HT.out, HU1.out.trans HU.out⟩

end Go.Proofs.YtjjkliifpdcliaaDoor

/-! overdriveref5.Idoms: the document's. -/
namespace Go.Proofs.YtjjkliifpdcliaaDoor
open Go.RowKit

/-- How many of the first m stand above a. -/
noncomputable def cntA (g : List (List Int)) (a : Nat) : Nat → Nat
  | 0 => 0
  | m + 1 => cntA g a m + if abv g a m then 1 else 0
theorem cntA_le (g : List (List Int)) (a m : Nat) : cntA g a m ≤ m := by
  induction m with
  | zero => exact Nat.le_refl _
  | succ m ih =>
    show cntA g a m + _ ≤ _
    split <;> omega
/-- The best of the first m, and its number. -/
noncomputable def bestS (g : List (List Int)) (b : Nat) : Nat → Int × Int
  | 0 => (-1, -1)
  | a + 1 => if a ≠ b ∧ abv g b a = true then (if (bestS g b a).1 < (cntA g a g.length : Int) then ((cntA g a g.length : Int), (a : Int)) else bestS g b a) else bestS g b a
theorem bestS_rng (g : List (List Int)) (b m : Nat) : -1 ≤ (bestS g b m).1 ∧ (bestS g b m).1 ≤ g.length ∧ -1 ≤ (bestS g b m).2 ∧ (bestS g b m).2 ≤ m := by
  induction m with
  | zero => simp [bestS]
  | succ a ih =>
    have := cntA_le g a g.length
    unfold bestS
    split
    · split
      · simp; omega
      · omega
    · omega
noncomputable def idR (g : List (List Int)) (b : Nat) : Int := (bestS g b g.length).2
/-- The row of answers, in the midst of its making. -/
noncomputable def idM (g : List (List Int)) (b : Nat) (o : Int) : List Int := (List.range g.length).map fun v => if v < b then idR g v else if v = b then o else 0
theorem idM_len (g : List (List Int)) (b : Nat) (o : Int) : (idM g b o).length = g.length := by simp [idM]
theorem idM_zero (g : List (List Int)) : idM g 0 0 = List.replicate g.length 0 := by
  apply List.ext_getElem
  · simp [idM]
  · intro i h1 h2; simp [idM]
theorem idM_set (g : List (List Int)) (b : Nat) (o o' : Int) (_h : b < g.length) : (idM g b o).set b o' = idM g b o' := by
  apply List.ext_getElem
  · simp [idM]
  · intro i h1 h2
    simp only [idM, List.getElem_set, List.getElem_map, List.getElem_range]
    by_cases e : b = i
    · subst e; simp
    · rw [if_neg e]
      have : ¬ i = b := fun e2 => e e2.symm
      simp [this]
theorem idM_next (g : List (List Int)) (b : Nat) : idM g b (idR g b) = idM g (b + 1) 0 := by
  unfold idM
  refine List.map_congr_left (fun v _ => ?_)
  by_cases h1 : v < b
  · rw [if_pos h1, if_pos (by omega)]
  · rw [if_neg h1]
    by_cases h2 : v = b
    · subst h2; simp
    · rw [if_neg h2, if_neg (by omega)]; simp
theorem rowM_get (g : List (List Int)) (b x : Nat) (hx : x < g.length) : (rowM g g.length 0 b).getD x false = abv g b x := by
  simp [rowM, List.getD_eq_getElem?_getD, hx]
theorem TabAt.val {w : World} {B gb wb : Nat} {g : List (List Int)} (h : TabAt w B gb wb g.length (fun b => rowM g g.length 0 b)) (b x : Nat) (hb : b < g.length) (hx : x < g.length) : w.cell? ⟨wb + b, x, none⟩ = some (.bool (abv g b x)) := by
  have := h.cell b x hb (by rw [rowM_len]; exact hx)
  rw [rowM_get g b x hx] at this
  exact this

set_option maxRecDepth 100000 in
set_option maxHeartbeats 4000000 in
theorem ridoms_any (v : Value) (g : List (List Int)) (w : World) (h : RowsAt w v g) (hn : g.length ≤ 1000) (hr : ∀ l ∈ g, l.length ≤ 100000) :
    Calls Tryd.prog 19 #[v] w fun e w' => ∃ ob, e = .returned (.slice (some ⟨ob, 0, none⟩) g.length g.length) ∧ w'.heap[ob]? = some (.cells (icells (idM g g.length 0)) 3) ∧ w.heap.size ≤ ob ∧ Upd [] w w' := by
  have HAB := Lib.hid (rabove_any v g w h hn hr)
  have hmk := fun W => make_intsN W g.length (by omega)
  obtain ⟨a, cap, rfl, hl, hrow⟩ := h
  clear hrow hr hl
  go_enter Tryd.func19, Tryd.ntmps19
  go_wp2_with fail
  refine HAB.out.mono ?_
  rintro e w1 ⟨gb, wb, rfl, hT, hu1⟩
  have HT1 := Lib.hid hT
  have HU1 := Lib.hid hu1
  have hs1 := hu1.size
  have HO := Lib.hid (heap_alloc_new w1 (.cells (icells (List.replicate g.length 0)) 3))
  have HUA := Lib.hid ((Upd.refl [] w1).alloc (.cells (icells (List.replicate g.length 0)) 3))
  clear hT hu1
  go_wp2_with fail
  generalize w1.alloc (.cells (icells (List.replicate g.length 0)) 3) = w2 at HO HUA ⊢
  have HTV : Hid (∀ wr, Upd [] w1 wr → TabAt wr w.heap.size gb wb g.length (fun b => rowM g g.length 0 b)) := fun wr hU => HT1.out.upd hU (by simp)
  go_loopw [5] (fun iv wr => ∃ b : Nat, b ≤ g.length ∧ iv = .int .i64 (b : Int) ∧ Hid (wr.heap[w1.heap.size]? = some (.cells (icells (idM g b 0)) 3)) ∧ Hid (Upd [] w1 wr)) (fun iv _ => g.length - (intOf iv).toNat)
  case atStart => exact ⟨0, by omega, rfl, by rw [idM_zero]; exact HO.out, HUA.out⟩
  case round =>
    clear HO HUA
    obtain ⟨b, hb, rfl, HB, HU⟩ := hrel
    obtain ⟨wo, rfl⟩ : ∃ wo : World, wo = wr := ⟨_, rfl⟩
    by_cases hbn : b < g.length
    · have hcb := cell_of HB.out b
      rw [icells_get _ _ (by rw [idM_len]; exact hbn)] at hcb
      have hfb := froz_of HB.out b
      have hst := heap_setCell HB.out b (.int .i64 (-1))
      rw [icells_set, idM_set g b 0 (-1) hbn] at hst
      have HST := Lib.hid hst
      have HUS := Lib.hid (HU.out.setCell (p := ⟨w1.heap.size, b, none⟩) (.inr (Nat.le_refl _)) (.int .i64 (-1)))
      clear hst
      go_wp2_with fail
      generalize wo.setCell ⟨w1.heap.size, b, none⟩ (.int .i64 (-1)) = w3 at HST HUS ⊢
      clear hcb hfb
      go_loopw [6, 7] (fun bv jv wr => ∃ a : Nat, a ≤ g.length ∧ bv = .int .i64 (bestS g b a).1 ∧ jv = .int .i64 (a : Int) ∧ Hid (wr.heap[w1.heap.size]? = some (.cells (icells (idM g b (bestS g b a).2)) 3)) ∧ Hid (Upd [] w1 wr)) (fun _ jv _ => g.length - (intOf jv).toNat)
      case atStart => exact ⟨0, by omega, rfl, rfl, HST.out, HUS.out⟩
      case round =>
        clear HST HUS
        obtain ⟨x, hx, rfl, rfl, HB, HU⟩ := hrel
        obtain ⟨wq, rfl⟩ : ∃ wq : World, wq = wr := ⟨_, rfl⟩
        have hrg := bestS_rng g b x
        by_cases hxn : x < g.length
        · have hTq := HTV.out wq HU.out
          have hhb := hTq.head b hbn
          have hvb := hTq.val b x hbn hxn
          have HBS : Hid (bestS g b (x + 1) = if x ≠ b ∧ abv g b x = true then (if (bestS g b x).1 < (cntA g x g.length : Int) then ((cntA g x g.length : Int), (x : Int)) else bestS g b x) else bestS g b x) := (rfl : _ = _)
          have HHX := Lib.hid (hTq.head x hxn)
          clear hTq
          by_cases e : x = b
          · have d0 : ((x : Int) == (b : Int)) = true := by rw [beq_iff_eq]; omega
            have HB2 := HBS.out
            rw [if_neg (fun h => h.1 e)] at HB2
            have HB2 := Lib.hid HB2
            clear HBS e
            generalize bestS g b x = s at *
            obtain ⟨s1, s2⟩ := s
            go_wp2_with fail
            go_roundw
            case rel => exact ⟨x + 1, by omega, by rw [HB2.out], by go_num, by rw [HB2.out]; exact HB, HU⟩
            case measure => simp [intOf]; omega
          · have d0 : ((x : Int) == (b : Int)) = false := by rw [beq_eq_false_iff_ne]; omega
            cases hab : abv g b x with
            | false =>
              rw [hab] at hvb
              have HB2 := HBS.out
              rw [if_neg (fun h => by rw [hab] at h; exact absurd h.2 (by decide))] at HB2
              have HB2 := Lib.hid HB2
              clear HBS e hab
              generalize bestS g b x = s at *
              obtain ⟨s1, s2⟩ := s
              go_wp2_with fail
              go_roundw
              case rel => exact ⟨x + 1, by omega, by rw [HB2.out], by go_num, by rw [HB2.out]; exact HB, HU⟩
              case measure => simp [intOf]; omega
            | true =>
              rw [hab] at hvb
              have HB2 := HBS.out
              rw [if_pos ⟨e, hab⟩] at HB2
              have HB2 := Lib.hid HB2
              have HB1 := HB
              clear HBS e hab
              generalize hbs : bestS g b x = s at HB2 HB HB1 hrg ⊢
              clear hbs
              obtain ⟨s1, s2⟩ := s
              simp only at HB2 HB HB1 hrg ⊢
              go_wp2_with fail
              go_loopw [8, 9] (fun nv cv wr => ∃ c : Nat, c ≤ g.length ∧ nv = .int .i64 (cntA g x c : Int) ∧ cv = .int .i64 (c : Int) ∧ wr = wq) (fun _ cv _ => g.length - (intOf cv).toNat)
              case atStart => exact ⟨0, by omega, rfl, rfl, rfl⟩
              case round =>
                obtain ⟨c, hc, rfl, rfl, e⟩ := hrel
                subst e
                have hcl := cntA_le g x c
                by_cases hcn : c < g.length
                · have hhx := HHX.out
                  have hvx := (HTV.out wr HU.out).val x c hxn hcn
                  have HCS : Hid (cntA g x (c + 1) = cntA g x c + if abv g x c then 1 else 0) := (rfl : _ = _)
                  cases hxc : abv g x c with
                  | false =>
                    rw [hxc] at hvx HCS
                    clear hxc
                    generalize cntA g x c = q at *
                    go_wp2_with fail
                    go_roundw
                    case rel => exact ⟨c + 1, by omega, by rw [HCS.out]; simp, by go_num, by trivial⟩
                    case measure => simp [intOf]; omega
                  | true =>
                    rw [hxc] at hvx HCS
                    clear hxc
                    generalize cntA g x c = q at *
                    go_wp2_with fail
                    go_roundw
                    case rel => exact ⟨c + 1, by omega, by rw [HCS.out]; simp, by go_num, by trivial⟩
                    case measure => simp [intOf]; omega
                · obtain rfl : c = g.length := by omega
                  generalize cntA g x g.length = q at *
                  by_cases hlt : s1 < (q : Int)
                  · have d1 : decide (s1 < (q : Int)) = true := decide_eq_true hlt
                    have d1' : decide ((q : Int) > s1) = true := decide_eq_true hlt
                    have HB3 := HB2.out
                    rw [if_pos hlt] at HB3
                    have HB3 := Lib.hid HB3
                    have hcb := cell_of HB1.out b
                    rw [icells_get _ _ (by rw [idM_len]; exact hbn)] at hcb
                    have hfb := froz_of HB1.out b
                    have hst := heap_setCell HB1.out b (.int .i64 (x : Int))
                    rw [icells_set, idM_set g b _ (x : Int) hbn] at hst
                    have HST := Lib.hid hst
                    have HUS := Lib.hid (HU.out.setCell (p := ⟨w1.heap.size, b, none⟩) (.inr (Nat.le_refl _)) (.int .i64 (x : Int)))
                    clear hst HB2 hlt
                    go_wp2_with fail
                    go_roundw
                    case rel => exact ⟨x + 1, by omega, by rw [HB3.out], by go_num, by rw [HB3.out]; exact HST.out, HUS.out⟩
                    case measure => simp [intOf]; omega
                  · have d1 : decide (s1 < (q : Int)) = false := decide_eq_false hlt
                    have d1' : decide ((q : Int) > s1) = false := decide_eq_false hlt
                    have HB3 := HB2.out
                    rw [if_neg hlt] at HB3
                    have HB3 := Lib.hid HB3
                    clear HB2 hlt
                    go_wp2_with fail
                    go_roundw
                    case rel => exact ⟨x + 1, by omega, by rw [HB3.out], by go_num, by rw [HB3.out]; exact HB1.out, HU.out⟩
                    case measure => simp [intOf]; omega
        · obtain rfl : x = g.length := by omega
          have hB := HB.out
          have e : (bestS g b g.length).2 = idR g b := rfl
          rw [e, idM_next] at hB
          have HBN := Lib.hid hB
          clear hB e HB
          go_wp2_with fail
          go_roundw
          case rel => exact ⟨b + 1, by omega, by go_num, HBN.out, HU.out⟩
          case measure => simp [intOf]; omega
    · obtain rfl : b = g.length := by omega
      go_wp2_with fail
      go_ret
      exact ⟨_, rfl, HB.out, hs1, HU1.out.trans HU.out⟩

end Go.Proofs.YtjjkliifpdcliaaDoor
