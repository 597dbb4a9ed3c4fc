/- FlowGraphs: the law's walk. -/
import Derived.Test.YtagjchgpcekmnaaDoorFirst5
import Derived.Test.YtagjchgpcekmnaaDoorLight5
import Derived.Test.YtagjchgpcekmnaaDoorRWalk
import Derived.Test.YtagjchgpcekmnaaDoorRPreds
import Derived.Test.YtagjchgpcekmnaaDoorOrdL
namespace Go.Proofs.YtagjchgpcekmnaaDoor
open Go.RowKit

theorem post_lt (g : List (List Int)) : ∀ k ∈ (dfs (cleanG g)).post, k < g.length := fun k hk => by
  by_cases h : cleanG g = []
  · rw [h] at hk; simp [dfs] at hk
  · obtain ⟨hI, _⟩ := dfs_inv (cleanG_clean g) h
    have := hI.lt (i := k) (by unfold Dfs.ord; simp [hk])
    rw [cleanG_len] at this
    exact this
theorem reach_eq (g : List (List Int)) (i : Nat) (hi : i < g.length) : decide ((dfs (cleanG g)).st.getD i 0 = 2) = decide (i ∈ (dfs (cleanG g)).post.reverse) := by
  have h : cleanG g ≠ [] := fun e => by have := cleanG_len g; rw [e] at this; simp at this; omega
  obtain ⟨hI, _⟩ := dfs_inv (cleanG_clean g) h
  refine decide_eq_decide.2 ?_
  rw [List.mem_reverse]
  exact (hI.post2 i).symm
theorem memT_step (n : Nat) (o : List Nat) (m : Nat) (h : m < o.length) : (tabB n (fun k => decide (k ∈ o.take m))).set (o.getD m 0) true = tabB n (fun k => decide (k ∈ o.take (m + 1))) := by
  rw [tabB_set, take_snoc o m 0 h]
  refine tabB_congr _ _ _ (fun k => ?_)
  rw [Bool.eq_iff_iff]
  simp

theorem wk_loops {w : World} {G sb : Nat} {pv bv : Value} {s : Dfs} {bs : List Nat} (h : WkEnd w G sb pv bv s bs) : RowsZ w bv (s.back.map pairL) := by
  obtain ⟨p, c, rfl, hm⟩ := row_pl4' h.back
  have hbl := h.bln
  refine ⟨p, c, by simp [hbl], by simp; omega, fun i hi => ?_⟩
  have hi2 : i < bs.length := by simp at hi; omega
  rcases h.back.2 with ⟨h1, h2⟩ | ⟨gk, ck, _, h1, _⟩
  · omega
  · injection h1 with h1 _ _
    subst h1
    have h3 := h.back.cells (g := gk) rfl i (pairV (bs.getD i 0)) (by
      rw [List.getElem?_map, List.getElem?_eq_getElem hi2, List.getD_eq_getElem?_getD, List.getElem?_eq_getElem hi2]; rfl)
    rw [Addr.add_lit, Nat.zero_add] at h3
    refine ⟨gk, _, bs.getD i 0, rfl, h3, ?_⟩
    have hb : i < s.back.length := by omega
    have e : (s.back.map pairL).getD i [] = pairL (s.back.getD i (0, 0)) := by simp [List.getD_eq_getElem?_getD, hb]
    rw [e]
    refine ⟨.inr ⟨2, rfl⟩, fun q hq => ?_⟩
    rw [cell_of (h.pair i hi2).1]
    exact icells_get _ _ hq

set_option maxRecDepth 100000 in
set_option maxHeartbeats 8000000 in
theorem graphsW_any (v : Value) (g : List (List Int)) (w : World) (h : RowsAt w v g) (hT : TzAt w) :
    Calls Tryd.prog 8 #[v] w fun e w' => e = .returned (.bool true) ∧ Upd [] w w' := by
  have HR := Lib.hid h
  have HT := Lib.hid hT
  obtain ⟨a, cap, rfl, hl, _⟩ := h
  unfold maxLen at hl
  clear hT
  go_enter Tryd.func8, Tryd.ntmps8
  go_wp2_with fail
  refine (first5_any w HT.out).mono ?_
  rintro e w1 ⟨rfl, hU1⟩
  have HU1 := Lib.hid hU1
  clear hU1
  go_wp2_with fail
  refine (light5_any _ g w1 (HR.out.upd HU1.out)).mono ?_
  rintro e w2 ⟨b, rfl, hb, hU2⟩
  have HU2 := Lib.hid (HU1.out.trans hU2)
  clear hU2
  cases b with
  | false =>
    go_wp2_with fail
    go_ret
    exact ⟨rfl, HU2.out⟩
  | true =>
    obtain ⟨hg, hgl⟩ := hb rfl
    have HGL : Hid (∀ l ∈ g, l.length ≤ 100000) := fun l hl => by have := hgl l hl; omega
    have HLT := Lib.hid (post_lt g)
    have HRE := Lib.hid (fun i hi => reach_eq g i hi)
    have hPL := post_lenG g
    have HLL : Hid (∀ l ∈ intsL (predsL (cleanG g)), l.length ≤ 1000000) := fun l hl => by
      unfold intsL at hl
      rw [List.mem_map] at hl
      obtain ⟨m, hm, rfl⟩ := hl
      have := predsL_bd (cleanG g) m hm
      rw [cleanG_len] at this
      rw [ints_len]; omega
    have HLN : Hid ((intsL (predsL (cleanG g))).length = g.length) := by show _ = _; rw [intsL_len, predsL_len, cleanG_len]
    clear hb hgl
    go_wp2_with fail
    refine (rwalk_any _ g w2 (HR.out.upd HU2.out) (by omega) HGL.out).mono ?_
    rintro e w3 ⟨u, bv, rfl, hO, hB, hU3⟩
    obtain ⟨up, uc, hu⟩ := hO.shape
    subst hu
    rw [ints_len, List.length_reverse] at hO ⊢
    have HO := Lib.hid hO
    have HB := Lib.hid hB
    have HU3 := Lib.hid (HU2.out.trans hU3)
    have hmk := make_bools w3 g.length (by omega)
    have hbx := heap_alloc_new w3 (.cells (bcells (List.replicate g.length false)) 4)
    have hu4 := (Upd.refl [] w3).alloc (.cells (bcells (List.replicate g.length false)) 4)
    have HBX := Lib.hid hbx
    have HU4 := Lib.hid hu4
    have hz4 := World.size_alloc w3 (.cells (bcells (List.replicate g.length false)) 4)
    clear hO hB hU3 hbx hu4
    generalize hds : dfs (cleanG g) = s at HO HB HLT HRE hPL ⊢
    have HDS := Lib.hid hds
    clear hds
    go_wp2_with fail
    generalize hw4 : w3.alloc (.cells (bcells (List.replicate g.length false)) 4) = w4 at HBX HU4 hz4 ⊢
    clear hw4 hmk
    have HPR : Hid (s.post.reverse.length = s.post.length) := List.length_reverse
    go_loopw [7] (fun iv wr => ∃ m : Nat, m ≤ s.post.length ∧ iv = .int .i64 m ∧ Hid (wr.heap[w3.heap.size]? = some (.cells (bcells (tabB g.length (fun k => decide (k ∈ s.post.reverse.take m)))) 4)) ∧ Hid (Upd [w3.heap.size] w4 wr)) (fun iv _ => s.post.length - (intOf iv).toNat)
    case atStart =>
      refine ⟨0, by omega, rfl, ?_, Upd.refl _ _⟩
      have : tabB g.length (fun k => decide (k ∈ s.post.reverse.take 0)) = List.replicate g.length false := by
        unfold tabB
        apply List.ext_getElem
        · simp
        · intro i h1 h2; simp
      rw [this]
      exact HBX
    case round =>
      obtain ⟨m, hm, rfl, HB2, HU⟩ := hrel
      obtain ⟨wo, rfl⟩ : ∃ wo : World, wo = wr := ⟨_, rfl⟩
      by_cases hlt : m < s.post.length
      · have hmr : m < s.post.reverse.length := by rw [HPR.out]; exact hlt
        have hO2 : OwnI w3 w2.heap.size 3 (.slice up (ints s.post.reverse).length uc) (ints s.post.reverse) := by rw [ints_len, HPR.out]; exact HO.out
        obtain ⟨rb, rc, e1, _, hrb, hy0⟩ := hO2.nth m (by rw [ints_len]; exact hmr)
        injection e1 with e1 _ _
        subst e1
        rw [ints_get _ _ hmr] at hy0
        have hy := HU.out.cell (HU4.out.cell hy0 (by simp)) (by simp; omega)
        have hxn : s.post.reverse.getD m 0 < g.length := HLT.out _ (by
          rw [List.getD_eq_getElem?_getD, List.getElem?_eq_getElem hmr]
          exact List.mem_reverse.1 (List.getElem_mem hmr))
        have HST := Lib.hid (memT_step g.length s.post.reverse m hmr)
        have hfz := froz_of HB2.out (s.post.reverse.getD m 0)
        have hcc : wo.cell? ⟨w3.heap.size, s.post.reverse.getD m 0, none⟩ = some (.bool (decide (s.post.reverse.getD m 0 ∈ s.post.reverse.take m))) := by
          rw [cell_of HB2.out, bcells_get _ _ (by rw [tabB_len]; exact hxn), tabB_get _ _ _ hxn]
        clear hO2 hy0 hrb
        generalize s.post.reverse.getD m 0 = x at hy hxn HST hfz hcc
        go_wp2_with fail
        go_roundw
        case rel =>
          refine ⟨m + 1, by omega, by go_num, ?_, HU.out.setCell (.inl (by simp)) _⟩
          rw [← HST.out]
          show _ = _
          rw [heap_setCell HB2.out, bcells_set]
        case measure => simp [intOf]; omega
      · obtain rfl : m = s.post.length := by omega
        have HU5 : Hid (Upd [] w wo) := (HU3.out.trans HU4.out).trans' HU.out (fun q hq hlt2 => by have := HU3.out.size; simp at hq; omega)
        have HE : Hid (∀ W, Upd [] wo W → ∀ p v, w3.cell? p = some v → W.cell? p = some v) := fun W hW p v hp => hW.cell (HU.out.cell (HU4.out.cell hp (by simp)) (by simp; have := World.block_lt_of_cell? w3 p hp; omega)) (by simp)
        have HRB : Hid (∀ W, Upd [] wo W → ∀ i, i < g.length → W.cell? ⟨w3.heap.size, i, none⟩ = some (.bool (decide (s.st.getD i 0 = 2)))) := fun W hW i hi => by
          refine hW.cell ?_ (by simp)
          rw [cell_of HB2.out, bcells_get _ _ (by rw [tabB_len]; exact hi), tabB_get _ _ _ hi, HRE.out i hi, show s.post.reverse.take s.post.length = s.post.reverse by rw [← List.length_reverse, List.take_length]]
        clear HB2 HU HBX
        go_wp2_with fail
        refine (reach_any _ g wo (HR.out.upd HU5.out) (by omega) HGL.out).mono ?_
        rintro e w6 ⟨rb, rfl, hR, hrb, hU6⟩
        rw [HDS.out] at hR
        have hra : ∀ i, i < g.length → w6.cell? ⟨rb, i, none⟩ = some (.bool (decide (s.st.getD i 0 = 2))) := fun i hi => by
          rw [cell_of hR, bcells_get _ _ (by rw [fillB_len]; exact hi), fillB_get _ _ _ _ hi, if_pos hi]
        have HRA := Lib.hid hra
        have hrb2 := HRB.out w6 hU6
        have HRB6 := Lib.hid hrb2
        have HU6 := Lib.hid hU6
        clear hR hra hrb2 hU6 HRB
        go_wp2_with fail
        refine (sbools_eq rb w3.heap.size g.length _ _ (fun i => decide (s.st.getD i 0 = 2)) w6 HRA.out HRB6.out (by omega)).mono ?_
        rintro e w7 ⟨rfl, hU7⟩
        have HU7 := Lib.hid (HU6.out.trans hU7)
        clear hU7 HU6 HRA HRB6
        go_wp2_with fail
        refine (order_any _ g w7 (HR.out.upd (HU5.out.trans HU7.out)) (by omega) HGL.out).mono ?_
        rintro e w8 ⟨u2, rfl, hO2, hU8⟩
        rw [HDS.out] at hO2
        obtain ⟨b2, hi2, _⟩ := hO2.ints
        obtain ⟨u2p, u2c, rfl⟩ := hO2.shape
        have HI2 := Lib.hid hi2
        have HU8 := Lib.hid (HU7.out.trans hU8)
        have hO3 : OwnI w3 w2.heap.size 3 (.slice up s.post.length uc) (ints s.post.reverse) := HO.out
        obtain ⟨b3, hi3, _⟩ := hO3.ints
        have hi3' : IntsV w8 (.slice up s.post.length uc) b3 (ints s.post.reverse) := ⟨hi3.1, fun i hi => HE.out w8 HU8.out _ _ (hi3.2 i hi)⟩
        have HI3 := Lib.hid hi3'
        have hol : (ints s.post.reverse).length ≤ 1000000 := by rw [ints_len, HPR.out]; omega
        clear hO2 hi2 hU8 hO3 hi3 hi3' HU7
        go_wp2_with fail
        refine (sints _ _ b2 b3 (ints s.post.reverse) (ints s.post.reverse) w8 HI2.out HI3.out hol).mono ?_
        rintro e w9 ⟨rfl, hU9⟩
        have HU9 := Lib.hid (HU8.out.trans hU9)
        clear hU9 HU8 HI2 HI3 hol
        rw [show decide (ints s.post.reverse = ints s.post.reverse) = true from decide_eq_true rfl]
        go_wp2_with fail
        refine (preds_any _ g w9 (HR.out.upd (HU5.out.trans HU9.out)) (by omega) HGL.out).mono ?_
        rintro e w10 ⟨G1, B1, gb1, vs1, rfl, hP1, _, hU10⟩
        have hz1 := hP1.rowsZ (by rw [HLN.out]; unfold maxLen; omega) g.length
        rw [HLN.out] at hz1
        have HZ1 := Lib.hid hz1
        have HU10 := Lib.hid (HU9.out.trans hU10)
        clear hP1 hz1 hU10 HU9
        go_wp2_with fail
        refine (rpreds_any _ g w10 (HR.out.upd (HU5.out.trans HU10.out)) (by omega) HGL.out).mono ?_
        rintro e w11 ⟨G2, B2, gb2, vs2, rfl, hP2, _, hU11⟩
        have hz2 := hP2.rowsZ (by rw [HLN.out]; unfold maxLen; omega) g.length
        rw [HLN.out] at hz2
        have HZ2 := Lib.hid hz2
        have HZ1' := Lib.hid (HZ1.out.upd hU11)
        have HU11 := Lib.hid (HU10.out.trans hU11)
        clear hP2 hz2 hU11 HU10 HZ1
        go_wp2_with fail
        refine (slists_eq _ _ _ w11 HZ1'.out HZ2.out HLL.out).mono ?_
        rintro e w12 ⟨rfl, hU12⟩
        have HU12 := Lib.hid (HU11.out.trans hU12)
        clear hU12 HU11 HZ1' HZ2
        go_wp2_with fail
        refine (loops_any _ g w12 (HR.out.upd (HU5.out.trans HU12.out)) (by omega) HGL.out).mono ?_
        rintro e w13 ⟨sb, pv, bv2, bs2, rfl, hE2, hU13⟩
        rw [HDS.out] at hE2
        obtain ⟨p2, c2, rfl, _⟩ := row_pl4' hE2.back
        have HZ3 := Lib.hid (wk_loops hE2)
        have HU13 := Lib.hid (HU12.out.trans hU13)
        have HZ4 : Hid (RowsZ w13 bv (s.back.map pairL)) := by
          obtain ⟨p, c, h1, h2, h3⟩ := HB.out
          refine ⟨p, c, h1, h2, fun i hi => ?_⟩
          obtain ⟨gb, rv, b, h4, h5, h6⟩ := h3 i hi
          exact ⟨gb, rv, b, h4, HE.out w13 HU13.out _ _ h5, ⟨h6.1, fun q hq => HE.out w13 HU13.out _ _ (h6.2 q hq)⟩⟩
        have HPL : Hid (∀ l ∈ s.back.map pairL, l.length ≤ 1000000) := fun l hl => by
          rw [List.mem_map] at hl
          obtain ⟨q, _, rfl⟩ := hl
          simp [pairL]
        clear hE2 hU13 HU12
        go_wp2_with fail
        refine (slists_eq _ _ _ w13 HZ3.out HZ4.out HPL.out).mono ?_
        rintro e w14 ⟨rfl, hU14⟩
        go_wp2_with fail
        go_ret
        exact ⟨rfl, (HU5.out.trans HU13.out).trans hU14⟩

end Go.Proofs.YtagjchgpcekmnaaDoor
