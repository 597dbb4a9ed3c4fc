/- The chapter's examples of dom: 'first' answers true. -/
import Derived.Test.YtjjkliifpdcliaaDoorDomP
import Derived.Test.YtjjkliifpdcliaaDoorSameI
namespace Go.Proofs.YtjjkliifpdcliaaDoor
open Go.RowKit

theorem row_litD (w : World) (xs : List Int) (T : TypeId) {cs : Array Value} (hcs : cs = icells xs) (hl : xs.length ≤ 1000) (hx : ∀ j, j < xs.length → -9223372036854775808 ≤ xs.getD j 0 ∧ xs.getD j 0 ≤ 9223372036854775807) :
    RowIn (w.alloc (.cells cs T)) (.slice (some ⟨w.heap.size, 0, none⟩) xs.length xs.length) xs := by
  subst hcs
  refine ⟨_, _, rfl, by omega, fun j hj => ⟨_, 0, rfl, hx j hj, ?_⟩⟩
  rw [Nat.zero_add, cell_of (heap_alloc_new w _), icells_get xs j hj]

def d1G : List (List Int) := [[1, 2], [3], [3], []]
def d2G : List (List Int) := [[1], [0, 1]]
theorem d1C : cleanG d1G = [[1, 2], [3], [3], []] := by decide
theorem d2C : cleanG d2G = [[1], [0, 1]] := by decide
theorem d1R : rpo (cleanG d1G) = [0, 2, 1, 3] := by decide
theorem d2R : rpo (cleanG d2G) = [0, 1] := by decide
theorem d1E (q p : Nat) (h : Ed (cleanG d1G) q p) : (q = 0 ∧ (p = 1 ∨ p = 2)) ∨ (q = 1 ∧ p = 3) ∨ (q = 2 ∧ p = 3) := by
  unfold Ed at h
  rw [d1C] at h
  match q, h with
  | 0, h => simp at h; omega
  | 1, h => simp at h; omega
  | 2, h => simp at h; omega
  | 3, h => simp at h
  | q + 4, h => simp at h
theorem d2E (q p : Nat) (h : Ed (cleanG d2G) q p) : (q = 0 ∧ p = 1) ∨ (q = 1 ∧ (p = 0 ∨ p = 1)) := by
  unfold Ed at h
  rw [d2C] at h
  match q, h with
  | 0, h => simp at h; omega
  | 1, h => simp at h; omega
  | q + 2, h => simp at h
theorem anc_no {f : Nat → Nat} {a : Nat} (h : a ≠ 0) : ¬ Anc f a 0 := fun k => (k.of_ne h).1 rfl

theorem d1_vals {f : Nat → Nat} (ex : Exact (Rd (cleanG d1G)) (Ed (cleanG d1G)) (posn (cleanG d1G)) f) : idomV (cleanG d1G) f 3 = 0 ∧ depV (cleanG d1G) f 3 = 1 ∧ fronV (cleanG d1G) f 1 = [3] := by
  have hr : ∀ v, Rd (cleanG d1G) v ↔ v = 0 ∨ v = 2 ∨ v = 1 ∨ v = 3 := fun v => by unfold Rd; rw [d1R]; simp
  have h3 : Rd (cleanG d1G) 3 := (hr 3).2 (by omega)
  have hf3 : f 3 = 0 := by
    have h1 := (hr _).1 (ex.tr.up 3 h3 (by omega))
    have h2 := ex.tr.lt 3 h3 (by omega)
    have h4 := (ex.anc 3 h3 (f 3)).1 (.up 3 (by omega) .refl)
    rcases h1 with e | e | e | e
    · exact e
    · rw [e] at h4
      exact absurd (.step 1 3 (.step 0 1 (.zero (by omega)) (by unfold Ed; rw [d1C]; simp) (by omega)) (by unfold Ed; rw [d1C]; simp) (by omega)) h4
    · rw [e] at h4
      exact absurd (.step 2 3 (.step 0 2 (.zero (by omega)) (by unfold Ed; rw [d1C]; simp) (by omega)) (by unfold Ed; rw [d1C]; simp) (by omega)) h4
    · rw [e] at h2; omega
  have ht : thereP (cleanG d1G) 3 := ⟨by omega, h3⟩
  obtain ⟨par, hg⟩ := dfs_dg (cleanG_clean d1G) (by rw [d1C]; simp)
  refine ⟨?_, ?_, ?_⟩
  · unfold idomV
    rw [if_pos ⟨ht, by omega⟩]
    show ((f 3 : Nat) : Int) = 0
    rw [hf3]; rfl
  · unfold depV
    rw [if_pos ht]
    show ((dep _ f 3 : Nat) : Int) = 1
    rw [dep_step hg ex.tr h3 (by omega), hf3, dep_zero]; rfl
  · have hl : (cleanG d1G).length = 4 := by rw [d1C]; rfl
    unfold fronV
    rw [hl, if_pos ⟨by omega, by omega⟩]
    show ints (fronL _ f 1) = [3]
    have n0 : ¬ DFp (cleanG d1G) f 1 0 := fun ⟨_, q, _, he, _⟩ => by have := d1E q 0 he; omega
    have n1 : ¬ DFp (cleanG d1G) f 1 1 := fun ⟨_, q, _, he, ha, _⟩ => by
      have := d1E q 1 he
      obtain rfl : q = 0 := by omega
      exact anc_no (by omega) ha
    have n2 : ¬ DFp (cleanG d1G) f 1 2 := fun ⟨_, q, _, he, ha, _⟩ => by
      have := d1E q 2 he
      obtain rfl : q = 0 := by omega
      exact anc_no (by omega) ha
    have n3 : DFp (cleanG d1G) f 1 3 := ⟨h3, 1, (hr 1).2 (by omega), by unfold Ed; rw [d1C]; simp, .refl, fun h => by
      have := h.2
      rw [hf3] at this
      exact anc_no (by omega) this⟩
    have hrng : List.range 4 = [0, 1, 2, 3] := rfl
    have : fronL (cleanG d1G) f 1 = [3] := by
      unfold fronL
      rw [hl, hrng]
      simp [n0, n1, n2, n3]
    rw [this]; rfl

theorem d2_vals {f : Nat → Nat} (ex : Exact (Rd (cleanG d2G)) (Ed (cleanG d2G)) (posn (cleanG d2G)) f) : fronV (cleanG d2G) f 1 = [0, 1] ∧ fronV (cleanG d2G) f 0 = [0] := by
  have hr : ∀ v, Rd (cleanG d2G) v ↔ v = 0 ∨ v = 1 := fun v => by unfold Rd; rw [d2R]; simp
  have h1 : Rd (cleanG d2G) 1 := (hr 1).2 (by omega)
  have h0 : Rd (cleanG d2G) 0 := (hr 0).2 (by omega)
  have hf1 : f 1 = 0 := by
    have e1 := (hr _).1 (ex.tr.up 1 h1 (by omega))
    have e2 := ex.tr.lt 1 h1 (by omega)
    rcases e1 with e | e
    · exact e
    · rw [e] at e2; omega
  have hl : (cleanG d2G).length = 2 := by rw [d2C]; rfl
  have hrng : List.range 2 = [0, 1] := rfl
  have ha : Anc f 0 1 := .up 1 (by omega) (by rw [hf1]; exact .refl)
  have e10 : Ed (cleanG d2G) 1 0 := by unfold Ed; rw [d2C]; simp
  have e11 : Ed (cleanG d2G) 1 1 := by unfold Ed; rw [d2C]; simp
  constructor
  · unfold fronV
    rw [hl, if_pos ⟨by omega, by omega⟩]
    show ints (fronL _ f 1) = [0, 1]
    have n0 : DFp (cleanG d2G) f 1 0 := ⟨h0, 1, h1, e10, .refl, fun h => h.1 rfl⟩
    have n1 : DFp (cleanG d2G) f 1 1 := ⟨h1, 1, h1, e11, .refl, fun h => by
      have := h.2
      rw [hf1] at this
      exact anc_no (by omega) this⟩
    have : fronL (cleanG d2G) f 1 = [0, 1] := by
      unfold fronL
      rw [hl, hrng]
      simp [n0, n1]
    rw [this]; rfl
  · unfold fronV
    rw [hl, if_pos ⟨by omega, by omega⟩]
    show ints (fronL _ f 0) = [0]
    have n0 : DFp (cleanG d2G) f 0 0 := ⟨h0, 1, h1, e10, ha, fun h => h.1 rfl⟩
    have n1 : ¬ DFp (cleanG d2G) f 0 1 := fun ⟨_, q, _, _, _, hc⟩ => hc ⟨by omega, by rw [hf1]; exact .refl⟩
    have : fronL (cleanG d2G) f 0 = [0] := by
      unfold fronL
      rw [hl, hrng]
      simp [n0, n1]
    rw [this]; rfl

theorem d1_rows (w : World) (T U : TypeId) : RowsAt ((((w.alloc (.cells #[.int .i64 1, .int .i64 2] T)).alloc (.cells #[.int .i64 3] T)).alloc (.cells #[.int .i64 3] T)).alloc
      (.cells #[.slice (some ⟨w.heap.size, 0, none⟩) 2 2, .slice (some ⟨w.heap.size + 1, 0, none⟩) 1 1, .slice (some ⟨w.heap.size + 1 + 1, 0, none⟩) 1 1, .slice none 0 0] U))
    (.slice (some ⟨w.heap.size + 1 + 1 + 1, 0, none⟩) d1G.length 4) d1G := by
  refine ⟨_, 4, rfl, by decide, fun i hi => ⟨w.heap.size + 1 + 1 + 1, 0, ?_⟩⟩
  have r0 := row_litD w [1, 2] T (cs := #[.int .i64 1, .int .i64 2]) rfl (by decide) (by decide)
  have r1 := row_litD (w.alloc (.cells #[.int .i64 1, .int .i64 2] T)) [3] T (cs := #[.int .i64 3]) rfl (by decide) (by decide)
  have r2 := row_litD ((w.alloc (.cells #[.int .i64 1, .int .i64 2] T)).alloc (.cells #[.int .i64 3] T)) [3] T (cs := #[.int .i64 3]) rfl (by decide) (by decide)
  have ha : ∀ (w : World) (o : Obj), Upd [] w (w.alloc o) := fun w o => (Upd.refl [] w).alloc o
  have hb := heap_alloc_new (((w.alloc (.cells #[.int .i64 1, .int .i64 2] T)).alloc (.cells #[.int .i64 3] T)).alloc (.cells #[.int .i64 3] T))
      (.cells #[.slice (some ⟨w.heap.size, 0, none⟩) 2 2, .slice (some ⟨w.heap.size + 1, 0, none⟩) 1 1, .slice (some ⟨w.heap.size + 1 + 1, 0, none⟩) 1 1, .slice none 0 0] U)
  simp only [World.size_alloc] at hb r1 r2
  have : i = 0 ∨ i = 1 ∨ i = 2 ∨ i = 3 := by simp only [d1G, List.length_cons, List.length_nil] at hi; omega
  rcases this with rfl | rfl | rfl | rfl
  · exact ⟨_, rfl, by rw [cell_of hb]; rfl, ((r0.upd (ha _ _)).upd (ha _ _)).upd (ha _ _)⟩
  · exact ⟨_, rfl, by rw [cell_of hb]; rfl, (r1.upd (ha _ _)).upd (ha _ _)⟩
  · exact ⟨_, rfl, by rw [cell_of hb]; rfl, r2.upd (ha _ _)⟩
  · exact ⟨.slice none 0 0, rfl, by rw [cell_of hb]; rfl, none, 0, rfl, by decide, fun j hj => absurd hj (by simp [d1G])⟩
theorem d2_rows (w : World) (T U : TypeId) : RowsAt (((w.alloc (.cells #[.int .i64 1] T)).alloc (.cells #[.int .i64 0, .int .i64 1] T)).alloc
      (.cells #[.slice (some ⟨w.heap.size, 0, none⟩) 1 1, .slice (some ⟨w.heap.size + 1, 0, none⟩) 2 2] U))
    (.slice (some ⟨w.heap.size + 1 + 1, 0, none⟩) d2G.length 2) d2G := by
  refine ⟨_, 2, rfl, by decide, fun i hi => ⟨w.heap.size + 1 + 1, 0, ?_⟩⟩
  have r0 := row_litD w [1] T (cs := #[.int .i64 1]) rfl (by decide) (by decide)
  have r1 := row_litD (w.alloc (.cells #[.int .i64 1] T)) [0, 1] T (cs := #[.int .i64 0, .int .i64 1]) rfl (by decide) (by decide)
  have ha : ∀ (w : World) (o : Obj), Upd [] w (w.alloc o) := fun w o => (Upd.refl [] w).alloc o
  have hb := heap_alloc_new ((w.alloc (.cells #[.int .i64 1] T)).alloc (.cells #[.int .i64 0, .int .i64 1] T))
      (.cells #[.slice (some ⟨w.heap.size, 0, none⟩) 1 1, .slice (some ⟨w.heap.size + 1, 0, none⟩) 2 2] U)
  simp only [World.size_alloc] at hb r1
  have : i = 0 ∨ i = 1 := by simp only [d2G, List.length_cons, List.length_nil] at hi; omega
  rcases this with rfl | rfl
  · exact ⟨_, rfl, by rw [cell_of hb]; rfl, (r0.upd (ha _ _)).upd (ha _ _)⟩
  · exact ⟨_, rfl, by rw [cell_of hb]; rfl, r1.upd (ha _ _)⟩

set_option maxHeartbeats 400000 in
theorem most_any (w : World) : Calls Tryd.prog 23 #[] w fun e w' => e = .returned (.int .i64 2000) ∧ w' = w := by
  go_enter Tryd.func23, Tryd.ntmps23
  go_wp2_with fail
  go_ret
  exact ⟨rfl, rfl⟩

set_option maxRecDepth 100000 in
set_option maxHeartbeats 4000000 in
theorem first6_any (w : World) (hT : TzAt w) :
    Calls Tryd.prog 8 #[] w fun e w' => e = .returned (.bool true) ∧ Upd [] w w' := by
  have HT := Lib.hid hT
  have htl := hT.lt
  clear hT
  go_enter Tryd.func8, Tryd.ntmps8
  go_wp2_with fail
  refine (domOf_any _ 4 d1G _ (d1_rows w _ _) (by decide) (by decide) (by decide)).mono ?_
  rintro e w1 ⟨tb, f, rfl, hA, hu1⟩
  have HA := Lib.hid hA
  have HU1 := Lib.hid (((((Upd.refl [] w).alloc _).alloc _).alloc _).alloc _ |>.trans hu1)
  clear hA hu1
  go_wp2_with fail
  refine (domOf_any _ 2 d2G _ (d2_rows w1 _ _) (by decide) (by decide) (by decide)).mono ?_
  rintro e w2 ⟨ub, fu, rfl, hA2, hu2⟩
  have HA2 := Lib.hid hA2
  have hu12 := ((((Upd.refl [] w1).alloc _).alloc _).alloc _).trans hu2
  have HU2 := Lib.hid (HU1.out.trans hu12)
  have HA1 := Lib.hid (HA.out.low (S := []) hu12 (by simp))
  obtain ⟨_, _, _, _, htb1, htb2⟩ := TreeG.blk HA.out.g
  obtain ⟨_, _, _, _, hub1, hub2⟩ := TreeG.blk hA2.g
  have htl2 := lt_of_heap htb1
  simp only [World.size_alloc] at htb2 hub2
  have hs12 := hu12.size
  have hs01 := HU1.out.size
  clear htb1 hub1
  obtain ⟨v1, v2, v3⟩ := d1_vals (by obtain ⟨_, _, _, _, _, _, _, _, _, _, _, _, h2, _⟩ := HA.out; exact h2 (by rw [d1C]; simp))
  obtain ⟨v4, v5⟩ := d2_vals (by obtain ⟨_, _, _, _, _, _, _, _, _, _, _, _, h2, _⟩ := hA2; exact h2 (by rw [d2C]; simp))
  have HV1 := Lib.hid v1
  have HV2 := Lib.hid v2
  have HV3 := Lib.hid v3
  have HV4 := Lib.hid v4
  have HV5 := Lib.hid v5
  clear hA2 hu2 hu12 HA v1 v2 v3 v4 v5
  go_wp2_with fail
  refine (idom_any _ (cleanG_clean d1G) (by rw [d1C]; decide) _ tb f _ _ _ _ 3 (by omega) w2 HA1.out.g).mono ?_
  rintro e w' ⟨rfl, rfl⟩
  rw [HV1.out]
  go_wp2_with fail
  refine (frontier_any _ (cleanG_clean d1G) (by rw [d1C]; decide) _ tb f 0 _ 1 (by omega) _ HA1.out (HT.out.upd HU2.out (by simp)) (.inl rfl)).mono ?_
  rintro e w3 ⟨u, fr1, rfl, hO, hA3, _, hu3⟩
  rw [HV3.out] at hO
  obtain ⟨bo, hO, _⟩ := hO.ints
  have HO := Lib.hid hO
  have HA3 := Lib.hid hA3
  have HU3 := Lib.hid (HU2.out.trans' hu3 (fun q hq hlt => by simp at hq; omega))
  have HB3 := Lib.hid (HA2.out.low hu3 (fun k hk => by simp at hk; simp only [World.size_alloc]; omega))
  obtain ⟨p3, c3, rfl⟩ := hO.form
  clear hO hA3 hu3 HA1 HA2 HU2
  go_wp2_with fail
  have hlit := ints_lit w3 [3] 3 (cs := #[.int .i64 3]) rfl
  refine (sints _ _ bo _ [3] [3] _ (HO.out.upd ((Upd.refl [] w3).alloc _) (by simp)) hlit (by decide)).mono ?_
  rintro e w4 ⟨rfl, hu4⟩
  have hu34 := ((Upd.refl [] w3).alloc (.cells #[.int .i64 3] 3)).trans hu4
  have HU4 := Lib.hid (HU3.out.trans hu34)
  have HA4 := Lib.hid (HA3.out.low (S := []) hu34 (by simp))
  have HB4 := Lib.hid (HB3.out.low (S := []) hu34 (by simp))
  clear hu4 hu34 hlit HO HA3 HB3 HU3
  simp only [decide_true]
  go_wp2_with fail
  refine (depth_any _ (cleanG_clean d1G) (by rw [d1C]; decide) _ tb f _ _ _ _ 3 (by omega) w4 HA4.out.g).mono ?_
  rintro e w' ⟨rfl, rfl⟩
  rw [HV2.out]
  go_wp2_with fail
  refine (frontier_any _ (cleanG_clean d2G) (by rw [d2C]; decide) _ ub fu 0 _ 1 (by omega) _ HB4.out (HT.out.upd HU4.out (by simp)) (.inl rfl)).mono ?_
  rintro e w5 ⟨u, fr2, rfl, hO, hB5, hF5, hu5⟩
  rw [HV4.out] at hO
  obtain ⟨bo2, hO, _⟩ := hO.ints
  have HO := Lib.hid hO
  have HB5 := Lib.hid hB5
  have HF5 := Lib.hid hF5
  have HU5 := Lib.hid (HU4.out.trans' hu5 (fun q hq hlt => by simp at hq; omega))
  obtain ⟨p5, c5, rfl⟩ := hO.form
  clear hO hB5 hF5 hu5 HA4 HB4 HU4
  go_wp2_with fail
  have hlit := ints_lit w5 [0, 1] 3 (cs := #[.int .i64 0, .int .i64 1]) rfl
  refine (sints _ _ bo2 _ [0, 1] [0, 1] _ (HO.out.upd ((Upd.refl [] w5).alloc _) (by simp)) hlit (by decide)).mono ?_
  rintro e w6 ⟨rfl, hu6⟩
  have hu56 := ((Upd.refl [] w5).alloc (.cells #[.int .i64 0, .int .i64 1] 3)).trans hu6
  have HU6 := Lib.hid (HU5.out.trans hu56)
  have HB6 := Lib.hid (HB5.out.low (S := []) hu56 (by simp))
  have HF6 := Lib.hid (HF5.out.up0 hu56)
  clear hu6 hu56 hlit HO HB5 HF5 HU5
  simp only [decide_true]
  go_wp2_with fail
  refine (frontier_any _ (cleanG_clean d2G) (by rw [d2C]; decide) _ ub fu 1 _ 0 (by omega) _ HB6.out (HT.out.upd HU6.out (by simp)) (.inr ⟨rfl, HF6.out⟩)).mono ?_
  rintro e w7 ⟨u, fr3, rfl, hO, hB7, _, hu7⟩
  rw [HV5.out] at hO
  obtain ⟨bo3, hO, _⟩ := hO.ints
  have HO := Lib.hid hO
  have HU7 := Lib.hid (HU6.out.trans' hu7 (fun q hq hlt => by simp at hq; omega))
  obtain ⟨p7, c7, rfl⟩ := hO.form
  clear hO hB7 hu7 HB6 HF6 HU6
  go_wp2_with fail
  have hlit := ints_lit w7 [0] 3 (cs := #[.int .i64 0]) rfl
  refine (sints _ _ bo3 _ [0] [0] _ (HO.out.upd ((Upd.refl [] w7).alloc _) (by simp)) hlit (by decide)).mono ?_
  rintro e w8 ⟨rfl, hu8⟩
  have HU8 := Lib.hid (HU7.out.trans (((Upd.refl [] w7).alloc (.cells #[.int .i64 0] 3)).trans hu8))
  clear hu8 hlit HO HU7
  simp only [decide_true]
  go_wp2_with fail
  refine (most_any w8).mono ?_
  rintro e w' ⟨rfl, rfl⟩
  go_wp2_with fail
  go_ret
  exact ⟨rfl, HU8.out⟩

end Go.Proofs.YtjjkliifpdcliaaDoor
