/- dom.Of: the walk. -/
import Derived.Test.YtjjkliifpdcliaaDoorDomS
import Derived.Test.YtjjkliifpdcliaaDoorDomPl
import Derived.Test.YtjjkliifpdcliaaDoorOrder
import Derived.Deep.RegionHeld3
namespace Go.Proofs.YtjjkliifpdcliaaDoor
open Go.RowKit

theorem cut_rows (w : World) (a : Option Addr) (len c q : Nat) (h : q ≤ c) (hq : q = len) : (Instr.slice 22 (.slice a len c) none (some (.int .i64 (q : Int))) none).run Tryd.prog w = .ok (.slice a len c) w := by
  subst hq
  have hsz : (sizeOf 27).run Tryd.prog w = .ok 1 w := by kernel_rfl
  have he : Tryd.prog.elem 22 = 27 := by kernel_rfl
  rw [run_slice_h w 22 _ _ _ (by rw [he]; exact Tryd.underlying22) .i64 (q : Int) (by omega) (by omega), he, hsz]
  cases a <;> simp [Result.andThen, sliced, Addr.add]

/-- What the tree's making leaves. -/
def TreePre (g : List (List Int)) (w wx : World) (pv : Value) : Prop := ∃ tb gb ib db kb G B vs, pv = .pointer (some ⟨tb, 0, none⟩) ∧
  wx.heap[tb]? = some (.cells #[.slice (some ⟨gb, 0, none⟩) g.length g.length, .slice (some ⟨ib, 0, none⟩) g.length g.length, .slice (some ⟨db, 0, none⟩) g.length g.length, .slice (some ⟨kb, 0, none⟩) g.length g.length, .int .u32 0, .int .i32 0, .int .u32 0, .slice none 0 0] 58) ∧
  OwnL wx G B gb vs (intsL (predsL (cleanG g))) ∧ wx.heap[ib]? = some (.cells (icells (List.replicate g.length 0)) 3) ∧ wx.heap[db]? = some (.cells (icells (List.replicate g.length 0)) 3) ∧
  wx.heap[kb]? = some (.cells (Array.replicate g.length (Value.slice none 0 0)) 27) ∧ ib ≠ db ∧ gb ≠ kb ∧ (∀ i, i < (intsL (predsL (cleanG g))).length → ∀ k, (vs.getD i undef).ownBlock = some k → k ≠ ib ∧ k ≠ db) ∧
  w.heap.size ≤ tb ∧ w.heap.size ≤ gb ∧ w.heap.size ≤ ib ∧ w.heap.size ≤ db ∧ w.heap.size ≤ kb ∧ w.heap.size ≤ G ∧ Upd [] w wx

theorem alloc_get (w : World) (o : Obj) (k : Nat) : (w.alloc o).heap[k]? = if k = w.heap.size then some o else w.heap[k]? := by
  show (w.heap.push o)[k]? = _
  rw [Array.getElem?_push]
theorem drew_heap (w : World) : w.drew.heap = w.heap := rfl

theorem tree_pre {g : List (List Int)} {w W0 w1 w2 : World} {tb gb ib db kb G B : Nat} {vs : List Value} (hO : OwnL w1 G B gb vs (intsL (predsL (cleanG g)))) (hG : W0.heap.size ≤ G) (hu1 : Upd [] W0 w1) (hu0 : Upd [] w W0) (hu2 : Upd [] w1 w2) (htb : tb = w2.heap.size)
    (hi : w2.heap[ib]? = some (.cells (icells (List.replicate g.length 0)) 3)) (hd : w2.heap[db]? = some (.cells (icells (List.replicate g.length 0)) 3)) (hk : w2.heap[kb]? = some (.cells (Array.replicate g.length (Value.slice none 0 0)) 27))
    (hne : ib ≠ db) (h1 : ib < W0.heap.size ∨ w1.heap.size ≤ ib) (h2 : db < W0.heap.size ∨ w1.heap.size ≤ db) (h3 : kb < W0.heap.size ∨ w1.heap.size ≤ kb) (l1 : w.heap.size ≤ ib) (l2 : w.heap.size ≤ db) (l3 : w.heap.size ≤ kb) :
    TreePre g w (w2.alloc (.cells #[.slice (some ⟨gb, 0, none⟩) g.length g.length, .slice (some ⟨ib, 0, none⟩) g.length g.length, .slice (some ⟨db, 0, none⟩) g.length g.length, .slice (some ⟨kb, 0, none⟩) g.length g.length, .int .u32 0, .int .i32 0, .int .u32 0, .slice none 0 0] 58)) (.pointer (some ⟨tb, 0, none⟩)) := by
  subst htb
  have ha := (Upd.refl [] w2).alloc (.cells #[.slice (some ⟨gb, 0, none⟩) g.length g.length, .slice (some ⟨ib, 0, none⟩) g.length g.length, .slice (some ⟨db, 0, none⟩) g.length g.length, .slice (some ⟨kb, 0, none⟩) g.length g.length, .int .u32 0, .int .i32 0, .int .u32 0, .slice none 0 0] 58)
  have hgb := lt_of_heap hO.blk
  have hge := hO.ge
  have hgle := hO.gle
  have hs0 := hu0.size
  have hs1 := hu1.size
  have hs2 := hu2.size
  refine ⟨_, gb, ib, db, kb, G, B, vs, rfl, heap_alloc_new _ _, hO.upd (hu2.trans ha) (by simp) (by simp), ha.heap hi (by simp), ha.heap hd (by simp), ha.heap hk (by simp), hne, by omega, fun i hi2 k hk2 => ?_, by omega, by omega, l1, l2, l3, by omega, ((hu0.trans hu1).trans hu2).trans ha⟩
  have := (hO.own i hi2).lt k hk2
  constructor <;> omega

theorem rowsB_of {w : World} {G B gb b : Nat} {vs : List Value} {xs : List (List Int)} (h : OwnL w G B gb vs xs) (hb : ∀ i, i < xs.length → ∀ k, (vs.getD i undef).ownBlock = some k → k ≠ b) : RowsB w gb b xs.length xs := by
  intro v hv
  have hc := h.cell v hv
  have ho := h.own v hv
  rcases ho.form with ⟨h1, h2⟩ | ⟨g, c, h1, _, _, _, h5⟩
  · rw [h1] at hc
    rw [h2]
    exact ⟨none, 0, 0, hc, ⟨.inl ⟨rfl, rfl⟩, fun i hi => absurd hi (by simp)⟩, .inl rfl⟩
  · rw [h1] at hc
    exact ⟨_, c, g, hc, ⟨.inr ⟨c, rfl⟩, h5⟩, .inr (hb v hv g (by rw [h1]; rfl))⟩
theorem atR_nil (n : Nat) : atR [] n = List.replicate n (-1) := by
  apply List.ext_getElem
  · simp [atR]
  · intro i h1 h2; simp [atR, atv]

theorem cell_one_newD (w : World) (v : Value) (t : TypeId) : ∀ j u, [v][j]? = some u → (w.alloc (.cells #[v] t)).cell? ((⟨w.heap.size, 0, none⟩ : Addr).add j) = some u := by
  intro j u hj
  rw [Addr.add_lit, Nat.zero_add, cell_of (heap_alloc_new w _)]
  simpa using hj

theorem upd_grow (w : World) (os : Array Obj) : Upd [] w (Sort.grow w os) := ⟨rfl, rfl, rfl, by simp, fun k hk _ => Sort.heap_grow_old w os hk⟩

/-- One row is sorted where it lies. -/
theorem OwnL.sorted {w : World} {G B gb : Nat} {vs : List Value} {xs : List (List Int)} (h : OwnL w G B gb vs xs) (i : Nat) (hi : i < xs.length) {q c n : Nat} {ys : List Int} (hv : vs.getD i undef = .slice (some ⟨q, 0, none⟩) (xs.getD i []).length c) (hl : ys.length = (xs.getD i []).length) (os : Array Obj) :
    OwnL (Sort.grow (Sort.putRow (Value.int .i64) (Sort.ahead w n) q 0 ys.toArray) os) G B gb vs (xs.set i ys) ∧ Upd [q] w (Sort.grow (Sort.putRow (Value.int .i64) (Sort.ahead w n) q 0 ys.toArray) os) := by
  have hu1 := upd_putRow w q n ys
  have hu2 := upd_grow (Sort.putRow (Value.int .i64) (Sort.ahead w n) q 0 ys.toArray) os
  have hown := h.own i hi
  rw [hv] at hown
  have hob : (vs.getD i undef).ownBlock = some q := by rw [hv]; rfl
  have hgq : gb ≠ q := by
    rintro rfl
    exact own_heap_ne (h.own i hi) h.blk (by decide) hob
  refine ⟨⟨hu2.heap (hu1.heap h.blk (by simpa using hgq)) (by simp), h.ge, h.gle, by rw [List.length_set]; exact h.len, fun j hj => ?_, fun a b ha hb hab => ?_⟩, hu1.trans (hu2.mono (by simp))⟩
  · rw [List.length_set] at hj
    by_cases e : i = j
    · subst e
      rw [getD_set_eq _ _ _ _ hi, hv]
      have h1 := (hown.putRow (n := n) hl).upd hu2 (by simp)
      rw [← hl] at h1
      rw [← hl]
      exact h1
    · rw [getD_set_ne _ _ _ _ _ e]
      exact ((h.own j hj).upd hu1 (fun k hk hm => by
        simp at hm
        subst hm
        exact h.apart i j hi hj e _ hob hk)).upd hu2 (by simp)
  · rw [List.length_set] at ha hb
    exact h.apart a b ha hb hab

/-- A tree in memory: who is right above, the depths, the kids; whether the frontiers are worked out (d), and they. -/
def TreeAt (w : World) (B tb : Nat) (c : List (List Nat)) (f : Nat → Nat) (d : Int) (fr : Value) : Prop := ∃ gb ib db kb G1 B1 G2 B2 vs ks ids,
  w.heap[tb]? = some (.cells #[.slice (some ⟨gb, 0, none⟩) c.length c.length, .slice (some ⟨ib, 0, none⟩) c.length c.length, .slice (some ⟨db, 0, none⟩) c.length c.length, .slice (some ⟨kb, 0, none⟩) c.length c.length, .int .u32 d, .int .i32 0, .int .u32 0, fr] 58) ∧
  (c ≠ [] → Exact (Rd c) (Ed c) (posn c) f) ∧ ids.length = c.length ∧ (∀ v, v < c.length → ids.getD v (-1) = if Rd c v ∧ v ≠ 0 then (f v : Int) else -1) ∧
  OwnL w G1 B1 gb vs (intsL (predsL c)) ∧ w.heap[ib]? = some (.cells (icells ids) 3) ∧ w.heap[db]? = some (.cells (icells (depR c f (rpo c).length)) 3) ∧ OwnL w G2 B2 kb ks (intsL (kidsF c f)) ∧
  B ≤ tb ∧ B ≤ ib ∧ B ≤ db ∧ B ≤ G1 ∧ B ≤ G2
theorem TreeAt.low {w w' : World} {B tb : Nat} {c : List (List Nat)} {f : Nat → Nat} {d : Int} {fr : Value} {S : List Nat} (h : TreeAt w B tb c f d fr) (hu : Upd S w w') (hS : ∀ k ∈ S, k < B) : TreeAt w' B tb c f d fr := by
  obtain ⟨gb, ib, db, kb, G1, B1, G2, B2, vs, ks, ids, h1, h2, h3, h4, h5, h6, h7, h8, l1, l2, l3, l4, l5⟩ := h
  exact ⟨gb, ib, db, kb, G1, B1, G2, B2, vs, ks, ids, hu.heap h1 (fun hm => by have := hS _ hm; omega), h2, h3, h4, h5.low hu (fun k hk => by have := hS _ hk; omega), hu.heap h6 (fun hm => by have := hS _ hm; omega), hu.heap h7 (fun hm => by have := hS _ hm; omega), h8.low hu (fun k hk => by have := hS _ hk; omega), l1, l2, l3, l4, l5⟩

theorem cut_lo0 (w : World) (a : Option Addr) (c : Nat) : ∃ a', (Instr.slice 27 (.slice a 0 c) (some (.int .i64 0)) none none).run Tryd.prog w = .ok (.slice a' 0 c) w := by
  have hsz : (sizeOf 3).run Tryd.prog w = .ok 1 w := by kernel_rfl
  have he : Tryd.prog.elem 27 = 3 := by kernel_rfl
  rw [run_slice_l w 27 _ _ _ (by rw [he]; exact Tryd.underlying27) .i64 (0 : Int) (by omega) (by omega), he, hsz]
  simp only [Result.andThen, sliced]
  exact ⟨_, rfl⟩

set_option maxRecDepth 100000 in
set_option maxHeartbeats 8000000 in
theorem domOf_any (a : Option Addr) (cap : Nat) (g : List (List Int)) (w : World) (h : RowsAt w (.slice a g.length cap) g) (hcap : g.length ≤ cap) (hn : g.length ≤ 1000) (hr : ∀ l ∈ g, l.length ≤ 100000) :
    Calls Tryd.prog 10 #[.slice a g.length cap] w fun e w' => ∃ tb f, e = .returned (.pointer (some ⟨tb, 0, none⟩)) ∧ TreeAt w' w.heap.size tb (cleanG g) f 0 (.slice none 0 0) ∧ Upd [] w w' := by
  have HPRE : Hid (∀ W, Upd [] w W → Calls Tryd.prog 24 #[.slice a g.length cap] W fun e w' => ∃ G B gb vs, e = .returned (.slice (some ⟨gb, 0, none⟩) g.length g.length) ∧ OwnL w' G B gb vs (intsL (predsL (cleanG g))) ∧ W.heap.size ≤ G ∧ Upd [] W w') := fun W hW => preds_any _ g W (h.upd hW) (by omega) hr
  have HORD : Hid (∀ W, Upd [] w W → Calls Tryd.prog 25 #[.slice a g.length cap] W fun e w' => ∃ u, e = .returned u ∧ OwnI w' W.heap.size 3 u (ints (dfs (cleanG g)).post.reverse) ∧ Upd [] W w') := fun W hW => order_any _ g W (h.upd hW) hn hr
  obtain ⟨i1, hi, hz0, hz1, hz2⟩ := info_parts Tryd.infoInt
  have HI0 := Lib.hid hi
  have HZ0 := Lib.hid hz0
  have HZ1 := Lib.hid hz1
  have HZ2 := Lib.hid hz2
  clear hi hz0 hz1 hz2
  have hmk1 := fun W => make_intsN W g.length (by omega)
  have hmk2 := fun W => make_rows W g.length (by omega)
  have hcut := fun W => cut_rows W a g.length cap g.length hcap rfl
  have hmin : min (g.length : Int) 2000 = (g.length : Int) := by omega
  have hle : (g.length : Int) ≤ 2000 := by omega
  clear h
  go_enter Tryd.func10, Tryd.ntmps10
  go_upto_region 2 with fail
  go_cut [3] from 19 to 31 (fun pv wx => Hid (TreePre g w wx pv))
  case first =>
    go_region_with ((go_at_call 24; refine (HPRE.out _ (by first | exact (Upd.refl [] w).drew | exact ((Upd.refl [] w).drew).alloc _ | exact (((Upd.refl [] w).drew).alloc _).alloc _ | exact ((((Upd.refl [] w).drew).alloc _).alloc _).alloc _)).mono ?_; rintro e w1 ⟨G, B, gb, vs, rfl, hOL, hG, hu1⟩))
    all_goals
      go_wp2_with fail
      go_meet
      have hz := hu1.size
      simp only [World.size_alloc, drew_heap] at hz
      refine tree_pre hOL hG hu1 (by first | exact (Upd.refl [] w).drew | exact ((Upd.refl [] w).drew).alloc _ | exact (((Upd.refl [] w).drew).alloc _).alloc _ | exact ((((Upd.refl [] w).drew).alloc _).alloc _).alloc _) (by first | exact Upd.refl _ _ | exact (Upd.refl _ _).alloc _ | exact ((Upd.refl _ _).alloc _).alloc _ | exact (((Upd.refl _ _).alloc _).alloc _).alloc _) (by simp only [World.size_alloc]) ?_ ?_ ?_ (by omega) (by simp only [World.size_alloc, drew_heap]; omega) (by simp only [World.size_alloc, drew_heap]; omega) (by simp only [World.size_alloc, drew_heap]; omega) (by omega) (by omega) (by omega)
      all_goals
        try simp only [alloc_get, World.size_alloc]
        repeat first
          | rfl
          | rw [if_pos (by omega)]
          | rw [if_neg (by omega)]
          | (rw [hu1.block _ (by simp only [World.size_alloc, drew_heap]; omega) (by simp)]; simp only [alloc_get, World.size_alloc, drew_heap])
  case rest =>
    have HCUT := Lib.hid hcut.out
    obtain ⟨tb, gb, ib, db, kb, G, B, vs, e, H1, H2, H3, H4, H5, n1, n2, n3, l1, l2, l3, l4, l5, l6, HU⟩ := HCUT.out
    subst e
    have HN1 := Lib.hid n1
    have HN2 := Lib.hid n2
    have HN3 := Lib.hid n3
    have HU0 := Lib.hid HU
    have HT := Lib.hid H1
    have HP := Lib.hid H2
    have HI := Lib.hid H3
    have HD := Lib.hid H4
    have HK := Lib.hid H5
    have hl1 := lt_of_heap H1
    have hl3 := lt_of_heap H3
    have hl4 := lt_of_heap H4
    have hl5 := lt_of_heap H5
    have hl2 := lt_of_heap H2.blk
    have t1 : tb ≠ ib := by rintro rfl; rw [H1] at H3; simp at H3
    have t2 : tb ≠ db := by rintro rfl; rw [H1] at H4; simp at H4
    have t3 : tb ≠ kb := by rintro rfl; rw [H1] at H5; simp at H5
    have t4 : gb ≠ ib := by rintro rfl; rw [H2.blk] at H3; simp at H3
    have t5 : gb ≠ db := by rintro rfl; rw [H2.blk] at H4; simp at H4
    have hge := H2.ge
    clear HCUT hcut hmk2 hmin hle HPRE H1 H2 H3 H4 H5 n1 n2 n3 HU
    go_wp2_with fail
    refine (HORD.out wc HU0.out).mono ?_
    rintro e w2 ⟨u, rfl, hO, hu2⟩
    have hrev : (dfs (cleanG g)).post.reverse = rpo (cleanG g) := rfl
    rw [hrev] at hO
    have HO := Lib.hid hO
    obtain ⟨op, oc, rfl⟩ := hO.shape
    rw [ints_len]
    have HU2 := Lib.hid hu2
    have hs2 := hu2.size
    clear hO hrev HORD
    have hw3 := (Upd.refl [] w2).alloc (.cells (icells (List.replicate g.length 0)) 3)
    have ha3 := heap_alloc_new w2 (.cells (icells (List.replicate g.length 0)) 3)
    have HU3 := Lib.hid (hu2.trans hw3)
    have HA3 := Lib.hid ha3
    have HO3 := Lib.hid (HO.out.upd hw3 (by simp))
    clear hw3 ha3 hu2
    go_wp2_with fail
    generalize hw3 : w2.alloc (.cells (icells (List.replicate g.length 0)) 3) = w3 at HU3 HA3 HO3 ⊢
    have HOB := Lib.hid (fun k (hk : (Value.slice op (ints (rpo (cleanG g))).length oc).ownBlock = some k) => HO.out.lt k hk)
    generalize hab : w2.heap.size = ab at HA3 HOB hs2 ⊢
    have hab3 : ab < w3.heap.size := lt_of_heap HA3.out
    have q1 : tb ≠ ab := by omega
    have q2 : ib ≠ ab := by omega
    have q3 : db ≠ ab := by omega
    have q4 : gb ≠ ab := by omega
    have q5 : kb ≠ ab := by omega
    have ht3 := HU3.out.heap HT.out (by simp)
    have HT3 := Lib.hid ht3
    have HI3 := Lib.hid (HU3.out.heap HI.out (by simp))
    clear hw3 hab ht3
    have HT31 : Hid (∀ S wr, Upd S w3 wr → tb ∉ S → wr.cell? ⟨tb, 1, none⟩ = some (.slice (some ⟨ib, 0, none⟩) g.length g.length)) := fun S wr hU hS => by
      rw [cell_of (hU.heap HT3.out hS)]; rfl
    go_loopw [39] (fun iv wr => ∃ i : Nat, i ≤ g.length ∧ iv = .int .i64 (i : Int) ∧ Hid (wr.heap[ib]? = some (.cells (icells (atM g.length i)) 3)) ∧ Hid (wr.heap[ab]? = some (.cells (icells (atM g.length i)) 3)) ∧ Hid (Upd [ib, ab] w3 wr)) (fun iv _ => g.length - (intOf iv).toNat)
    case atStart => exact ⟨0, by omega, rfl, by rw [atM_zero]; exact HI3.out, by rw [atM_zero]; exact HA3.out, Upd.refl _ _⟩
    case round =>
      obtain ⟨i, hi, rfl, HIr, HAr, HUr⟩ := hrel
      obtain ⟨wo, rfl⟩ : ∃ wo : World, wo = wr := ⟨_, rfl⟩
      by_cases hlt : i < g.length
      · have ht1 := HT31.out _ wo HUr.out (by simp; omega)
        have hci := cell_of HIr.out i
        have hca := cell_of HAr.out i
        rw [icells_get _ i (by rw [atM_len]; exact hlt)] at hci hca
        have hfi := froz_of HIr.out i
        have hu1 : Upd [ib, ab] wo (wo.setCell ⟨ib, i, none⟩ (.int .i64 (-1))) := (Upd.refl _ _).setCell (.inl (by simp)) _
        have hA1 : (wo.setCell ⟨ib, i, none⟩ (.int .i64 (-1))).heap[ab]? = some (.cells (icells (atM g.length i)) 3) := ((Upd.refl [ib] wo).setCell (.inl (by simp)) _).heap HAr.out (by simpa using fun e => q2 e.symm)
        have hI1 := heap_setCell HIr.out i (.int .i64 (-1))
        rw [icells_set, atM_step _ i hlt] at hI1
        have hca1 := cell_of hA1 i
        rw [icells_get _ i (by rw [atM_len]; exact hlt)] at hca1
        have hfa1 := froz_of hA1 i
        have hA2 := heap_setCell hA1 i (.int .i64 (-1))
        rw [icells_set, atM_step _ i hlt] at hA2
        have hI2 : ((wo.setCell ⟨ib, i, none⟩ (.int .i64 (-1))).setCell ⟨ab, i, none⟩ (.int .i64 (-1))).heap[ib]? = some (.cells (icells (atM g.length (i + 1))) 3) := ((Upd.refl [ab] _).setCell (.inl (by simp)) _).heap hI1 (by simpa using q2)
        have HA2 := Lib.hid hA2
        have HI2 := Lib.hid hI2
        have HU2r := Lib.hid ((HUr.out.trans hu1).setCell (p := ⟨ab, i, none⟩) (.inl (by simp)) (.int .i64 (-1)))
        clear hu1 hA1 hI1 hA2 hI2 hca
        go_wp2_with fail
        go_roundw
        case rel => exact ⟨i + 1, by omega, by go_num, HI2.out, HA2.out, HU2r.out⟩
        case measure => simp [intOf]; omega
      · obtain rfl : i = g.length := by omega
        rw [atM_all] at HIr HAr
        have ho4 := HO3.out.upd HUr.out (fun k hk hm => by
          have := HOB.out k hk
          simp at hm
          omega)
        have HO4 := Lib.hid ho4
        clear ho4
        go_wp2_with fail
        have hcl := cleanG_len g
        have hclean := cleanG_clean g
        have HUw := Lib.hid ((HU3.out.mono (by simp) : Upd [ib, ab] wc w3).trans HUr.out)
        have HP5 := Lib.hid (HP.out.upd HUw.out (by simp; omega) (fun i hi k hk hm => by
          have h1 := HN3.out i hi k hk
          have h2 := ((HP.out.own i hi).lt k hk).2
          simp at hm
          omega))
        have HT5 := Lib.hid (HUw.out.heap HT.out (by simp; omega))
        have HD5 := Lib.hid (HUw.out.heap HD.out (by simp; have := HN1.out; omega))
        have HK5 := Lib.hid (HUw.out.heap HK.out (by simp; exact ⟨fun e => by subst e; have h := HI.out; rw [HK.out] at h; simp at h, by omega⟩))
        have hwo := HUw.out.size
        have HN5 : Hid (∀ i, i < (intsL (predsL (cleanG g))).length → ∀ k, (vs.getD i undef).ownBlock = some k → k ≠ ib ∧ k ≠ db ∧ k < wc.heap.size) := fun i hi k hk => ⟨(HN3.out i hi k hk).1, (HN3.out i hi k hk).2, ((HP.out.own i hi).lt k hk).2⟩
        clear HT3 HI3 HA3 HO3 HI HD HK HP HT HT31 HN3 HU3 HUr HO
        generalize hcc : cleanG g = c at HO4 HN5 HP5 HOB hcl hclean ⊢
        have HCC := Lib.hid hcc
        have HCL := Lib.hid hcl
        clear hcc
        have hL : (ints (rpo c)).length = (rpo c).length := ints_len _
        have HLL := Lib.hid hL
        rw [hL] at HO4 HOB
        have HRN : Hid (∀ k, k < (rpo c).length → (rpo c).getD k 0 < g.length) := fun k hk => by
          have hne : c ≠ [] := fun e => by
            subst e
            simp [rpo, dfs] at hk
          have h5 := (rpo_facts hclean hne).2.2.2.2 ((rpo c).getD k 0) (by
            rw [List.getD_eq_getElem?_getD, List.getElem?_eq_getElem hk]
            exact List.getElem_mem hk)
          rw [hcl] at h5
          exact h5
        have HND : Hid ((rpo c).Nodup) := by
          by_cases hne : c = []
          · subst hne; simp [rpo, dfs, Hid]
          · exact (rpo_facts hclean hne).1
        have HLB : Hid ((rpo c).length ≤ g.length) := by
          by_cases hne : c = []
          · subst hne; show _ ≤ _; simp [rpo, dfs]
          · show _ ≤ _; rw [← hcl]; exact (rpo_facts hclean hne).2.2.2.1
        clear hcl hL
        obtain ⟨L, hLe⟩ : ∃ L, (rpo c).length = L := ⟨_, rfl⟩
        have HLE := Lib.hid hLe
        rw [hLe] at HO4 HOB HRN HLB HLL ⊢
        have hLb : L ≤ 1000 := by have := HLB.out; omega
        clear hLe
        go_loopw [54] (fun iv wr => ∃ k : Nat, k ≤ L ∧ iv = .int .i64 (k : Int) ∧ Hid (wr.heap[ab]? = some (.cells (icells (atR ((rpo c).take k) g.length)) 3)) ∧ Hid (Upd [ab] wo wr)) (fun iv _ => L - (intOf iv).toNat)
        case atStart => exact ⟨0, by omega, rfl, by rw [List.take_zero]; exact HAr.out, Upd.refl _ _⟩
        case round =>
          obtain ⟨k, hk, rfl, HA, HUq⟩ := hrel
          obtain ⟨wq, rfl⟩ : ∃ wq : World, wq = wr := ⟨_, rfl⟩
          by_cases hkl : k < L
          · have hoq := (HO4.out.upd HUq.out (fun k hk hm => by have := HOB.out k hk; simp at hm; omega)).nth k (by rw [HLL.out]; exact hkl)
            obtain ⟨ob, c5, e, _, _, hoc⟩ := hoq
            rw [HLL.out] at e
            injection e with e e2 e3
            subst e
            subst e3
            rw [ints_get (rpo c) k (by rw [HLE.out]; exact hkl)] at hoc
            have hxn := HRN.out k hkl
            have hst := atR_step (rpo c) g.length k HND.out (by rw [HLE.out]; exact hkl)
            generalize (rpo c).getD k 0 = x at hoc hxn hst
            have hca := cell_of HA.out x
            rw [icells_get _ x (by rw [atR_len]; exact hxn)] at hca
            have hfa := froz_of HA.out x
            have hA2 := heap_setCell HA.out x (.int .i64 (k : Int))
            rw [icells_set, hst] at hA2
            have HA2 := Lib.hid hA2
            clear hst hA2
            go_wp2_with fail
            go_roundw
            case rel => exact ⟨k + 1, by omega, by go_num, HA2.out, HUq.out.setCell (.inl (by simp)) _⟩
            case measure => simp [intOf]; omega
          · obtain rfl : k = L := by omega
            have hlist : (rpo c).take k = rpo c := by rw [← HLE.out, List.take_length]
            rw [hlist] at HA
            have HU6 := Lib.hid (HUw.out.trans' HUq.out (fun q hq _ => by simp at hq ⊢; omega) : Upd [ib, ab] wc wq)
            have HO6 := Lib.hid (HO4.out.upd HUq.out (fun k hk hm => by have := HOB.out k hk; simp at hm; omega))
            have HP6 := Lib.hid (HP5.out.upd HUq.out (by simp; omega) (fun i hi k hk hm => by have := (HN5.out i hi k hk).2.2; simp at hm; omega))
            have HT6 := Lib.hid (HUq.out.heap HT5.out (by simp; omega))
            have HD6 := Lib.hid (HUq.out.heap HD5.out (by simp; omega))
            have HK6 := Lib.hid (HUq.out.heap HK5.out (by simp; omega))
            have HI6 := Lib.hid (HUq.out.heap HIr.out (by simp; omega))
            have hsq := HUq.out.size
            clear HO4 HP5 HT5 HD5 HK5 HIr HAr HUq hlist HUw hk
            by_cases h0 : c = []
            · subst h0
              have hg0 : g.length = 0 := by have := HCL.out; simpa using this.symm
              have hk0 : k = 0 := by have := HLE.out; simpa [rpo, dfs] using this.symm
              subst hk0
              obtain ⟨ap, hcut0⟩ := cut_lo0 wq op oc
              have hmin0 : min (1 : Int) 0 = 0 := by omega
              have ht3 : wq.cell? ⟨tb, 3, none⟩ = some (.slice (some ⟨kb, 0, none⟩) g.length g.length) := by rw [cell_of HT6.out]; rfl
              have HG0 := Lib.hid hg0
              rw [hg0] at ht3
              clear hg0
              go_wp2_with fail
              go_loopw [77] (fun jv wr => jv = .int .i64 0 ∧ wr = wq) (fun _ _ => 0)
              case atStart => exact ⟨rfl, rfl⟩
              case round =>
                obtain ⟨rfl, e⟩ := hrel
                subst e
                go_wp2_with fail
                go_loopw [124] (fun jv wx => jv = .int .i64 0 ∧ wx = wr) (fun _ _ => 0)
                case atStart => exact ⟨rfl, rfl⟩
                case round =>
                  obtain ⟨rfl, e⟩ := hrel
                  subst e
                  go_wp2_with fail
                  go_ret
                  have hKz := OwnL.nils (w := wr) (G := w.heap.size) (B := wr.heap.size) (gb := kb) (n := g.length) (by rw [List.toArray_replicate]; exact HK6.out) l5 (by have := HU6.out.size; omega)
                  rw [HG0.out] at hKz
                  have hD6 := HD6.out
                  have hT6 := HT6.out
                  have hI6 := HI6.out
                  rw [HG0.out] at hD6 hT6 hI6
                  rw [HCC.out]
                  refine ⟨tb, fun _ => 0, rfl, ⟨gb, ib, db, kb, G, B, w.heap.size, wr.heap.size, vs, _, [], hT6, fun h => absurd rfl h, rfl, fun v hv => absurd hv (by simp), HP6.out, hI6, hD6, hKz, l1, l3, l4, l6, Nat.le_refl _⟩, ?_⟩
                  exact HU0.out.trans' HU6.out (fun q hq _ => by simp at hq; omega)
            · have hk0 : 0 < k := by rw [← HLE.out]; exact (rpo_facts hclean h0).2.2.1
              have H0 := Lib.hid h0
              obtain ⟨ob, c5, e, _, _, _⟩ := HO6.out.nth 0 (by rw [HLL.out]; exact hk0)
              rw [HLL.out] at e
              injection e with e e2 e3
              subst e
              subst e3
              have HOC : Hid (∀ j, j < (rpo c).length → wq.cell? ⟨ob, j, none⟩ = some (.int .i64 ((rpo c).getD j 0 : Nat))) := fun j hj => by
                obtain ⟨g2, c2, e2, _, _, h2⟩ := HO6.out.nth j (by rw [HLL.out, ← HLE.out]; exact hj)
                rw [HLL.out] at e2
                injection e2 with e2 _ _
                injection e2 with e2
                injection e2 with e2 _
                subst e2
                rw [ints_get (rpo c) j hj] at h2
                exact h2
              have hco : k ≤ oc := by
                rcases HO6.out.form with ⟨e2, _⟩ | ⟨g2, c2, e2, h2, _⟩
                · cases e2
                · rw [HLL.out] at h2 e2
                  injection e2 with _ _ e2
                  omega
              have hnb : ob ≠ ib ∧ ob ≠ ab := by
                have := HOB.out ob rfl
                omega
              have d0 : decide (0 < (k : Int)) = true := decide_eq_true (by omega)
              have d0' : decide ((k : Int) > 0) = true := decide_eq_true (by omega)
              have d1 : decide (0 < k) = true := decide_eq_true hk0
              have hHS := settle_any c hclean h0 (by rw [HCL.out]; omega) tb gb ib ab ob g.length g.length g.length oc wq (by rw [cell_of HT6.out, HCL.out]; rfl) (by rw [cell_of HT6.out, HCL.out]; rfl) (by
                have h1 := rowsB_of HP6.out (fun i hi k hk => (HN5.out i hi k hk).1)
                rwa [intsL_len, predsL_len] at h1) HOC.out (by rw [HLE.out]; exact hco) (fun v hv => by
                rw [HCL.out] at hv
                rw [cell_of HA.out, icells_get _ v (by rw [atR_len]; exact hv), atR_get _ _ _ hv]) (by rw [HI6.out, atR_nil, HCL.out]) t1 t4 hnb.1 q2.symm
              rw [HLE.out, HCL.out] at hHS
              have HS := Lib.hid hHS
              clear hHS e2 h0
              go_wp2_with fail
              refine HS.out.mono ?_
              rintro e w7 ⟨ids, rfl, hdf, hid7, hu7⟩
              obtain ⟨f, hex, hidl, hidv⟩ := hdf
              have HEX := Lib.hid hex
              have HID := Lib.hid hidv
              have HIDL := Lib.hid hidl
              have HU7 := Lib.hid hu7
              have HT7 := Lib.hid (hu7.heap HT6.out (by simpa using t1))
              have HD7 := Lib.hid (hu7.heap HD6.out (by simpa using fun e => HN1.out e.symm))
              have t6 : kb ≠ ib := by
                rintro rfl
                have := HI6.out
                rw [HK6.out] at this
                simp at this
              have t7 : kb ≠ db := by
                rintro rfl
                have := HD6.out
                rw [HK6.out] at this
                simp at this
              have HK7 := Lib.hid (hu7.heap HK6.out (by simpa using t6))
              have HP7 := Lib.hid (HP6.out.upd hu7 (by simpa using t4) (fun i hi k hk hm => by simp at hm; exact (HN5.out i hi k hk).1 hm))
              have HI7 := Lib.hid hid7
              have HOC7 : Hid (∀ j, j < (rpo c).length → w7.cell? ⟨ob, j, none⟩ = some (.int .i64 ((rpo c).getD j 0 : Nat))) := fun j hj => hu7.cell (HOC.out j hj) (by simpa using hnb.1)
              have hs7 := hu7.size
              have hmin1 : min (1 : Int) (k : Int) = 1 := by omega
              have hmin2 : (1 : Int) ≤ (k : Int) := by omega
              have hcut2 : ∃ off, (off = 1 ∨ k = 1) ∧ ∀ w', (Instr.slice 27 (.slice (some ⟨ob, 0, none⟩) k oc) (some (.int .i64 1)) none none).run Tryd.prog w' = .ok (.slice (some ⟨ob, off, none⟩) (k - 1) (oc - 1)) w' := by
                refine ⟨if oc = 1 then 0 else 1, ?_, fun w' => ?_⟩
                · split
                  · right; omega
                  · exact .inl rfl
                · exact cut_lo w' ob k oc 1 (by omega)
              obtain ⟨off, hoff, hcut2⟩ := hcut2
              have HOFF := Lib.hid hoff
              clear hex hidl hidv hid7 hu7 HP6 HT6 HD6 HK6 HI6 HOC HO6 HS HA hoff
              have HKS := Lib.hid (OwnL.nils (w := w7) (G := w.heap.size) (B := w7.heap.size) (gb := kb) (n := g.length) (by rw [List.toArray_replicate]; exact HK7.out) l5 (by omega))
              obtain ⟨r1, r2, r3, r4, r5⟩ := rpo_facts hclean H0.out
              have HDZ := Lib.hid (depR_zero c f r2 r3)
              have HKZ := Lib.hid (kidsP_one c f r2 r3)
              have hdl : db < w7.heap.size := by omega
              have hkl2 : kb < w7.heap.size := by omega
              clear r1 r2 r3 r4 r5
              go_wp2_with fail
              go_loopw [77] (fun jv wr => ∃ (j : Nat) (ks : List Value), j ≤ k - 1 ∧ jv = .int .i64 (j : Int) ∧ Hid (wr.heap[db]? = some (.cells (icells (depR c f (j + 1))) 3)) ∧ Hid (OwnL wr w.heap.size w7.heap.size kb ks (intsL (kidsP c f (j + 1)))) ∧ Hid (Upd [db, kb] w7 wr)) (fun jv _ => k - 1 - (intOf jv).toNat)
              case atStart =>
                refine ⟨0, List.replicate g.length (Value.slice none 0 0), by omega, rfl, ?_, ?_, Upd.refl _ _⟩
                · rw [HDZ.out, HCL.out]; exact HD7.out
                · have := HKS.out
                  rw [HKZ.out, HCL.out]
                  have e : intsL (List.replicate g.length []) = List.replicate g.length [] := by simp [intsL, ints]
                  rw [e]; exact this
              case round =>
                obtain ⟨j, ks, hj, rfl, HDr, HKr, HUr⟩ := hrel
                obtain ⟨wo2, rfl⟩ : ∃ wo2 : World, wo2 = wr := ⟨_, rfl⟩
                by_cases hjl : j < k - 1
                · have hoff : off = 1 := by
                    rcases HOFF.out with h | h
                    · exact h
                    · omega
                  subst hoff
                  have hxl : j + 1 < (rpo c).length := by rw [HLE.out]; omega
                  have hor := HUr.out.cell (HOC7.out (j + 1) hxl) (by have := HOB.out ob rfl; simp; omega)
                  rw [Nat.add_comm j 1] at hor
                  obtain ⟨e1, e2, e3, e4, e5, e6, e7⟩ := ord_step hclean H0.out HEX.out (m := j + 1) (by omega) hxl
                  have hdst := depR_step c f (j + 1) hxl
                  have hkst := kidsP_step c f (j + 1) hxl e2 e4
                  rw [Nat.add_comm j 1] at e1 e2 e3 e4 e5 e6 e7 hdst hkst
                  generalize (rpo c).getD (1 + j) 0 = x at hor e1 e2 e3 e4 e5 e6 e7 hdst hkst
                  rw [HCL.out] at e3 e4
                  have hix : wo2.cell? ⟨ib, x, none⟩ = some (.int .i64 (f x : Int)) := by
                    have h1 := HID.out x (by rw [HCL.out]; exact e3)
                    rw [if_pos ⟨e1, e2⟩] at h1
                    have hl := HIDL.out
                    rw [HCL.out] at hl
                    rw [cell_of (HUr.out.heap HI7.out (by simp; have := HN1.out; omega)), icells_get _ _ (by omega), getD_dflt 0 (-1) (by omega), h1]
                  have hTr := HUr.out.heap HT7.out (by simp; omega)
                  have ht1 : wo2.cell? ⟨tb, 1, none⟩ = some (.slice (some ⟨ib, 0, none⟩) g.length g.length) := by rw [cell_of hTr]; rfl
                  have ht2 : wo2.cell? ⟨tb, 2, none⟩ = some (.slice (some ⟨db, 0, none⟩) g.length g.length) := by rw [cell_of hTr]; rfl
                  have ht3 : wo2.cell? ⟨tb, 3, none⟩ = some (.slice (some ⟨kb, 0, none⟩) g.length g.length) := by rw [cell_of hTr]; rfl
                  have hdx := cell_of HDr.out (f x)
                  have hdy := cell_of HDr.out x
                  rw [icells_get _ _ (by rw [depR_len, HCL.out]; exact e4), depR_get _ _ _ _ (by rw [HCL.out]; exact e4), Nat.add_comm j 1, if_pos e5] at hdx
                  rw [icells_get _ _ (by rw [depR_len, HCL.out]; exact e3)] at hdy
                  have hfd := froz_of HDr.out x
                  have hdst2 := heap_setCell HDr.out x (.int .i64 (dep c f x : Int))
                  rw [icells_set, Nat.add_comm j 1, hdst] at hdst2
                  have hsum : IntKind.i64.wrap ((dep c f (f x) : Int) + 1) = (dep c f x : Int) := by
                    rw [e6]; exact IntWalk.i64_in _ (by omega)
                  have HTr := Lib.hid hTr
                  have HDST := Lib.hid hdst2
                  have HKST := Lib.hid hkst
                  have E1 := Lib.hid e1
                  have E2 := Lib.hid e2
                  have E5 := Lib.hid e5
                  have E6 := Lib.hid e6
                  have E7 := Lib.hid e7
                  clear hTr hdst hdst2 hkst e1 e2 e5 e6 e7
                  generalize dep c f (f x) = dq at hdx hsum
                  generalize dep c f x = dx at hsum HDST
                  go_upto_region 21 with fail
                  go_region
                  have HU8 := Lib.hid ((HUr.out.setCell (p := ⟨db, x, none⟩) (.inl (by simp)) (.int .i64 (dx : Int))).drew)
                  have hs8 := (Upd.refl [db] wo2).setCell (p := ⟨db, x, none⟩) (.inl (by simp)) (.int .i64 (dx : Int))
                  have hdb8 : (wo2.setCell ⟨db, x, none⟩ (.int .i64 (dx : Int))).drew.heap[db]? = some (.cells (icells (depR c f (1 + j + 1))) 3) := HDST.out
                  have HD8 := Lib.hid hdb8
                  have HK8 := Lib.hid (HKr.out.upd hs8.drew (by simpa using t7) (fun i hi q hq hm => by have := ((HKr.out.own i hi).lt q hq).1; simp at hm; omega))
                  have hc3 := hs8.drew.cell ht3 (by simpa using t2)
                  clear hdb8 hs8 hix ht1 ht2 ht3 hdx hdy hfd hor HDr HKr
                  generalize (wo2.setCell ⟨db, x, none⟩ (.int .i64 (dx : Int))).drew = w8 at HU8 HD8 HK8 hc3 ⊢
                  have hs7b := HU8.out.size
                  have hxf : f x < (intsL (kidsP c f (1 + j))).length := by rw [intsL_len, kidsP_len, HCL.out]; exact e4
                  have hkf : Hid ((intsL (kidsP c f (1 + j))).getD (f x) [] = ints (kidP c f (1 + j) (f x))) := by
                    show _ = _
                    rw [intsL_get, kidsP_get c f _ _ (by rw [HCL.out]; exact e4)]
                  rw [Nat.add_comm j 1] at HK8
                  have HK8d := Lib.hid (HK8.out.upd (Upd.refl [] w8).drew (by simp) (by simp))
                  have hrow := HK8.out.cell (f x) hxf
                  have hrw := HK8.out.own (f x) hxf
                  obtain ⟨sp, sc, hsv⟩ := hrw.shape
                  have hfz8 := froz_of HK8.out.blk (f x)
                  have hkl8 : ((intsL (kidsP c f (1 + j))).getD (f x) []).length ≤ 1000 := by
                    rw [hkf.out, ints_len]
                    have h1 : (kidP c f (1 + j) (f x)).length ≤ ((rpo c).take (1 + j)).length := List.length_filter_le _ _
                    have h2 : ((rpo c).take (1 + j)).length ≤ (rpo c).length := by rw [List.length_take]; omega
                    rw [HLE.out] at h2
                    omega
                  have HXF := Lib.hid hxf
                  generalize hrl : (intsL (kidsP c f (1 + j))).getD (f x) [] = row at hrw hsv hkl8 hkf
                  have HRL := Lib.hid hrl
                  rw [hsv] at hrow
                  have hrw2 := World.ownsRow.drew hrw
                  rw [hsv] at hrw2
                  have HRW2 := Lib.hid hrw2
                  have HSV := Lib.hid hsv
                  clear hrw hrw2 hsv hrl hxf
                  go_wp2_with fail
                  have hc32 := fun o => ((Upd.refl [] w8).drew.alloc o).cell hc3 (by simp)
                  have hrow2 := fun o => ((Upd.refl [] w8).drew.alloc o).cell hrow (by simp)
                  have hrow3 := fun o => ((Upd.refl [] w8).alloc o).cell hrow (by simp)
                  refine wp_region_noPanic ?_
                  refine wp_region_held_drew (S := fun w' => w'.cell? ⟨tb, 3, none⟩ = some (.slice (some ⟨kb, 0, none⟩) g.length g.length)) (by kernel_rfl) ?_ (fun hHeld => ?_)
                  · first | exact hc3 | exact hc32 _ | exact hk9 | exact hk10 _
                  refine wpAnyH_take (i := 0) (oi := ?_) (v := ?_) ?_ (by kernel_rfl) (by kernel_rfl) (by kernel_rfl) (fun _ _ _ h => h) (Or.inl ⟨?_, ?_⟩) hHeld ?_
                  rotate_left 2
                  · simp only [List.getElem?_toArray, List.getElem?_cons_zero]; rfl
                  · rfl
                  · intro _ hSw; (try dsimp only at hSw); go_simp <;> with_reducible rfl
                  (try simp only [Act.put, List.setIfInBounds_toArray, List.set_cons_zero, List.set_cons_succ])
                  refine wpAnyH_take (i := 1) (oi := ?_) (v := ?_) ?_ (by kernel_rfl) (by kernel_rfl) (by kernel_rfl) (fun _ _ _ h => h) (Or.inl ⟨?_, ?_⟩) hHeld ?_
                  rotate_left 2
                  · simp only [List.getElem?_toArray, List.getElem?_cons_zero, List.getElem?_cons_succ]; rfl
                  · rfl
                  · intro _ hSw; (try dsimp only at hSw); go_simp <;> with_reducible rfl
                  (try simp only [Act.put, List.setIfInBounds_toArray, List.set_cons_zero, List.set_cons_succ])
                  refine wpAnyH_take (i := 2) (oi := ?_) (v := ?_) ?_ (by kernel_rfl) (by kernel_rfl) (by kernel_rfl) (fun _ _ _ h => h) (Or.inl ⟨?_, ?_⟩) hHeld ?_
                  rotate_left 2
                  · simp only [List.getElem?_toArray, List.getElem?_cons_zero, List.getElem?_cons_succ]; rfl
                  · rfl
                  · intro _ hSw; (try dsimp only at hSw); go_simp <;> with_reducible rfl
                  (try simp only [Act.put, List.setIfInBounds_toArray, List.set_cons_zero, List.set_cons_succ])
                  refine wpAnyH_take (i := 3) (oi := ?_) (v := ?_) ?_ (by kernel_rfl) (by kernel_rfl) (by kernel_rfl) (fun _ _ _ h => h) (Or.inl ⟨?_, ?_⟩) hHeld ?_
                  rotate_left 2
                  · simp only [List.getElem?_toArray, List.getElem?_cons_zero, List.getElem?_cons_succ]; rfl
                  · rfl
                  · intro _ hSw; (try dsimp only at hSw); go_simp <;> with_reducible rfl
                  (try simp only [Act.put, List.setIfInBounds_toArray, List.set_cons_zero, List.set_cons_succ])
                  refine wpAnyH_take (i := 4) (oi := ?_) (v := ?_) ?_ (by kernel_rfl) (by kernel_rfl) (by kernel_rfl) (fun _ _ _ h => h) (Or.inl ⟨?_, ?_⟩) hHeld ?_
                  rotate_left 2
                  · simp only [List.getElem?_toArray, List.getElem?_cons_zero, List.getElem?_cons_succ]; rfl
                  · rfl
                  · intro _ hSw; (try dsimp only at hSw); go_simp <;> with_reducible rfl
                  (try simp only [Act.put, List.setIfInBounds_toArray, List.set_cons_zero, List.set_cons_succ])
                  refine wpAnyH_take (i := 5) (oi := ?_) (v := ?_) ?_ (by kernel_rfl) (by kernel_rfl) (by kernel_rfl) (fun _ _ _ h => h) (Or.inl ⟨?_, ?_⟩) hHeld ?_
                  rotate_left 2
                  · simp only [List.getElem?_toArray, List.getElem?_cons_zero, List.getElem?_cons_succ]; rfl
                  · rfl
                  · intro _ hSw; (try dsimp only at hSw); go_simp <;> with_reducible rfl
                  (try simp only [Act.put, List.setIfInBounds_toArray, List.set_cons_zero, List.set_cons_succ])
                  refine wpAnyH_take (i := 6) (oi := ?_) (v := ?_) ?_ (by kernel_rfl) (by kernel_rfl) (by kernel_rfl) (fun _ _ _ h => h) (Or.inl ⟨?_, ?_⟩) hHeld ?_
                  rotate_left 2
                  · simp only [List.getElem?_toArray, List.getElem?_cons_zero, List.getElem?_cons_succ]; rfl
                  · rfl
                  · intro _ hSw; (try dsimp only at hSw); go_simp <;> with_reducible rfl
                  (try simp only [Act.put, List.setIfInBounds_toArray, List.set_cons_zero, List.set_cons_succ])
                  refine wpAnyH_take (i := 7) (oi := ?_) (v := ?_) ?_ (by kernel_rfl) (by kernel_rfl) (by kernel_rfl) (fun _ _ _ h => h) (Or.inl ⟨?_, ?_⟩) hHeld ?_
                  rotate_left 2
                  · simp only [List.getElem?_toArray, List.getElem?_cons_zero, List.getElem?_cons_succ]; rfl
                  · rfl
                  · intro _ hSw; (try dsimp only at hSw); go_simp <;> with_reducible rfl
                  (try simp only [Act.put, List.setIfInBounds_toArray, List.set_cons_zero, List.set_cons_succ])
                  refine wpAnyH_take (i := 8) (oi := ?_) (v := ?_) ?_ (by kernel_rfl) (by kernel_rfl) (by kernel_rfl) (fun _ _ _ h => h) (Or.inl ⟨?_, ?_⟩) hHeld ?_
                  rotate_left 2
                  · simp only [List.getElem?_toArray, List.getElem?_cons_zero, List.getElem?_cons_succ]; rfl
                  · rfl
                  · intro _ hSw; (try dsimp only at hSw); go_simp <;> with_reducible rfl
                  (try simp only [Act.put, List.setIfInBounds_toArray, List.set_cons_zero, List.set_cons_succ])
                  refine wpAnyH_take (i := 9) (oi := ?_) (v := ?_) ?_ (by kernel_rfl) (by kernel_rfl) (by kernel_rfl) (fun _ _ _ h => h) (Or.inl ⟨?_, ?_⟩) hHeld ?_
                  rotate_left 2
                  · simp only [List.getElem?_toArray, List.getElem?_cons_zero, List.getElem?_cons_succ]; rfl
                  · rfl
                  · intro _ hSw; (try dsimp only at hSw); go_simp <;> with_reducible rfl
                  (try simp only [Act.put, List.setIfInBounds_toArray, List.set_cons_zero, List.set_cons_succ])
                  refine wpAnyH_take (i := 10) (oi := ?_) (v := ?_) ?_ (by kernel_rfl) (by kernel_rfl) (by kernel_rfl) (fun _ _ _ h => h) (Or.inl ⟨?_, ?_⟩) hHeld ?_
                  rotate_left 2
                  · simp only [List.getElem?_toArray, List.getElem?_cons_zero, List.getElem?_cons_succ]; rfl
                  · rfl
                  · intro _ hSw; (try dsimp only at hSw); go_simp <;> with_reducible rfl
                  (try simp only [Act.put, List.setIfInBounds_toArray, List.set_cons_zero, List.set_cons_succ])
                  refine wpAnyH_take (i := 12) (oi := ?_) (v := ?_) ?_ (by kernel_rfl) (by kernel_rfl) (by kernel_rfl) (fun _ _ _ h => h) (Or.inl ⟨?_, ?_⟩) hHeld ?_
                  rotate_left 2
                  · simp only [List.getElem?_toArray, List.getElem?_cons_zero, List.getElem?_cons_succ]; rfl
                  · rfl
                  · intro _ hSw; (try dsimp only at hSw); go_simp <;> with_reducible rfl
                  (try simp only [Act.put, List.setIfInBounds_toArray, List.set_cons_zero, List.set_cons_succ])
                  refine wpAnyH_ready (rs := [11, 13]) (by kernel_rfl) (by simp) ?_
                  refine (AllReadyH.cons (o := ?o11) ?ho11 (fun K hK => ?w11) (AllReadyH.cons (o := ?o13) ?ho13 (fun K hK => ?w13) AllReadyH.nil))
                  case ho11 => (simp only [List.getElem?_toArray, List.getElem?_cons_zero, List.getElem?_cons_succ]; rfl)
                  case ho13 => (simp only [List.getElem?_toArray, List.getElem?_cons_zero, List.getElem?_cons_succ]; rfl)
                  case' w11 =>
                    clear hHeld
                    go_simp
                    refine hK.out _ _ ?_ (fun hHeld => ?_)
                    · first | exact hc3 | exact hc32 _ | exact hk9 | exact hk10 _
                    clear hK K
                    (try simp only [Act.put, List.setIfInBounds_toArray, List.set_cons_zero, List.set_cons_succ])
                    refine wpAnyH_ready (rs := [13]) (by kernel_rfl) (by simp) ?_
                    refine AllReadyH.cons (o := ?_) ?_ (fun K hK => ?_) AllReadyH.nil
                    rotate_left 1
                    · simp only [List.getElem?_toArray, List.getElem?_cons_zero, List.getElem?_cons_succ]; rfl
                    clear hHeld
                    go_simp
                    refine hK.out _ _ ?_ (fun hHeld => ?_)
                    · first | exact hc3 | exact hc32 _ | exact hk9 | exact hk10 _
                    clear hK K
                    (try simp only [Act.put, List.setIfInBounds_toArray, List.set_cons_zero, List.set_cons_succ])
                  case' w13 =>
                    clear hHeld
                    go_simp
                    refine hK.out _ _ ?_ (fun hHeld => ?_)
                    · first | exact hc3 | exact hc32 _ | exact hk9 | exact hk10 _
                    clear hK K
                    (try simp only [Act.put, List.setIfInBounds_toArray, List.set_cons_zero, List.set_cons_succ])
                    refine wpAnyH_ready (rs := [11]) (by kernel_rfl) (by simp) ?_
                    refine AllReadyH.cons (o := ?_) ?_ (fun K hK => ?_) AllReadyH.nil
                    rotate_left 1
                    · simp only [List.getElem?_toArray, List.getElem?_cons_zero, List.getElem?_cons_succ]; rfl
                    clear hHeld
                    go_simp
                    refine hK.out _ _ ?_ (fun hHeld => ?_)
                    · first | exact hc3 | exact hc32 _ | exact hk9 | exact hk10 _
                    clear hK K
                    (try simp only [Act.put, List.setIfInBounds_toArray, List.set_cons_zero, List.set_cons_succ])
                  all_goals
                    refine wpAnyH_ready (rs := [14]) (by kernel_rfl) (by simp) ?_
                    refine AllReadyH.cons (o := ?_) ?_ (fun K hK => ?_) AllReadyH.nil
                    rotate_left 1
                    · simp only [List.getElem?_toArray, List.getElem?_cons_zero, List.getElem?_cons_succ]; rfl
                    clear hHeld
                    (refine step_append_own_at rfl (.tmp 113) (.tmp 115) 27 rfl w7.heap.size 3 i1 (.int .i64 0) 1 8 Tryd.underlying27 HI0.out HZ0.out HZ1.out HZ2.out rfl (by decide) _ _ _ rfl (HRW2.out.alloc _) ⟨w8.heap.size, 0, none⟩ 1 1 [.int .i64 (x : Int)] rfl rfl (cell_one_newD _ _ _) (by simp [Value.oneCell']) (by unfold maxLen; omega) (by omega) (by simp; omega) ?_; intro v' w6 hown' hgrow hat; have HAP := Lib.hid (HK8d.out.push (f x) HXF.out (by rw [HRL.out]; exact hown') (by rw [HSV.out]; exact hgrow) (by rw [HSV.out]; exact hat)); have hu6 := ((Upd.refl (Value.slice sp row.length sc).ownBlock.toList w8.drew).alloc _).grown hgrow (fun q hq => Or.inl (Option.mem_toList.2 hq)); have hbl := fun q (hq : q ∈ (Value.slice sp row.length sc).ownBlock.toList) => ((HK8.out.own (f x) HXF.out).lt q (by rw [HSV.out]; exact Option.mem_toList.1 hq)).1; have hk9 := hu6.cell (p := ⟨tb, 3, none⟩) hc3 (fun hm => by have := hbl _ hm; simp at this; omega); have hcc2 := hu6.cell (p := ⟨kb, f x, none⟩) hrow (fun hm => by have := hbl _ hm; simp at this; omega); have hfz2 := froz_of HAP.out.1 (f x); have hk10 := fun v => ((Upd.refl [kb] w6).setCell (p := ⟨kb, f x, none⟩) (Or.inl (by simp)) v).cell hk9 (by simpa using t3); obtain ⟨g6, c6, rfl⟩ := ownsRow_succ hown'; clear hu6 hbl hown' hgrow hat)
                    refine hK.out _ _ ?_ (fun hHeld => ?_)
                    · first | exact hc3 | exact hc32 _ | exact hk9 | exact hk10 _
                    clear hK K
                    (try simp only [Act.put, List.setIfInBounds_toArray, List.set_cons_zero, List.set_cons_succ])
                    refine wpAnyH_take (i := 15) (oi := ?_) (v := ?_) ?_ (by kernel_rfl) (by kernel_rfl) (by kernel_rfl) (fun _ _ _ h => h) (Or.inl ⟨?_, ?_⟩) hHeld ?_
                    rotate_left 2
                    · simp only [List.getElem?_toArray, List.getElem?_cons_zero, List.getElem?_cons_succ]; rfl
                    · rfl
                    · intro _ hSw; (try dsimp only at hSw); go_simp <;> with_reducible rfl
                    (try simp only [Act.put, List.setIfInBounds_toArray, List.set_cons_zero, List.set_cons_succ])
                    refine wpAnyH_ready (rs := [16]) (by kernel_rfl) (by simp) ?_
                    refine AllReadyH.cons (o := ?_) ?_ (fun K hK => ?_) AllReadyH.nil
                    rotate_left 1
                    · simp only [List.getElem?_toArray, List.getElem?_cons_zero, List.getElem?_cons_succ]; rfl
                    clear hHeld
                    go_simp
                    refine hK.out _ _ ?_ (fun hHeld => ?_)
                    · first | exact hc3 | exact hc32 _ | exact hk9 | exact hk10 _
                    clear hK K
                    (try simp only [Act.put, List.setIfInBounds_toArray, List.set_cons_zero, List.set_cons_succ])
                    refine wpAnyH_done (by kernel_rfl) ?_ _
                    refine NoPanic.normal ?_
                    obtain ⟨_, hL2, hu2, hge2⟩ := HAP.out
                    rw [intsL_get, ← ints_snoc, intsL_set, HKST.out] at hL2
                    have HL2 := Lib.hid hL2
                    have hu2' := ((Upd.refl [] w8).drew.mono (by simp)).trans hu2
                    have HD9 := Lib.hid (hu2'.heap HD8.out (fun hm => by have := hge2 _ hm; omega))
                    have HU9 := Lib.hid (HU8.out.trans' hu2' (fun q hq hlt2 => by have := hge2 q hq; simp; omega))
                    clear hL2 hu2 hge2 hu2' HAP hHeld hk9 hk10 hcc2 hfz2 hc3 hc32 hrow hrow2 hrow3 hfz8
                    go_wp2_with fail
                    go_roundw
                    case rel => exact ⟨j + 1, _, by omega, by go_num, by have := HD9.out; rwa [Nat.add_comm 1 j] at this, by have := HL2.out; rwa [Nat.add_comm 1 j] at this, HU9.out⟩
                    case measure => simp [intOf]; omega
                · obtain rfl : j = k - 1 := by omega
                  rw [show k - 1 + 1 = (rpo c).length by rw [HLE.out]; omega] at HDr HKr
                  rw [← kidsS_zero] at HKr
                  have hTr := HUr.out.heap HT7.out (by simp; omega)
                  have ht3 : wo2.cell? ⟨tb, 3, none⟩ = some (.slice (some ⟨kb, 0, none⟩) g.length g.length) := by rw [cell_of hTr]; rfl
                  clear hTr
                  have hrb : ∀ i, i < g.length → ∃ q l c7, ks.getD i undef = .slice q l c7 ∧ l = ((kidsS c f 0).getD i []).length := fun i hi => by
                    obtain ⟨q, c7, e⟩ := (HKr.out.own i (by rw [intsL_len, kidsS_len, HCL.out]; exact hi)).shape
                    exact ⟨q, _, c7, e, by rw [intsL_get, ints_len]⟩
                  have HRB := Lib.hid hrb
                  have HDr2 := Lib.hid HDr.out
                  clear hrb
                  go_wp2_with fail
                  go_loopw [124] (fun iv wr => ∃ i : Nat, i ≤ g.length ∧ iv = .int .i64 (i : Int) ∧ Hid (OwnL wr w.heap.size w7.heap.size kb ks (intsL (kidsS c f i))) ∧ Hid (Upd (ks.filterMap Value.ownBlock) wo2 wr)) (fun iv _ => g.length - (intOf iv).toNat)
                  case atStart => exact ⟨0, by omega, rfl, HKr.out, Upd.refl _ _⟩
                  case round =>
                    obtain ⟨i, hi, rfl, HKq, HUq2⟩ := hrel
                    obtain ⟨w9, rfl⟩ : ∃ w9 : World, w9 = wr := ⟨_, rfl⟩
                    by_cases hil : i < g.length
                    · have hic : i < c.length := by rw [HCL.out]; exact hil
                      have hix : i < (intsL (kidsS c f i)).length := by rw [intsL_len, kidsS_len]; exact hic
                      have hrow := HKq.out.cell i hix
                      have hown := HKq.out.own i hix
                      have hget : (intsL (kidsS c f i)).getD i [] = ints (kidP c f (rpo c).length i) := by
                        rw [intsL_get, kidsS_get c f i i hic, if_neg (by omega)]
                      have hst : (intsL (kidsS c f i)).set i (ints (kidF c f i)) = intsL (kidsS c f (i + 1)) := by
                        rw [intsL_set, kidsS_step c f i hic]
                      have hsort := sort_kid hclean H0.out f i
                      have HGET := Lib.hid hget
                      have HST := Lib.hid hst
                      have HSO := Lib.hid hsort
                      rw [hget] at hown
                      have HOWN := Lib.hid hown
                      have HIX := Lib.hid hix
                      clear hget hst hsort hix
                      rcases hown.form with ⟨hv, hnil⟩ | ⟨q, c7, hv, hlc, hqb, hql, _⟩
                      · rw [hv] at hrow
                        have HNIL := Lib.hid hnil
                        clear hown hv hnil
                        go_wp2_with fail
                        refine (Tryd.slices_Sort_int_none none 0 _).mono ?_
                        rintro e w' ⟨rfl, rfl⟩
                        have HKn : Hid (OwnL w' w.heap.size w7.heap.size kb ks (intsL (kidsS c f (i + 1)))) := by
                          show OwnL _ _ _ _ _ _
                          have e1 : ints (kidF c f i) = (intsL (kidsS c f i)).getD i [] := by
                            rw [HGET.out, HNIL.out, ← HSO.out, HNIL.out]; simp
                          rw [← HST.out, e1]
                          have e2 : (intsL (kidsS c f i)).set i ((intsL (kidsS c f i)).getD i []) = intsL (kidsS c f i) := by
                            apply List.ext_getElem
                            · simp
                            · intro a h1 h2
                              rw [List.getElem_set]
                              split
                              · rename_i e3
                                subst e3
                                rw [List.getD_eq_getElem?_getD, List.getElem?_eq_getElem h2]; rfl
                              · rfl
                          rw [e2]
                          exact HKq.out
                        go_wp2_with fail
                        go_roundw
                        case rel => exact ⟨i + 1, by omega, by go_num, HKn.out, HUq2.out⟩
                        case measure => simp [intOf]; omega
                      · rw [hv] at hrow
                        have HV := Lib.hid hv
                        rw [hv] at hown
                        have hho := hown.holds
                        have hln : (ints (kidP c f (rpo c).length i)).length ≤ 1000 := by
                          rw [ints_len]
                          have h1 : (kidP c f (rpo c).length i).length ≤ ((rpo c).take (rpo c).length).length := List.length_filter_le _ _
                          rw [List.take_length] at h1
                          have h2 := HLE.out
                          omega
                        have HSRT := Lib.hid (Tryd.slices_Sort_int q 0 c7 (ints (kidP c f (rpo c).length i)) w9 hho hql (by omega))
                        have hsl : (ints (kidF c f i)).length = (ints (kidP c f (rpo c).length i)).length := by
                          rw [← HSO.out, List.length_mergeSort]
                        have HSL := Lib.hid hsl
                        rw [HSO.out] at HSRT
                        clear hown hv hho hsl
                        generalize (ints (kidP c f (rpo c).length i)).length = ln at hrow HSRT HSL hln
                        go_wp2_with fail
                        refine HSRT.out.mono ?_
                        rintro e w' ⟨rfl, nq, os, rfl⟩
                        have hs := HKq.out.sorted i HIX.out (n := nq) (ys := ints (kidF c f i)) (q := q) (c := c7) (by rw [HV.out, HGET.out]) (by rw [HGET.out, ← HSO.out, List.length_mergeSort]) os
                        rw [HST.out] at hs
                        have hqm : q ∈ ks.filterMap Value.ownBlock := by
                          rw [List.mem_filterMap]
                          have hkl : i < ks.length := by rw [HKq.out.len]; exact HIX.out
                          refine ⟨ks[i], List.getElem_mem hkl, ?_⟩
                          have := HV.out
                          rw [List.getD_eq_getElem?_getD, List.getElem?_eq_getElem hkl] at this
                          simp only [Option.getD_some] at this
                          rw [this]; rfl
                        have HKn := Lib.hid hs.1
                        have HUn := Lib.hid (HUq2.out.trans (hs.2.mono (fun a ha _ => by simp at ha; subst ha; exact hqm)))
                        clear hs hqm HSRT
                        generalize Sort.grow _ os = w10 at HKn HUn ⊢
                        go_wp2_with fail
                        go_roundw
                        case rel => exact ⟨i + 1, by omega, by go_num, HKn.out, HUn.out⟩
                        case measure => simp [intOf]; omega
                    · obtain rfl : i = g.length := by omega
                      have hK := HKq.out
                      rw [← HCL.out, kidsS_all] at hK
                      have HKz := Lib.hid hK
                      clear hK
                      have hfb : ∀ q, q ∈ ks.filterMap Value.ownBlock → w7.heap.size ≤ q := fun q hq => by
                        rw [List.mem_filterMap] at hq
                        obtain ⟨v, hv, hvo⟩ := hq
                        obtain ⟨a9, ha9, e9⟩ := List.getElem_of_mem hv
                        have hl9 := HKr.out.len
                        refine ((HKr.out.own a9 (by omega)).lt q ?_).1
                        rw [List.getD_eq_getElem?_getD, List.getElem?_eq_getElem ha9]
                        simp only [Option.getD_some]
                        rw [e9]
                        exact hvo
                      have HFB := Lib.hid hfb
                      clear hfb
                      go_wp2_with fail
                      go_ret
                      have hTz := HUq2.out.heap (HUr.out.heap HT7.out (by simp; omega)) (fun hm => by have := HFB.out _ hm; omega)
                      have hIz := HUq2.out.heap (HUr.out.heap HI7.out (by simp; have := HN1.out; omega)) (fun hm => by have := HFB.out _ hm; omega)
                      have hDz := HUq2.out.heap HDr2.out (fun hm => by have := HFB.out _ hm; omega)
                      have hPz := (HP7.out.upd HUr.out (by simp; have := HN2.out; omega) (fun i hi k hk hm => by
                        have h1 := HN5.out i hi k hk
                        simp at hm
                        rcases hm with hm | hm
                        · exact h1.2.1 hm
                        · have h2 := own_heap_ne (HP7.out.own i hi) HK7.out (by decide)
                          rw [← hm] at h2
                          exact h2 hk)).upd HUq2.out (fun hm => by have := HFB.out _ hm; omega) (fun i hi k hk hm => by
                        have h1 := HN5.out i hi k hk
                        have := HFB.out _ hm; omega)
                      rw [HCC.out]
                      refine ⟨tb, f, rfl, ⟨gb, ib, db, kb, G, B, w.heap.size, w7.heap.size, vs, ks, ids, by rw [HCL.out]; exact hTz, fun _ => HEX.out, HIDL.out, HID.out, hPz, hIz, hDz, HKz.out, l1, l3, l4, l6, Nat.le_refl _⟩, ?_⟩
                      · exact (((HU0.out.trans' HU6.out (fun q hq _ => by simp at hq; omega)).trans' HU7.out (fun q hq _ => by simp at hq; omega)).trans' HUr.out (fun q hq _ => by simp at hq; omega)).trans' HUq2.out (fun q hq _ => by have := HFB.out q hq; omega)

end Go.Proofs.YtjjkliifpdcliaaDoor
