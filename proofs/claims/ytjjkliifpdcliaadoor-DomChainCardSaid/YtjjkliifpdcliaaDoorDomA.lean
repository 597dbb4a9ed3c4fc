/- dom.Tree's questions: there, Idom, Depth, Above. -/
import Derived.Test.YtjjkliifpdcliaaDoorDomO
namespace Go.Proofs.YtjjkliifpdcliaaDoor
open Go.RowKit

/-- A tree in memory, whatever its last cells hold. -/
def TreeG (w : World) (B tb : Nat) (c : List (List Nat)) (f : Nat → Nat) (va vb vc fr : Value) : Prop := ∃ gb ib db kb G1 B1 G2 B2 vs ks ids,
  w.heap[tb]? = some (.cells #[.slice (some ⟨gb, 0, none⟩) c.length c.length, .slice (some ⟨ib, 0, none⟩) c.length c.length, .slice (some ⟨db, 0, none⟩) c.length c.length, .slice (some ⟨kb, 0, none⟩) c.length c.length, va, vb, vc, fr] 58) ∧
  (c ≠ [] → Exact (Rd c) (Ed c) (posn c) f) ∧ ids.length = c.length ∧ (∀ v, v < c.length → ids.getD v (-1) = if Rd c v ∧ v ≠ 0 then (f v : Int) else -1) ∧
  OwnL w G1 B1 gb vs (intsL (predsL c)) ∧ w.heap[ib]? = some (.cells (icells ids) 3) ∧ w.heap[db]? = some (.cells (icells (depR c f (rpo c).length)) 3) ∧ OwnL w G2 B2 kb ks (intsL (kidsF c f)) ∧
  B ≤ tb ∧ B ≤ ib ∧ B ≤ db ∧ B ≤ G1 ∧ B ≤ G2
theorem TreeAt.g {w : World} {B tb : Nat} {c : List (List Nat)} {f : Nat → Nat} {d : Int} {fr : Value} (h : TreeAt w B tb c f d fr) : TreeG w B tb c f (.int .u32 d) (.int .i32 0) (.int .u32 0) fr := h
theorem TreeG.at {w : World} {B tb : Nat} {c : List (List Nat)} {f : Nat → Nat} {d : Int} {fr : Value} (h : TreeG w B tb c f (.int .u32 d) (.int .i32 0) (.int .u32 0) fr) : TreeAt w B tb c f d fr := h
theorem TreeG.low {w w' : World} {B tb : Nat} {c : List (List Nat)} {f : Nat → Nat} {va vb vc fr : Value} {S : List Nat} (h : TreeG w B tb c f va vb vc fr) (hu : Upd S w w') (hS : ∀ k ∈ S, k < B) : TreeG w' B tb c f va vb vc fr := by
  obtain ⟨gb, ib, db, kb, G1, B1, G2, B2, vs, ks, ids, h1, h2, h3, h4, h5, h6, h7, h8, l1, l2, l3, l4, l5⟩ := h
  exact ⟨gb, ib, db, kb, G1, B1, G2, B2, vs, ks, ids, hu.heap h1 (fun hm => by have := hS _ hm; omega), h2, h3, h4, h5.low hu (fun k hk => by have := hS _ hk; omega), hu.heap h6 (fun hm => by have := hS _ hm; omega), hu.heap h7 (fun hm => by have := hS _ hm; omega), h8.low hu (fun k hk => by have := hS _ hk; omega), l1, l2, l3, l4, l5⟩
/-- One of the last cells is stored. -/
theorem TreeG.put {w : World} {B tb : Nat} {c : List (List Nat)} {f : Nat → Nat} {va vb vc fr va' vb' vc' fr' v : Value} {k : Nat} (h : TreeG w B tb c f va vb vc fr)
    (hk : ∀ s0 s1 s2 s3 : Value, (#[s0, s1, s2, s3, va, vb, vc, fr] : Array Value).setIfInBounds k v = #[s0, s1, s2, s3, va', vb', vc', fr']) : TreeG (w.setCell ⟨tb, k, none⟩ v) B tb c f va' vb' vc' fr' := by
  obtain ⟨gb, ib, db, kb, G1, B1, G2, B2, vs, ks, ids, h1, h2, h3, h4, h5, h6, h7, h8, l1, l2, l3, l4, l5⟩ := h
  have hu : Upd [tb] w (w.setCell ⟨tb, k, none⟩ v) := (Upd.refl _ _).setCell (.inl (by simp)) _
  have n1 : ib ≠ tb := by rintro rfl; rw [h1] at h6; simp at h6
  have n2 : db ≠ tb := by rintro rfl; rw [h1] at h7; simp at h7
  have n3 : gb ≠ tb := by rintro rfl; have := h5.blk; rw [h1] at this; simp at this
  have n4 : kb ≠ tb := by rintro rfl; have := h8.blk; rw [h1] at this; simp at this
  have n5 : ∀ i, i < (intsL (predsL c)).length → ∀ q, (vs.getD i undef).ownBlock = some q → q ∉ [tb] := fun i hi q hq hm => by
    simp at hm
    subst hm
    exact own_heap_ne (h5.own i hi) h1 (by decide) hq
  have n6 : ∀ i, i < (intsL (kidsF c f)).length → ∀ q, (ks.getD i undef).ownBlock = some q → q ∉ [tb] := fun i hi q hq hm => by
    simp at hm
    subst hm
    exact own_heap_ne (h8.own i hi) h1 (by decide) hq
  exact ⟨gb, ib, db, kb, G1, B1, G2, B2, vs, ks, ids, by rw [heap_setCell h1, hk], h2, h3, h4, h5.upd hu (by simpa using n3) n5, hu.heap h6 (by simpa using n1), hu.heap h7 (by simpa using n2), h8.upd hu (by simpa using n4) n6, l1, l2, l3, l4, l5⟩

/-- Whether a place is one that can be reached. -/
def thereP (c : List (List Nat)) (i : Int) : Prop := 0 ≤ i ∧ Rd c i.toNat
instance (c : List (List Nat)) (i : Int) : Decidable (thereP c i) := inferInstanceAs (Decidable (_ ∧ _))

theorem rd_lt {c : List (List Nat)} (hc : Clean c) {v : Nat} (h : Rd c v) : v < c.length := by
  by_cases h0 : c = []
  · subst h0
    exact absurd h (by simp [Rd, rpo, dfs])
  · exact (rpo_facts hc h0).2.2.2.2 v h
theorem rd_zero {c : List (List Nat)} (hc : Clean c) : Rd c 0 ↔ 0 < c.length := by
  constructor
  · exact fun h => rd_lt hc h
  · intro h
    obtain ⟨_, hg⟩ := dfs_dg hc (by rintro rfl; simp at h)
    exact hg.r0

set_option maxHeartbeats 1000000 in
theorem there_any (c : List (List Nat)) (hc : Clean c) (hn : c.length ≤ 1000) (B tb : Nat) (f : Nat → Nat) (va vb vc fr : Value) (i : Int) (hi : -9223372036854775808 ≤ i ∧ i ≤ 9223372036854775807) (w : World) (h : TreeG w B tb c f va vb vc fr) :
    Calls Tryd.prog 28 #[.pointer (some ⟨tb, 0, none⟩), .int .i64 i] w fun e w' => e = .returned (.bool (decide (thereP c i))) ∧ w' = w := by
  obtain ⟨gb, ib, db, kb, G1, B1, G2, B2, vs, ks, ids, h1, h2, h3, h4, h5, h6, h7, h8, l1, l2, l3, l4, l5⟩ := h
  have ht1 : w.cell? ⟨tb, 1, none⟩ = some (.slice (some ⟨ib, 0, none⟩) c.length c.length) := by rw [cell_of h1]; rfl
  have HC := Lib.hid hc
  have H4 := Lib.hid h4
  have H6 := Lib.hid h6
  have H3 := Lib.hid h3
  clear h1 h2 h3 h4 h5 h6 h7 h8 l1 l2 l3 l4 l5 hc
  go_enter Tryd.func28, Tryd.ntmps28
  by_cases e0 : i = 0
  · subst e0
    by_cases hl : 0 < c.length
    · have d1 : decide (0 < (c.length : Int)) = true := decide_eq_true (by omega)
      have hr : thereP c 0 := ⟨by omega, (rd_zero HC.out).2 hl⟩
      have HR := Lib.hid hr
      clear hr
      go_wp2_with fail
      go_ret
      exact ⟨by rw [decide_eq_true HR.out]; rfl, rfl⟩
    · have hl0 : c.length = 0 := by omega
      have hr : ¬ thereP c 0 := fun h => hl ((rd_zero HC.out).1 h.2)
      have HR := Lib.hid hr
      rw [hl0] at ht1
      clear hr hl hl0
      go_wp2_with fail
      go_ret
      exact ⟨by rw [decide_eq_false HR.out]; rfl, rfl⟩
  · have d0 : (i == 0) = false := by simpa using e0
    by_cases hp : 0 < i
    · have d1 : decide (0 < i) = true := decide_eq_true hp
      by_cases hl : i < (c.length : Int)
      · have d2 : decide (i < (c.length : Int)) = true := decide_eq_true hl
        obtain ⟨v, rfl⟩ := Int.eq_ofNat_of_zero_le (show 0 ≤ i by omega)
        have hv : v < c.length := by omega
        have hci : w.cell? ⟨ib, v, none⟩ = some (.int .i64 (ids.getD v (-1))) := by
          have := H3.out
          rw [cell_of H6.out, icells_get _ _ (by omega), getD_dflt 0 (-1) (by omega)]
        rw [H4.out v hv] at hci
        by_cases hr : Rd c v
        · rw [if_pos ⟨hr, by omega⟩] at hci
          have d3 : ((f v : Int) != -1) = true := by simp
          have HR : Hid (thereP c (v : Int)) := ⟨by omega, by rw [Int.toNat_natCast]; exact hr⟩
          clear hr
          go_wp2_with fail
          go_ret
          exact ⟨by rw [decide_eq_true HR.out]; rfl, rfl⟩
        · rw [if_neg (fun e => hr e.1)] at hci
          have HR : Hid (¬ thereP c (v : Int)) := fun h => hr (by have := h.2; rwa [Int.toNat_natCast] at this)
          clear hr
          go_wp2_with fail
          go_ret
          exact ⟨by rw [decide_eq_false HR.out]; rfl, rfl⟩
      · have d2 : decide (i < (c.length : Int)) = false := decide_eq_false hl
        have HR : Hid (¬ thereP c i) := fun h => by have := rd_lt HC.out h.2; omega
        clear hl
        go_wp2_with fail
        go_ret
        exact ⟨by rw [decide_eq_false HR.out]; rfl, rfl⟩
    · have d1 : decide (0 < i) = false := decide_eq_false hp
      have HR : Hid (¬ thereP c i) := fun h => by have := h.1; omega
      clear hp
      go_wp2_with fail
      go_ret
      exact ⟨by rw [decide_eq_false HR.out]; rfl, rfl⟩

/-- Who is right above; -1: nobody. -/
def idomV (c : List (List Nat)) (f : Nat → Nat) (i : Int) : Int := if thereP c i ∧ i ≠ 0 then (f i.toNat : Int) else -1

set_option maxHeartbeats 1000000 in
theorem idom_any (c : List (List Nat)) (hc : Clean c) (hn : c.length ≤ 1000) (B tb : Nat) (f : Nat → Nat) (va vb vc fr : Value) (i : Int) (hi : -9223372036854775808 ≤ i ∧ i ≤ 9223372036854775807) (w : World) (h : TreeG w B tb c f va vb vc fr) :
    Calls Tryd.prog 16 #[.pointer (some ⟨tb, 0, none⟩), .int .i64 i] w fun e w' => e = .returned (.int .i64 (idomV c f i)) ∧ w' = w := by
  have HTH := Lib.hid (there_any c hc hn B tb f va vb vc fr i hi w h)
  obtain ⟨gb, ib, db, kb, G1, B1, G2, B2, vs, ks, ids, h1, h2, h3, h4, h5, h6, h7, h8, l1, l2, l3, l4, l5⟩ := h
  have ht1 : w.cell? ⟨tb, 1, none⟩ = some (.slice (some ⟨ib, 0, none⟩) c.length c.length) := by rw [cell_of h1]; rfl
  have HC := Lib.hid hc
  have H4 := Lib.hid h4
  have H6 := Lib.hid h6
  have H3 := Lib.hid h3
  clear h1 h2 h3 h4 h5 h6 h7 h8 l1 l2 l3 l4 l5 hc
  go_enter Tryd.func16, Tryd.ntmps16
  by_cases hr : thereP c i
  · rw [decide_eq_true hr] at HTH
    have hv := rd_lt HC.out hr.2
    obtain ⟨v, rfl⟩ := Int.eq_ofNat_of_zero_le hr.1
    rw [Int.toNat_natCast] at hv
    have hci : w.cell? ⟨ib, v, none⟩ = some (.int .i64 (idomV c f (v : Int))) := by
      have := H3.out
      rw [cell_of H6.out, icells_get _ _ (by omega), getD_dflt 0 (-1) (by omega), H4.out v hv]
      unfold idomV
      rw [Int.toNat_natCast]
      have hrd : Rd c v := by have := hr.2; rwa [Int.toNat_natCast] at this
      by_cases e : v = 0
      · rw [if_neg (fun h => h.2 e), if_neg (fun h => h.2 (by omega))]
      · rw [if_pos ⟨hrd, e⟩, if_pos ⟨hr, by omega⟩]
    generalize idomV c f (v : Int) = iv at hci ⊢
    clear hr
    go_wp2_with fail
    refine HTH.out.mono ?_
    rintro e w' ⟨rfl, rfl⟩
    go_wp2_with fail
    go_ret
    exact ⟨rfl, rfl⟩
  · rw [decide_eq_false hr] at HTH
    have hv : Hid (idomV c f i = -1) := if_neg (fun h => hr h.1)
    clear hr
    go_wp2_with fail
    refine HTH.out.mono ?_
    rintro e w' ⟨rfl, rfl⟩
    go_wp2_with fail
    go_ret
    exact ⟨by rw [hv.out]; rfl, rfl⟩

/-- How many stand above; 0 where a place is none. -/
def depV (c : List (List Nat)) (f : Nat → Nat) (i : Int) : Int := if thereP c i then (dep c f i.toNat : Int) else 0
theorem dep_cell {c : List (List Nat)} (hc : Clean c) {f : Nat → Nat} {w : World} {db : Nat} (h : w.heap[db]? = some (.cells (icells (depR c f (rpo c).length)) 3)) {v : Nat} (hr : Rd c v) : w.cell? ⟨db, v, none⟩ = some (.int .i64 (dep c f v : Int)) := by
  have hv := rd_lt hc hr
  rw [cell_of h, icells_get _ _ (by rw [depR_len]; exact hv), depR_get _ _ _ _ hv, List.take_length, if_pos (show v ∈ rpo c from hr)]

set_option maxHeartbeats 1000000 in
theorem depth_any (c : List (List Nat)) (hc : Clean c) (hn : c.length ≤ 1000) (B tb : Nat) (f : Nat → Nat) (va vb vc fr : Value) (i : Int) (hi : -9223372036854775808 ≤ i ∧ i ≤ 9223372036854775807) (w : World) (h : TreeG w B tb c f va vb vc fr) :
    Calls Tryd.prog 17 #[.pointer (some ⟨tb, 0, none⟩), .int .i64 i] w fun e w' => e = .returned (.int .i64 (depV c f i)) ∧ w' = w := by
  have HTH := Lib.hid (there_any c hc hn B tb f va vb vc fr i hi w h)
  obtain ⟨gb, ib, db, kb, G1, B1, G2, B2, vs, ks, ids, h1, h2, h3, h4, h5, h6, h7, h8, l1, l2, l3, l4, l5⟩ := h
  have ht1 : w.cell? ⟨tb, 2, none⟩ = some (.slice (some ⟨db, 0, none⟩) c.length c.length) := by rw [cell_of h1]; rfl
  have HC := Lib.hid hc
  have H7 := Lib.hid h7
  clear h1 h2 h3 h4 h5 h6 h7 h8 l1 l2 l3 l4 l5 hc
  go_enter Tryd.func17, Tryd.ntmps17
  by_cases hr : thereP c i
  · rw [decide_eq_true hr] at HTH
    have hv := rd_lt HC.out hr.2
    have HDV : Hid (depV c f i = (dep c f i.toNat : Int)) := if_pos hr
    obtain ⟨v, rfl⟩ := Int.eq_ofNat_of_zero_le hr.1
    rw [Int.toNat_natCast] at hv HDV
    have hrd : Rd c v := by have := hr.2; rwa [Int.toNat_natCast] at this
    have hci := dep_cell HC.out H7.out hrd
    generalize (dep c f v : Int) = iv at hci HDV
    clear hr hrd
    go_wp2_with fail
    refine HTH.out.mono ?_
    rintro e w' ⟨rfl, rfl⟩
    go_wp2_with fail
    go_ret
    exact ⟨by rw [HDV.out]; rfl, rfl⟩
  · rw [decide_eq_false hr] at HTH
    have hv : Hid (depV c f i = 0) := if_neg hr
    clear hr
    go_wp2_with fail
    refine HTH.out.mono ?_
    rintro e w' ⟨rfl, rfl⟩
    go_wp2_with fail
    go_ret
    exact ⟨by rw [hv.out]; rfl, rfl⟩

theorem anc_dep {c : List (List Nat)} {E : Nat → Nat → Prop} {par f : Nat → Nat} (hg : DG (Rd c) E (posn c) par) (t : Tr (Rd c) (posn c) f (Rd c)) {a v : Nat} (h : Anc f a v) (hv : Rd c v) : a = v ∨ dep c f a < dep c f v := by
  induction h with
  | refl => exact .inl rfl
  | up v h0 _ ih =>
    have h1 := dep_step hg t hv h0
    rcases ih (t.up v hv h0) with e | e
    · right; rw [e, h1]; omega
    · right; omega

/-- Whether a stands above b. -/
def aboveP (c : List (List Nat)) (f : Nat → Nat) (a b : Int) : Prop := thereP c a ∧ thereP c b ∧ Anc f a.toNat b.toNat

open Classical in
set_option maxRecDepth 100000 in
set_option maxHeartbeats 2000000 in
theorem above_any (c : List (List Nat)) (hc : Clean c) (hn : c.length ≤ 1000) (B tb : Nat) (f : Nat → Nat) (va vb vc fr : Value) (a b : Int) (ha : -9223372036854775808 ≤ a ∧ a ≤ 9223372036854775807) (hb : -9223372036854775808 ≤ b ∧ b ≤ 9223372036854775807) (w : World) (h : TreeG w B tb c f va vb vc fr) :
    Calls Tryd.prog 12 #[.pointer (some ⟨tb, 0, none⟩), .int .i64 a, .int .i64 b] w fun e w' => e = .returned (.bool (decide (aboveP c f a b))) ∧ Upd [] w w' := by
  have HTA := Lib.hid (there_any c hc hn B tb f va vb vc fr a ha w h)
  have HTB := Lib.hid (there_any c hc hn B tb f va vb vc fr b hb w h)
  obtain ⟨gb, ib, db, kb, G1, B1, G2, B2, vs, ks, ids, h1, h2, h3, h4, h5, h6, h7, h8, l1, l2, l3, l4, l5⟩ := h
  have ht1 : w.cell? ⟨tb, 1, none⟩ = some (.slice (some ⟨ib, 0, none⟩) c.length c.length) := by rw [cell_of h1]; rfl
  have ht2 : w.cell? ⟨tb, 2, none⟩ = some (.slice (some ⟨db, 0, none⟩) c.length c.length) := by rw [cell_of h1]; rfl
  have HC := Lib.hid hc
  have H2 := Lib.hid h2
  have H4 := Lib.hid h4
  have H6 := Lib.hid h6
  have H7 := Lib.hid h7
  have H3 := Lib.hid h3
  have HT1 := Lib.hid ht1
  have HT2 := Lib.hid ht2
  clear h1 h2 h3 h4 h5 h6 h7 h8 l1 l2 l3 l4 l5 hc ht1 ht2
  go_enter Tryd.func12, Tryd.ntmps12
  by_cases hra : thereP c a
  · rw [decide_eq_true hra] at HTA
    by_cases hrb : thereP c b
    · rw [decide_eq_true hrb] at HTB
      obtain ⟨x, rfl⟩ := Int.eq_ofNat_of_zero_le hra.1
      obtain ⟨y0, rfl⟩ := Int.eq_ofNat_of_zero_le hrb.1
      have hxr : Rd c x := by have := hra.2; rwa [Int.toNat_natCast] at this
      have hyr : Rd c y0 := by have := hrb.2; rwa [Int.toNat_natCast] at this
      have HAB : Hid (aboveP c f (x : Int) (y0 : Int) ↔ Anc f x y0) := by
        show _ ↔ _
        unfold aboveP
        rw [Int.toNat_natCast, Int.toNat_natCast]
        exact ⟨fun h => h.2.2, fun h => ⟨hra, hrb, h⟩⟩
      have hne : c ≠ [] := by
        rintro rfl
        exact absurd hxr (by simp [Rd, rpo, dfs])
      obtain ⟨par, hg⟩ := dfs_dg HC.out hne
      have HG := Lib.hid hg
      have HEX := Lib.hid (H2.out hne)
      have HX := Lib.hid hxr
      have HY := Lib.hid hyr
      have hxn := rd_lt HC.out hxr
      clear hra hrb hxr hyr hg hne
      go_wp2_with fail
      refine HTA.out.mono ?_
      rintro e w' ⟨rfl, rfl⟩
      go_wp2_with fail
      refine HTB.out.mono ?_
      rintro e w'' ⟨rfl, rfl⟩
      go_wp2_with fail
      go_loopw [2] (fun bv wr => ∃ y : Nat, bv = .int .i64 (y : Int) ∧ Hid (Rd c y) ∧ Hid (Anc f x y0 ↔ Anc f x y) ∧ Hid (Upd [] w'' wr)) (fun bv _ => dep c f (intOf bv).toNat)
      case atStart => exact ⟨y0, rfl, HY, Iff.rfl, Upd.refl _ _⟩
      case round =>
        obtain ⟨y, rfl, HYR, HXY, HU⟩ := hrel
        obtain ⟨wo, rfl⟩ : ∃ wo : World, wo = wr := ⟨_, rfl⟩
        have ht1 := HU.out.cell HT1.out (by simp)
        have ht2 := HU.out.cell HT2.out (by simp)
        have hdx := dep_cell HC.out (HU.out.heap H7.out (by simp)) HX.out
        have hdy := dep_cell HC.out (HU.out.heap H7.out (by simp)) HYR.out
        have hyn := rd_lt HC.out HYR.out
        have hiy : wo.cell? ⟨ib, y, none⟩ = some (.int .i64 (if Rd c y ∧ y ≠ 0 then (f y : Int) else -1)) := by
          have h3 := H3.out
          rw [cell_of (HU.out.heap H6.out (by simp)), icells_get _ _ (by omega), getD_dflt 0 (-1) (by omega), H4.out y hyn]
        by_cases hd : dep c f x < dep c f y
        · have d0 : decide (dep c f x < dep c f y) = true := decide_eq_true hd
          have d1 : decide ((dep c f x : Int) < (dep c f y : Int)) = true := decide_eq_true (by omega)
          have d2 : decide ((dep c f y : Int) > (dep c f x : Int)) = true := decide_eq_true (by omega)
          have hy0 : y ≠ 0 := by rintro rfl; rw [dep_zero] at hd; omega
          rw [if_pos ⟨HYR.out, hy0⟩] at hiy
          have HST := Lib.hid (dep_step HG.out HEX.out.tr HYR.out hy0)
          have HXY2 : Hid (Anc f x y0 ↔ Anc f x (f y)) := by
            refine HXY.out.trans ⟨fun h => (h.of_ne (by rintro rfl; omega)).2, fun h => .up y hy0 h⟩
          have HFY := Lib.hid (HEX.out.tr.up y HYR.out hy0)
          generalize hdq : dep c f x = dq at hdx hd d0 d1 d2
          generalize hdr : dep c f y = dr at hdy hd d0 d1 d2
          have HDR := Lib.hid hdr
          clear hdq hdr hd hy0
          go_wp2_with fail
          go_quiet (fail)
          go_wp2_with fail
          go_roundw
          case rel => exact ⟨f y, rfl, HFY.out, HXY2.out, HU.out.drewN _⟩
          case measure =>
            have := HST.out
            simp only [intOf, Int.toNat_natCast]
            omega
        · have d0 : decide (dep c f x < dep c f y) = false := decide_eq_false hd
          have d1 : decide ((dep c f x : Int) < (dep c f y : Int)) = false := decide_eq_false (by omega)
          have d2 : decide ((dep c f y : Int) > (dep c f x : Int)) = false := decide_eq_false (by omega)
          have HFIN : Hid (Anc f x y0 ↔ x = y) := by
            refine HXY.out.trans ⟨fun h => ?_, fun h => by rw [h]; exact .refl⟩
            rcases anc_dep HG.out HEX.out.tr h HYR.out with h1 | h1
            · exact h1
            · exact absurd h1 hd
          have HXY3 : Hid (((x : Int) == (y : Int)) = decide (aboveP c f (x : Int) (y0 : Int))) := by
            show _ = _
            by_cases e : x = y
            · rw [decide_eq_true (HAB.out.2 (HFIN.out.2 e)), beq_iff_eq]; omega
            · rw [decide_eq_false (fun h => e (HFIN.out.1 (HAB.out.1 h))), beq_eq_false_iff_ne]; omega
          generalize dep c f x = dq at hdx hd d0 d1 d2
          generalize dep c f y = dr at hdy hd d0 d1 d2
          clear hd hiy
          go_wp2_with fail
          go_quiet (fail)
          go_wp2_with fail
          go_ret
          exact ⟨by rw [← HXY3.out]; rfl, HU.out.drewN _⟩
    · rw [decide_eq_false hrb] at HTB
      have HR : Hid (¬ aboveP c f a b) := fun h => hrb h.2.1
      clear hra hrb
      go_wp2_with fail
      refine HTA.out.mono ?_
      rintro e w' ⟨rfl, rfl⟩
      go_wp2_with fail
      refine HTB.out.mono ?_
      rintro e w'' ⟨rfl, rfl⟩
      go_wp2_with fail
      go_ret
      exact ⟨by rw [decide_eq_false HR.out]; rfl, Upd.refl _ _⟩
  · rw [decide_eq_false hra] at HTA
    have HR : Hid (¬ aboveP c f a b) := fun h => hra h.1
    clear hra
    go_wp2_with fail
    refine HTA.out.mono ?_
    rintro e w' ⟨rfl, rfl⟩
    go_wp2_with fail
    go_ret
    exact ⟨by rw [decide_eq_false HR.out]; rfl, Upd.refl _ _⟩

end Go.Proofs.YtjjkliifpdcliaaDoor
