/- prog.Effect. -/
import Derived.Test.YtojobkhidlfeoaaDoorAccA
import Derived.Deep.DeepCutAuto
import Derived.StillTailTactics
import Derived.Deep.RegionHeld3
namespace Go.Proofs.YtojobkhidlfeoaaDoor
open Go.RowKit

/-- What Effect answers. -/
def effV (r : Option (List UInt8 × List UInt8)) : Value := match r with
 | some (a, b) => .tuple #[.string (bs a), .string (bs b), .bool true]
 | none => .tuple #[.string (bs []), .string (bs []), .bool false]

theorem ret_eff {r r' : Option (List UInt8 × List UInt8)} {v : Value} (h : r' = r) (e : v = effV r) : Ending.returned v = .returned (effV r') := by rw [h, e]
theorem at_size (s : List UInt8) (i : Int) : (bs (atB s i)).size ≤ 1 := by
 rw [bs_size]
 unfold atB
 split <;> simp
theorem field_size (cs : List ByteArray) (a b : Int) : (bs (fieldL cs a b)).size ≤ 1 := by
 unfold fieldL
 split
 ·exact at_size _ _
 ·simp [bs_size]
theorem kinds_size (m : Meth) : (bs (kindsL m)).size = m.params.size + m.locals.size := by
 rw [bs_size, size_list, size_list]; simp [kindsL]
abbrev Five (w : World) (I B : Nat) (a : Int) (m : Meth) (ka : Option Addr) (kc : Nat) : Prop :=
 w.cell? ⟨I, 1, none⟩ = some (.int .i64 a) ∧ w.cell? ⟨B, 0, none⟩ = some (.string m.params) ∧ w.cell? ⟨B, 1, none⟩ = some (.string m.locals) ∧ w.cell? ⟨B, 2, none⟩ = some (.string m.ret) ∧ w.cell? ⟨B, 3, none⟩ = some (.slice ka m.code.length kc)
theorem Five.upd {w w' : World} {I B : Nat} {a : Int} {m : Meth} {ka : Option Addr} {kc : Nat} (h : Five w I B a m ka kc) (hu : Upd [] w w') : Five w' I B a m ka kc :=
 ⟨hu.cell h.1 (by simp), hu.cell h.2.1 (by simp), hu.cell h.2.2.1 (by simp), hu.cell h.2.2.2.1 (by simp), hu.cell h.2.2.2.2 (by simp)⟩
theorem bs_cat (a b : List UInt8) : bs a ++ bs b = bs (a ++ b) := bs_append a b

set_option maxRecDepth 100000 in
set_option maxHeartbeats 8000000 in
theorem effect_any (p : Prg) (k : Nat) (cv mv : Value) (x : Ins) (w : World) (hc : ClassAt w cv p.cs) (hm : MethsAt w mv p.ms) (hk : k < p.ms.length) (hn : p.ms.length ≤ 1000) (hn2 : p.cs.length ≤ 1000) (hz : ∀ c ∈ p.cs, c.size ≤ 1000)
  (h1 : (p.ms.getD k default).params.size ≤ 1000) (h2 : (p.ms.getD k default).locals.size ≤ 1000) (hop : 1 ≤ x.op ∧ x.op ≤ 35) :
  Calls Tryd.prog 39 #[.agg #[cv, mv], .int .i64 k, .agg #[.int .i64 x.op, .int .i64 x.a, .int .i64 x.b, .int .i64 x.n]] w fun e w' => e = .returned (effV (effL p (p.ms.getD k default) x)) ∧ Upd [] w w' := by
 obtain ⟨op, a, b, n⟩ := x
 have hcs := hc
 have hms := hm
 obtain ⟨cp, cc, rfl, _, _, hccm, _⟩ := hcs
 obtain ⟨mp, mc, rfl, hml, hmm, _⟩ := hms
 unfold maxLen at hmm hccm
 generalize hM : p.ms.getD k default = m at h1 h2 ⊢
 have HMM := Lib.hid hM
 clear hM
 simp only at hop
 have HU0 := Lib.hid (((Upd.refl [] w).alloc (.cells #[.slice cp p.cs.length cc, .slice mp p.ms.length mc] 36)).alloc (.cells #[.int .i64 op, .int .i64 a, .int .i64 b, .int .i64 n] 29))
 go_enter Tryd.func39, Tryd.ntmps39
 go_wp2_with fail
 refine (pmeth_in p _ _ k _ (hm.upd HU0.out) hk (by omega)).mono ?_
 rintro e w1 ⟨v, rfl, ⟨kv, rfl, hcode⟩, hu1⟩
 rw [HMM.out] at hcode ⊢
 obtain ⟨ka, kc, rfl, hkc⟩ := hcode
 have HU1 := Lib.hid (HU0.out.trans hu1)
 have hb0 : w1.heap[w.heap.size]? = some (.cells #[.slice cp p.cs.length cc, .slice mp p.ms.length mc] 36) := hu1.heap (((Upd.refl [] _).alloc _).heap (heap_alloc_new w _) (by simp)) (by simp)
 have hb1 : w1.heap[w.heap.size + 1]? = some (.cells #[.int .i64 op, .int .i64 a, .int .i64 b, .int .i64 n] 29) := by
  have h := heap_alloc_new (w.alloc (.cells #[.slice cp p.cs.length cc, .slice mp p.ms.length mc] 36)) (.cells #[.int .i64 op, .int .i64 a, .int .i64 b, .int .i64 n] 29)
  rw [show (w.alloc (.cells #[.slice cp p.cs.length cc, .slice mp p.ms.length mc] 36)).heap.size = w.heap.size + 1 by simp] at h
  exact hu1.heap h (by simp)
 clear HU0 hu1 hkc
 have HU3 := Lib.hid (HU1.out.alloc (.cells #[.string m.params, .string m.locals, .string m.ret, .slice ka m.code.length kc] 32))
 have hb2 := heap_alloc_new w1 (.cells #[.string m.params, .string m.locals, .string m.ret, .slice ka m.code.length kc] 32)
 have hb0 := ((Upd.refl [] w1).alloc (.cells #[.string m.params, .string m.locals, .string m.ret, .slice ka m.code.length kc] 32)).heap hb0 (by simp)
 have hb1 := ((Upd.refl [] w1).alloc (.cells #[.string m.params, .string m.locals, .string m.ret, .slice ka m.code.length kc] 32)).heap hb1 (by simp)
 go_upto_region 2 with fail
 generalize w1.alloc (.cells #[.string m.params, .string m.locals, .string m.ret, .slice ka m.code.length kc] 32) = w3 at HU3 hb0 hb1 hb2 ⊢
 generalize w1.heap.size = B at hb2 ⊢
 clear HU1
 have c0 : w3.cell? ⟨w.heap.size, 0, none⟩ = some (.slice cp p.cs.length cc) := by rw [cell_of hb0]; rfl
 have c1 : w3.cell? ⟨w.heap.size, 1, none⟩ = some (.slice mp p.ms.length mc) := by rw [cell_of hb0]; rfl
 have i0 : w3.cell? ⟨w.heap.size + 1, 0, none⟩ = some (.int .i64 op) := by rw [cell_of hb1]; rfl
 have i1 : w3.cell? ⟨w.heap.size + 1, 1, none⟩ = some (.int .i64 a) := by rw [cell_of hb1]; rfl
 have i2 : w3.cell? ⟨w.heap.size + 1, 2, none⟩ = some (.int .i64 b) := by rw [cell_of hb1]; rfl
 have m0 : w3.cell? ⟨B, 0, none⟩ = some (.string m.params) := by rw [cell_of hb2]; rfl
 have m1 : w3.cell? ⟨B, 1, none⟩ = some (.string m.locals) := by rw [cell_of hb2]; rfl
 have m2 : w3.cell? ⟨B, 2, none⟩ = some (.string m.ret) := by rw [cell_of hb2]; rfl
 have m3 : w3.cell? ⟨B, 3, none⟩ = some (.slice ka m.code.length kc) := by rw [cell_of hb2]; rfl
 clear hb0 hb1 hb2
 have HC := Lib.hid (hc.upd HU3.out)
 have HM := Lib.hid (hm.upd HU3.out)
 have HZ := Lib.hid hz
 clear hc hm hz
 by_cases har : 8 ≤ op ∧ op ≤ 20 ∧ op ≠ 18
 ·have d1 : decide (8 ≤ op) = true := by simpa using har.1
  have d2 : decide (op ≤ 20) = true := by simpa using har.2.1
  have d3 : (op != 18) = true := by simpa using har.2.2
  have HE : Hid (effL p m ⟨op, a, b, n⟩ = some ([lI, lI], [lI])) := by show _ = _; unfold effL; rw [if_pos har]
  clear har hop
  go_wp2_with fail
  go_ret3
  exact ⟨ret_eff HE.out rfl, HU3.out⟩
 ·have hcase : op = 1 ∨ op = 2 ∨ op = 3 ∨ op = 4 ∨ op = 5 ∨ op = 6 ∨ op = 7 ∨ op = 18 ∨ op = 21 ∨ op = 22 ∨ op = 23 ∨ op = 24 ∨ op = 25 ∨ op = 26 ∨ op = 27 ∨ op = 28 ∨ op = 29 ∨ op = 30 ∨ op = 31 ∨ op = 32 ∨ op = 33 ∨ op = 34 ∨ op = 35 := by omega
  clear har hop
  rcases hcase with rfl | rfl | rfl | rfl | rfl | rfl | rfl | rfl | rfl | rfl | rfl | rfl | rfl | rfl | rfl | rfl | rfl | rfl | rfl | rfl | rfl | rfl | rfl
  ·-- 1
   have HE : Hid (effL p m ⟨1, a, b, n⟩ = some ([], [lI])) := by show _ = _; simp [effL]
   go_wp2_with fail
   go_ret3
   exact ⟨ret_eff HE.out rfl, HU3.out⟩
  ·-- 2
   have HE : Hid (effL p m ⟨2, a, b, n⟩ = some ([], [lR])) := by show _ = _; simp [effL]
   go_wp2_with fail
   go_ret3
   exact ⟨ret_eff HE.out rfl, HU3.out⟩
  ·-- 3
   have HE : Hid (effL p m ⟨3, a, b, n⟩ = some ([], atB (kindsL m) a)) := by show _ = _; simp [effL]
   have HK := Lib.hid (kinds_any m (.slice ka m.code.length kc) w3.drew (by omega) (by omega))
   have hi0 : Five w3 (w.heap.size + 1) B a m ka kc := ⟨i1, m0, m1, m2, m3⟩
   have hi1 : Five w3.drew (w.heap.size + 1) B a m ka kc := hi0.upd (Upd.refl [] w3).drew
   have HA : Hid (∀ w', Calls Tryd.prog 61 #[.string (bs (kindsL m)), .int .i64 a] w' fun e w'' => e = .returned (.string (bs (atB (kindsL m) a))) ∧ w' = w'') := fun w' => by
    have h := at_any (bs (kindsL m)) a w' (by rw [kinds_size]; omega)
    rwa [bs_list] at h
   go_wp2_with fail
   go_region_held3 (fun w' => Five w' (w.heap.size + 1) B a m ka kc)
    (first | exact hk0 | exact hi1 | exact hi0)
    ((first
     | (go_at_call 29; refine HK.out.mono ?_; rintro e w4 ⟨rfl, hu4⟩; have hk0 := hi1.upd hu4)
     | (go_at_call 61; refine (HA.out _).mono ?_; rintro e w' ⟨rfl, rfl⟩)))
   go_wp2_with fail
   go_ret3
   exact ⟨ret_eff HE.out rfl, (HU3.out.trans (Upd.refl [] w3).drew).trans hu4⟩
  ·-- 4
   have HE : Hid (effL p m ⟨4, a, b, n⟩ = some (atB (kindsL m) a, [])) := by show _ = _; simp [effL]
   have HK := Lib.hid (kinds_any m (.slice ka m.code.length kc) w3.drew (by omega) (by omega))
   have hi0 : Five w3 (w.heap.size + 1) B a m ka kc := ⟨i1, m0, m1, m2, m3⟩
   have hi1 : Five w3.drew (w.heap.size + 1) B a m ka kc := hi0.upd (Upd.refl [] w3).drew
   have HA : Hid (∀ w', Calls Tryd.prog 61 #[.string (bs (kindsL m)), .int .i64 a] w' fun e w'' => e = .returned (.string (bs (atB (kindsL m) a))) ∧ w' = w'') := fun w' => by
    have h := at_any (bs (kindsL m)) a w' (by rw [kinds_size]; omega)
    rwa [bs_list] at h
   go_wp2_with fail
   go_region_held3 (fun w' => Five w' (w.heap.size + 1) B a m ka kc)
    (first | exact hk0 | exact hi1 | exact hi0)
    ((first
     | (go_at_call 29; refine HK.out.mono ?_; rintro e w4 ⟨rfl, hu4⟩; have hk0 := hi1.upd hu4)
     | (go_at_call 61; refine (HA.out _).mono ?_; rintro e w' ⟨rfl, rfl⟩)))
   go_wp2_with fail
   go_ret3
   exact ⟨ret_eff HE.out rfl, (HU3.out.trans (Upd.refl [] w3).drew).trans hu4⟩
  ·-- 5
   have HE : Hid (effL p m ⟨5, a, b, n⟩ = none) := by show _ = _; simp [effL]
   go_wp2_with fail
   go_ret3
   exact ⟨ret_eff HE.out rfl, HU3.out⟩
  ·-- 6
   have HE : Hid (effL p m ⟨6, a, b, n⟩ = none) := by show _ = _; simp [effL]
   go_wp2_with fail
   go_ret3
   exact ⟨ret_eff HE.out rfl, HU3.out⟩
  ·-- 7
   have HE : Hid (effL p m ⟨7, a, b, n⟩ = none) := by show _ = _; simp [effL]
   go_wp2_with fail
   go_ret3
   exact ⟨ret_eff HE.out rfl, HU3.out⟩
  ·-- 18
   have HE : Hid (effL p m ⟨18, a, b, n⟩ = some ([lI], [lI])) := by show _ = _; simp [effL]
   go_wp2_with fail
   go_ret3
   exact ⟨ret_eff HE.out rfl, HU3.out⟩
  ·-- 21
   have HE : Hid (effL p m ⟨21, a, b, n⟩ = some ([lR, lR], [lI])) := by show _ = _; simp [effL]
   go_wp2_with fail
   go_ret3
   exact ⟨ret_eff HE.out rfl, HU3.out⟩
  ·-- 22
   have HE : Hid (effL p m ⟨22, a, b, n⟩ = some ([], [])) := by show _ = _; simp [effL]
   go_wp2_with fail
   go_ret3
   exact ⟨ret_eff HE.out rfl, HU3.out⟩
  ·-- 23
   have HE : Hid (effL p m ⟨23, a, b, n⟩ = some ([lI], [])) := by show _ = _; simp [effL]
   go_wp2_with fail
   go_ret3
   exact ⟨ret_eff HE.out rfl, HU3.out⟩
  ·-- 24
   have HE : Hid (effL p m ⟨24, a, b, n⟩ = some ([], [lR])) := by show _ = _; simp [effL]
   go_wp2_with fail
   go_ret3
   exact ⟨ret_eff HE.out rfl, HU3.out⟩
  ·-- 25
   have HE : Hid (effL p m ⟨25, a, b, n⟩ = some ([lR], fieldL p.cs a b)) := by show _ = _; simp [effL]
   go_wp2_with fail
   refine (field_any p.cs _ _ a b _ HC.out (fun c h => by have := HZ.out c h; omega) (by omega)).mono ?_
   rintro e w4 ⟨rfl, hu4⟩
   go_wp2_with fail
   go_ret3
   exact ⟨ret_eff HE.out rfl, HU3.out.trans hu4⟩
  ·-- 26
   have hsz := field_size p.cs a b
   have HE : Hid (effL p m ⟨26, a, b, n⟩ = some (lR :: fieldL p.cs a b, [])) := by show _ = _; simp [effL]
   go_wp2_with fail
   refine (field_any p.cs _ _ a b _ HC.out (fun c h => by have := HZ.out c h; omega) (by omega)).mono ?_
   rintro e w4 ⟨rfl, hu4⟩
   go_wp2_with fail
   go_ret3
   exact ⟨ret_eff HE.out (by unfold effV; simp only [show lR :: fieldL p.cs a b = [lR] ++ fieldL p.cs a b from rfl, ← bs_append]; rfl), HU3.out.trans hu4⟩
  ·-- 27
   have HE : Hid (effL p m ⟨27, a, b, n⟩ = some ([lR], [lI])) := by show _ = _; simp [effL]
   go_wp2_with fail
   go_ret3
   exact ⟨ret_eff HE.out rfl, HU3.out⟩
  ·-- 28
   have HE : Hid (effL p m ⟨28, a, b, n⟩ = some ([lI], [lR])) := by show _ = _; simp [effL]
   go_wp2_with fail
   go_ret3
   exact ⟨ret_eff HE.out rfl, HU3.out⟩
  ·-- 29
   have HE : Hid (effL p m ⟨29, a, b, n⟩ = some ([lR, lI], atB [lI, lR] a)) := by show _ = _; simp [effL]
   go_wp2_with fail
   refine (at_any ⟨#[73, 82]⟩ a _ (by decide)).mono ?_
   rintro e w' ⟨rfl, rfl⟩
   rw [show (⟨#[73, 82]⟩ : ByteArray).toList = [lI, lR] from bs_list [lI, lR]]
   go_wp2_with fail
   go_ret3
   exact ⟨ret_eff HE.out rfl, HU3.out⟩
  ·-- 30
   have hsz := at_size [lI, lR] a
   have HE : Hid (effL p m ⟨30, a, b, n⟩ = some ([lR, lI] ++ atB [lI, lR] a, [])) := by show _ = _; simp [effL]
   go_wp2_with fail
   refine (at_any ⟨#[73, 82]⟩ a _ (by decide)).mono ?_
   rintro e w' ⟨rfl, rfl⟩
   rw [show (⟨#[73, 82]⟩ : ByteArray).toList = [lI, lR] from bs_list [lI, lR]]
   go_wp2_with fail
   go_ret3
   exact ⟨ret_eff HE.out (by unfold effV; simp only [← bs_append]; rfl), HU3.out⟩
  ·-- 31
   have HE : Hid (effL p m ⟨31, a, b, n⟩ = some ([lR], [lI])) := by show _ = _; simp [effL]
   go_wp2_with fail
   go_ret3
   exact ⟨ret_eff HE.out rfl, HU3.out⟩
  ·-- 32
   by_cases ha : 0 ≤ a ∧ a < (p.ms.length : Int)
   ·obtain ⟨j, rfl⟩ := Int.eq_ofNat_of_zero_le ha.1
    have hj : j < p.ms.length := by omega
    have HE : Hid (effL p m ⟨32, (j : Int), b, n⟩ = some ((p.ms.getD j default).params.toList, (p.ms.getD j default).ret.toList)) := by show _ = _; simp [effL, hj]
    go_wp2_with fail
    refine (pmeth_in p _ _ j _ HM.out hj (by omega)).mono ?_
    rintro e w4 ⟨v, rfl, ⟨kv, rfl, hcode⟩, hu4⟩
    obtain ⟨kb, kd, rfl, _⟩ := hcode
    generalize p.ms.getD j default = mj at HE ⊢
    go_wp2_with fail
    have n0 := heap_alloc_new w4 (.cells #[.string mj.params, .string mj.locals, .string mj.ret, .slice kb mj.code.length kd] 32)
    have x0 := cell_of n0 0
    have x2 := cell_of n0 2
    go_quiet (fail)
    go_wp2_with fail
    go_ret3
    exact ⟨ret_eff HE.out (by unfold effV; simp only [bs_of]; rfl), ((HU3.out.trans hu4).alloc _).drewN _⟩
   ·have HE : Hid (effL p m ⟨32, a, b, n⟩ = some ([], [])) := by show _ = _; simp [effL]; intro h1 h2; exact absurd ⟨h1, h2⟩ ha
    go_wp2_with fail
    refine (pmeth_out _ _ _ _ a _ ha (by omega)).mono ?_
    rintro e w4 ⟨rfl, hu4⟩
    go_wp2_with fail
    have n0 := heap_alloc_new w4 (.cells #[.string (bs []), .string (bs []), .string (bs []), .slice none 0 0] 32)
    have x0 := cell_of n0 0
    have x2 := cell_of n0 2
    go_quiet (fail)
    go_wp2_with fail
    go_ret3
    exact ⟨ret_eff HE.out rfl, ((HU3.out.trans hu4).alloc _).drewN _⟩
  ·-- 33
   have HE : Hid (effL p m ⟨33, a, b, n⟩ = some (m.ret.toList, [])) := by show _ = _; simp [effL]
   go_wp2_with fail
   go_ret3
   exact ⟨ret_eff HE.out (by unfold effV; simp only [bs_of]; rfl), HU3.out⟩
  ·-- 34
   have HE : Hid (effL p m ⟨34, a, b, n⟩ = some ([], [lI])) := by show _ = _; simp [effL]
   go_wp2_with fail
   go_ret3
   exact ⟨ret_eff HE.out rfl, HU3.out⟩
  ·-- 35
   have HE : Hid (effL p m ⟨35, a, b, n⟩ = some ([lI], [])) := by show _ = _; simp [effL]
   go_wp2_with fail
   go_ret3
   exact ⟨ret_eff HE.out rfl, HU3.out⟩
end Go.Proofs.YtojobkhidlfeoaaDoor
