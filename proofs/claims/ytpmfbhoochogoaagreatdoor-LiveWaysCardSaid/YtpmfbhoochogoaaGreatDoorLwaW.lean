/- LiveWays: the law's walk. -/
import Derived.Test.YtpmfbhoochogoaaGreatDoorFirst8
import Derived.Test.YtpmfbhoochogoaaGreatDoorWInfo
import Derived.Test.YtpmfbhoochogoaaGreatDoorNumA
import Derived.Test.YtpmfbhoochogoaaGreatDoorOpenB
import Derived.Test.YtpmfbhoochogoaaGreatDoorVerL11
import Derived.Test.YtpmfbhoochogoaaGreatDoorBools
/-! LiveWays: the law's walk. -/
namespace Go.Proofs.YtpmfbhoochogoaaGreatDoor
open Go.RowKit

theorem Prg.Ok.szs8 {p : Prg} (h : p.Ok) {k : Nat} (hk : k < p.ms.length) : (p.ms.getD k default).params.size ≤ 12 ∧ (p.ms.getD k default).locals.size ≤ 12 ∧ 1 ≤ (p.ms.getD k default).code.length ∧ (p.ms.getD k default).code.length ≤ 120 := by
  have h1 := h.meth k hk
  unfold headCode at h1
  by_cases hc : 12 < (p.ms.getD k default).params.size ∨ (12 : Int) - (p.ms.getD k default).params.size < (p.ms.getD k default).locals.size ∨ (p.ms.getD k default).code.length < 1 ∨ 120 < (p.ms.getD k default).code.length
  · rw [if_pos hc] at h1; omega
  · omega
theorem bools_only {w : World} {db j : Nat} {D : List Bool} {t : TypeId} {u : Value} (hd : w.heap[db]? = some (.cells (bcells D) t)) (hc : w.cell? ⟨db, j, none⟩ = some u) : ∃ b, u = .bool b := by
  by_cases hj : j < D.length
  · rw [cell_of hd, bcells_get _ _ hj] at hc
    injection hc with hc
    exact ⟨_, hc.symm⟩
  · rw [cell_of hd] at hc
    have : (bcells D)[j]? = none := by unfold bcells; simp; omega
    rw [this] at hc
    cases hc
/-- Bools that are written leave the map alone. -/
theorem LvD.bools {W0 w w' : World} {mb ib : Nat} {p : Prg} {ss : List Lk} {n0 n : Int} {k : Nat} {m : Meth} {s : Lk} {B lb db : Nat} {D : List Bool} {kv : Value} {F : Nat → Nat → Bool} {bk gk : Nat → Nat} (h : LvD W0 w mb ib p ss n0 n k m s B lb kv F bk gk) (hd : w.heap[db]? = some (.cells (bcells D) 4)) (hdb : W0.heap.size ≤ db) (hu : Upd [db] w w') : LvD W0 w' mb ib p ss n0 n k m s B lb kv F bk gk := by
  have off : ∀ (q : Nat) (z : Array Value) (t : TypeId), t ≠ 4 → w.heap[q]? = some (.cells z t) → q ∉ [db] := fun q z t ht hq hm => by
    rw [List.mem_singleton] at hm
    exact heap_ne hq hd ht hm
  have ofc : ∀ (q j : Nat) (u : Value), w.cell? ⟨q, j, none⟩ = some u → (∀ b, u ≠ .bool b) → w'.cell? ⟨q, j, none⟩ = some u := fun q j u ha hb => by
    refine hu.cell ha (fun hm => ?_)
    rw [List.mem_singleton] at hm
    have hm : q = db := hm
    rw [hm] at ha
    obtain ⟨b, e⟩ := bools_only hd ha
    exact hb b e
  refine ⟨⟨hu.heap h.inn.box (off _ _ _ (by decide) h.inn.box), ?_, h.inn.sets.upd hu (off _ _ _ (by decide) h.inn.sets.tab) (fun i hi hs => ?_), fun j hj => ofc _ _ _ (h.inn.tz j hj) (fun b hb => by cases hb), h.inn.kinds, h.inn.par, h.inn.loc, h.inn.few, h.inn.next⟩, h.live, h.info.keep hu (fun q hq => by rw [List.mem_singleton] at hq; omega)⟩
  · obtain ⟨a, cap, h1, h2, h3, h4⟩ := h.inn.code
    refine ⟨a, cap, h1, h2, h3, fun i hi => ?_⟩
    obtain ⟨b, o, h5, h6, h7, h8, h9, h10⟩ := h4 i hi
    exact ⟨b, o, h5, h6, ofc _ _ _ h7 (fun b hb => by cases hb), ofc _ _ _ h8 (fun b hb => by cases hb), ofc _ _ _ h9 (fun b hb => by cases hb), ofc _ _ _ h10 (fun b hb => by cases hb)⟩
  · obtain ⟨ws, h3, _⟩ := h.inn.sets.set i hi hs
    exact ⟨off _ _ _ (by decide) h3.2.1, off _ _ _ (by decide) h3.1⟩

/-- The same of a map that is not worked out yet. -/
theorem LvNew.bools {W0 w w' : World} {mb ib : Nat} {p : Prg} {ss : List Lk} {n0 n k : Int} {db : Nat} {D : List Bool} (h : LvNew W0 w mb ib p ss n0 n k) (hd : w.heap[db]? = some (.cells (bcells D) 4)) (hdb : W0.heap.size ≤ db) (hu : Upd [db] w w') : LvNew W0 w' mb ib p ss n0 n k := by
  refine ⟨hu.heap h.box (fun hm => ?_), h.info.keep hu (fun q hq => by rw [List.mem_singleton] at hq; omega), fun j hj => hu.cell (h.tz j hj) (fun hm => ?_)⟩
  · rw [List.mem_singleton] at hm
    exact heap_ne h.box hd (by decide) hm
  · rw [List.mem_singleton] at hm
    have h1 := h.tz j hj
    have hm : 10 = db := hm
    rw [hm] at h1
    obtain ⟨b, e⟩ := bools_only hd h1
    cases e

theorem hasG_nat {m : Meth} {s : Lk} {pc : Nat} (hpc : pc < m.code.length) (j : Nat) : hasG m s (pc : Int) (j : Int) = liveG m.code (seenF s) pc j := by
  unfold hasG
  rw [decide_eq_true (by omega), Bool.true_and]
  simp
theorem dead_next {m : Meth} {s : Lk} {pc j q : Nat} (hpc : pc < m.code.length) (hs : seenF s pc = true) (h : hasG m s (pc : Int) (j : Int) = false) (h4 : ¬ ((m.code.getD pc default).op = 4 ∧ (m.code.getD pc default).a = (j : Int))) (hq : (q : Int) ∈ nextL m.code pc) (hql : q < m.code.length) : hasG m s (q : Int) (j : Int) = false := by
  rw [hasG_nat hpc] at h
  rw [hasG_nat hql]
  rw [← Bool.not_eq_true, liveG_iff] at h ⊢
  exact live_dead hs h h4 (q : Int) hq
theorem load_has {m : Meth} {s : Lk} {pc j : Nat} (hpc : pc < m.code.length) (hs : seenF s pc = true) (h3 : (m.code.getD pc default).op = 3) (ha : (m.code.getD pc default).a = (j : Int)) : hasG m s (pc : Int) (j : Int) = true := by
  rw [hasG_nat hpc, liveG_iff]
  exact .load pc j hs h3 ha
theorem store_has {m : Meth} {s : Lk} {pc j : Nat} (hpc : pc < m.code.length) (h4 : (m.code.getD pc default).op = 4) (ha : (m.code.getD pc default).a = (j : Int)) : hasG m s (pc : Int) (j : Int) = false := by
  rw [hasG_nat hpc, ← Bool.not_eq_true, liveG_iff]
  exact live_store h4 ha
theorem mod_place8 (n : Int) (L : Nat) (h : 0 < L) : ∃ k : Nat, n % (L : Int) = (k : Int) ∧ k < L := by
  have h1 := Int.emod_nonneg n (show (L : Int) ≠ 0 by omega)
  have h2 := Int.emod_lt_of_pos n (show (0 : Int) < L by omega)
  exact ⟨(n % (L : Int)).toNat, by omega, by omega⟩

set_option maxRecDepth 100000 in
set_option maxHeartbeats 8000000 in
theorem lwaW_any (E : Nat → Addr) (p : Prg) (cv mv : Value) (n : Int) (wv : Value) (ways : List Bool) (w : World) (hS : SentAt w E) (hT : TzAt w) (hc : ClassAt w cv p.cs) (hm : MethsAt w mv p.ms) (hb : BoolsAt w wv ways) :
    Calls Tryz.prog 6 #[.agg #[cv, mv], .int .i64 n, wv] w fun e w' => e = .returned (.bool true) ∧ Upd [] w w' := by
  obtain ⟨wa, wcap, rfl, hwx⟩ := hb
  have HW := Lib.hid hwx
  have HS := Lib.hid hS
  have HT := Lib.hid hT
  have HC := Lib.hid hc
  have HM := Lib.hid hm
  obtain ⟨cp, cc, rfl, _, hccl, hccm, _⟩ := hc
  obtain ⟨mp, mc, rfl, hml, hmm, hmx⟩ := hm
  have HMX := Lib.hid hmx
  clear hmx
  unfold maxLen at hccm hmm
  clear hwx hS hT
  have HU0 := Lib.hid ((Upd.refl [] w).alloc (.cells #[.slice cp p.cs.length cc, .slice mp p.ms.length mc] 36))
  have hB0 := heap_alloc_new w (.cells #[.slice cp p.cs.length cc, .slice mp p.ms.length mc] 36)
  go_enter Tryz.func6, Tryz.ntmps6
  go_wp2_with fail
  refine (first8_any E _ (HS.out.upd HU0.out) (HT.out.upd HU0.out (by simp))).mono ?_
  rintro e w1 ⟨rfl, hu1⟩
  have HU1 := Lib.hid (HU0.out.trans hu1)
  have hB1 := hu1.heap hB0 (by simp)
  clear hu1 hB0 HU0
  have c0 : w1.cell? ⟨w.heap.size, 0, none⟩ = some (.slice cp p.cs.length cc) := by rw [cell_of hB1]; rfl
  have c1 : w1.cell? ⟨w.heap.size, 1, none⟩ = some (.slice mp p.ms.length mc) := by rw [cell_of hB1]; rfl
  clear hB1
  go_wp2_with fail
  refine (winfo_any p _ _ w1 (HC.out.upd HU1.out) (HM.out.upd HU1.out)).mono ?_
  rintro e w2 ⟨a0, n0, c0', a1, n1, c1', a2, n2, c2', b, rfl, hri, hu2⟩
  have HRI := Lib.hid hri
  have HU2 := Lib.hid (HU1.out.trans hu2)
  have c0 := hu2.cell c0 (by simp)
  have c1 := hu2.cell c1 (by simp)
  clear hu2 HU1 hri
  have HUA := Lib.hid (HU2.out.alloc (.cells #[.slice a0 n0 c0', .slice a1 n1 c1', .slice a2 n2 c2'] 49))
  cases b with
  | false =>
    go_wp2_with fail
    go_ret
    exact ⟨rfl, HUA.out⟩
  | true =>
  obtain ⟨hok, hv0, hv1, ss7, hl7, hlk7, hks7⟩ := HRI.out rfl
  have HOK := Lib.hid hok
  have HLK7 := Lib.hid hlk7
  clear hok hv0 hv1 hl7 hlk7 hks7 HRI HU2
  by_cases h200 : 200 < ways.length
  · have d1 : decide ((200 : Int) < (ways.length : Int)) = true := by simp; omega
    go_wp2_with fail
    go_ret
    exact ⟨rfl, HUA.out⟩
  have d1 : decide ((200 : Int) < (ways.length : Int)) = false := by simp; omega
  have c0 := ((Upd.refl [] w2).alloc (.cells #[.slice a0 n0 c0', .slice a1 n1 c1', .slice a2 n2 c2'] 49)).cell c0 (by simp)
  have c1 := ((Upd.refl [] w2).alloc (.cells #[.slice a0 n0 c0', .slice a1 n1 c1', .slice a2 n2 c2'] 49)).cell c1 (by simp)
  go_upto_region 3 with fail
  generalize w2.alloc (.cells #[.slice a0 n0 c0', .slice a1 n1 c1', .slice a2 n2 c2'] 49) = w3 at c0 c1 HUA ⊢
  have HOF := Lib.hid (ofV_any p (.slice cp p.cs.length cc) (.slice mp p.ms.length mc) E w3 (HS.out.upd HUA.out) (HC.out.upd HUA.out) (HM.out.upd HUA.out))
  go_wp2_with fail
  refine HOF.out.mono ?_
  rintro e w4 ⟨v3, rfl, hend, hu3⟩
  have HU3 := Lib.hid (HUA.out.trans hu3)
  have HIB : Hid (w.heap.size < w3.heap.size) := World.block_lt_of_cell? _ _ c0
  have c0 := hu3.cell c0 (by simp)
  have c1 := hu3.cell c1 (by simp)
  clear hu3 HUA HOF
  rcases hend with ⟨c, at_, ev, h1, h2, _⟩ | ⟨_, k, c, pc, ev, hk, _, hbad, _⟩ | ⟨_, ib, ss, hl, hlk, rfl, hinfo, hib, hib2⟩
  · exact absurd (h1.zero HOK.out).1 h2
  · rw [HLK7.out k hk] at hbad
    cases hbad
  have HLK := Lib.hid hlk
  have HI := Lib.hid hinfo
  have HL := Lib.hid hl
  clear hlk hinfo hl HLK7
  have hmany := HOK.out.many
  have hpos := HOK.out.one
  go_wp2_with fail
  refine (number_any n p.ms.length _ (by omega) (by omega)).mono ?_
  rintro e w' ⟨rfl, rfl⟩
  obtain ⟨k, hk, hkl⟩ := mod_place8 n p.ms.length (by omega)
  rw [hk]
  clear hk
  go_wp2_with fail
  refine (live_of ib k w4).mono ?_
  rintro e w5 ⟨rfl, hw5⟩
  have hb5 := heap_alloc_new w4 (.cells (mapCells ib k 0 0 nilM (.slice none 0 0) (.slice none 0 0)) 147)
  have hu5 := (Upd.refl [] w4).alloc (.cells (mapCells ib k 0 0 nilM (.slice none 0 0) (.slice none 0 0)) 147)
  rw [← (show w5 = w4.alloc (.cells (mapCells ib k 0 0 nilM (.slice none 0 0) (.slice none 0 0)) 147) from hw5)] at hb5 hu5
  have hz5 : w5.heap.size = w4.heap.size + 1 := by rw [hw5]; simp
  have HNEW : Hid (LvNew w4 w5 w4.heap.size ib p ss 0 0 k) := ⟨hb5, (InfoK.start HI.out).keep hu5 (by simp), (HT.out.upd HU3.out (by simp)).upd hu5 (by simp)⟩
  have HU5 := Lib.hid (HU3.out.trans hu5)
  have c0 := hu5.cell c0 (by simp)
  have c1 := hu5.cell c1 (by simp)
  clear hb5 hu5 hw5
  obtain ⟨bm, mo, rfl, _, q0, q1, q2, kv, q3, hcode⟩ := HMX.out k hkl
  have hsz := HOK.out.szs8 hkl
  have HP : Hid (LvP p ss k (p.ms.getD k default) (ss.getD k default)) := ⟨HL.out, hkl, HOK.out, HLK.out, rfl, rfl⟩
  generalize hmk : p.ms.getD k default = m at q0 q1 q2 q3 hcode hsz HP
  have HMK := Lib.hid hmk
  clear hmk
  generalize hsk : ss.getD k default = sk at HP
  have HSK := Lib.hid hsk
  clear hsk
  have HCODE := Lib.hid hcode
  obtain ⟨ka, kc, rfl, hkl1, hkm, hkc⟩ := hcode
  unfold maxLen at hkm
  have HKC := Lib.hid hkc
  clear hkc
  have m0 := HU5.out.cell q0 (by simp)
  have m1 := HU5.out.cell q1 (by simp)
  have m2 := HU5.out.cell q2 (by simp)
  have m3 := HU5.out.cell q3 (by simp)
  clear q0 q1 q2 q3
  have hmk : ∀ W : World, (Instr.makeSlice 79 (.int .i64 ((m.params.size : Int) + m.locals.size)) (.int .i64 ((m.params.size : Int) + m.locals.size))).run Tryz.prog W = .ok (.slice (some ⟨W.heap.size, 0, none⟩) (m.params.size + m.locals.size) (m.params.size + m.locals.size)) (W.alloc (.cells (bcells (List.replicate (m.params.size + m.locals.size) false)) 4)) := fun W => by
    have h := make_bools W (m.params.size + m.locals.size) (by omega)
    rwa [show (((m.params.size + m.locals.size : Nat)) : Int) = (m.params.size : Int) + m.locals.size from by omega] at h
  go_upto_region 15 with fail
  have hn1 := heap_alloc_new w5 (.cells #[.string m.params, .string m.locals, .string m.ret, .slice ka m.code.length kc] 27)
  have hu6 := (Upd.refl [] w5).alloc (.cells #[.string m.params, .string m.locals, .string m.ret, .slice ka m.code.length kc] 27)
  have hu7 := (Upd.refl [] (w5.alloc (.cells #[.string m.params, .string m.locals, .string m.ret, .slice ka m.code.length kc] 27))).alloc (.cells (bcells (List.replicate (m.params.size + m.locals.size) false)) 4)
  have hn2 := heap_alloc_new (w5.alloc (.cells #[.string m.params, .string m.locals, .string m.ret, .slice ka m.code.length kc] 27)) (.cells (bcells (List.replicate (m.params.size + m.locals.size) false)) 4)
  have hz6 : (w5.alloc (.cells #[.string m.params, .string m.locals, .string m.ret, .slice ka m.code.length kc] 27)).heap.size = w5.heap.size + 1 := by simp
  rw [hz6, hz5] at hn2
  rw [hz5] at hn1
  have HB7 := Lib.hid (hu7.heap hn1 (by simp))
  have HD7 := Lib.hid hn2
  have HNEW7 := Lib.hid (HNEW.out.upd (hu6.trans hu7))
  have HU7 := Lib.hid (HU5.out.trans (hu6.trans hu7))
  have hlt4 : ib < w4.heap.size := hib2
  have hge3 : w.heap.size < ib := Nat.lt_of_lt_of_le HIB.out hib
  clear hn1 hu6 hu7 hn2 c0 c1 m0 m1 m2 m3 HNEW HU5 hmk
  generalize (w5.alloc (.cells #[.string m.params, .string m.locals, .string m.ret, .slice ka m.code.length kc] 27)).alloc (.cells (bcells (List.replicate (m.params.size + m.locals.size) false)) 4) = w7 at HB7 HD7 HNEW7 HU7 ⊢
  have hs7 : w4.heap.size + 1 + 1 < w7.heap.size := lt_of_heap HD7.out
  have hc1 := HOK.out.code1 k hkl
  rw [HMK.out] at hc1
  have HLKK := Lib.hid (show lookM p m = .ok sk by have h := HLK.out k hkl; rw [HMK.out, HSK.out] at h; exact h)
  have HAT0 : Hid (∃ u, sk.At 0 u) := ⟨[], Lk.at_start (by omega) HLKK.out⟩
  have HFR := Lib.hid hge3
  go_wp2_with fail
  go_loopw [16, 17, 18, 19, 20] (fun pv iv _ _ _ wr => ∃ (pc i : Nat) (nn : Int) (D : List Bool), i ≤ ways.length ∧ pv = .int .i64 pc ∧ iv = .int .i64 i ∧ 0 ≤ nn ∧ nn ≤ 10000 * i ∧ Hid (∃ u, sk.At pc u) ∧ Hid (D.length = m.params.size + m.locals.size) ∧ Hid (∀ j, D.getD j false = true → hasG m sk pc j = false) ∧
    Hid (LvNew w4 wr w4.heap.size ib p ss 0 nn k ∨ ∃ B lb kv F bk gk, LvD w4 wr w4.heap.size ib p ss 0 nn k m sk B lb kv F bk gk) ∧ Hid (wr.heap[w4.heap.size + 1]? = some (.cells #[.string m.params, .string m.locals, .string m.ret, .slice ka m.code.length kc] 27)) ∧
    Hid (wr.heap[w4.heap.size + 1 + 1]? = some (.cells (bcells D) 4)) ∧ Hid (Upd [] w wr)) (fun _ iv _ _ _ _ => ways.length - (intOf iv).toNat)
  case atStart =>
    exact ⟨0, 0, 0, _, by omega, rfl, rfl, by omega, by omega, HAT0.out, List.length_replicate, (fun j hj => by rw [List.getD_eq_getElem?_getD, List.getElem?_replicate] at hj; split at hj <;> cases hj), .inl HNEW7.out, HB7.out, HD7.out, HU7.out⟩
  case round =>
    clear HAT0 HNEW7 HB7 HD7 HU7
    obtain ⟨pc, i, nn, D, hi, rfl, rfl, hn0, hn1, HAT, HDL, HDD, HLV, HB, HD, HU⟩ := hrel
    obtain ⟨wo, rfl⟩ : ∃ wo : World, wo = wr := ⟨_, rfl⟩
    by_cases hlt : i < ways.length
    · obtain ⟨wb, wo2, rfl, hwc⟩ := HW.out i hlt
      have HWC := Lib.hid hwc
      clear hwc
      obtain ⟨u, hat⟩ := HAT.out
      have hpc := Lk.at_lt (by omega) HLKK.out hat
      have HSN : Hid (seenF sk pc = true) := hat.1
      obtain ⟨t, _, _, _, _, hnx⟩ := Lk.at_next (by omega) HLKK.out hat
      have HNX := Lib.hid hnx
      have HNG : Hid (∀ x ∈ nextL m.code pc, 0 ≤ x) := by have h := next_ge HOK.out k hkl pc (by rw [HMK.out]; exact hpc); rwa [HMK.out] at h
      clear hat hnx HAT
      obtain ⟨kb, ko, rfl, hbd, x0, x1, x2, x3⟩ := HKC.out pc hpc
      have x0 := HU.out.cell x0 (by simp)
      have x1 := HU.out.cell x1 (by simp)
      have x2 := HU.out.cell x2 (by simp)
      have x3 := HU.out.cell x3 (by simp)
      have HIN := Lib.hid (ins_in (by have := HOK.out.ins k hkl pc (by rw [HMK.out]; exact hpc); rwa [HMK.out] at this))
      have HDN := Lib.hid (fun j q => dead_next (m := m) (s := sk) (pc := pc) (j := j) (q := q) hpc HSN.out)
      have HLH := Lib.hid (fun j => load_has (m := m) (s := sk) (pc := pc) (j := j) hpc HSN.out)
      have HSH := Lib.hid (fun j => store_has (m := m) (s := sk) (pc := pc) (j := j) hpc)
      generalize m.code.getD pc default = x at hbd x0 x1 x2 x3 HIN HDN HLH HSH
      obtain ⟨op, a, b, nn2⟩ := x
      simp only at x0 x1 x2 x3
      have b3 : wo.cell? ⟨w4.heap.size + 1, 3, none⟩ = some (.slice (some ⟨kb, ko, none⟩) m.code.length kc) := by rw [cell_of HB.out]; rfl
      clear hbd
      go_upto_region 20 with fail
      have hx := heap_alloc_new wo (.cells #[.int .i64 op, .int .i64 a, .int .i64 b, .int .i64 nn2] 24)
      have hal := (Upd.refl [] wo).alloc (.cells #[.int .i64 op, .int .i64 a, .int .i64 b, .int .i64 nn2] 24)
      have HX8 := Lib.hid hx
      have HB8 := Lib.hid (hal.heap HB.out (by simp))
      have HD8 := Lib.hid (hal.heap HD.out (by simp))
      have HU8 := Lib.hid (HU.out.trans hal)
      have HLV8 : Hid (LvNew w4 (wo.alloc (.cells #[.int .i64 op, .int .i64 a, .int .i64 b, .int .i64 nn2] 24)) w4.heap.size ib p ss 0 nn k ∨ ∃ B lb kv F bk gk, LvD w4 (wo.alloc (.cells #[.int .i64 op, .int .i64 a, .int .i64 b, .int .i64 nn2] 24)) w4.heap.size ib p ss 0 nn k m sk B lb kv F bk gk) := by
        rcases HLV.out with h | ⟨B, lb, kv, F, bk, gk, h⟩
        · exact .inl (h.upd hal)
        · exact .inr ⟨B, lb, kv, F, bk, gk, h.upd hal⟩
      have hwz : w4.heap.size + 1 + 1 < wo.heap.size := lt_of_heap HD.out
      clear hx hal x0 x1 x2 x3 b3 HB HD HU HLV
      generalize wo.alloc (.cells #[.int .i64 op, .int .i64 a, .int .i64 b, .int .i64 nn2] 24) = w8 at HX8 HB8 HD8 HU8 HLV8 ⊢
      generalize wo.heap.size = xb at HX8 hwz ⊢
      go_wp2_with fail
      have hge4 : w.heap.size ≤ w4.heap.size := by have := HFR.out; omega
      obtain ⟨mb, hmb⟩ : ∃ mb, mb = w4.heap.size := ⟨_, rfl⟩
      go_loopw [19] (fun jv wr => ∃ (j : Nat) (nq : Int) (Dq : List Bool), j ≤ m.params.size + m.locals.size ∧ jv = .int .i64 j ∧ nn ≤ nq ∧ nq ≤ nn + 120 * j ∧ Hid (Dq.length = m.params.size + m.locals.size) ∧ Hid (∀ q : Nat, q < j → Dq.getD q false = !hasG m sk pc q) ∧ Hid (∀ q : Nat, Dq.getD q false = true → hasG m sk pc q = false) ∧
        Hid (LvNew w4 wr w4.heap.size ib p ss 0 nq k ∨ ∃ B lb kv F bk gk, LvD w4 wr w4.heap.size ib p ss 0 nq k m sk B lb kv F bk gk) ∧ Hid (wr.heap[xb]? = some (.cells #[.int .i64 op, .int .i64 a, .int .i64 b, .int .i64 nn2] 24)) ∧ Hid (wr.heap[w4.heap.size + 1]? = some (.cells #[.string m.params, .string m.locals, .string m.ret, .slice (some ⟨kb, ko, none⟩) m.code.length kc] 27)) ∧
        Hid (wr.heap[w4.heap.size + 1 + 1]? = some (.cells (bcells Dq) 4)) ∧ Hid (Upd [] w wr)) (fun jv _ => m.params.size + m.locals.size - (intOf jv).toNat)
      case atStart => exact ⟨0, nn, D, by omega, rfl, by omega, by omega, HDL.out, (fun q hq => by omega), HDD.out, HLV8.out, HX8.out, HB8.out, HD8.out, HU8.out⟩
      case round =>
        clear HX8 HB8 HD8 HU8 HLV8 HDL HDD
        obtain ⟨j, nq, Dq, hj, rfl, hq0, hq1, HDL, HDE, HDD, HLV, HX, HB, HD, HU⟩ := hrel
        obtain ⟨wq, rfl⟩ : ∃ wq : World, wq = wr := ⟨_, rfl⟩
        by_cases hjl : j < m.params.size + m.locals.size
        · have dv : wq.cell? ⟨w4.heap.size + 1 + 1, j, none⟩ = some (.bool (Dq.getD j false)) := by rw [cell_of HD.out, bcells_get _ _ (by rw [HDL.out]; exact hjl)]
          cases hdj : Dq.getD j false with
          | true =>
            rw [hdj] at dv
            have hfz := froz_of HD.out j
            have hst := heap_setCell HD.out j (.bool true)
            rw [bcells_set] at hst
            have hu := (Upd.refl [w4.heap.size + 1 + 1] wq).setCell (p := ⟨w4.heap.size + 1 + 1, j, none⟩) (.inl (by simp)) (.bool true)
            have HST := Lib.hid hst
            have HLVN : Hid (LvNew w4 (wq.setCell ⟨w4.heap.size + 1 + 1, j, none⟩ (.bool true)) w4.heap.size ib p ss 0 nq k ∨ ∃ B lb kv F bk gk, LvD w4 (wq.setCell ⟨w4.heap.size + 1 + 1, j, none⟩ (.bool true)) w4.heap.size ib p ss 0 nq k m sk B lb kv F bk gk) := by
              rcases HLV.out with h | ⟨B, lb, kv, F, bk, gk, h⟩
              · exact .inl (h.bools HD.out (by omega) hu)
              · exact .inr ⟨B, lb, kv, F, bk, gk, h.bools HD.out (by omega) hu⟩
            have HXN := Lib.hid (hu.heap HX.out (by simp; omega))
            have HBN := Lib.hid (hu.heap HB.out (by simp))
            have HUN := Lib.hid (HU.out.trans' hu (fun q hq hl => by rw [List.mem_singleton] at hq; omega))
            have HDE2 : Hid (∀ q : Nat, q < j + 1 → (Dq.set j true).getD q false = !hasG m sk pc q) := fun q hq => by
              rw [List.getD_eq_getElem?_getD, List.getElem?_set]
              by_cases e : j = q
              · subst e
                rw [if_pos rfl, if_pos (by rw [HDL.out]; exact hjl), HDD.out j hdj]; rfl
              · rw [if_neg e, ← List.getD_eq_getElem?_getD]
                exact HDE.out q (by omega)
            have HDD2 : Hid (∀ q : Nat, (Dq.set j true).getD q false = true → hasG m sk pc q = false) := fun q hq => by
              rw [List.getD_eq_getElem?_getD, List.getElem?_set] at hq
              by_cases e : j = q
              · subst e
                exact HDD.out j hdj
              · rw [if_neg e, ← List.getD_eq_getElem?_getD] at hq
                exact HDD.out q hq
            clear hst hu hdj
            go_wp2_with fail
            go_roundw
            case rel => exact ⟨j + 1, nq, Dq.set j true, by omega, by go_num, by omega, by omega, by rw [List.length_set]; exact HDL.out, HDE2.out, HDD2.out, HLVN.out, HXN.out, HBN.out, HST.out, HUN.out⟩
            case measure => simp [intOf]; omega
          | false =>
            rw [hdj] at dv
            have HHAS := Lib.hid (lhas_any w4 w4.heap.size ib p ss 0 nq k m sk pc j wq HP.out (Nat.le_refl _) (by omega) (by omega) HLV.out)
            go_wp2_with fail
            refine HHAS.out.mono ?_
            rintro e w9 ⟨n9, hn9, hn9b, hd9, hu9, rfl⟩
            have HD9 := Lib.hid (hu9.heap HD.out (by simp; omega))
            have HX9 := Lib.hid (hu9.heap HX.out (by simp; omega))
            have HB9 := Lib.hid (hu9.heap HB.out (by simp; omega))
            have HU9 := Lib.hid (HU.out.trans' hu9 (fun q hq hl => by simp only [List.mem_cons, List.not_mem_nil, or_false] at hq; omega))
            have dv9 := hu9.cell dv (by simp; omega)
            have HLV9 := Lib.hid hd9
            generalize hgb : hasG m sk (pc : Int) (j : Int) = gb at *
            have HGB := Lib.hid hgb
            have hfz := froz_of HD9.out j
            have hst := heap_setCell HD9.out j (.bool (!gb))
            rw [bcells_set] at hst
            have hu := (Upd.refl [w4.heap.size + 1 + 1] w9).setCell (p := ⟨w4.heap.size + 1 + 1, j, none⟩) (.inl (by simp)) (.bool (!gb))
            have HST := Lib.hid hst
            have HLVN : Hid (LvNew w4 (w9.setCell ⟨w4.heap.size + 1 + 1, j, none⟩ (.bool (!gb))) w4.heap.size ib p ss 0 n9 k ∨ ∃ B lb kv F bk gk, LvD w4 (w9.setCell ⟨w4.heap.size + 1 + 1, j, none⟩ (.bool (!gb))) w4.heap.size ib p ss 0 n9 k m sk B lb kv F bk gk) := by
              obtain ⟨B, lb, kv, F, bk, gk, h⟩ := HLV9.out
              exact .inr ⟨B, lb, kv, F, bk, gk, h.bools HD9.out (by omega) hu⟩
            have HXN := Lib.hid (hu.heap HX9.out (by simp; omega))
            have HBN := Lib.hid (hu.heap HB9.out (by simp))
            have HUN := Lib.hid (HU9.out.trans' hu (fun q hq hl => by rw [List.mem_singleton] at hq; omega))
            have HDE2 : Hid (∀ q : Nat, q < j + 1 → (Dq.set j (!gb)).getD q false = !hasG m sk pc q) := fun q hq => by
              rw [List.getD_eq_getElem?_getD, List.getElem?_set]
              by_cases e : j = q
              · subst e
                rw [if_pos rfl, if_pos (by rw [HDL.out]; exact hjl), HGB.out]; rfl
              · rw [if_neg e, ← List.getD_eq_getElem?_getD]
                exact HDE.out q (by omega)
            have HDD2 : Hid (∀ q : Nat, (Dq.set j (!gb)).getD q false = true → hasG m sk pc q = false) := fun q hq => by
              rw [List.getD_eq_getElem?_getD, List.getElem?_set] at hq
              by_cases e : j = q
              · subst e
                rw [if_pos rfl, if_pos (by rw [HDL.out]; exact hjl)] at hq
                rw [HGB.out]
                simpa using hq
              · rw [if_neg e, ← List.getD_eq_getElem?_getD] at hq
                exact HDD.out q hq
            clear hst hu hdj hu9 hd9 HHAS dv
            go_wp2_with fail
            go_roundw
            case rel => exact ⟨j + 1, n9, Dq.set j (!gb), by omega, by go_num, by omega, by omega, by rw [List.length_set]; exact HDL.out, HDE2.out, HDD2.out, HLVN.out, HXN.out, HBN.out, HST.out, HUN.out⟩
            case measure => simp [intOf]; omega
        · obtain rfl : j = m.params.size + m.locals.size := by omega
          have y0 : wq.cell? ⟨xb, 0, none⟩ = some (.int .i64 op) := by rw [cell_of HX.out]; rfl
          have y1 : wq.cell? ⟨xb, 1, none⟩ = some (.int .i64 a) := by rw [cell_of HX.out]; rfl
          go_upto_region 24 with fail
          go_cut [121] from 74 to 152 (fun pv wx => pv = .bool false ∧ ∃ nq2 : Int, 0 ≤ nq2 ∧ nq2 ≤ nn + 120 * 25 ∧
            Hid (LvNew w4 wx w4.heap.size ib p ss 0 nq2 k ∨ ∃ B lb kv F bk gk, LvD w4 wx w4.heap.size ib p ss 0 nq2 k m sk B lb kv F bk gk) ∧ Hid (wx.heap[xb]? = some (.cells #[.int .i64 op, .int .i64 a, .int .i64 b, .int .i64 nn2] 24)) ∧ Hid (wx.heap[w4.heap.size + 1]? = some (.cells #[.string m.params, .string m.locals, .string m.ret, .slice (some ⟨kb, ko, none⟩) m.code.length kc] 27)) ∧
            Hid (wx.heap[w4.heap.size + 1 + 1]? = some (.cells (bcells Dq) 4)) ∧ Hid (Upd [] w wx))
          case first =>
            by_cases h3 : op = 3
            · subst h3
              obtain ⟨la, rfl⟩ := Int.eq_ofNat_of_zero_le (HIN.out.loc (.inl rfl)).1
              have hla : la < m.params.size + m.locals.size := by have h := (HIN.out.loc (.inl rfl)).2; simp only at h; omega
              have HHA := Lib.hid (HLH.out la rfl rfl)
              have hdv : Dq.getD la false = false := by rw [HDE.out la hla, HHA.out]; rfl
              have dv : wq.cell? ⟨w4.heap.size + 1 + 1, la, none⟩ = some (.bool false) := by rw [cell_of HD.out, bcells_get _ _ (by rw [HDL.out]; exact hla), hdv]
              have HHAS := Lib.hid (lhas_any w4 w4.heap.size ib p ss 0 nq k m sk pc la wq HP.out (Nat.le_refl _) (by omega) (by omega) HLV.out)
              rw [HHA.out] at HHAS
              clear hdv
              go_wp2_with fail
              refine HHAS.out.mono ?_
              rintro e w9 ⟨n9, hn9, hn9b, hd9, hu9, rfl⟩
              have HD9 := Lib.hid (hu9.heap HD.out (by simp; omega))
              have HX9 := Lib.hid (hu9.heap HX.out (by simp; omega))
              have HB9 := Lib.hid (hu9.heap HB.out (by simp; omega))
              have HU9 := Lib.hid (HU.out.trans' hu9 (fun q hq hl => by simp only [List.mem_cons, List.not_mem_nil, or_false] at hq; omega))
              have HLV9 := Lib.hid hd9
              clear hu9 hd9 HHAS
              go_wp2_with fail
              go_meet
              exact ⟨rfl, n9, by omega, by omega, .inr HLV9.out, HX9.out, HB9.out, HD9.out, HU9.out⟩
            · have d3 : (op == 3) = false := by rw [beq_eq_false_iff_ne]; exact h3
              go_wp2_with fail
              go_meet
              exact ⟨rfl, nq, by omega, by omega, HLV.out, HX.out, HB.out, HD.out, HU.out⟩
          case rest =>
            obtain ⟨rfl, nq2, hq2, hq3, HLV2, HX2, HB2, HD2, HU2⟩ := hcut
            clear HLV HX HB HD HU y0 y1 HDD
            obtain ⟨wp2, rfl⟩ : ∃ wp2 : World, wp2 = wc := ⟨_, rfl⟩
            have y0 : wp2.cell? ⟨xb, 0, none⟩ = some (.int .i64 op) := by rw [cell_of HX2.out]; rfl
            have y1 : wp2.cell? ⟨xb, 1, none⟩ = some (.int .i64 a) := by rw [cell_of HX2.out]; rfl
            go_upto_if 124 with fail
            go_cut [16] from 74 to 152 (fun pv wx => pv = .int .i64 pc ∧ ∃ (nq3 : Int) (D3 : List Bool), 0 ≤ nq3 ∧ nq3 ≤ nn + 120 * 26 ∧ Hid (D3.length = m.params.size + m.locals.size) ∧ Hid (∀ j, D3.getD j false = true → ∀ q : Nat, (q : Int) ∈ nextL m.code pc → q < m.code.length → hasG m sk (q : Int) (j : Int) = false) ∧
              Hid (LvNew w4 wx w4.heap.size ib p ss 0 nq3 k ∨ ∃ B lb kv F bk gk, LvD w4 wx w4.heap.size ib p ss 0 nq3 k m sk B lb kv F bk gk) ∧ Hid (wx.heap[w4.heap.size + 1]? = some (.cells #[.string m.params, .string m.locals, .string m.ret, .slice (some ⟨kb, ko, none⟩) m.code.length kc] 27)) ∧
              Hid (wx.heap[w4.heap.size + 1 + 1]? = some (.cells (bcells D3) 4)) ∧ Hid (Upd [] w wx))
            case first =>
              have HLT : Hid (∀ j, Dq.getD j false = true → j < m.params.size + m.locals.size) := fun j hj => by
                refine Decidable.byContradiction fun hc => ?_
                rw [List.getD_eq_getElem?_getD, List.getElem?_eq_none (by rw [HDL.out]; omega)] at hj
                cases hj
              have HDQ : Hid (∀ j, Dq.getD j false = true → hasG m sk pc j = false) := fun j hj => by
                have h := HDE.out j (HLT.out j hj)
                rw [hj] at h
                simpa using h.symm
              by_cases h4 : op = 4
              · subst h4
                obtain ⟨la, rfl⟩ := Int.eq_ofNat_of_zero_le (HIN.out.loc (.inr rfl)).1
                have hla : la < m.params.size + m.locals.size := by have h := (HIN.out.loc (.inr rfl)).2; simp only at h; omega
                have HHA := Lib.hid (HSH.out la rfl rfl)
                have dv : wp2.cell? ⟨w4.heap.size + 1 + 1, la, none⟩ = some (.bool (Dq.getD la false)) := by rw [cell_of HD2.out, bcells_get _ _ (by rw [HDL.out]; exact hla)]
                have hfz := froz_of HD2.out la
                have hst := heap_setCell HD2.out la (.bool false)
                rw [bcells_set] at hst
                have hu := (Upd.refl [w4.heap.size + 1 + 1] wp2).setCell (p := ⟨w4.heap.size + 1 + 1, la, none⟩) (.inl (by simp)) (.bool false)
                have HST := Lib.hid hst
                have HLVN : Hid (LvNew w4 (wp2.setCell ⟨w4.heap.size + 1 + 1, la, none⟩ (.bool false)) w4.heap.size ib p ss 0 nq2 k ∨ ∃ B lb kv F bk gk, LvD w4 (wp2.setCell ⟨w4.heap.size + 1 + 1, la, none⟩ (.bool false)) w4.heap.size ib p ss 0 nq2 k m sk B lb kv F bk gk) := by
                  rcases HLV2.out with h | ⟨B, lb, kv, F, bk, gk, h⟩
                  · exact .inl (h.bools HD2.out (by omega) hu)
                  · exact .inr ⟨B, lb, kv, F, bk, gk, h.bools HD2.out (by omega) hu⟩
                have HXN := Lib.hid (hu.heap HX2.out (by simp; omega))
                have HBN := Lib.hid (hu.heap HB2.out (by simp))
                have HUN := Lib.hid (HU2.out.trans' hu (fun q hq hl => by rw [List.mem_singleton] at hq; omega))
                have z1 := hu.cell y1 (by simp; omega)
                have HHAS := Lib.hid (lhas_any w4 w4.heap.size ib p ss 0 nq2 k m sk pc la (wp2.setCell ⟨w4.heap.size + 1 + 1, la, none⟩ (.bool false)) HP.out (Nat.le_refl _) (by omega) (by omega) HLVN.out)
                rw [HHA.out] at HHAS
                have HDN3 : Hid (∀ j, (Dq.set la false).getD j false = true → ∀ q : Nat, (q : Int) ∈ nextL m.code pc → q < m.code.length → hasG m sk (q : Int) (j : Int) = false) := fun j hj q hq hql => by
                  rw [List.getD_eq_getElem?_getD, List.getElem?_set] at hj
                  by_cases e : la = j
                  · rw [if_pos e] at hj
                    split at hj <;> cases hj
                  · rw [if_neg e, ← List.getD_eq_getElem?_getD] at hj
                    exact HDN.out j q (HDQ.out j hj) (by simp only; omega) hq hql
                clear hst hu
                go_wp2_with fail
                refine HHAS.out.mono ?_
                rintro e w9 ⟨n9, hn9, hn9b, hd9, hu9, rfl⟩
                have HD9 := Lib.hid (hu9.heap HST.out (by simp; omega))
                have HB9 := Lib.hid (hu9.heap HBN.out (by simp; omega))
                have HU9 := Lib.hid (HUN.out.trans' hu9 (fun q hq hl => by simp only [List.mem_cons, List.not_mem_nil, or_false] at hq; omega))
                have HLV9 := Lib.hid hd9
                clear hu9 hd9 HHAS
                go_wp2_with fail
                go_meet
                exact ⟨rfl, n9, Dq.set la false, by omega, by omega, by rw [List.length_set]; exact HDL.out, HDN3.out, .inr HLV9.out, HB9.out, HD9.out, HU9.out⟩
              · have d4 : (op == 4) = false := by rw [beq_eq_false_iff_ne]; exact h4
                have HDN3 : Hid (∀ j, Dq.getD j false = true → ∀ q : Nat, (q : Int) ∈ nextL m.code pc → q < m.code.length → hasG m sk (q : Int) (j : Int) = false) := fun j hj q hq hql => HDN.out j q (HDQ.out j hj) (fun hh => h4 hh.1) hq hql
                go_wp2_with fail
                go_meet
                exact ⟨rfl, nq2, Dq, by omega, by omega, HDL.out, HDN3.out, HLV2.out, HB2.out, HD2.out, HU2.out⟩
            case rest =>
              obtain ⟨rfl, nq3, D3, hq4, hq5, HDL3, HDN3, HLV3, HB3, HD3, HU3⟩ := hcut
              obtain ⟨wp3, rfl⟩ : ∃ wp3 : World, wp3 = wc := ⟨_, rfl⟩
              clear HLV2 HX2 HB2 HD2 HU2 y0 y1 HDE HDL HDN HLH HSH
              have b0 : wp3.cell? ⟨w4.heap.size + 1, 0, none⟩ = some (.string m.params) := by rw [cell_of HB3.out]; rfl
              have b1 : wp3.cell? ⟨w4.heap.size + 1, 1, none⟩ = some (.string m.locals) := by rw [cell_of HB3.out]; rfl
              have b2 : wp3.cell? ⟨w4.heap.size + 1, 2, none⟩ = some (.string m.ret) := by rw [cell_of HB3.out]; rfl
              have b3 : wp3.cell? ⟨w4.heap.size + 1, 3, none⟩ = some (.slice (some ⟨kb, ko, none⟩) m.code.length kc) := by rw [cell_of HB3.out]; rfl
              have HRN := Lib.hid (rnext_any m.params m.locals m.ret _ m.code pc wp3 (HCODE.out.upd HU3.out) (by omega))
              have HNL := Lib.hid (nextL_len m.code pc)
              go_wp2_with fail
              refine HRN.out.mono ?_
              rintro e w9 ⟨nv, rfl, hown, hu9⟩
              have HU4 := Lib.hid (HU3.out.trans hu9)
              have HB4 := Lib.hid (hu9.heap HB3.out (by simp))
              have HD4 := Lib.hid (hu9.heap HD3.out (by simp))
              have HLV4 : Hid (LvNew w4 w9 w4.heap.size ib p ss 0 nq3 k ∨ ∃ B lb kv F bk gk, LvD w4 w9 w4.heap.size ib p ss 0 nq3 k m sk B lb kv F bk gk) := by
                rcases HLV3.out with h | ⟨B, lb, kv, F, bk, gk, h⟩
                · exact .inl (h.upd hu9)
                · exact .inr ⟨B, lb, kv, F, bk, gk, h.upd hu9⟩
              have hwc := HU4.out.cell HWC.out (by simp)
              obtain ⟨g, ⟨hform, hcell⟩, _⟩ := hown.ints
              have HCELL := Lib.hid hcell
              clear hown hu9 HRN b0 b1 b2 b3 hcell HLV3 HB3 HD3 HU3
              generalize nextL m.code pc = L at hform HCELL HNX HNG HNL HDN3
              rcases hform with ⟨rfl, rfl⟩ | ⟨c9, rfl⟩
              · go_wp2_with fail
                go_ret
                exact ⟨rfl, HU4.out⟩
              · match L, HCELL, HNX, HNG, HNL, HDN3 with
                | [], HCELL, HNX, HNG, HNL, HDN3 =>
                  go_wp2_with fail
                  go_ret
                  exact ⟨rfl, HU4.out⟩
                | [a0], HCELL, HNX, HNG, HNL, HDN3 =>
                  have k0 : w9.cell? ⟨g, 0, none⟩ = some (.int .i64 a0) := HCELL.out 0 (by simp)
                  have h0 := HNG.out a0 (by simp)
                  obtain ⟨q, rfl⟩ := Int.eq_ofNat_of_zero_le h0
                  have hq := (HNX.out q (by simp)).1
                  have HQ := Lib.hid (HNX.out q (by simp)).2
                  have hq2 : q < m.code.length := by omega
                  have HQD : Hid (∀ j, D3.getD j false = true → hasG m sk (q : Int) (j : Int) = false) := fun j hj => HDN3.out j hj q (by simp) hq2
                  clear HCELL HNX HNG HNL HDN3 h0 hq
                  cases hbit : ways.getD i false with
                  | true =>
                    rw [hbit] at hwc
                    clear hbit
                    go_wp2_with fail
                    go_roundw
                    case rel => exact ⟨q, i + 1, nq3, D3, by omega, rfl, by go_num, by omega, by omega, ⟨_, HQ.out⟩, HDL3.out, HQD.out, HLV4.out, HB4.out, HD4.out, HU4.out⟩
                    case measure => simp [intOf]; omega
                  | false =>
                    rw [hbit] at hwc
                    clear hbit
                    go_wp2_with fail
                    go_roundw
                    case rel => exact ⟨q, i + 1, nq3, D3, by omega, rfl, by go_num, by omega, by omega, ⟨_, HQ.out⟩, HDL3.out, HQD.out, HLV4.out, HB4.out, HD4.out, HU4.out⟩
                    case measure => simp [intOf]; omega
                | [a0, a1], HCELL, HNX, HNG, HNL, HDN3 =>
                  have k0 : w9.cell? ⟨g, 0, none⟩ = some (.int .i64 a0) := HCELL.out 0 (by simp)
                  have k1 : w9.cell? ⟨g, 1, none⟩ = some (.int .i64 a1) := HCELL.out 1 (by simp)
                  have h0 := HNG.out a0 (by simp)
                  have h1 := HNG.out a1 (by simp)
                  obtain ⟨q, rfl⟩ := Int.eq_ofNat_of_zero_le h0
                  obtain ⟨r, rfl⟩ := Int.eq_ofNat_of_zero_le h1
                  have hq := (HNX.out q (by simp)).1
                  have hr := (HNX.out r (by simp)).1
                  have HQ := Lib.hid (HNX.out q (by simp)).2
                  have HR := Lib.hid (HNX.out r (by simp)).2
                  have hq2 : q < m.code.length := by omega
                  have hr2 : r < m.code.length := by omega
                  have HQD : Hid (∀ j, D3.getD j false = true → hasG m sk (q : Int) (j : Int) = false) := fun j hj => HDN3.out j hj q (by simp) hq2
                  have HRD : Hid (∀ j, D3.getD j false = true → hasG m sk (r : Int) (j : Int) = false) := fun j hj => HDN3.out j hj r (by simp) hr2
                  clear HCELL HNX HNG HNL HDN3 h0 h1 hq hr
                  cases hbit : ways.getD i false with
                  | true =>
                    rw [hbit] at hwc
                    clear hbit
                    go_wp2_with fail
                    go_roundw
                    case rel => exact ⟨r, i + 1, nq3, D3, by omega, rfl, by go_num, by omega, by omega, ⟨_, HR.out⟩, HDL3.out, HRD.out, HLV4.out, HB4.out, HD4.out, HU4.out⟩
                    case measure => simp [intOf]; omega
                  | false =>
                    rw [hbit] at hwc
                    clear hbit
                    go_wp2_with fail
                    go_roundw
                    case rel => exact ⟨q, i + 1, nq3, D3, by omega, rfl, by go_num, by omega, by omega, ⟨_, HQ.out⟩, HDL3.out, HQD.out, HLV4.out, HB4.out, HD4.out, HU4.out⟩
                    case measure => simp [intOf]; omega
                | a0 :: a1 :: a2 :: l, HCELL, HNX, HNG, HNL, HDN3 =>
                  exfalso
                  have := HNL.out
                  simp at this
    · obtain rfl : i = ways.length := by omega
      go_wp2_with fail
      go_ret
      exact ⟨rfl, HU.out⟩
end Go.Proofs.YtpmfbhoochogoaaGreatDoor
