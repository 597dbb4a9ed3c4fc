/- What is live in a straight row of code, reckoned. overdrivelaw8.first. -/
import Derived.Test.YtpmfbhoochogoaaGreatDoorLivP
import Derived.Test.YtpmfbhoochogoaaGreatDoorFirstL
import Derived.Test.YtpmfbhoochogoaaGreatDoorLivC
import Derived.Test.YtpmfbhoochogoaaGreatDoorSameI
/-! What is live in a straight row of code, reckoned. -/
/-! What is live in a straight row of code, reckoned. -/
namespace Go.Proofs.YtpmfbhoochogoaaGreatDoor

/-- Is it loaded ahead of any store? -/
def scanB (k : Nat) : List Ins → Bool
  | [] => false
  | x :: r => if x.op = 3 ∧ x.a = (k : Int) then true else if x.op = 4 ∧ x.a = (k : Int) then false else scanB k r
theorem scan_ask (k : Nat) : ∀ xs, AskX xs k ↔ scanB k xs = true
  | [] => ⟨fun h => absurd h (ask_nil k), fun h => by cases h⟩
  | x :: r => by
    rw [ask_cons, scan_ask k r]
    show _ ↔ (if x.op = 3 ∧ x.a = (k : Int) then true else if x.op = 4 ∧ x.a = (k : Int) then false else scanB k r) = true
    by_cases h3 : x.op = 3 ∧ x.a = (k : Int)
    · rw [if_pos h3]; simp [h3]
    · rw [if_neg h3]
      by_cases h4 : x.op = 4 ∧ x.a = (k : Int)
      · rw [if_pos h4]; simp [h4]
      · rw [if_neg h4]; simp [h3, h4]
theorem getD_drop {α : Type} (xs : List α) (d : α) (n i : Nat) : (xs.drop n).getD i d = xs.getD (n + i) d := by
  rw [List.getD_eq_getElem?_getD, List.getElem?_drop, List.getD_eq_getElem?_getD]
theorem live_scan {xs : List Ins} {seen : Nat → Prop} {L : Nat} (hl : xs.length = L + 1) (hs : ∀ i, i ≤ L → seen i) (hn : ∀ i : Nat, i < L → nextL xs i = [(i : Int) + 1]) (he : nextL xs L = []) (h3 : (xs.getD L default).op ≠ 3) (k pc : Nat) (hp : pc ≤ L) : LiveR xs seen pc k ↔ scanB k (xs.drop pc) = true := by
  rw [live_row hs hn he h3 k (L - pc) pc (by omega), ← scan_ask]
  constructor
  · rintro ⟨j, h1, h2, h4, h5⟩
    refine ⟨j - pc, by rw [List.length_drop]; omega, ?_, fun i hi => ?_⟩
    · rw [getD_drop, show pc + (j - pc) = j by omega]; exact h4
    · rw [getD_drop]; exact h5 _ (by omega) (by omega)
  · rintro ⟨j, h1, h2, h4⟩
    rw [List.length_drop] at h1
    rw [getD_drop] at h2
    refine ⟨pc + j, by omega, ?_, h2, fun i h5 h6 => ?_⟩
    · rcases Nat.lt_or_ge (pc + j) L with h | h
      · exact h
      · obtain e : pc + j = L := by omega
        rw [e] at h2
        exact absurd h2.1 h3
    · have := h4 (i - pc) (by omega)
      rwa [getD_drop, show pc + (i - pc) = i by omega] at this
end Go.Proofs.YtpmfbhoochogoaaGreatDoor

/-! overdrivelaw8.first. -/
/-! overdrivelaw8.first. -/
namespace Go.Proofs.YtpmfbhoochogoaaGreatDoor
open Go.RowKit

/-- The chapter's program. -/
def r8 : Meth := ⟨⟨#[]⟩, ⟨#[]⟩, ⟨#[]⟩, [⟨33, 0, 0, 0⟩]⟩
def g8 : Meth := ⟨⟨#[73]⟩, ⟨#[73]⟩, ⟨#[73]⟩, [⟨3, 0, 0, 0⟩, ⟨4, 1, 0, 0⟩, ⟨3, 1, 0, 0⟩, ⟨33, 0, 0, 0⟩]⟩
def p8 : Prg := ⟨[], [r8, g8]⟩
theorem p8_ok : p8.Ok := okB_ok (by decide +kernel)
def seenL (r : Except (Int × Nat) Lk) : List Bool := match r with
  | .ok s => s.seen
  | .error _ => []
theorem p8_look : ∀ j, j < p8.ms.length → ∃ s, lookM p8 (p8.ms.getD j default) = .ok s := by
  intro j hj
  have h : j = 0 ∨ j = 1 := by have : p8.ms.length = 2 := rfl; omega
  rcases h with rfl | rfl
  · exact lookB_ok (by decide +kernel)
  · exact lookB_ok (by decide +kernel)
theorem p8_seen {s : Lk} (h : lookM p8 g8 = .ok s) : ∀ i, i ≤ 3 → seenF s i = true := by
  have h1 : seenL (lookM p8 g8) = [true, true, true, true] := by decide +kernel
  rw [h] at h1
  have h2 : s.seen = [true, true, true, true] := h1
  intro i hi
  unfold seenF
  rw [h2]
  have h3 : i = 0 ∨ i = 1 ∨ i = 2 ∨ i = 3 := by omega
  rcases h3 with rfl | rfl | rfl | rfl <;> rfl
theorem p8_live {s : Lk} (h : lookM p8 g8 = .ok s) (pc k : Nat) (hp : pc ≤ 3) : liveG g8.code (seenF s) pc k = scanB k (g8.code.drop pc) := by
  rw [Bool.eq_iff_iff, liveG_iff]
  refine live_scan (L := 3) rfl (p8_seen h) (fun i hi => ?_) (nextL_ret (by decide) rfl) (by decide) k pc hp
  have h3 : i = 0 ∨ i = 1 ∨ i = 2 := by omega
  rcases h3 with rfl | rfl | rfl
  all_goals exact nextL_on (by decide) (by decide) (by decide) (by decide)
theorem p8_loc {s : Lk} (h : lookM p8 g8 = .ok s) (pc : Nat) (hp : pc ≤ 3) : locG g8 s (pc : Int) = ints ((List.range 2).filter fun k => scanB k (g8.code.drop pc)) := by
  have h4 : g8.code.length = 4 := rfl
  unfold locG
  rw [if_pos ⟨by omega, by omega⟩, Int.toNat_natCast]
  have e : (kindsL g8).length = 2 := by decide +kernel
  rw [e]
  congr 1
  refine List.filter_congr fun k _ => ?_
  exact p8_live h pc k hp
theorem p8_beh {s : Lk} (h : lookM p8 g8 = .ok s) : behG g8 s 1 = [1] := by
  have h4 : g8.code.length = 4 := rfl
  unfold behG
  rw [if_pos ⟨by omega, by omega, p8_seen h 1 (by omega)⟩]
  have e : (kindsL g8).length = 2 := by decide +kernel
  rw [e]
  have e2 : (List.range 2).filter (behF g8.code (seenF s) (liveG g8.code (seenF s)) (1 : Int).toNat) = (List.range 2).filter fun k => scanB k (g8.code.drop 2) := by
    refine List.filter_congr fun k _ => ?_
    unfold behF
    have hn : nextL g8.code ((1 : Int).toNat : Nat) = [2] := nextL_on (xs := g8.code) (i := 1) (by decide) (by decide) (by decide) (by decide)
    rw [hn]
    simp only [List.any_cons, List.any_nil, Bool.or_false]
    rw [p8_live h (2 : Int).toNat k (by decide)]
    have h5 : seenF s (2 : Int).toNat = true := p8_seen h 2 (by omega)
    rw [h5]
    show (decide ((2 : Int) < 4) && (true && _)) = _
    simp
  rw [e2]
  decide +kernel

theorem bd_tiny {a b c d : Int} (h : -1000 ≤ a ∧ a ≤ 1000 ∧ -1000 ≤ b ∧ b ≤ 1000 ∧ -1000 ≤ c ∧ c ≤ 1000 ∧ -1000 ≤ d ∧ d ≤ 1000) : (⟨a, b, c, d⟩ : Ins).bd := by
  simp only [Ins.bd]
  omega
theorem own_int (w : World) (xs : List Int) : IntsV (w.alloc (.cells (icells xs) 3)) (.slice (some ⟨w.heap.size, 0, none⟩) xs.length xs.length) w.heap.size xs := by
  refine ⟨.inr ⟨_, rfl⟩, fun i hi => ?_⟩
  rw [cell_of (heap_alloc_new w _)]
  simp [icells, hi]

set_option maxRecDepth 100000 in
set_option maxHeartbeats 4000000 in
theorem first8_any (E : Nat → Addr) (w : World) (hS : SentAt w E) (hT : TzAt w) :
    Calls Tryz.prog 34 #[] w fun e w' => e = .returned (.bool true) ∧ Upd [] w w' := by
  have hA1 := (Upd.refl [] w).alloc (.cells (xcells r8.code).toArray 24)
  have hC1 := code_lit w r8.code (by decide) (fun i hi => by
    obtain rfl : i = 0 := by have h : r8.code.length = 1 := rfl; omega
    exact bd_tiny (by decide))
  generalize hw1 : w.alloc (.cells (xcells r8.code).toArray 24) = w1 at hA1 hC1
  have hA2 := hA1.alloc (.cells (xcells g8.code).toArray 24)
  have hC2 := code_lit w1 g8.code (by decide) (fun i hi => by
    have : i = 0 ∨ i = 1 ∨ i = 2 ∨ i = 3 := by have h : g8.code.length = 4 := rfl; omega
    rcases this with rfl | rfl | rfl | rfl <;> exact bd_tiny (by decide))
  have hC1 := hC1.upd ((Upd.refl [] w1).alloc (.cells (xcells g8.code).toArray 24))
  generalize hw2 : w1.alloc (.cells (xcells g8.code).toArray 24) = w2 at hA2 hC1 hC2
  have hM := meths_lit w2 [r8, g8] [.slice (some ⟨w.heap.size, 0, none⟩) 1 1, .slice (some ⟨w1.heap.size, 0, none⟩) 4 4] rfl (by decide) (fun i hi => by
    have : i = 0 ∨ i = 1 := by have h : [r8, g8].length = 2 := rfl; omega
    rcases this with rfl | rfl
    · exact ⟨by decide, by decide, by decide⟩
    · exact ⟨by decide, by decide, by decide⟩) (fun i hi => by
    have : i = 0 ∨ i = 1 := by have h : [r8, g8].length = 2 := rfl; omega
    rcases this with rfl | rfl
    · exact hC1
    · exact hC2)
  have hA3 := hA2.alloc (.cells (mcells [r8, g8] [.slice (some ⟨w.heap.size, 0, none⟩) 1 1, .slice (some ⟨w1.heap.size, 0, none⟩) 4 4]).toArray 27)
  generalize hw3 : w2.alloc (.cells (mcells [r8, g8] [.slice (some ⟨w.heap.size, 0, none⟩) 1 1, .slice (some ⟨w1.heap.size, 0, none⟩) 4 4]).toArray 27) = w3 at hA3 hM
  have hA4 := hA3.alloc (.cells #[.slice none 0 0, .slice (some ⟨w2.heap.size, 0, none⟩) 2 2] 36)
  have hB4 := heap_alloc_new w3 (.cells #[.slice none 0 0, .slice (some ⟨w2.heap.size, 0, none⟩) 2 2] 36)
  have hM := hM.upd ((Upd.refl [] w3).alloc (.cells #[.slice none 0 0, .slice (some ⟨w2.heap.size, 0, none⟩) 2 2] 36))
  generalize hw4 : w3.alloc (.cells #[.slice none 0 0, .slice (some ⟨w2.heap.size, 0, none⟩) 2 2] 36) = w4 at hA4 hB4 hM
  have z1 : w1.heap.size = w.heap.size + 1 := by rw [← hw1]; simp
  have z2 : w2.heap.size = w.heap.size + 1 + 1 := by rw [← hw2]; simp [z1]
  have z3 : w3.heap.size = w.heap.size + 1 + 1 + 1 := by rw [← hw3]; simp [z2]
  have hW : w4 = (((w.alloc (.cells #[.int .i64 33, .int .i64 0, .int .i64 0, .int .i64 0] 24)).alloc (.cells #[.int .i64 3, .int .i64 0, .int .i64 0, .int .i64 0, .int .i64 4, .int .i64 1, .int .i64 0, .int .i64 0, .int .i64 3, .int .i64 1, .int .i64 0, .int .i64 0, .int .i64 33, .int .i64 0, .int .i64 0, .int .i64 0] 24)).alloc
      (.cells #[.string ⟨#[]⟩, .string ⟨#[]⟩, .string ⟨#[]⟩, .slice (some ⟨w.heap.size, 0, none⟩) 1 1, .string ⟨#[73]⟩, .string ⟨#[73]⟩, .string ⟨#[73]⟩, .slice (some ⟨w.heap.size + 1, 0, none⟩) 4 4] 27)).alloc (.cells #[.slice none 0 0, .slice (some ⟨w.heap.size + 1 + 1, 0, none⟩) 2 2] 36) := by
    rw [← hw4, z2, ← hw3, z1, ← hw2, ← hw1]
    rfl
  go_enter Tryz.func34, Tryz.ntmps34
  go_upto_region 2 with fail
  rw [← hW]
  rw [z3] at hB4
  rw [z2] at hB4 hM
  have HS4 := Lib.hid (hS.upd hA4)
  have HT4 := Lib.hid (hT.upd hA4 (by simp))
  have HU4 := Lib.hid hA4
  have c0 : w4.cell? ⟨w.heap.size + 1 + 1 + 1, 0, none⟩ = some (.slice none 0 0) := by rw [cell_of hB4]; rfl
  have c1 : w4.cell? ⟨w.heap.size + 1 + 1 + 1, 1, none⟩ = some (.slice (some ⟨w.heap.size + 1 + 1, 0, none⟩) 2 2) := by rw [cell_of hB4]; rfl
  have HO := Lib.hid (ofV_any p8 (.slice none 0 0) (.slice (some ⟨w.heap.size + 1 + 1, 0, none⟩) 2 2) E w4 HS4.out (class_nil _) hM)
  clear hW hw1 hw2 hw3 hw4 z1 z2 z3 hA1 hA2 hA3 hA4 hC1 hC2 hB4 hM hS hT
  go_wp2_with fail
  refine HO.out.mono ?_
  rintro e w5 ⟨v1, rfl, hend⟩
  obtain ⟨ib, ss, hl, hlk, rfl, hinfo, hib, hu5⟩ := hend.good p8_ok p8_look
  have HI5 := Lib.hid (InfoK.start hinfo)
  have HT5 := Lib.hid (HT4.out.upd hu5 (by simp))
  have HU5 := Lib.hid (HU4.out.trans hu5)
  have hL1 : lookM p8 g8 = .ok (ss.getD 1 default) := hlk 1 (by decide)
  have HP : Hid (LvP p8 ss 1 g8 (ss.getD 1 default)) := ⟨hl, by decide, p8_ok, hlk, rfl, rfl⟩
  generalize hsd : ss.getD 1 default = s at hL1 HP
  have HL1 := Lib.hid hL1
  have hibs : ib < w5.heap.size := HI5.out.lt
  have HIB := Lib.hid (Nat.le_trans HU4.out.size hib)
  clear hend hinfo hib hu5 hlk hl hL1 HO c0 c1 hsd
  go_wp2_with fail
  refine (live_of ib 1 w5).mono ?_
  rintro e w6 ⟨rfl, hw6⟩
  have hb6 := heap_alloc_new w5 (.cells (mapCells ib 1 0 0 nilM (.slice none 0 0) (.slice none 0 0)) 147)
  have hu6 := (Upd.refl [] w5).alloc (.cells (mapCells ib 1 0 0 nilM (.slice none 0 0) (.slice none 0 0)) 147)
  have hnew : LvNew w5 w6 w5.heap.size ib p8 ss 0 0 1 := by
    rw [hw6]
    exact ⟨hb6, HI5.out.keep hu6 (by simp), HT5.out.upd hu6 (by simp)⟩
  have HUA : Hid (Upd [] w w6) := by rw [hw6]; exact HU5.out.trans hu6
  have HLO := Lib.hid (locals_any w5 w5.heap.size ib p8 ss 0 0 1 g8 s 0 w6 HP.out (Nat.le_refl _) (by omega) (by omega) (.inl hnew))
  clear hb6 hu6 hnew hw6 HU4 HS4 HT4
  go_wp2_with fail
  refine HLO.out.mono ?_
  rintro e w7 ⟨n7, w7a, u7, hn1, hn2, hD7, hu7, rfl, ho7, hu7b⟩
  have e7 : locG g8 s 0 = [0] := (p8_loc HL1.out 0 (by omega)).trans (by decide +kernel)
  rw [e7] at ho7
  have HD7 := Lib.hid (show ∃ B lb kv F bk gk, LvD w5 w7 w5.heap.size ib p8 ss 0 n7 1 g8 s B lb kv F bk gk from by
    obtain ⟨B, lb, kv, F, bk, gk, hD⟩ := hD7
    exact ⟨B, lb, kv, F, bk, gk, hD.upd hu7b⟩)
  have HU7 : Hid (Upd [] w w7) := (HUA.out.trans' hu7 (fun q hq hl => by have := HIB.out; have := HU5.out.size; simp at hq; omega)).trans hu7b
  obtain ⟨b7, hi7, _⟩ := ho7.ints
  obtain ⟨up7, uc7, rfl⟩ := ho7.shape
  have hua := (Upd.refl [] w7).alloc (.cells #[.int .i64 0] 3)
  have HSI := Lib.hid (sints _ _ _ _ [0] [0] _ (hi7.upd hua (.inr (by simp))) (own_int w7 [0]) (by decide))
  have HUa := Lib.hid hua
  clear hD7 hu7 ho7 hu7b hi7 hua e7 HLO HUA
  go_wp2_with fail
  refine HSI.out.mono ?_
  rintro e w8 ⟨rfl, hu8⟩
  have HD8 := Lib.hid (show ∃ B lb kv F bk gk, LvD w5 w8 w5.heap.size ib p8 ss 0 n7 1 g8 s B lb kv F bk gk from by
    obtain ⟨B, lb, kv, F, bk, gk, hD⟩ := HD7.out
    exact ⟨B, lb, kv, F, bk, gk, (hD.upd HUa.out).upd hu8⟩)
  have HU8 := Lib.hid ((HU7.out.trans HUa.out).trans hu8)
  have HLO := Lib.hid (locals_any w5 w5.heap.size ib p8 ss 0 n7 1 g8 s 2 w8 HP.out (Nat.le_refl _) (by omega) (by omega) (.inr HD8.out))
  clear hu8 HD7 HU7 HUa HSI
  go_wp2_with fail
  refine HLO.out.mono ?_
  rintro e w9 ⟨n9, w9a, u9, hn3, hn4, hD9, hu9, rfl, ho9, hu9b⟩
  have e9 : locG g8 s 2 = [1] := (p8_loc HL1.out 2 (by omega)).trans (by decide +kernel)
  rw [e9] at ho9
  have HD9 := Lib.hid (show ∃ B lb kv F bk gk, LvD w5 w9 w5.heap.size ib p8 ss 0 n9 1 g8 s B lb kv F bk gk from by
    obtain ⟨B, lb, kv, F, bk, gk, hD⟩ := hD9
    exact ⟨B, lb, kv, F, bk, gk, hD.upd hu9b⟩)
  have HU9 : Hid (Upd [] w w9) := (HU8.out.trans' hu9 (fun q hq hl => by have := HIB.out; have := HU5.out.size; simp at hq; omega)).trans hu9b
  obtain ⟨b9, hi9, _⟩ := ho9.ints
  obtain ⟨up9, uc9, rfl⟩ := ho9.shape
  have hua := (Upd.refl [] w9).alloc (.cells #[.int .i64 1] 3)
  have HSI := Lib.hid (sints _ _ _ _ [1] [1] _ (hi9.upd hua (.inr (by simp))) (own_int w9 [1]) (by decide))
  have HUa := Lib.hid hua
  clear hD9 hu9 ho9 hu9b hi9 hua e9 HLO HU8 HD8
  go_wp2_with fail
  refine HSI.out.mono ?_
  rintro e w10 ⟨rfl, hu10⟩
  have HD10 := Lib.hid (show ∃ B lb kv F bk gk, LvD w5 w10 w5.heap.size ib p8 ss 0 n9 1 g8 s B lb kv F bk gk from by
    obtain ⟨B, lb, kv, F, bk, gk, hD⟩ := HD9.out
    exact ⟨B, lb, kv, F, bk, gk, (hD.upd HUa.out).upd hu10⟩)
  have HU10 := Lib.hid ((HU9.out.trans HUa.out).trans hu10)
  have HLO := Lib.hid (lbehind_any w5 w5.heap.size ib p8 ss 0 n9 1 g8 s 1 w10 HP.out (Nat.le_refl _) (by omega) (by omega) (.inr HD10.out))
  clear hu10 HD9 HU9 HUa HSI
  go_wp2_with fail
  refine HLO.out.mono ?_
  rintro e w11 ⟨n11, w11a, u11, hn5, hn6, hD11, hu11, rfl, ho11, hu11b⟩
  have e11 : behG g8 s 1 = [1] := p8_beh HL1.out
  rw [e11] at ho11
  have HU11 : Hid (Upd [] w w11) := (HU10.out.trans' hu11 (fun q hq hl => by have := HIB.out; have := HU5.out.size; simp at hq; omega)).trans hu11b
  obtain ⟨b11, hi11, _⟩ := ho11.ints
  obtain ⟨up11, uc11, rfl⟩ := ho11.shape
  have hua := (Upd.refl [] w11).alloc (.cells #[.int .i64 1] 3)
  have HSI := Lib.hid (sints _ _ _ _ [1] [1] _ (hi11.upd hua (.inr (by simp))) (own_int w11 [1]) (by decide))
  have HUa := Lib.hid hua
  clear hD11 hu11 ho11 hu11b hi11 hua e11 HLO HU10 HD10
  go_wp2_with fail
  refine HSI.out.mono ?_
  rintro e w12 ⟨rfl, hu12⟩
  have HU12 := Lib.hid ((HU11.out.trans HUa.out).trans hu12)
  clear hu12 HU11 HUa HSI
  go_wp2_with fail
  go_ret
  exact ⟨rfl, HU12.out⟩
end Go.Proofs.YtpmfbhoochogoaaGreatDoor
