/- The walk of ArenaMoves. -/
import Derived.Test.YtlddnpcpioligaaDoorAl1
import Derived.Test.YtlddnpcpioligaaDoorFrame
namespace Go.Proofs.YtlddnpcpioligaaDoor
open Go.RowKit

theorem getD_splice (L cs : List Int) (o i : Nat) (h : o + cs.length ≤ L.length) :
    (splice L o cs).getD i 0 = if o ≤ i ∧ i < o + cs.length then cs.getD (i - o) 0 else L.getD i 0 := by
  unfold splice
  simp only [List.getD_eq_getElem?_getD]
  by_cases h1 : i < o
  · rw [List.getElem?_append_left (by simp; omega), if_neg (by omega)]
    simp [h1]
  · rw [List.getElem?_append_right (by simp; omega)]
    have e1 : (L.take o).length = o := by simp; omega
    rw [e1]
    by_cases h2 : i < o + cs.length
    · rw [if_pos ⟨by omega, h2⟩, List.getElem?_append_left (by omega)]
    · rw [if_neg (by omega), List.getElem?_append_right (by omega), List.getElem?_drop]
      congr 2; omega
theorem getD_take_drop (L : List Int) (f n i : Nat) (h : i < n) : ((L.drop f).take n).getD i 0 = L.getD (f + i) 0 := by
  simp [List.getD_eq_getElem?_getD, h, List.getElem?_drop]
theorem len_take_drop (L : List Int) (f n : Nat) (h : f + n ≤ L.length) : ((L.drop f).take n).length = n := by simp; omega
theorem getD_set (L : List Int) (k i : Nat) (v : Int) (hk : k < L.length) : (L.set k v).getD i 0 = if i = k then v else L.getD i 0 := by
  simp only [List.getD_eq_getElem?_getD, List.getElem?_set]
  by_cases h : k = i
  · subst h; simp [hk]
  · rw [if_neg h, if_neg (fun e => h e.symm)]
theorem clearL_all (L : List Int) (n : Int) (h : (L.length : Int) = n) : clearL L 0 n = List.replicate L.length 0 := by
  unfold clearL splice
  have e : ((min n (L.length : Int)) - (max 0 0)).toNat = L.length := by omega
  rw [e]
  simp
theorem getD_rep (m i : Nat) : (List.replicate m (0 : Int)).getD i 0 = 0 := by
  simp only [List.getD_eq_getElem?_getD, List.getElem?_replicate]
  split <;> rfl
/-- An append of one integer to a row of the call's own: the element's type. -/
theorem Tryd.info2' : (Tryd.prog.info? 2).map (fun i => (i.zero, i.size, i.bytes)) = some (some (.int .i64 0), 1, 8) := by kernel_rfl

theorem ArAt.grown {w w' : World} {b g : Nat} {xs : List Int} {row : Option Nat} (h : ArAt w b g xs) (hg : w.grownBy w' row) (hr : ∀ k, row = some k → k ≠ b ∧ k ≠ g) : ArAt w' b g xs :=
  ⟨by rw [hg.block b (lt_of_heap h.1) (fun e => (hr b e.symm).1 rfl)]; exact h.1, by rw [hg.block g (lt_of_heap h.2.1) (fun e => (hr g e.symm).2 rfl)]; exact h.2.1, h.2.2⟩

theorem load_is (b g : Nat) (xs : List Int) (i x : Int) (w : World) (h : ArAt w b g xs) (h0 : 0 ≤ i) (h1 : i < xs.length) (hx : xs.getD i.toNat 0 = x) :
    Calls Tryd.prog 15 #[.pointer (some ⟨b, 0, none⟩), .int .i64 i] w fun e w' => e = .returned (.tuple #[.int .i64 x, .bool true]) ∧ w = w' := by
  subst hx
  exact load_in b g xs i w h h0 h1

set_option maxRecDepth 100000 in
set_option maxHeartbeats 1000000 in
theorem moves_long (a : Option Addr) (n cap : Nat) (t f m : Int) (w : World) (h60 : 100 < n) (hm : n ≤ 9223372036854775807) :
    Calls Tryd.prog 4 #[.slice a n cap, .int .i64 t, .int .i64 f, .int .i64 m] w fun e w' => e = .returned (.bool true) ∧ Upd [] w w' := by
  go_enter Tryd.func4, Tryd.ntmps4
  go_wp2_with fail
  refine (first_any _).mono ?_
  rintro e w1 ⟨rfl, hu⟩
  go_wp2_with fail
  go_ret
  exact ⟨rfl, hu⟩

set_option maxRecDepth 100000 in
set_option maxHeartbeats 4000000 in
theorem moves_some (a : Option Addr) (xs : List Int) (cap : Nat) (t f m t' f' m' : Int) (w : World) (hn : xs.length ≤ 100) (m0 : bits BinOp.and IntKind.i64 t' 63 = t) (m1 : bits BinOp.and IntKind.i64 f' 63 = f) (m2 : bits BinOp.and IntKind.i64 m' 63 = m)
    (p0 : 0 ≤ t) (p1 : t < 64) (p2 : 0 ≤ f) (p3 : f < 64) (p4 : 0 ≤ m) (p5 : m < 64)
    (HX : Hid (∀ i, i < xs.length → ∃ b o, a = some ⟨b, o, none⟩ ∧ w.cell? ⟨b, o + i, none⟩ = some (.int .i64 (xs.getD i 0)))) :
    Calls Tryd.prog 4 #[.slice a xs.length cap, .int .i64 t', .int .i64 f', .int .i64 m'] w fun e w' => e = .returned (.bool true) ∧ Upd [] w w' := by
  go_enter Tryd.func4, Tryd.ntmps4
  go_wp2_with fail
  refine (first_any _).mono ?_
  rintro e w1 ⟨rfl, hu1⟩
  go_wp2_with fail
  refine (new_ok _ _ (by omega) (by omega)).mono ?_
  rintro e w2 ⟨rfl, hA0, hu2, hz2⟩
  have HS := Lib.hid hu1.size
  have HZ := Lib.hid hz2
  clear hz2
  have hU0 := hu1.trans hu2
  go_wp2_with fail
  go_loopw [12] (fun i wr => ∃ (k : Nat) (A : List Int), k ≤ xs.length ∧ i = .int .i64 k ∧ ArAt wr (w1.heap.size + 1) w1.heap.size A ∧ Upd [] w wr ∧ Hid (A.length = 300 ∧ ∀ j, j < k → A.getD (100 + j) 0 = xs.getD j 0)) (fun i _ => xs.length - (intOf i).toNat)
  case atStart => exact ⟨0, _, by omega, rfl, hA0, hU0, by show _ ∧ _; simp⟩
  case round =>
    obtain ⟨k, A, hk, rfl, hA, hU, HA⟩ := hrel
    have hl := HA.out.1
    by_cases hlt : k < xs.length
    · obtain ⟨b, o, rfl, hc⟩ := HX.out k hlt
      generalize hxk : xs.getD k 0 = x at hc
      have HXK := Lib.hid hxk
      clear hxk
      have hx3 : wr.cell? ⟨b, o + k, none⟩ = some (.int .i64 x) := hU.cell hc (by simp)
      have HL := Lib.hid hl
      clear hl
      go_wp2_with fail
      refine (store_in _ _ _ _ _ _ hA (by omega) (by have := HL.out; omega)).mono ?_
      rintro e w3 ⟨rfl, hA3, hU3⟩
      go_wp2_with fail
      go_roundw
      case rel =>
        refine ⟨k + 1, _, by omega, by go_num, hA3, hU.trans' hU3 (by intro i hi h2; simp at hi; have := HS.out; omega), ?_⟩
        show _ ∧ _
        refine ⟨by simp [HL.out], fun j hj => ?_⟩
        rw [getD_set _ _ _ _ (by have := HL.out; omega)]
        by_cases hjk : j = k
        · subst hjk; rw [if_pos (by omega)]; exact HXK.out.symm
        · rw [if_neg (by omega)]; exact HA.out.2 j (by omega)
      case measure => simp [intOf]; omega
    · obtain rfl : k = xs.length := by omega
      have HL := Lib.hid hl
      clear hl
      go_wp2_with fail
      refine (copy_yes _ _ _ _ _ _ _ hA (by omega) (by omega) (by have := HL.out; omega) (by omega) (by have := HL.out; omega)).mono ?_
      rintro e w3 ⟨rfl, hA3, hU3⟩
      have hU3' : Upd [] w w3 := hU.trans' hU3 (by intro i hi h2; simp at hi; have := HS.out; omega)
      obtain ⟨A3, hA3e⟩ : ∃ A3, A3 = splice A (200 : Int).toNat ((A.drop (100 : Int).toNat).take (xs.length : Int).toNat) := ⟨_, rfl⟩
      rw [← hA3e] at hA3
      have HL3 : Hid (A3.length = 300) := by show _ = _; rw [hA3e, length_splice _ _ _ (by simp; have := HL.out; omega)]; exact HL.out
      have HG3 : Hid (∀ j, j < xs.length → A3.getD (100 + j) 0 = xs.getD j 0 ∧ A3.getD (200 + j) 0 = xs.getD j 0) := by
        intro j hj
        have hlt : ((A.drop (100 : Int).toNat).take (xs.length : Int).toNat).length = xs.length := by simp; have := HL.out; omega
        have e2 : (200 : Int).toNat = 200 := rfl
        have e1 : (100 : Int).toNat = 100 := rfl
        rw [hA3e, getD_splice _ _ _ _ (by rw [hlt]; have := HL.out; omega), getD_splice _ _ _ _ (by rw [hlt]; have := HL.out; omega), hlt, e2, if_neg (by omega), if_pos (by omega), e1, getD_take_drop _ _ _ _ (by simp; omega)]
        have := HA.out.2 j hj
        refine ⟨this, ?_⟩
        rw [← this]; congr 1; omega
      clear hA3e
      go_wp2_with fail
      refine (copy_yes _ _ _ _ _ _ _ hA3 (by omega) (by omega) (by have := HL3.out; omega) (by omega) (by have := HL3.out; omega)).mono ?_
      rintro e w4 ⟨rfl, hA4, hU4⟩
      have hU4' : Upd [] w w4 := hU3'.trans' hU4 (by intro i hi h2; simp at hi; have := HS.out; omega)
      obtain ⟨A4, hA4e⟩ : ∃ A4, A4 = splice A3 (0 : Int).toNat ((A3.drop (200 : Int).toNat).take (xs.length : Int).toNat) := ⟨_, rfl⟩
      rw [← hA4e] at hA4
      have HL4 : Hid (A4.length = 300) := by show _ = _; rw [hA4e, length_splice _ _ _ (by simp; have := HL3.out; omega)]; exact HL3.out
      have HG4 : Hid (∀ j, j < xs.length → A4.getD j 0 = xs.getD j 0 ∧ A4.getD (100 + j) 0 = xs.getD j 0 ∧ A4.getD (200 + j) 0 = xs.getD j 0) := by
        intro j hj
        have hlt : ((A3.drop (200 : Int).toNat).take (xs.length : Int).toNat).length = xs.length := by simp; have := HL3.out; omega
        have e2 : (200 : Int).toNat = 200 := rfl
        have e1 : (0 : Int).toNat = 0 := rfl
        rw [hA4e, getD_splice _ _ _ _ (by rw [hlt]; have := HL3.out; omega), getD_splice _ _ _ _ (by rw [hlt]; have := HL3.out; omega), getD_splice _ _ _ _ (by rw [hlt]; have := HL3.out; omega), hlt, e1, if_pos (by omega), if_neg (by omega), if_neg (by omega), e2, getD_take_drop _ _ _ _ (by simp; omega)]
        have h1 := HG3.out j hj
        exact ⟨by rw [Nat.sub_zero]; exact h1.2, h1.1, h1.2⟩
      clear hA4e HG3
      go_wp2_with fail
      clear hA hA3 hU hU3 hU4 HA HL HL3
      go_loopw [13] (fun i wr => ∃ (k : Nat), k ≤ xs.length ∧ i = .int .i64 k ∧ ArAt wr (w1.heap.size + 1) w1.heap.size A4 ∧ Upd [] w wr) (fun i _ => xs.length - (intOf i).toNat)
      case atStart => exact ⟨0, by omega, rfl, hA4, hU4'⟩
      case round =>
        obtain ⟨k, hk, rfl, hA, hU⟩ := hrel
        by_cases hlt : k < xs.length
        · obtain ⟨b, o, rfl, hc⟩ := HX.out k hlt
          obtain ⟨g1, g2, g3⟩ := HG4.out k hlt
          generalize xs.getD k 0 = x at hc g1 g2 g3
          have G1 := Lib.hid g1
          have G2 := Lib.hid g2
          have G3 := Lib.hid g3
          clear g1 g2 g3
          have hx3 : wr.cell? ⟨b, o + k, none⟩ = some (.int .i64 x) := hU.cell hc (by simp)
          go_wp2_with fail
          refine (load_is _ _ _ _ x _ hA (by omega) (by have := HL4.out; omega) (by rw [Int.toNat_natCast]; exact G1.out)).mono ?_
          rintro e w' ⟨rfl, rfl⟩
          go_wp2_with fail
          refine (load_is _ _ _ _ x _ hA (by omega) (by have := HL4.out; omega) (by rw [show (100 + (k : Int)).toNat = 100 + k by omega]; exact G2.out)).mono ?_
          rintro e w' ⟨rfl, rfl⟩
          go_wp2_with fail
          refine (load_is _ _ _ _ x _ hA (by omega) (by have := HL4.out; omega) (by rw [show (200 + (k : Int)).toNat = 200 + k by omega]; exact G3.out)).mono ?_
          rintro e w' ⟨rfl, rfl⟩
          go_wp2_with fail
          go_roundw
          case rel => exact ⟨k + 1, by omega, by go_num, hA, hU⟩
          case measure => simp [intOf]; omega
        · obtain rfl : k = xs.length := by omega
          go_wp2_with fail
          clear hA4 hU4' HG4
          have hbase : w1.heap.size + 2 ≤ wr.heap.size := by
            have h1 := lt_of_heap hA.1
            omega
          obtain ⟨w5, hw5⟩ : ∃ w5, w5 = wr := ⟨_, rfl⟩
          rw [← hw5] at hA hU hbase ⊢
          clear hw5
          obtain ⟨i0, hi, hz0, hz1, hz2⟩ := info_parts Tryd.info2'
          have HI := Lib.hid hi
          have HZ0 := Lib.hid hz0
          have HZ1 := Lib.hid hz1
          have HZ2 := Lib.hid hz2
          clear hi hz0 hz1 hz2
          go_loopw [20, 21] (fun s i wr => ∃ (k : Nat), (k : Int) ≤ m ∧ i = .int .i64 k ∧ ArAt wr (w1.heap.size + 1) w1.heap.size A4 ∧ Upd [] w wr ∧ w5.heap.size ≤ wr.heap.size ∧ wr.ownsRow w5.heap.size 2 1 s ((A4.drop f.toNat).take k).length (((A4.drop f.toNat).take k).map (Value.int .i64))) (fun _ i _ => (m - intOf i).toNat)
          case atStart => exact ⟨0, by omega, rfl, hA, hU, Nat.le_refl _, by simpa using World.ownsRow_nil _ _ _ _⟩
          case round =>
            obtain ⟨k, hk, rfl, hA, hU, hsz, hown⟩ := hrel
            by_cases hlt : (k : Int) < m
            · obtain ⟨x, hx⟩ : ∃ x, A4.getD (f + (k : Int)).toNat 0 = x := ⟨_, rfl⟩
              have HX0 := Lib.hid hx
              clear hx
              have hkl : ((A4.drop f.toNat).take k).length = k := by simp; have := HL4.out; omega
              have hsnoc : (A4.drop f.toNat).take (k + 1) = (A4.drop f.toNat).take k ++ [x] := by
                rw [List.take_succ_eq_append_getElem (by simp; have := HL4.out; omega)]
                congr 1
                rw [← HX0.out, List.getElem_drop, show (f + (k : Int)).toNat = f.toNat + k by omega]
                simp [List.getD_eq_getElem?_getD, List.getElem?_eq_getElem (show f.toNat + k < A4.length by have := HL4.out; omega)]
              have HSN := Lib.hid hsnoc
              have HKL := Lib.hid hkl
              clear hsnoc hkl
              generalize (A4.drop f.toNat).take k = L at hown HSN HKL
              go_wp2_with fail
              refine (load_is _ _ _ _ x _ hA (by omega) (by have := HL4.out; omega) HX0.out).mono ?_
              rintro e w' ⟨rfl, rfl⟩
              go_wp2_with (at_builtin; refine stop_here ?_)
              refine Hid.mk ?_
              refine (wpList_append_own _ rfl _ _ 31 rfl w5.heap.size 2 i0 (.int .i64 0) 1 8 Tryd.underlying31 HI.out HZ0.out HZ1.out HZ2.out rfl (by decide) _ _ _ rfl (hown.alloc _) ⟨wr.heap.size, 0, none⟩ 1 1 [.int .i64 x] rfl rfl ?c1 ?c2 ?c3 ?c4 ?c5 ?c6)
              case c1 => exact cell_one_new _ _ _
              case c2 => simp [Value.oneCell']
              case c3 => have := HKL.out; unfold maxLen; omega
              case c4 => have := HKL.out; omega
              case c5 => simp; omega
              case c6 =>
                intro v' w6 hown' hgrow _
                have hrow : ∀ q, u20.ownBlock = some q → w5.heap.size ≤ q := fun q hq => (hown.lt q hq).1
                have HO := Lib.hid hown'
                clear hown'
                have hA6 : ArAt w6 (w1.heap.size + 1) w1.heap.size A4 := (hA.upd ((Upd.refl [] wr).alloc _) (by simp) (by simp)).grown hgrow (fun q hq => by have := hrow q hq; omega)
                have hU6 : Upd [] w w6 := (hU.alloc _).grown hgrow (fun q hq => by have := hrow q hq; have := hu1.size; right; omega)
                have hs6 : w5.heap.size ≤ w6.heap.size := by have := hgrow.size; simp at this; omega
                clear hgrow
                go_wp2
                go_roundw
                case rel =>
                  refine ⟨k + 1, by omega, by go_num, hA6, hU6, hs6, ?_⟩
                  rw [HSN.out]
                  have := HO.out
                  simpa using this
                case measure => simp [intOf]; omega
            · obtain ⟨mk, rfl⟩ := Int.eq_ofNat_of_zero_le p4
              obtain rfl : k = mk := by omega
              go_wp2_with fail
              refine (copy_yes _ _ _ _ _ _ _ hA (by omega) (by omega) (by have := HL4.out; omega) (by omega) (by have := HL4.out; omega)).mono ?_
              rintro e w7 ⟨rfl, hA7, hU7⟩
              have hU7' : Upd [] w w7 := hU.trans' hU7 (by intro i hi h2; simp at hi; have := hu1.size; omega)
              obtain ⟨A7, hA7e⟩ : ∃ A7, A7 = splice A4 t.toNat (List.take (k : Int).toNat (List.drop f.toNat A4)) := ⟨_, rfl⟩
              rw [← hA7e] at hA7
              have hkl : ((A4.drop f.toNat).take k).length = k := by simp; have := HL4.out; omega
              have HKL := Lib.hid hkl
              have HL7 : Hid (A7.length = 300) := by show _ = _; rw [hA7e, Int.toNat_natCast, length_splice _ _ _ (by rw [hkl]; have := HL4.out; omega)]; exact HL4.out
              have HW : Hid (∀ i, i < k → ∃ g c, u20 = .slice (some ⟨g, 0, none⟩) k c ∧ w1.heap.size < g ∧ w7.cell? ⟨g, i, none⟩ = some (.int .i64 (A7.getD (t + (i : Int)).toNat 0))) := by
                intro i hi
                rcases hown.2 with ⟨_, h0⟩ | ⟨g, c, cur, hv, hbg, hgg, _⟩
                · rw [hkl] at h0; omega
                · rw [hkl] at hv
                  refine ⟨g, c, hv, by omega, ?_⟩
                  have h1 := hown.cells (g := g) (by rw [hv]; rfl) i (.int .i64 (A4.getD (f.toNat + i) 0)) (by
                    rw [List.getElem?_map, List.getElem?_take, if_pos hi, List.getElem?_drop, List.getElem?_eq_getElem (show f.toNat + i < A4.length by have := HL4.out; omega)]
                    simp [List.getD_eq_getElem?_getD, List.getElem?_eq_getElem (show f.toNat + i < A4.length by have := HL4.out; omega)])
                  rw [Addr.add_lit, Nat.zero_add] at h1
                  rw [hU7.cell h1 (by simp; omega)]
                  congr 2
                  rw [hA7e, Int.toNat_natCast, getD_splice _ _ _ _ (by rw [hkl]; have := HL4.out; omega), hkl, if_pos (by omega), show (t + (i : Int)).toNat - t.toNat = i by omega, getD_take_drop _ _ _ _ hi]
              clear hkl hA7e hown
              go_wp2_with fail
              clear hA hU hU7
              go_loopw [24] (fun i wr => ∃ (j : Nat), j ≤ k ∧ i = .int .i64 j ∧ ArAt wr (w1.heap.size + 1) w1.heap.size A7 ∧ Upd [w1.heap.size] w7 wr ∧ Upd [] w wr) (fun i _ => k - (intOf i).toNat)
              case atStart => exact ⟨0, by omega, rfl, hA7, Upd.refl _ _, hU7'⟩
              case round =>
                obtain ⟨j, hj, rfl, hA, hUa, hU⟩ := hrel
                by_cases hlt : j < k
                · obtain ⟨g, c, rfl, hgl, hc⟩ := HW.out j hlt
                  generalize hx : A7.getD (t + (j : Int)).toNat 0 = x at hc
                  have HXX := Lib.hid hx
                  clear hx
                  have hxg : wr.cell? ⟨g, j, none⟩ = some (.int .i64 x) := hUa.cell hc (by simp; omega)
                  go_wp2_with fail
                  refine (load_is _ _ _ _ x _ hA (by omega) (by have := HL7.out; omega) HXX.out).mono ?_
                  rintro e w' ⟨rfl, rfl⟩
                  go_wp2_with fail
                  go_roundw
                  case rel => exact ⟨j + 1, by omega, by go_num, hA, hUa, hU⟩
                  case measure => simp [intOf]; omega
                · obtain rfl : j = k := by omega
                  go_wp2_with fail
                  refine (clear_any _ _ _ _ _ _ hA).mono ?_
                  rintro e w8 ⟨rfl, hA8, hU8⟩
                  rw [clearL_all _ _ (by have := HL7.out; omega)] at hA8
                  rw [show A7.length = 300 from HL7.out] at hA8
                  have hU8' : Upd [] w w8 := hU.trans' hU8 (by intro i hi h2; simp at hi; have := hu1.size; omega)
                  go_wp2_with fail
                  clear hA hUa hU hU8 HW
                  go_loopw [27] (fun i wr => ∃ (q : Nat), q ≤ 300 ∧ i = .int .i64 q ∧ ArAt wr (w1.heap.size + 1) w1.heap.size (List.replicate 300 0) ∧ Upd [] w wr) (fun i _ => 300 - (intOf i).toNat)
                  case atStart => exact ⟨0, by omega, rfl, hA8, hU8'⟩
                  case round =>
                    obtain ⟨q, hq, rfl, hA, hU⟩ := hrel
                    by_cases hlt : q < 300
                    · go_wp2_with fail
                      refine (load_is _ _ _ _ 0 _ hA (by omega) (by simp; omega) (getD_rep _ _)).mono ?_
                      rintro e w' ⟨rfl, rfl⟩
                      go_wp2_with fail
                      go_roundw
                      case rel => exact ⟨q + 1, by omega, by go_num, hA, hU⟩
                      case measure => simp [intOf]; omega
                    · obtain rfl : q = 300 := by omega
                      go_wp2_with fail
                      refine (copy_no _ _ _ _ _ _ _ hA (by simp) (by omega) (by omega)).mono ?_
                      rintro e w' ⟨rfl, rfl⟩
                      go_wp2_with fail
                      refine (copy_yes _ _ _ _ _ _ _ hA (by omega) (by omega) (by simp) (by omega) (by simp)).mono ?_
                      rintro e w9 ⟨rfl, hA9, hU9⟩
                      go_wp2_with fail
                      go_ret
                      exact ⟨rfl, hU.trans' hU9 (by intro i hi h2; simp at hi; have := hu1.size; omega)⟩

theorem moves_any (v : Value) (xs : List Int) (t f m : Int) (w : World) (hx : IntsAt w v xs) :
    Calls Tryd.prog 4 #[v, .int .i64 t, .int .i64 f, .int .i64 m] w fun e w' => e = .returned (.bool true) ∧ Upd [] w w' := by
  obtain ⟨a, cap, rfl, hcap, hmax, hbd, hor⟩ := hx
  have hm := Nat.le_trans hcap hmax
  unfold maxLen at hm
  by_cases h100 : 100 < xs.length
  · exact moves_long a _ cap t f m w h100 (by omega)
  · refine moves_some a xs cap _ _ _ t f m w (by omega) (and_63 t) (and_63 f) (and_63 m) (by omega) (by omega) (by omega) (by omega) (by omega) (by omega) (fun i hi => ?_)
    rcases hor with rfl | ⟨b, o, rfl, hc⟩
    · simp at hi
    · exact ⟨b, o, rfl, hc i hi⟩

end Go.Proofs.YtlddnpcpioligaaDoor
