/- HeapRing: the walk. -/
import Derived.Test.YtlkflkgohclbmaaDoorRing2
import Derived.Test.YtlkflkgohclbmaaDoorObjs
import Derived.Test.YtlkflkgohclbmaaDoorSorted2
import Derived.Deep.RegionHeld3
namespace Go.Proofs.YtlkflkgohclbmaaDoor
open Go.RowKit

theorem tmod_pos (a : Int) (n : Nat) (hn : 0 < n) : -(n : Int) < a.tmod n ∧ a.tmod n < n := by
  rcases Int.lt_or_le a 0 with h | h
  · have h1 : a.tmod n = -((-a).tmod n) := by
      have := Int.neg_tmod (-a) n
      rwa [Int.neg_neg] at this
    have h2 : (-a).tmod n = (-a) % n := Int.tmod_eq_emod_of_nonneg (by omega)
    have h3 := Int.emod_nonneg (-a) (show (n : Int) ≠ 0 by omega)
    have h4 := Int.emod_lt_of_pos (-a) (show (0 : Int) < n by omega)
    omega
  · have h2 : a.tmod n = a % n := Int.tmod_eq_emod_of_nonneg h
    have h3 := Int.emod_nonneg a (show (n : Int) ≠ 0 by omega)
    have h4 := Int.emod_lt_of_pos a (show (0 : Int) < n by omega)
    omega

set_option maxRecDepth 100000 in
set_option maxHeartbeats 4000000 in
theorem ringL_any (x0 x1 v : Int) (w : World) :
    Calls Tryd.prog 6 #[.int .i64 x0, .int .i64 x1, .int .i64 v] w fun e w' => e = .returned (.bool true) ∧ Upd [] w w' := by
  obtain ⟨i0, hi, hz0, hz1, hz2⟩ := info_parts Tryd.infoInt
  have HI := Lib.hid hi
  have HZ0 := Lib.hid hz0
  have HZ1 := Lib.hid hz1
  have HZ2 := Lib.hid hz2
  clear hi hz0 hz1 hz2
  have ht : -40 < x0.tmod 40 ∧ x0.tmod 40 < 40 := by simpa using tmod_pos x0 40 (by omega)
  go_enter Tryd.func6, Tryd.ntmps6
  go_wp2_with fail
  refine (first_any w).mono ?_
  rintro e w1 ⟨rfl, hu1⟩
  go_upto_region 2 with fail
  go_cut [0] (fun s wx => ∃ n : Nat, s = .int .i64 n ∧ 1 ≤ n ∧ n ≤ 40 ∧ w1 = wx)
  case first =>
    go_wp2_with fail
    go_meet
    exact ⟨((x0.tmod 40 + 40) % 40 + 1).toNat, by go_num, by omega, by omega, rfl⟩
  case rest =>
    obtain ⟨n, rfl, hn1, hn2, rfl⟩ := hcut
    clear ht
    have ht := tmod_pos x1 n (by omega)
    go_upto_region 3 with fail
    go_cut [1] (fun s wx => ∃ f : Nat, s = .int .i64 f ∧ f < n ∧ w1 = wx)
    case first =>
      go_wp2_with fail
      go_meet
      have h1 := Int.emod_nonneg (x1.tmod n + n) (show (n : Int) ≠ 0 by omega)
      have h2 := Int.emod_lt_of_pos (x1.tmod n + n) (show (0 : Int) < n by omega)
      exact ⟨((x1.tmod n + n) % n).toNat, by go_num, by omega, rfl⟩
    case rest =>
      obtain ⟨f, rfl, hfn, rfl⟩ := hcut
      clear ht
      have hcls : ClsAt ((((w1.alloc (.cells #[.string IR] 34)).alloc (.cells #[.int .i64 33, .int .i64 0, .int .i64 0, .int .i64 0] 25)).alloc (.cells #[.string ⟨#[]⟩, .string ⟨#[]⟩, .string ⟨#[]⟩, .slice (some ⟨w1.heap.size + 1, 0, none⟩) 1 1] 28)).alloc (.cells #[.slice (some ⟨w1.heap.size, 0, none⟩) 1 1, .slice (some ⟨w1.heap.size + 1 + 1, 0, none⟩) 1 1] 32)) (.slice (some ⟨w1.heap.size, 0, none⟩) 1 1) w1.heap.size 0 [IR] := by
        refine ⟨.inr ⟨_, _, rfl, .inr rfl⟩, fun i hi => ?_⟩
        obtain rfl : i = 0 := by simpa using hi
        have h1 := ((((Upd.refl [] (w1.alloc (.cells #[.string IR] 34))).alloc (.cells #[.int .i64 33, .int .i64 0, .int .i64 0, .int .i64 0] 25)).alloc (.cells #[.string ⟨#[]⟩, .string ⟨#[]⟩, .string ⟨#[]⟩, .slice (some ⟨w1.heap.size + 1, 0, none⟩) 1 1] 28)).alloc (.cells #[.slice (some ⟨w1.heap.size, 0, none⟩) 1 1, .slice (some ⟨w1.heap.size + 1 + 1, 0, none⟩) 1 1] 32)).heap (heap_alloc_new w1 _) (by simp)
        rw [cell_of h1]
        rfl
      have hU0 : Upd [] w _ := (((hu1.alloc (.cells #[.string IR] 34)).alloc (.cells #[.int .i64 33, .int .i64 0, .int .i64 0, .int .i64 0] 25)).alloc (.cells #[.string ⟨#[]⟩, .string ⟨#[]⟩, .string ⟨#[]⟩, .slice (some ⟨w1.heap.size + 1, 0, none⟩) 1 1] 28)).alloc (.cells #[.slice (some ⟨w1.heap.size, 0, none⟩) 1 1, .slice (some ⟨w1.heap.size + 1 + 1, 0, none⟩) 1 1] 32)
      have HU0 := Lib.hid hU0
      clear hU0
      go_wp2_with fail
      refine (hnew_ok _ _ _ _ [IR] 2000 100 _ hcls (by omega) (by omega) (by omega) (by simp) (by simp; decide) (by simp)).mono ?_
      rintro e w2 ⟨L, hv, mv, rfl, hH, hu2, hlo⟩
      have hU2 := HU0.out.trans hu2
      have hLB : Hid (∀ i ∈ [L.hb, L.ab, L.wb, L.bb, L.bw, L.mb, L.mw], w.heap.size ≤ i) := fun i hi => HL.above hH.nd (fun i hi => by
        rcases (hlo i hi).1 with h | h
        · exact .inl h
        · right; have := HU0.out.size; omega) i hi
      have hLC : Hid (∀ i ∈ L.all, i < w2.heap.size) := fun i hi => (hlo i hi).2
      have hw2 := hU2.size
      clear hcls hu2 hlo
      have hA0 := ringA_new
      generalize Hp.new [IR] 2000 100 = S0 at hH hA0
      go_wp2_with fail
      go_loopw [11, 12] (fun a iv wr => ∃ (i : Nat) (S : Hp), i ≤ n ∧ iv = .int .i64 i ∧ HpAt wr L hv mv S ∧ Hid (RingA S i) ∧ OwnI wr w2.heap.size 3 a ((List.range i).map ringL) ∧ Upd [] w wr ∧ w2.heap.size ≤ wr.heap.size) (fun _ iv _ => n - (intOf iv).toNat)
      case atStart => exact ⟨0, _, by omega, rfl, hH, hA0, OwnI.nil _ _ _, hU2, Nat.le_refl _⟩
      case round =>
        clear hH hA0 hU2
        obtain ⟨i, S, hi, rfl, hH, HS, hO, hU, h2w⟩ := hrel
        obtain ⟨wo, rfl⟩ : ∃ wo : World, wo = wr := ⟨_, rfl⟩
        by_cases hlt : i < n
        · have hok := hH.ok
          have hA := ringA_old HS.out hok hH.bg.2.2.2.1 (by omega)
          have HY := Lib.hid (oldo_any L hv mv S 0 0 wo hH)
          rw [hA.1, hA.2.1, hA.2.2.1] at HY
          have hap : ∀ q ∈ L.all, ∀ k, u11.ownBlock = some k → k ≠ q := fun q hq k hk => by
            have := hO.lt k hk
            have := hLC.out q hq
            omega
          have hsub : ∀ q ∈ [L.hb, L.wb, L.bw], q ∈ L.all := fun q hq => by
            simp only [HL.all, List.mem_cons, List.not_mem_nil, or_false] at hq ⊢; rcases hq with h | h | h <;> simp [h]
          have hsub2 : ∀ q ∈ [L.hb, L.wb, L.bw], w.heap.size ≤ q := fun q hq => hLB.out q (by
            simp only [List.mem_cons, List.not_mem_nil, or_false] at hq ⊢; rcases hq with h | h | h <;> simp [h])
          have HAP := Lib.hid hap
          have HSB := Lib.hid hsub
          have HSB2 := Lib.hid hsub2
          have HOK := Lib.hid hok
          have HBG := Lib.hid hH.bg.2.2.2.1
          clear hA hap hsub hsub2 hok
          go_wp2_with fail
          refine HY.out.mono ?_
          rintro e w5 ⟨rfl, hH5, hu5⟩
          have hU5 := hU.trans' hu5 (fun q hq hlt2 => by have := HSB2.out q hq; omega)
          have hO5 := hO.upd hu5 (fun k hk hm => HAP.out k (HSB.out k hm) k hk rfl)
          have h25 := Nat.le_trans h2w hu5.size
          go_upto_if 64 with fail
          go_cut [13, 14] (fun s t wx => ∃ S' : Hp, s = .int .i64 (ringL i) ∧ t = .bool true ∧ HpAt wx L hv mv S' ∧ Hid (RingA S' (i + 1)) ∧ OwnI wx w2.heap.size 3 u11 ((List.range i).map ringL) ∧ Upd [] w wx ∧ w2.heap.size ≤ wx.heap.size)
          case first =>
            by_cases h3 : i % 3 = 0
            · have hst := ringA_step2 HS.out HOK.out HBG.out (by omega) h3 hH5.ok hH5.bg.2.2.2.1
              have HY2 := Lib.hid (young_any L hv mv (S.layK 1 0 0) 0 0 w5 hH5)
              rw [hst.1, hst.2.1] at HY2
              have HST := Lib.hid hst.2.2
              have h3b : (((i : Int) % 3) == 0) = true := by rw [beq_iff_eq]; omega
              clear hst
              go_wp2_with fail
              refine HY2.out.mono ?_
              rintro e w6 ⟨rfl, hH6, hu6⟩
              go_wp2_with fail
              go_meet
              exact ⟨_, rfl, rfl, hH6, HST.out, hO5.upd hu6 (fun k hk hm => HAP.out k (HSB.out k hm) k hk rfl), hU5.trans' hu6 (fun q hq hlt2 => by have := HSB2.out q hq; omega), Nat.le_trans h25 hu6.size⟩
            · have hst := ringA_step1 HS.out HOK.out HBG.out (by omega) h3
              have HST := Lib.hid hst
              have h3b : (((i : Int) % 3) == 0) = false := by rw [beq_eq_false_iff_ne]; omega
              clear hst
              go_wp2_with fail
              go_meet
              exact ⟨_, by rw [HST.out.2], rfl, hH5, HST.out.1, hO5, hU5, h25⟩
          case rest =>
            obtain ⟨S', rfl, rfl, hH6, HS6, hO6, hU6, h26⟩ := hcut
            clear hH5 hO5 hU5 hu5 h25
            obtain ⟨w6, rfl⟩ : ∃ w6 : World, w6 = wc := ⟨_, rfl⟩
            have HO6 := Lib.hid hO6
            clear hO6
            go_wp2_with (at_builtin; refine stop_here ?_)
            refine Hid.mk ?_
            refine (wpList_append_src rfl (.tmp 74) (.tmp 76) 35 rfl w2.heap.size 3 i0 (.int .i64 0) 1 8 Tryd.underlying35 HI.out HZ0.out HZ1.out HZ2.out rfl (by decide) _ _ _ rfl (World.ownsRow.alloc HO6.out _) (.slice (some ⟨w6.heap.size, 0, none⟩) 1 1) 1 [.int .i64 (ringL i)] rfl (.inr ⟨_, _, rfl, cell_one_new _ _ _⟩) rfl (by simp [Value.oneCell']) ?c1 ?c2 ?c3 ?c4)
            case c1 => unfold maxLen; simp; omega
            case c2 => simp; omega
            case c3 => simp; omega
            case c4 =>
              intro v1 w7 hown hgr _
              have hU7 := (hU6.alloc (.cells #[.int .i64 (ringL i)] 3)).grown hgr (fun z hz => Or.inr (by have := (HO6.out.lt z hz).1; have := HU0.out.size; have := hU6.size; omega))
              have hu7 : Upd u11.ownBlock.toList w6 w7 := ((Upd.refl _ _).alloc _).grown hgr (fun z hz => Or.inl (Option.mem_toList.2 hz))
              have hH7 := hH6.upd hu7 (fun i hi hm => by
                have h1 := (HO6.out.lt i (Option.mem_toList.1 hm)).1
                have h2 := hLC.out i hi
                omega)
              have hs7 := hgr.size
              have HO7 := Lib.hid hown
              clear hown hgr
              go_wp2_with fail
              go_roundw
              case rel =>
                refine ⟨i + 1, S', by omega, by go_num, hH7, HS6.out, ?_, hU7, by simp at hs7; omega⟩
                unfold OwnI
                have := HO7.out
                simpa [List.range_succ] using this
              case measure => simp [intOf]; omega
        · obtain rfl : n = i := by omega
          have HB0 := Lib.hid (HS.out.b v)
          obtain ⟨g, c, rfl, hg2, HC⟩ : ∃ g c, u11 = .slice (some ⟨g, 0, none⟩) n c ∧ w2.heap.size ≤ g ∧ Hid (∀ j, j < n → wo.cell? ⟨g, j, none⟩ = some (.int .i64 (ringL j))) := by
            have hll : ((List.range n).map ringL).length = n := by simp
            rcases hO.form with ⟨_, h2⟩ | ⟨g, c, h1, h2, h3, h4, h5⟩
            · rw [h2] at hll; simp at hll; omega
            · refine ⟨g, c, by rw [h1, hll], h3, Hid.mk (fun j hj => ?_)⟩
              rw [h5 j (by omega), List.getD_eq_getElem?_getD, List.getElem?_map, List.getElem?_range hj]; rfl
          have hgL : ∀ q ∈ L.all, g ≠ q := fun q hq => by have := hLC.out q hq; omega
          have HGL := Lib.hid hgL
          clear hgL
          go_wp2_with fail
          go_loopw [17] (fun iv wr => ∃ (i : Nat) (S : Hp), i ≤ n ∧ iv = .int .i64 i ∧ HpAt wr L hv mv S ∧ Hid (RingB S n i v) ∧ Hid (∀ j, j < n → wr.cell? ⟨g, j, none⟩ = some (.int .i64 (ringL j))) ∧ Upd [] w wr ∧ Hid (w2.heap.size ≤ wr.heap.size)) (fun iv _ => n - (intOf iv).toNat)
          case atStart => exact ⟨0, _, by omega, rfl, hH, HB0.out, HC.out, hU, h2w⟩
          case round =>
            clear hH HB0 hO hU HS h2w HC
            obtain ⟨i, S, hi, rfl, hH, HS, HC, hU, h2wp⟩ := hrel
            obtain ⟨wp, rfl⟩ : ∃ wp : World, wp = wr := ⟨_, rfl⟩
            by_cases hlt : i < n
            · have hok := hH.ok
              have m1 := ringB_may HS.out hlt (IntKind.i64.wrap (v + (i : Int)))
              obtain ⟨_, m2, hB⟩ := ringB_step HS.out hok hlt (by omega) (put_ok hok m1)
              have hxb := wrap_bd (v + (i : Int))
              have hml : (i + 1) % n < n := Nat.mod_lt _ (by omega)
              have hcm := HC.out ((i + 1) % n) hml
              have hci := HC.out i hlt
              have hlb := ringL_bd ((i + 1) % n) (by omega)
              have hlb2 := ringL_bd i (by omega)
              have HP1 := Lib.hid (fun w h => put_yes L hv mv S (ringL i) 0 (IntKind.i64.wrap (v + (i : Int))) w h m1 (by omega))
              have HP2 := Lib.hid (fun w h => put_yes L hv mv (S.put (ringL i) 0 (IntKind.i64.wrap (v + (i : Int)))) (ringL i) 1 (ringL ((i + 1) % n)) w h m2 (by omega))
              have HB := Lib.hid hB
              clear m1 m2 hB hok
              have hnotw : ∀ q ∈ [L.wb, L.mw], g ≠ q := fun q hq => HGL.out q (by
                simp only [HL.all, List.mem_cons, List.not_mem_nil, or_false] at hq ⊢; rcases hq with h | h <;> simp [h])
              have hsub2 : ∀ q ∈ [L.wb, L.mw], w.heap.size ≤ q := fun q hq => hLB.out q (by
                simp only [List.mem_cons, List.not_mem_nil, or_false] at hq ⊢; rcases hq with h | h <;> simp [h])
              have HNW := Lib.hid hnotw
              have HSB2 := Lib.hid hsub2
              clear hnotw hsub2
              have a1 : (((i : Int) + 1).tmod (n : Int)) = (((i + 1) % n : Nat) : Int) := by
                rw [Int.tmod_eq_emod_of_nonneg (by omega), Int.natCast_emod]; rfl
              have a2 : (((i : Int) + 1) % (n : Int)) = (((i + 1) % n : Nat) : Int) := by rw [Int.natCast_emod]; rfl
              have a3 : IntKind.i64.wrap ((i : Int) + 1) = (i : Int) + 1 := IntWalk.i64_in _ (by omega)
              generalize hmm : (i + 1) % n = m at *
              generalize hxx : IntKind.i64.wrap (v + (i : Int)) = x at *
              have hml2 : (m : Int) < (n : Int) := by omega
              have hnz : ((n : Int) == 0) = false := by rw [beq_eq_false_iff_ne]; omega
              have hnz2 : ¬ (n = 0) := by omega
              have a4 : IntKind.i64.wrap (m : Int) = (m : Int) := IntWalk.i64_in _ (by omega)
              have hil2 : (i : Int) < (n : Int) := by omega
              have tokA : True := trivial
              go_wp2_with fail
              go_region_held3 (fun w' => w'.cell? ⟨g, i, none⟩ = some (.int .i64 (ringL i)) ∧ w'.cell? ⟨g, m, none⟩ = some (.int .i64 (ringL m)))
                (first | exact ⟨hci6, hcm6⟩ | exact ⟨hci5, hcm5⟩ | exact ⟨hci, hcm⟩ | go_keep)
                ((go_at_call 26; (first | (clear tokA; refine (HP1.out _ (hH.upd0 ((Upd.refl [] wp).drew))).mono ?_; rintro e w5 ⟨rfl, hH5, hu5⟩; have hci5 := hu5.cell (p := ⟨g, i, none⟩) hci (fun h => HNW.out _ h rfl); have hcm5 := hu5.cell (p := ⟨g, m, none⟩) hcm (fun h => HNW.out _ h rfl)) | (refine (HP2.out _ hH5).mono ?_; rintro e w6 ⟨rfl, hH6, hu6⟩; have hci6 := hu6.cell (p := ⟨g, i, none⟩) hci5 (fun h => HNW.out _ h rfl); have hcm6 := hu6.cell (p := ⟨g, m, none⟩) hcm5 (fun h => HNW.out _ h rfl)))))
              have hu6' := hu5.trans hu6
              have hu7 : Upd [L.wb, L.mw] wp w6 := ((Upd.refl _ wp).drew).trans hu6'
              have hU6 := hU.trans' hu7 (fun q hq hlt2 => by have := HSB2.out q hq; omega)
              clear hci hcm hci5 hcm5 hci6 hcm6 hu5 hu6 hu6' hH5
              go_wp2_with fail
              go_roundw
              case rel =>
                refine ⟨i + 1, _, by omega, by go_num, hH6, ?_, Hid.mk (fun j hj => hu7.cell (HC.out j hj) (fun h => HNW.out _ h rfl)), hU6, Nat.le_trans h2wp.out hu7.size⟩
                exact HB.out
              case measure => simp [intOf]; omega
            · obtain rfl : n = i := by omega
              have hcf := HC.out f hfn
              have hlf := ringL_bd f (by omega)
              have hff : (f : Int) < (n : Int) := by omega
              have HH := Lib.hid hH
              have HOK2 := Lib.hid (HS.out.ok (by omega))
              have HLEN := Lib.hid HS.out.len
              have HWD := Lib.hid HS.out.wide
              clear hH
              have HSH : Hid (Calls Tryd.prog 27 #[.pointer (some ⟨L.hb, 0, none⟩), .slice (some ⟨wp.heap.size, 0, none⟩) 3 3] (wp.alloc (.cells #[.int .i64 (ringL f), .int .i64 0, .int .i64 (ringL f)] 3)).drew fun e w' =>
                  ∃ uv av b, e = .returned (.tuple #[uv, av]) ∧ ObjsV w' uv ((List.range n).map (ringOb n f (fun j => IntKind.i64.wrap (v + (j : Int))))) ∧ IntsV w' av b [0, -1, 0] ∧ Upd [] w w' ∧ w'.cell? ⟨g, f, none⟩ = some (.int .i64 (ringL f))) := by
                have hcn := cell_of (heap_alloc_new wp (.cells #[.int .i64 (ringL f), .int .i64 0, .int .i64 (ringL f)] 3))
                have hsz := hU.size
                refine (shape_any L hv mv S _ 3 wp.heap.size [ringL f, 0, ringL f] _ (HH.out.upd0 (((Upd.refl [] wp).alloc _).drew)) (fun i hi => ?_) HWD.out.rng (by simp) (.inr rfl) (fun i hi => ?_) (fun r hr => ?_)).mono ?_
                · have h1 := HH.out.lt
                  have h2 := hLC.out i hi
                  have h3 : w2.heap.size ≤ wp.heap.size := by
                    have h4 := hLC.out L.hb (by simp [HL.all])
                    exact h2wp.out
                  simp; omega
                · refine (show _ = _ from hcn i).trans ?_
                  have hi' : i = 0 ∨ i = 1 ∨ i = 2 := by simp at hi; omega
                  rcases hi' with rfl | rfl | rfl <;> rfl
                · simp at hr; omega
                · rintro e w5 ⟨uv, av, ps, ov, od, rfl, hst, hps, hu5⟩
                  rw [ring_shape HOK2.out hfn (by rw [HLEN.out]; omega)] at hst hps
                  obtain ⟨b, hb⟩ := hst.nums
                  have hu6 := ((((Upd.refl [] wp).alloc (.cells #[.int .i64 (ringL f), .int .i64 0, .int .i64 (ringL f)] 3)).drew).trans hu5)
                  exact ⟨uv, av, b, rfl, hst.objsV hps, hb, hU.trans hu6, hu6.cell hcf (by simp)⟩
              go_upto_region 25 with fail
              go_cut [18, 19] (fun s t wx => ∃ b, ObjsV wx s ((List.range n).map (ringOb n f (fun j => IntKind.i64.wrap (v + (j : Int))))) ∧ IntsV wx t b [0, -1, 0] ∧ Upd [] w wx)
              case first =>
                go_region_held3 (fun w' => w'.cell? ⟨g, f, none⟩ = some (.int .i64 (ringL f)))
                  (first | exact hcf7 | exact hcf | go_keep)
                  ((go_at_call 27; refine HSH.out.mono ?_; rintro e w7 ⟨uv, av, b, rfl, hos, hiv, hU7, hcf7⟩))
                all_goals
                  go_wp2_with fail
                  go_meet
                  exact ⟨b, hos, hiv, hU7⟩
              case rest =>
                obtain ⟨b, hos, hiv, hU7⟩ := hcut
                obtain ⟨w7, rfl⟩ : ∃ w7 : World, w7 = wc := ⟨_, rfl⟩
                obtain ⟨tp, tc, rfl⟩ := hiv.form
                obtain ⟨up, uc, rfl, hob⟩ := hos
                have hll : ((List.range n).map (ringOb n f (fun j => IntKind.i64.wrap (v + (j : Int))))).length = n := by simp
                rw [hll] at hob ⊢
                have HOB := Lib.hid hob
                have HIV := Lib.hid hiv
                clear hob hiv hll hcf
                go_wp2_with fail
                have hlit : IntsV (w7.alloc (.cells #[.int .i64 0, .int .i64 (-1), .int .i64 0] 3)) (.slice (some ⟨w7.heap.size, 0, none⟩) 3 3) w7.heap.size [0, -1, 0] := ints_lit w7 [0, -1, 0] _ rfl
                refine (sints _ _ _ _ _ _ _ (HIV.out.upd ((Upd.refl [] w7).alloc _) (.inr (by simp))) hlit (by simp)).mono ?_
                rintro e w8 ⟨rfl, hu8⟩
                have hU8 := hU7.trans (((Upd.refl [] w7).alloc _).trans hu8)
                have HO8 := Lib.hid (((Upd.refl [] w7).alloc (.cells #[.int .i64 0, .int .i64 (-1), .int .i64 0] 3)).trans hu8)
                rw [decide_eq_true (rfl : ([0, -1, 0] : List Int) = [0, -1, 0])]
                clear hlit hu8 hU7 hlf hff
                go_wp2_with fail
                go_loopw [20] (fun iv wr => ∃ i : Nat, i ≤ n ∧ iv = .int .i64 i ∧ Upd [] w wr ∧ Upd [] w7 wr) (fun iv _ => n - (intOf iv).toNat)
                case atStart => exact ⟨0, by omega, rfl, hU8, HO8.out⟩
                case round =>
                  obtain ⟨k, hk, rfl, hU9, hu9⟩ := hrel
                  obtain ⟨wq, rfl⟩ : ∃ wq : World, wq = wr := ⟨_, rfl⟩
                  by_cases hkn : k < n
                  · obtain ⟨ub, qv, qb, rfl, hc0, hc1, hqi⟩ := HOB.out k hkn
                    have eob : ((List.range n).map (ringOb n f (fun j => IntKind.i64.wrap (v + (j : Int))))).getD k (0, []) = ringOb n f (fun j => IntKind.i64.wrap (v + (j : Int))) k := by
                      rw [List.getD_eq_getElem?_getD, List.getElem?_map, List.getElem?_range hkn]; rfl
                    rw [eob] at hc0 hqi
                    simp only [ringOb] at hc0 hqi
                    have hm1 : (f + k) % n < n := Nat.mod_lt _ (by omega)
                    have hm2 : (k + 1) % n < n := Nat.mod_lt _ (by omega)
                    have b1 : (((f : Int) + (k : Int)).tmod (n : Int)) = (((f + k) % n : Nat) : Int) := by
                      rw [Int.tmod_eq_emod_of_nonneg (by omega), Int.natCast_emod]; rfl
                    have b2 : (((f : Int) + (k : Int)) % (n : Int)) = (((f + k) % n : Nat) : Int) := by rw [Int.natCast_emod]; rfl
                    have b3 : IntKind.i64.wrap ((f : Int) + (k : Int)) = (f : Int) + (k : Int) := IntWalk.i64_in _ (by omega)
                    have a1 : (((k : Int) + 1).tmod (n : Int)) = (((k + 1) % n : Nat) : Int) := by
                      rw [Int.tmod_eq_emod_of_nonneg (by omega), Int.natCast_emod]; rfl
                    have a2 : (((k : Int) + 1) % (n : Int)) = (((k + 1) % n : Nat) : Int) := by rw [Int.natCast_emod]; rfl
                    have a3 : IntKind.i64.wrap ((k : Int) + 1) = (k : Int) + 1 := IntWalk.i64_in _ (by omega)
                    generalize (f + k) % n = m1 at *
                    generalize (k + 1) % n = m2 at *
                    have a4 : IntKind.i64.wrap (m2 : Int) = (m2 : Int) := IntWalk.i64_in _ (by omega)
                    have b4 : IntKind.i64.wrap (m1 : Int) = (m1 : Int) := IntWalk.i64_in _ (by omega)
                    generalize hxx : IntKind.i64.wrap (v + (m1 : Int)) = x at *
                    obtain ⟨qp, qc, rfl⟩ := hqi.form
                    have d0 := hu9.cell hc0 (by simp)
                    have d1 := hu9.cell hc1 (by simp)
                    have HQI := Lib.hid (hqi.upd hu9 (.inr (by simp)))
                    have e2 : 2 * k = k * 2 := Nat.mul_comm _ _
                    rw [e2] at d0 d1
                    have hnz : ((n : Int) == 0) = false := by rw [beq_eq_false_iff_ne]; omega
                    have hnz2 : ¬ (n = 0) := by omega
                    have hkn2 : (k : Int) < (n : Int) := by omega
                    have HSL : Hid (Calls Tryd.prog 33 #[.slice qp 2 qc, .slice (some ⟨wq.heap.size, 0, none⟩) 2 2] (wq.alloc (.cells #[.int .i64 x, .int .i64 (m2 : Int)] 2)).drew fun e w' => e = .returned (.bool true) ∧ Upd [] wq w') := by
                      have hl2 : IntsV (wq.alloc (.cells #[.int .i64 x, .int .i64 (m2 : Int)] 2)) (.slice (some ⟨wq.heap.size, 0, none⟩) 2 2) wq.heap.size [x, (m2 : Int)] := ints_lit wq [x, (m2 : Int)] _ rfl
                      refine (slongs _ _ _ _ _ _ _ (HQI.out.upd (((Upd.refl [] wq).alloc _).drew) (.inr (by simp))) (hl2.upd ((Upd.refl [] _).drew) (.inr (by simp))) (by simp)).mono ?_
                      rintro e w' ⟨rfl, hu⟩
                      exact ⟨by rw [decide_eq_true rfl], (((Upd.refl [] wq).alloc _).drew).trans hu⟩
                    clear hc0 hc1 hqi eob e2
                    go_wp2_with fail
                    go_region_held3 (fun w' => w'.cell? ⟨ub, k * 2, none⟩ = some (.int .i64 0) ∧ w'.cell? ⟨ub, k * 2 + 1, none⟩ = some (.slice qp 2 qc))
                      (first | exact ⟨d0', d1'⟩ | exact ⟨d0, d1⟩ | go_keep)
                      ((go_at_call 33; refine HSL.out.mono ?_; rintro e w9 ⟨rfl, hu10⟩; have d0' := hu10.cell d0 (by simp); have d1' := hu10.cell d1 (by simp)))
                    all_goals
                      have hU10 := hU9.trans hu10
                      have hu11 := hu9.trans hu10
                      clear d0 d1 d0' d1' hu10
                      go_wp2_with fail
                      go_roundw
                      case rel => exact ⟨k + 1, by omega, by go_num, hU10, hu11⟩
                      case measure => simp [intOf]; omega
                  · obtain rfl : n = k := by omega
                    go_wp2_with fail
                    go_ret
                    exact ⟨rfl, hU9⟩

end Go.Proofs.YtlkflkgohclbmaaDoor
