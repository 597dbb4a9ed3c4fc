/- HeapShapes: the walk. -/
import Derived.Test.YtlkflkgohclbmaaDoorFresh
import Derived.Test.YtlkflkgohclbmaaDoorShE2
import Derived.Test.YtlkflkgohclbmaaDoorMir
import Derived.Test.YtlkflkgohclbmaaDoorOpenD
import Derived.Test.YtlkflkgohclbmaaDoorWorld1
import Derived.Test.YtlkflkgohclbmaaDoorRShape2
import Derived.Test.YtlkflkgohclbmaaDoorFills
import Derived.Test.YtlkflkgohclbmaaDoorSorted2
import Derived.Test.YtlkflkgohclbmaaDoorMay3
import Derived.Deep.RegionHeld3
namespace Go.Proofs.YtlkflkgohclbmaaDoor
open Go.RowKit

theorem words3_any (cv mv : Value) (b o : Nat) (c n : Int) (cs : List ByteArray) (w : World) (h : ClsAt w cv b o cs) (h1 : c < cs.length) (hcs : cs.length ≤ 1000) (hz : ∀ c ∈ cs, c.size ≤ 10) (h2 : 0 ≤ n) (h3 : n ≤ 50) :
    Calls Tryd.prog 25 #[.agg #[cv, mv], .int .i64 c, .int .i64 n] w fun e w' => e = .returned (.int .i64 (2 + wantN cs c n)) ∧ Upd [] w w' := by
  unfold wantN
  by_cases h0 : 0 ≤ c
  · rw [if_pos h0]
    obtain ⟨k, rfl⟩ := Int.eq_ofNat_of_zero_le h0
    have hk : k < cs.length := by omega
    exact words3_class cv mv b o k n cs w h hk hcs (by
      have := hz (cs.getD k ByteArray.empty) (by rw [List.getD_eq_getElem?_getD, List.getElem?_eq_getElem hk]; exact List.getElem_mem hk)
      omega)
  · rw [if_neg h0]
    exact words3_array cv mv c n w (by omega) h2 (by omega)

theorem make_longs (w : World) (m : Nat) (h : m ≤ 1000000) : (Instr.makeSlice 58 (.int .i64 (m : Int)) (.int .i64 (m : Int))).run Tryd.prog w = .ok (.slice (some ⟨w.heap.size, 0, none⟩) m m) (w.alloc (.cells (icells (List.replicate m 0)) 2)) := by
  obtain ⟨i0, hi, hz0, hz1, hz2⟩ := info_parts Tryd.infoLong
  have hmk := run_make (P := Tryd.prog) w 58 2 i0 (.int .i64 0) Tryd.underlying58 hi hz0 .i64 .i64 (m : Int) (m : Int) (by omega) (by omega) (by rw [hz2]; omega) (by omega)
  rw [hz1, Nat.mul_one] at hmk
  simpa [madeCells_zero] using hmk

set_option maxRecDepth 100000 in
set_option maxHeartbeats 20000000 in
theorem shapes_any (p : Prg) (cv mv vl vr : Value) (n : Nat) (rs : List Int) (w : World) (hc : ClassAt w cv p.cs) (hm : MethsAt w mv p.ms) (hl : DosAt w vl n) (hr : ∃ o b a c, vr = .slice a rs.length c ∧ (rs = [] ∨ a = some ⟨b, o, none⟩) ∧ ∀ i, i < rs.length → w.cell? ⟨b, o + i, none⟩ = some (.int .i64 (rs.getD i 0))) :
    Calls Tryd.prog 4 #[.agg #[cv, mv], vl, vr] w fun e w' => e = .returned (.bool true) ∧ Upd [] w w' := by
  obtain ⟨la, lc, rfl, hl1, hl2, hl3⟩ := hl
  obtain ⟨ro, rb, ra, rc, rfl, hra, hr3⟩ := hr
  obtain ⟨cp, cc, rfl⟩ := (show ∃ a c, cv = .slice a p.cs.length c by obtain ⟨a, c, h, _⟩ := hc; exact ⟨a, c, h⟩)
  obtain ⟨mp, mc, rfl⟩ := (show ∃ a c, mv = .slice a p.ms.length c by obtain ⟨a, c, h, _⟩ := hm; exact ⟨a, c, h⟩)
  unfold maxLen at hl2
  have HL3 := Lib.hid hl3
  have HR3 := Lib.hid hr3
  have HRA := Lib.hid hra
  clear hl3 hr3 hra
  have hfc := fault_code
  obtain ⟨i0, hi, hz0, hz1, hz2⟩ := info_parts Tryd.infoInt
  have HI := Lib.hid hi
  have HZ0 := Lib.hid hz0
  have HZ1 := Lib.hid hz1
  have HZ2 := Lib.hid hz2
  clear hi hz0 hz1 hz2
  obtain ⟨i1, hi, hz0, hz1, hz2⟩ := info_parts Tryd.infoLong
  have JI := Lib.hid hi
  have JZ0 := Lib.hid hz0
  have JZ1 := Lib.hid hz1
  have JZ2 := Lib.hid hz2
  clear hi hz0 hz1 hz2
  obtain ⟨i2, hi, hz0, hz1, hz2⟩ := info_parts Tryd.infoObj
  have KI := Lib.hid hi
  have KZ0 := Lib.hid hz0
  have KZ1 := Lib.hid hz1
  have KZ2 := Lib.hid hz2
  clear hi hz0 hz1 hz2
  have hcA := hc.upd ((Upd.refl [] w).alloc (.cells #[.slice cp p.cs.length cc, .slice mp p.ms.length mc] 32))
  have hmA := hm.upd ((Upd.refl [] w).alloc (.cells #[.slice cp p.cs.length cc, .slice mp p.ms.length mc] 32))
  have hbox := heap_alloc_new w (.cells #[.slice cp p.cs.length cc, .slice mp p.ms.length mc] 32)
  have hUA := (Upd.refl [] w).alloc (.cells #[.slice cp p.cs.length cc, .slice mp p.ms.length mc] 32)
  go_enter Tryd.func4, Tryd.ntmps4
  go_wp2_with fail
  refine (first_any _).mono ?_
  rintro e w1 ⟨rfl, hu1⟩
  have hc1 := hcA.upd hu1
  have hm1 := hmA.upd hu1
  have hb1 := hu1.heap hbox (by simp)
  have hU1 := hUA.trans hu1
  clear hcA hmA hbox hUA hu1
  have hb10 := cell_of hb1 0
  have hb11 := cell_of hb1 1
  have hbw := lt_of_heap hb1
  go_wp2_with fail
  refine (light_any p _ _ _ hc1 hm1).mono ?_
  rintro e w2 ⟨⟨b, rfl⟩, hu2⟩
  have hc2 := hc1.upd hu2
  have hm2 := hm1.upd hu2
  have hb2 := hu2.heap hb1 (by simp)
  have hU2 := hU1.trans hu2
  clear hc1 hm1 hb10 hb11 hb1 hU1 hu2
  have hb20 := cell_of hb2 0
  have hb21 := cell_of hb2 1
  cases b with
  | false =>
    go_wp2_with fail
    go_ret
    exact ⟨rfl, hU2⟩
  | true =>
    go_wp2_with fail
    refine (may_any p _ _ _ hc2 hm2).mono ?_
    rintro e w3 ⟨c, s, b, at_, rfl, hia, hmay, hu3⟩
    obtain ⟨sp, sc, rfl⟩ := hia.form
    clear hia
    have hc3 := hc2.upd hu3
    have hb3 := hu3.heap hb2 (by simp)
    have hU3 := hU2.trans hu3
    clear hc2 hm2 hb20 hb21 hb2 hU2 hu3
    have hb30 := cell_of hb3 0
    have hb31 := cell_of hb3 1
    by_cases hz : c = 0
    · subst hz
      have hok := hmay.ok
      clear hmay
      by_cases hn : 60 < n
      · have d1 : decide ((60 : Int) < (n : Int)) = true := by simp; omega
        go_wp2_with fail
        go_ret
        exact ⟨rfl, hU3⟩
      · have d1 : decide ((60 : Int) < (n : Int)) = false := by simp; omega
        by_cases hq : 20 < rs.length
        · have d2 : decide ((20 : Int) < (rs.length : Int)) = true := by simp; omega
          go_wp2_with fail
          go_ret
          exact ⟨rfl, hU3⟩
        · have d2 : decide ((20 : Int) < (rs.length : Int)) = false := by simp; omega
          obtain ⟨cb, co, hcl3⟩ := hc3.cls
          go_wp2_with fail
          refine (hnew_ok _ _ _ _ p.cs 20000 6000 _ hcl3 (by omega) (by omega) (by omega) hok.few hok.small (by have := lt_of_heap hb3; omega)).mono ?_
          rintro e w4 ⟨L, hv, hmv, rfl, hH, hu4, hlo⟩
          have hLab : Hid (∀ i ∈ [L.hb, L.ab, L.wb, L.bb, L.bw, L.mb, L.mw], w3.heap.size ≤ i) := fun i hi => HL.above hH.nd (fun i hi => (hlo i hi).1) i hi
          have hLC : Hid (∀ i ∈ L.all, i < w4.heap.size) := fun i hi => (hlo i hi).2
          have HC3 := Lib.hid hc3
          have HCL3 := Lib.hid hcl3
          have HB3 := Lib.hid hb3
          have HU3 := Lib.hid hU3
          have HOK := Lib.hid hok
          have hS0 := ShS.start p.cs
          have hfew := hok.few
          clear hlo hc3 hcl3 hb3 hb30 hb31 hU3 hok hfc hc hm
          generalize Hp.new p.cs 20000 6000 = S0 at hH hS0
          go_wp2_with fail
          go_loopw [10, 11, 12] (fun ob rf iv wr => ∃ (i : Nat) (S : Hp) (ps : List OP) (rl : List Int), i ≤ n ∧ iv = .int .i64 i ∧ HpAt wr L hv hmv S ∧ Mir wr w4.heap.size ob ps ∧ OwnI wr w4.heap.size 3 rf rl ∧ Hid (ShS p.cs S (ps.map OP.o) rl i) ∧ Upd [] w3 wr ∧ w4.heap.size ≤ wr.heap.size) (fun _ _ iv _ => n - (intOf iv).toNat)
          case atStart => exact ⟨0, _, [], [], by omega, rfl, hH, Mir.nil _ _, OwnI.nil _ _ _, hS0, hu4, Nat.le_refl _⟩
          case round =>
            have h34 := hu4.size
            clear hH hS0 hu4
            obtain ⟨i, S, ps, rl, hi, rfl, hH, hM, hO, HS, hU, h4w⟩ := hrel
            obtain ⟨wo, rfl⟩ : ∃ wo : World, wo = wr := ⟨_, rfl⟩
            by_cases hlt : i < n
            · obtain ⟨b, o, d, rfl, hbd, hin⟩ := HL3.out i hlt
              have hin2 := (hin.upd HU3.out (by simp)).upd hU (by simp)
              have hbx := hU.heap HB3.out (by simp)
              obtain ⟨d0, d1', d2', d3', d4'⟩ := hin2
              have hud := (Upd.refl [] wo).alloc (.cells #[.int .i64 d.kind, .int .i64 d.a, .int .i64 d.b, .int .i64 d.n, .int .i64 d.v] 56)
              have hx0 := hud.cell (cell_of hbx 0) (by simp)
              have hx1 := hud.cell (cell_of hbx 1) (by simp)
              have HUD := Lib.hid hud
              clear hud
              by_cases hk : d.kind < 3
              · have dk : decide (d.kind < 3) = true := by simpa using hk
                have hm0 := Int.emod_nonneg d.a (show ((p.cs.length : Int) + 2) ≠ 0 by omega)
                have hm1 := Int.emod_lt_of_pos d.a (show (0 : Int) < (p.cs.length : Int) + 2 by omega)
                have e7 := and_7 d.n
                have hn0 := Int.emod_nonneg d.n (show (8 : Int) ≠ 0 by omega)
                have hn1 := Int.emod_lt_of_pos d.n (show (0 : Int) < 8 by omega)
                go_wp2_with fail
                refine (number_any d.a ((p.cs.length : Int) + 2) _ (by omega) (by omega)).mono ?_
                rintro e w' ⟨rfl, rfl⟩
                generalize d.a % ((p.cs.length : Int) + 2) = q at *
                generalize d.n % 8 = nn at *
                obtain ⟨cl, rfl⟩ : ∃ cl : Int, q = cl + 2 := ⟨q - 2, by omega⟩
                have ecl : cl + 2 - 2 = cl := by omega
                go_upto_if 93 with fail
                go_cut [16] (fun s wx => ∃ (S' : Hp) (r : Int), s = .int .i64 r ∧ 1 ≤ r ∧ r ≤ 20000 ∧ HpAt wx L hv hmv S' ∧ Mir wx w4.heap.size u10 ps ∧ OwnI wx w4.heap.size 3 u11 rl ∧ Hid (ShS p.cs S' (ps.map OP.o ++ [(cl, fresh p.cs cl (wantN p.cs cl nn).toNat)]) (rl ++ [r]) (i + 1)) ∧ Upd [] w3 wx ∧ w4.heap.size ≤ wx.heap.size)
                case first =>
                  as_aux_lemma =>
                    have hok := hH.ok
                    have hbg := hH.bg.2.2.2.1
                    have hH1 := hH.upd0 HUD.out
                    have hsub : ∀ q ∈ [L.hb, L.wb, L.bw], q ∈ L.all := fun q hq => by
                      simp only [HL.all, List.mem_cons, List.not_mem_nil, or_false] at hq ⊢; rcases hq with h | h | h <;> simp [h]
                    have hsub2 : ∀ q ∈ [L.hb, L.wb, L.bw], q ∈ [L.hb, L.ab, L.wb, L.bb, L.bw, L.mb, L.mw] := fun q hq => by
                      simp only [List.mem_cons, List.not_mem_nil, or_false] at hq ⊢; rcases hq with h | h | h <;> simp [h]
                    by_cases hk1 : d.kind = 1
                    · have dk1 : (d.kind == 1) = true := by simpa using hk1
                      have F := HS.out.new hok hbg (by omega) (k := 0) (by omega) (c := cl) (n := nn) (by omega) (by omega) hn0 (by omega)
                      rw [hk1] at HUD hH1
                      have HY := Lib.hid (young_any L hv hmv S cl nn _ hH1)
                      go_wp2_with fail
                      refine HY.out.mono ?_
                      rintro e w5 ⟨rfl, hH5, hu5⟩
                      rw [F.1]
                      go_wp2_with fail
                      go_meet
                      refine ⟨S.layK 0 cl nn, S.layR 0 cl nn, rfl, F.2.1, F.2.2.1, hH5, (hM.low HUD.out (by simp)).low hu5 (fun q hq => hLC.out q (hsub q hq)), (hO.upd HUD.out (by simp)).upd hu5 (fun k hk hm => by
                        have h1 := (hO.lt k hk).1
                        have h2 := hLC.out k (hsub k hm)
                        omega), F.2.2.2.2.2, (hU.trans HUD.out).trans' hu5 (fun q hq hlt2 => by
                        have h1 := hLab.out q (hsub2 q hq)
                        omega), Nat.le_trans h4w (Nat.le_trans HUD.out.size hu5.size)⟩
                    · have dk1 : (d.kind == 1) = false := by simpa using hk1
                      have F := HS.out.new hok hbg (by omega) (k := 1) (by omega) (c := cl) (n := nn) (by omega) (by omega) hn0 (by omega)
                      have HY := Lib.hid (oldo_any L hv hmv S cl nn _ hH1)
                      rw [show S.oldK = 1 by unfold Hp.oldK; rw [if_pos HS.out.now]] at HY
                      go_wp2_with fail
                      refine HY.out.mono ?_
                      rintro e w5 ⟨rfl, hH5, hu5⟩
                      rw [F.1]
                      go_wp2_with fail
                      go_meet
                      refine ⟨S.layK 1 cl nn, S.layR 1 cl nn, rfl, F.2.1, F.2.2.1, hH5, (hM.low HUD.out (by simp)).low hu5 (fun q hq => hLC.out q (hsub q hq)), (hO.upd HUD.out (by simp)).upd hu5 (fun k hk hm => by
                        have h1 := (hO.lt k hk).1
                        have h2 := hLC.out k (hsub k hm)
                        omega), F.2.2.2.2.2, (hU.trans HUD.out).trans' hu5 (fun q hq hlt2 => by
                        have h1 := hLab.out q (hsub2 q hq)
                        omega), Nat.le_trans h4w (Nat.le_trans HUD.out.size hu5.size)⟩
                case rest =>
                  obtain ⟨S', r, rfl, hr1, hr2, hH', hM', hO', HS', hU', h4w'⟩ := hcut
                  obtain ⟨wb, rfl⟩ : ∃ wb : World, wb = wc := ⟨_, rfl⟩
                  clear hx0 hx1 d0 d1' d2' d3' d4' hin hM hO hH HS hU h4w HUD dk e7
                  have hcb := HCL3.out.upd hU' (by simp)
                  have hbx' := hU'.heap HB3.out (by simp)
                  have hx0 := cell_of hbx' 0
                  have hx1 := cell_of hbx' 1
                  have hwb := HOK.out
                  have hwn : 0 ≤ wantN p.cs cl nn ∧ wantN p.cs cl nn ≤ 10 := by
                    unfold wantN
                    split
                    · rename_i h0
                      have := hwb.small (p.cs.getD cl.toNat ByteArray.empty) (by
                        have hk : cl.toNat < p.cs.length := by omega
                        rw [List.getD_eq_getElem?_getD, List.getElem?_eq_getElem hk]; exact List.getElem_mem hk)
                      omega
                    · omega
                  have HWN := Lib.hid hwn
                  clear hwn
                  go_wp2_with fail
                  refine (words3_any _ _ cb co cl nn p.cs _ hcb (by omega) (by omega) hwb.small hn0 (by omega)).mono ?_
                  rintro e w6 ⟨rfl, hu6⟩
                  obtain ⟨m, hm⟩ : ∃ m : Nat, wantN p.cs cl nn = (m : Int) := ⟨(wantN p.cs cl nn).toNat, by have := HWN.out; omega⟩
                  have hm10 : m ≤ 10 := by have := HWN.out; omega
                  rw [hm] at HS' ⊢
                  have HWM := Lib.hid hm
                  clear hm
                  have esub : (2 : Int) + (m : Int) - 2 = (m : Int) := by omega
                  have hbx6 := hu6.heap hbx' (by simp)
                  clear hx0 hx1 hcb hbx'
                  go_wp2_with fail
                  rw [make_longs w6 m (by omega)]
                  go_wp2_with fail
                  go_loopw [18] (fun jv wr => ∃ j : Nat, j ≤ m ∧ jv = .int .i64 j ∧ wr.heap[w6.heap.size]? = some (.cells (icells (freshJ p.cs cl m j)) 2) ∧ wr.heap[w6.heap.size + 1]? = some (.cells #[.int .i64 cl, .slice (some ⟨w6.heap.size, 0, none⟩) m m] 61) ∧ Upd [] w6 wr) (fun jv _ => m - (intOf jv).toNat)
                  case atStart =>
                    refine ⟨0, by omega, rfl, ?_, ?_, ((Upd.refl [] w6).alloc _).alloc _⟩
                    · rw [freshJ_zero]
                      exact ((Upd.refl [] (w6.alloc _)).alloc _).heap (heap_alloc_new w6 _) (by simp)
                    · have := heap_alloc_new (w6.alloc (.cells (icells (List.replicate m 0)) 2)) (.cells #[.int .i64 cl, .slice (some ⟨w6.heap.size, 0, none⟩) m m] 61)
                      simpa using this
                  case round =>
                    obtain ⟨j, hj, rfl, hvb, hob, hu7⟩ := hrel
                    obtain ⟨wj, rfl⟩ : ∃ wj : World, wj = wr := ⟨_, rfl⟩
                    have ho0 := cell_of hob 0
                    have ho1 := cell_of hob 1
                    have hbx7 := hu7.heap hbx6 (by simp)
                    have hx0 := cell_of hbx7 0
                    have hx1 := cell_of hbx7 1
                    by_cases hjm : j < m
                    · have dj : decide ((j : Int) < (m : Int)) = true := by simp; omega
                      as_aux_lemma =>
                        by_cases hc2 : cl = -2
                        · have hR : letR p.cs cl j = true := by subst hc2; rfl
                          have hfj := froz_of hvb j
                          have hset := freshJ_yes p.cs cl m j hjm hR
                          have hlj := freshJ_len p.cs cl m j hj
                          have hcj := cell_of hvb j
                          rw [icells_get _ _ (by omega)] at hcj
                          have HSE := Lib.hid hset
                          have HLJ := Lib.hid hlj
                          clear hset hlj
                          have dc : (cl == -2) = true := by simpa using hc2
                          go_wp2_with fail
                          go_roundw
                          case rel =>
                            refine ⟨j + 1, by omega, by go_num, ?_, ?_, hu7.setCell (Or.inr (Nat.le_refl _)) _⟩
                            · rw [heap_setCell hvb, icells_set, HSE.out]
                            · exact ((Upd.refl [w6.heap.size] wj).setCell (Or.inl (by simp)) _).heap hob (by simp)
                          case measure => simp [intOf]; omega
                        · have dc : (cl == -2) = false := by simpa using hc2
                          by_cases h0 : 0 ≤ cl
                          · obtain ⟨k, rfl⟩ := Int.eq_ofNat_of_zero_le h0
                            have hkl : k < p.cs.length := by omega
                            have hck := ((HCL3.out.upd hU' (by simp)).upd hu6 (by simp)).upd hu7 (by simp)
                            obtain rfl : cp = some ⟨cb, co, none⟩ := by
                              rcases hck.1 with ⟨_, h2⟩ | ⟨x, cap, hv, h2⟩
                              · rw [h2] at hkl; simp at hkl
                              · injection hv with hv _ _
                                rcases h2 with h2 | h2
                                · rw [h2] at hkl; simp at hkl
                                · rw [hv, h2]
                            have hx := hck.2 k hkl
                            have hwn := HWM.out
                            unfold wantN at hwn
                            rw [if_pos h0, Int.toNat_natCast] at hwn
                            have hjs : j < (p.cs.getD k ByteArray.empty).size := by omega
                            have hl : letR p.cs (k : Int) (j : Int) = decide ((p.cs.getD k ByteArray.empty).get! j = 82) := by
                              unfold letR
                              rw [decide_eq_false (by omega : ¬ (k : Int) = -2), decide_eq_true (by omega : 0 ≤ (k : Int)), Int.toNat_natCast, Int.toNat_natCast]; simp
                            have hby := byte_eq _ j 82 hjs
                            rw [← hl] at hby
                            have HNO := Lib.hid (fun h => freshJ_no p.cs (k : Int) m j hjm h)
                            have HYES := Lib.hid (fun h => freshJ_yes p.cs (k : Int) m j hjm h)
                            have HLJ := Lib.hid (freshJ_len p.cs (k : Int) m j hj)
                            clear hck hwn hl
                            generalize hgs : p.cs.getD k ByteArray.empty = s at hx hjs hby
                            have HGS := Lib.hid hgs
                            clear hgs
                            have hfj := froz_of hvb j
                            have hcj := cell_of hvb j
                            rw [icells_get _ _ (by rw [HLJ.out]; exact hjm)] at hcj
                            have dk0 : decide ((0 : Int) ≤ (k : Int)) = true := by simp
                            cases hbb : letR p.cs (k : Int) (j : Int) with
                            | true =>
                              rw [hbb] at hby
                              have hby2 : (((s[j]'hjs).toNat : Int) == 82) = true := hby
                              have HSE := Lib.hid (HYES.out hbb)
                              clear hbb hby
                              go_wp2_with fail
                              go_roundw
                              case rel =>
                                refine ⟨j + 1, by omega, by go_num, ?_, ?_, hu7.setCell (Or.inr (Nat.le_refl _)) _⟩
                                · rw [heap_setCell hvb, icells_set, HSE.out]
                                · exact ((Upd.refl [w6.heap.size] wj).setCell (Or.inl (by simp)) _).heap hob (by simp)
                              case measure => simp [intOf]; omega
                            | false =>
                              rw [hbb] at hby
                              have hby2 : (((s[j]'hjs).toNat : Int) == 82) = false := hby
                              have HSE := Lib.hid (HNO.out hbb)
                              clear hbb hby
                              go_wp2_with fail
                              go_roundw
                              case rel =>
                                refine ⟨j + 1, by omega, by go_num, ?_, hob, hu7⟩
                                rw [HSE.out]; exact hvb
                              case measure => simp [intOf]; omega
                          · have dk0 : decide ((0 : Int) ≤ cl) = false := by simp; omega
                            have HSE := Lib.hid (freshJ_no p.cs cl m j hjm (by
                              unfold letR
                              rw [decide_eq_false hc2, decide_eq_false h0]; rfl))
                            go_wp2_with fail
                            go_roundw
                            case rel =>
                              refine ⟨j + 1, by omega, by go_num, ?_, hob, hu7⟩
                              rw [HSE.out]; exact hvb
                            case measure => simp [intOf]; omega
                    · obtain rfl : j = m := by omega
                      as_aux_lemma =>
                        rw [freshJ_all] at hvb
                        have dj : decide ((j : Int) < (j : Int)) = false := by simp
                        have hMj := (hM'.low hu6 (by simp)).low hu7 (by simp)
                        have hOj := (hO'.upd hu6 (by simp)).upd hu7 (by simp)
                        have hUj := (hU'.trans hu6).trans hu7
                        have hHj := (hH'.upd0 hu6).upd0 hu7
                        have hu67 := hu6.trans hu7
                        have hq1 : u10.ownBlock ≠ some w6.heap.size := fun e => by
                          have h1 := (hM'.out.lt _ e).2
                          have h2 := hu6.size
                          omega
                        have hq2 : ∀ q ∈ ps, q.b ≠ w6.heap.size := fun q hq e => by
                          have h1 := lt_of_heap (hM'.vals q hq).2.1
                          have h2 := hu6.size
                          omega
                        have hpl : ps.length ≤ i := by
                          have h1 := HS'.out.few
                          have h2 := HS'.out.twin.len
                          simp at h1 h2
                          omega
                        have hrl : rl.length ≤ i := by
                          have h1 := HS'.out.few
                          simp at h1
                          omega
                        have hB4 : w4.heap.size ≤ w6.heap.size := Nat.le_trans h4w' hu6.size
                        have hB4j : w4.heap.size ≤ wj.heap.size := Nat.le_trans hB4 hu7.size
                        have HMJ := Lib.hid hMj
                        have HOJ := Lib.hid hOj
                        have HQ1 := Lib.hid hq1
                        have HQ2 := Lib.hid hq2
                        have HVB := Lib.hid hvb
                        clear hMj hOj hq1 hq2 hM' hO' hH' hU' hu6 hu7 hvb hbx6 hbx7 hx0 hx1
                        go_wp2_with (at_builtin; refine stop_here ?_)
                        refine Hid.mk ?_
                        have hcn := cell_of (heap_alloc_new wj (.cells #[.int .i64 cl, .slice (some ⟨w6.heap.size, 0, none⟩) j j] 61))
                        have hMA := HMJ.out.low ((Upd.refl [] wj).alloc (.cells #[.int .i64 cl, .slice (some ⟨w6.heap.size, 0, none⟩) j j] 61)) (by simp)
                        refine (wpList_append_own_at _ rfl _ _ 54 rfl w4.heap.size 61 i2 (.agg #[.int .i64 0, .slice none 0 0]) 2 32 Tryd.underlying54 KI.out KZ0.out KZ1.out KZ2.out rfl (by decide) _ _ _ rfl hMA.out ⟨wj.heap.size, 0, none⟩ 1 1 [.int .i64 cl, .slice (some ⟨w6.heap.size, 0, none⟩) j j] rfl rfl ?d1 ?d2 ?d3 ?d4 ?d5 ?d6)
                        case d1 =>
                          intro jj uu hjj
                          rw [Addr.add_lit, Nat.zero_add, hcn]
                          simpa using hjj
                        case d2 => simp [Value.oneCell']
                        case d3 => unfold maxLen; omega
                        case d4 => omega
                        case d5 => simp; omega
                        case d6 =>
                          intro v' w7 hown' hgrow _ hat
                          have hpush := hMA.push ⟨cl, fresh p.cs cl j, .slice (some ⟨w6.heap.size, 0, none⟩) j j, w6.heap.size⟩ (by rw [fresh_len]) (((Upd.refl [] wj).alloc _).heap HVB.out (by simp)) hB4 HQ1.out HQ2.out hown' hgrow hat
                          have hg7 : Upd u10.ownBlock.toList wj w7 := ((Upd.refl _ wj).alloc _).grown hgrow (fun q hq => Or.inl (Option.mem_toList.2 hq))
                          have hlow7 : ∀ q ∈ u10.ownBlock.toList, w4.heap.size ≤ q := fun q hq => (HMJ.out.out.lt q (Option.mem_toList.1 hq)).1
                          have hO7 := HOJ.out.upd hg7 (fun q hq hm => own_ne HOJ.out HMJ.out.out (by decide) q hq (Option.mem_toList.1 hm))
                          have hH7 := hHj.upd hg7 (fun q hq hm => by
                            have h1 := hLC.out q hq
                            have h2 := hlow7 q hm
                            omega)
                          have hU7 := hUj.trans' hg7 (fun q hq hlt2 => by
                            have h1 := hlow7 q hq
                            omega)
                          have HPU := Lib.hid hpush
                          have HO7 := Lib.hid hO7
                          clear hown' hgrow hat hMA hcn hob hpush hO7 ho0 ho1 hUj hHj
                          go_wp2_with (at_builtin; refine stop_here ?_)
                          refine Hid.mk ?_
                          have hc8 := cell_of (heap_alloc_new w7 (.cells #[.int .i64 r] 3))
                          refine (wpList_append_own_at _ rfl _ _ 35 rfl w4.heap.size 3 i0 (.int .i64 0) 1 8 Tryd.underlying35 HI.out HZ0.out HZ1.out HZ2.out rfl (by decide) _ _ _ rfl (HO7.out.alloc _) ⟨w7.heap.size, 0, none⟩ 1 1 [.int .i64 r] rfl rfl ?e1 ?e2 ?e3 ?e4 ?e5 ?e6)
                          case e1 =>
                            intro jj uu hjj
                            rw [Addr.add_lit, Nat.zero_add, hc8]
                            simpa using hjj
                          case e2 => simp [Value.oneCell']
                          case e3 => unfold maxLen; omega
                          case e4 => omega
                          case e5 => have := hg7.size; simp; omega
                          case e6 =>
                            intro v2 w8 hown2 hgr2 _ _
                            obtain ⟨hO8, hg8, hlow8⟩ := HO7.out.push hown2 hgr2
                            have hM8 := HPU.out.upd hg8 (fun q hq => And.intro (own_ne HO7.out HPU.out.out (by decide) q (Option.mem_toList.1 hq)) (fun p hp e => own_heap_ne HO7.out (HPU.out.vals p hp).2.1 (by decide) (e ▸ Option.mem_toList.1 hq)))
                            have hH8 := hH7.upd hg8 (fun q hq hm => by
                              have h1 := hLC.out q hq
                              have h2 := (hlow8 q hm).1
                              omega)
                            have hU8 := hU7.trans' hg8 (fun q hq hlt2 => by
                              have h1 := (hlow8 q hq).1
                              omega)
                            have hS8 : Hid (ShS p.cs S' ((ps ++ [OP.mk cl (fresh p.cs cl j) (.slice (some ⟨w6.heap.size, 0, none⟩) j j) w6.heap.size]).map OP.o) (rl ++ [r]) (i + 1)) := by
                              have h := HS'.out
                              rw [Int.toNat_natCast] at h
                              rw [List.map_append]
                              exact h
                            have h4w8 : w4.heap.size ≤ w8.heap.size := by
                              have h1 := hg7.size
                              have h2 := hg8.size
                              omega
                            have HM8 := Lib.hid hM8
                            have HO8 := Lib.hid hO8
                            clear hown2 hgr2 hc8 hM8 hO8 hH7 hU7
                            go_wp2_with fail
                            go_roundw
                            case rel => exact ⟨i + 1, S', _, _, by omega, by go_num, hH8, HM8.out, HO8.out, hS8, hU8, h4w8⟩
                            case measure => simp [intOf]; omega
              · have dk : decide (d.kind < 3) = false := by simpa using hk
                have hrlb : rl.length ≤ i := HS.out.few
                have hpr : ps.length = rl.length := by
                  have := HS.out.twin.len
                  simpa using this
                have HSK := Lib.hid HS.out.skip
                have hAU := (Upd.refl [] wo).alloc (.cells #[.int .i64 d.kind, .int .i64 d.a, .int .i64 d.b, .int .i64 d.n, .int .i64 d.v] 56)
                have hAN := heap_alloc_new wo (.cells #[.int .i64 d.kind, .int .i64 d.a, .int .i64 d.b, .int .i64 d.n, .int .i64 d.v] 56)
                have hHD := hH.upd0 hAU
                have hUD := hU.trans hAU
                have h4D := Nat.le_trans h4w hAU.size
                as_aux_lemma =>
                  by_cases hr0 : rl.length = 0
                  · have dr : ((rl.length : Int) == 0) = true := by rw [beq_iff_eq]; omega
                    have HMD := Lib.hid (hM.low hAU (by simp))
                    have HOD := Lib.hid (hO.upd hAU (by simp))
                    obtain ⟨p2, c2, rfl⟩ := hO.shape
                    clear hM hO hpr hr0 hAN
                    go_wp2_with fail
                    go_roundw
                    case rel => exact ⟨i + 1, S, _, _, by omega, by go_num, hHD, HMD.out, HOD.out, HSK.out, hUD, h4D⟩
                    case measure => simp [intOf]; omega
                  · have dr : ((rl.length : Int) == 0) = false := by rw [beq_eq_false_iff_ne]; omega
                    obtain ⟨k, hk⟩ := Int.eq_ofNat_of_zero_le (Int.emod_nonneg d.a (show (rl.length : Int) ≠ 0 by omega))
                    have hkl : k < rl.length := by
                      have := Int.emod_lt_of_pos d.a (show (0 : Int) < rl.length by omega)
                      omega
                    have HK := Lib.hid hk
                    clear hk
                    obtain ⟨ub, cap, c, xs, vb, rfl, hok1, hm0, hm1, hmv, hBv, hset⟩ := hM.at k (by omega)
                    obtain ⟨g, rc2, rfl, hg1, hg2, hgk⟩ := hO.nth k hkl
                    have HM := Lib.hid hM
                    have HO := Lib.hid hO
                    have HOK1 := Lib.hid hok1
                    have HMV := Lib.hid hmv
                    have HST := Lib.hid hset
                    have hpi : ps.length ≤ rl.length := by omega
                    have hpi2 : rl.length ≤ ps.length := by omega
                    have hkp : k < ps.length := by omega
                    have hx10 : xs.length ≤ 10 := by
                      have h1 := (HS.out.cl (c, xs) (by
                        rw [← hok1, List.getD_eq_getElem?_getD, List.getElem?_eq_getElem (by simpa using hkp)]
                        exact List.getElem_mem _)).1
                      exact h1
                    have his := HS.out.twin.is k hkl
                    have hle := hH.ok.le his
                    have hAl := hH.ok.len
                    have hrb : (1 : Int) ≤ rl.getD k 0 ∧ rl.getD k 0 ≤ 65536 := by omega
                    generalize hrr : rl.getD k 0 = rk at hgk hrb
                    have HRR := Lib.hid hrr
                    have HGK := Lib.hid hgk
                    have HM1 := Lib.hid hm1
                    clear hM hO hok1 hset hpr hr0 his hle hrr hmv
                    have hn1 := hAU.cell hm1 (by simp)
                    clear hm0 hm1 hgk
                    go_wp2_with fail
                    refine (number_any d.a (rl.length : Int) _ (by omega) (by omega)).mono ?_
                    rintro e w' ⟨rfl, rfl⟩
                    rw [HK.out]
                    generalize wo.alloc (.cells #[.int .i64 d.kind, .int .i64 d.a, .int .i64 d.b, .int .i64 d.n, .int .i64 d.v] 56) = w5 at hAU hAN hn1 hHD hUD h4D ⊢
                    clear hx0 hx1
                    by_cases hx0' : xs.length = 0
                    · have dx : ((xs.length : Int) == 0) = true := by rw [beq_iff_eq]; omega
                      have HMD := Lib.hid (HM.out.low hAU (by simp))
                      have HOD := Lib.hid (HO.out.upd hAU (by simp))
                      clear hx0' hAN
                      go_wp2_with fail
                      go_roundw
                      case rel => exact ⟨i + 1, S, _, _, by omega, by go_num, hHD, HMD.out, HOD.out, HSK.out, hUD, h4D⟩
                      case measure => simp [intOf]; omega
                    · have dx : ((xs.length : Int) == 0) = false := by rw [beq_eq_false_iff_ne]; omega
                      obtain ⟨j, hj⟩ := Int.eq_ofNat_of_zero_le (Int.emod_nonneg d.b (show (xs.length : Int) ≠ 0 by omega))
                      have hjl : j < xs.length := by
                        have := Int.emod_lt_of_pos d.b (show (0 : Int) < xs.length by omega)
                        omega
                      have HJ := Lib.hid hj
                      clear hj hx0'
                      have hd2 := cell_of hAN 2
                      go_wp2_with fail
                      go_still_tail 8, (by kernel_rfl)
                      change wpList _ _ _ _ _ w5.drew
                      have hu1 : Upd [] wo w5.drew := hAU.drew
                      have hdb : w5.drew.heap[wo.heap.size]? = some (.cells #[.int .i64 d.kind, .int .i64 d.a, .int .i64 d.b, .int .i64 d.n, .int .i64 d.v] 56) := hAN
                      clear hAN hAU hn1 hHD hUD h4D hd2
                      generalize w5.drew = w5 at hu1 hdb ⊢
                      have hb3' := cell_of hdb 3
                      have hb4' := cell_of hdb 4
                      have hH5 := hH.upd0 hu1
                      have hU5 := hU.trans hu1
                      have h45 := Nat.le_trans h4w hu1.size
                      have HM5 := Lib.hid (HM.out.low hu1 (by simp))
                      have HO5 := Lib.hid (HO.out.upd hu1 (by simp))
                      have HMV5 := Lib.hid (hu1.heap HMV.out (by simp))
                      have hn1 := hu1.cell HM1.out (by simp)
                      have hgk := hu1.cell HGK.out (by simp)
                      have hfv := froz_of HMV5.out j
                      have hcv := cell_of HMV5.out j
                      rw [icells_get _ _ hjl] at hcv
                      have HRF := Lib.hid (ref_any L hv hmv S rk j _ hH5 (by omega))
                      have HOKH := Lib.hid hH.ok
                      have hbx5 := hU5.heap HB3.out (by simp)
                      have hu1s := hu1.size
                      clear hH hU hu1 hdb h4w
                      have HUS := Lib.hid (fun (w6 : World) (x : Int) => (Upd.refl [vb] w6).setCell (p := ⟨vb, j, none⟩) (Or.inl (by simp)) (.int .i64 x))
                      have HH6 := Lib.hid (fun (w6 : World) (x : Int) (hu : Upd [] w5 w6) => (hH5.upd0 hu).upd (HUS.out w6 x) (fun q hq hm => by
                        have h1 := hLC.out q hq
                        simp at hm; omega))
                      have HO6 := Lib.hid (fun (w6 : World) (x : Int) (hu : Upd [] w5 w6) => (HO5.out.upd hu (by simp)).upd (HUS.out w6 x) (fun q hq hm => own_heap_ne HO5.out HMV5.out (by decide) (by simp at hm; rw [← hm]; exact hq)))
                      have HU6 := Lib.hid (fun (w6 : World) (x : Int) (hu : Upd [] w5 w6) => (hU5.trans hu).trans' (HUS.out w6 x) (fun q hq hlt2 => by
                        simp at hq; omega))
                      have HSUB := Lib.hid (show ∀ q ∈ [L.wb, L.mw], q ∈ L.all from fun q hq => by
                        simp only [HL.all, List.mem_cons, List.not_mem_nil, or_false] at hq ⊢; rcases hq with h | h <;> simp [h])
                      have HSUB2 := Lib.hid (show ∀ q ∈ [L.wb, L.mw], q ∈ [L.hb, L.ab, L.wb, L.bb, L.bw, L.mb, L.mw] from fun q hq => by
                        simp only [List.mem_cons, List.not_mem_nil, or_false] at hq ⊢; rcases hq with h | h <;> simp [h])
                      have hgv : g ≠ vb := fun e => own_heap_ne HO5.out HMV5.out (by decide) (by rw [← e]; rfl)
                      go_wp2_with fail
                      refine (number_any d.b (xs.length : Int) _ (by omega) (by omega)).mono ?_
                      rintro e w' ⟨rfl, rfl⟩
                      rw [HJ.out]
                      cases hrf : S.refB rk j with
                      | true =>
                        as_aux_lemma =>
                          obtain ⟨w6, rfl⟩ : ∃ w6 : World, w6 = w5 := ⟨_, rfl⟩
                          have hu6 : Upd [] w6 w6 := Upd.refl _ _
                          rw [hrf] at HRF
                          have HRFB := Lib.hid hrf
                          have hbt := rootN_bd rl d.n
                          have hRR := root_RR rl d.n
                          obtain ⟨t, ht⟩ : ∃ t : Int, d.n % ((rl.length : Int) + 1) = t + 1 := ⟨d.n % ((rl.length : Int) + 1) - 1, by omega⟩
                          have et : t + 1 - 1 = t := by omega
                          have hrt : rootN rl d.n = t := by unfold rootN; omega
                          have hrR : rootR rl d.n = if 0 ≤ t then rl.getD t.toNat 0 else 0 := by unfold rootR; rw [hrt]
                          rw [hrt] at hbt hRR
                          rw [hrR] at hRR
                          have HT := Lib.hid ht
                          have HRR2 := Lib.hid hRR
                          clear ht hrt hrR hrf hRR
                          go_wp2_with fail
                          refine HRF.out.mono ?_
                          rintro e w' ⟨rfl, rfl⟩
                          go_wp2_with fail
                          refine (number_any d.n ((rl.length : Int) + 1) _ (by omega) (by omega)).mono ?_
                          rintro e w' ⟨rfl, rfl⟩
                          rw [HT.out]
                          obtain ⟨ps', hM6, hps1, hps2⟩ := HST.out _ HM5.out j t
                          have HM6 := Lib.hid hM6
                          have HPS := Lib.hid hps1
                          clear hM6 hps1 hps2
                          have hgk2 := (HUS.out _ t).cell hgk (by simpa using hgv)
                          by_cases h0 : 0 ≤ t
                          · obtain ⟨tn, rfl⟩ := Int.eq_ofNat_of_zero_le h0
                            have htl : tn < rl.length := by omega
                            obtain ⟨g', rc', e9, _, _, hgt⟩ := HO5.out.nth tn htl
                            injection e9 with e9 _ e10
                            subst e10
                            injection e9 with e9
                            injection e9 with e9 _
                            subst e9
                            have hist := HS.out.twin.is tn htl
                            have hlet := HOKH.out.le hist
                            have hlen := HOKH.out.len
                            have hvt : (1 : Int) ≤ rl.getD tn 0 ∧ rl.getD tn 0 ≤ 65536 := by omega
                            have hRR := HRR2.out
                            rw [if_pos h0, Int.toNat_natCast] at hRR
                            have HPUT := Lib.hid (HS.out.putAt HOKH.out hkl HOK1.out HRR.out hjl (v := rl.getD tn 0) (x := (tn : Int)) (by rw [if_pos HRFB.out]; exact hRR) (by omega))
                            have d0 : decide ((0 : Int) ≤ (tn : Int)) = true := by simp
                            have hgt2 := (HUS.out _ (tn : Int)).cell hgt (by simpa using hgv)
                            clear hist hlet hlen hRR h0
                            generalize rl.getD tn 0 = vt at hgt hgt2 hvt HPUT
                            have HPT := Lib.hid (put_any L hv hmv S rk j vt _ (HH6.out _ (tn : Int) hu6) (by omega) (by omega))
                            rw [HPUT.out.1, if_pos rfl] at HPT
                            go_wp2_with fail
                            refine HPT.out.mono ?_
                            rintro e w7 ⟨rfl, hH7, hu7⟩
                            have hU7 := (HU6.out w6 (tn : Int) hu6).trans' hu7 (fun q hq hlt2 => by
                              have h1 := hLab.out q (HSUB2.out q hq)
                              omega)
                            have HM7 := Lib.hid (HM6.out.low hu7 (fun q hq => hLC.out q (HSUB.out q hq)))
                            have HO7 := Lib.hid ((HO6.out w6 (tn : Int) hu6).upd hu7 (fun q hq hm => by
                              have h1 := hLC.out q (HSUB.out q hm)
                              have h2 := ((HO6.out w6 (tn : Int) hu6).lt q hq).1
                              omega))
                            have h47 := Nat.le_trans h45 (Nat.le_trans hu6.size (Nat.le_trans (HUS.out w6 (tn : Int)).size hu7.size))
                            clear hu7
                            go_wp2_with fail
                            go_roundw
                            case rel => exact ⟨i + 1, _, ps', rl, by omega, by go_num, hH7, HM7.out, HO7.out, by rw [HPS.out]; exact HPUT.out.2, hU7, h47⟩
                            case measure => simp [intOf]; omega
                          · have d0 : decide ((0 : Int) ≤ t) = false := by simp; omega
                            have hRR := HRR2.out
                            rw [if_neg h0] at hRR
                            have HPUT := Lib.hid (HS.out.putAt HOKH.out hkl HOK1.out HRR.out hjl (v := 0) (x := t) (by rw [if_pos HRFB.out]; exact hRR) (by omega))
                            have HPT := Lib.hid (put_any L hv hmv S rk j 0 _ (HH6.out _ t hu6) (by omega) (by omega))
                            rw [HPUT.out.1, if_pos rfl] at HPT
                            clear hRR h0
                            go_wp2_with fail
                            refine HPT.out.mono ?_
                            rintro e w7 ⟨rfl, hH7, hu7⟩
                            have hU7 := (HU6.out w6 t hu6).trans' hu7 (fun q hq hlt2 => by
                              have h1 := hLab.out q (HSUB2.out q hq)
                              omega)
                            have HM7 := Lib.hid (HM6.out.low hu7 (fun q hq => hLC.out q (HSUB.out q hq)))
                            have HO7 := Lib.hid ((HO6.out w6 t hu6).upd hu7 (fun q hq hm => by
                              have h1 := hLC.out q (HSUB.out q hm)
                              have h2 := ((HO6.out w6 t hu6).lt q hq).1
                              omega))
                            have h47 := Nat.le_trans h45 (Nat.le_trans hu6.size (Nat.le_trans (HUS.out w6 t).size hu7.size))
                            clear hu7
                            go_wp2_with fail
                            go_roundw
                            case rel => exact ⟨i + 1, _, ps', rl, by omega, by go_num, hH7, HM7.out, HO7.out, by rw [HPS.out]; exact HPUT.out.2, hU7, h47⟩
                            case measure => simp [intOf]; omega
                      | false =>
                        as_aux_lemma =>
                          rw [hrf] at HRF
                          have HPUT := Lib.hid (HS.out.putAt HOKH.out hkl HOK1.out HRR.out hjl (v := d.v) (x := d.v) (by rw [hrf]; rfl) hbd.2.2.2.2)
                          have hdv := hbd.2.2.2.2
                          clear hrf
                          go_wp2_with fail
                          refine HRF.out.mono ?_
                          rintro e w' ⟨rfl, rfl⟩
                          go_wp2_with fail
                          go_still_tail 9, (by kernel_rfl)
                          change wpList _ _ _ _ _ w5.drew
                          have hu6 : Upd [] w5 w5.drew := (Upd.refl _ _).drew
                          generalize w5.drew = w6 at hu6 ⊢
                          obtain ⟨ps', hM6, hps1, hps2⟩ := HST.out w6 (HM5.out.low hu6 (by simp)) j d.v
                          have HM6 := Lib.hid hM6
                          have HPS := Lib.hid hps1
                          clear hM6 hps1 hps2 hcv hfv hb3' hn1
                          have hmv6 := hu6.heap HMV5.out (by simp)
                          have hcv := cell_of hmv6 j
                          rw [icells_get _ _ hjl] at hcv
                          have hfv := froz_of hmv6 j
                          have hgk6 := ((HUS.out w6 d.v).cell (hu6.cell hgk (by simp)) (by simpa using hgv))
                          have hb46 := ((HUS.out w6 d.v).cell (hu6.cell hb4' (by simp)) (by have := lt_of_heap HMV.out; simp; omega))
                          have HH7 := Lib.hid (HH6.out w6 d.v hu6)
                          have hu67 := HUS.out w6 d.v
                          go_wp2_with fail
                          have HO7 := Lib.hid (HO6.out w6 d.v hu6)
                          have HU7 := Lib.hid (HU6.out w6 d.v hu6)
                          have h4w7 := Nat.le_trans h45 (Nat.le_trans hu6.size hu67.size)
                          clear hu67
                          generalize w6.setCell ⟨vb, j, none⟩ (.int .i64 d.v) = w7 at HM6 HH7 HO7 HU7 h4w7 hgk6 hb46 ⊢
                          go_still_tail 8, (by kernel_rfl)
                          change wpList _ _ _ _ _ w7.drew
                          have hu8 : Upd [] w7 w7.drew := (Upd.refl _ _).drew
                          generalize w7.drew = w8 at hu8 ⊢
                          have HPT := Lib.hid (put_any L hv hmv S rk j d.v w8 (HH7.out.upd0 hu8) (by omega) (by omega))
                          rw [HPUT.out.1, if_pos rfl] at HPT
                          clear hgk6 hb46 hcv hfv hgk hb4'
                          go_wp2_with fail
                          refine HPT.out.mono ?_
                          rintro e w9 ⟨rfl, hH9, hu9⟩
                          have hU9 := (HU7.out.trans hu8).trans' hu9 (fun q hq hlt2 => by
                            have h1 := hLab.out q (HSUB2.out q hq)
                            omega)
                          have HM9 := Lib.hid ((HM6.out.low hu8 (by simp)).low hu9 (fun q hq => hLC.out q (HSUB.out q hq)))
                          have HO9 := Lib.hid ((HO7.out.upd hu8 (by simp)).upd hu9 (fun q hq hm => by
                            have h1 := hLC.out q (HSUB.out q hm)
                            have h2 := (HO7.out.lt q hq).1
                            omega))
                          have h49 := Nat.le_trans h4w7 (Nat.le_trans hu8.size hu9.size)
                          clear hu8 hu9
                          go_wp2_with fail
                          go_roundw
                          case rel => exact ⟨i + 1, _, ps', rl, by omega, by go_num, hH9, HM9.out, HO9.out, by rw [HPS.out]; exact HPUT.out.2, hU9, h49⟩
                          case measure => simp [intOf]; omega
            · obtain rfl : i = n := by omega
              as_aux_lemma =>
                have dn : decide ((i : Int) < (i : Int)) = false := by simp
                have hl60 : rl.length ≤ 60 := by have := HS.out.few; omega
                have hq20 : rs.length ≤ 20 := by omega
                obtain ⟨p1, c1, rfl⟩ := hM.form
                obtain ⟨p2, c2, rfl⟩ := hO.shape
                have HM := Lib.hid hM
                have HO := Lib.hid hO
                clear hM hO
                go_wp2_with fail
                go_loopw [23, 24, 25] (fun mv nv iv wr => ∃ q : Nat, q ≤ rs.length ∧ iv = .int .i64 q ∧ OwnI wr wo.heap.size 3 mv ((rs.take q).map (rootR rl)) ∧ OwnI wr wo.heap.size 2 nv ((rs.take q).map (rootN rl)) ∧ Upd [] wo wr) (fun _ _ iv _ => rs.length - (intOf iv).toNat)
                case atStart => exact ⟨0, by omega, rfl, OwnI.nil _ _ _, OwnI.nil _ _ _, Upd.refl _ _⟩
                case round =>
                  obtain ⟨q, hq, rfl, hA, hB, hU9⟩ := hrel
                  obtain ⟨wq, rfl⟩ : ∃ wq : World, wq = wr := ⟨_, rfl⟩
                  by_cases hqn : q < rs.length
                  · obtain rfl : ra = some ⟨rb, ro, none⟩ := by
                      rcases HRA.out with h | h
                      · rw [h] at hqn; simp at hqn
                      · exact h
                    have hrc := ((HU3.out.trans hU).trans hU9).cell (HR3.out q hqn) (by simp)
                    have hbt := rootN_bd rl (rs.getD q 0)
                    have hta := map_snoc_take (rootR rl) rs q hqn 0
                    have htb := map_snoc_take (rootN rl) rs q hqn 0
                    have hlA : ((rs.take q).map (rootR rl)).length ≤ 20 := by simp; omega
                    have hlB : ((rs.take q).map (rootN rl)).length ≤ 20 := by simp; omega
                    generalize rs.getD q 0 = x at hrc hbt hta htb
                    obtain ⟨t, ht⟩ : ∃ t : Int, x % ((rl.length : Int) + 1) = t + 1 := ⟨x % ((rl.length : Int) + 1) - 1, by omega⟩
                    have et : t + 1 - 1 = t := by omega
                    have hrt : rootN rl x = t := by unfold rootN; omega
                    have hrR : rootR rl x = if 0 ≤ t then rl.getD t.toNat 0 else 0 := by unfold rootR; rw [hrt]
                    rw [hrt] at hbt htb
                    rw [hrR] at hta
                    have HT := Lib.hid ht
                    have HTA := Lib.hid hta
                    have HTB := Lib.hid htb
                    clear ht hrt hrR hta htb
                    generalize (rs.take q).map (rootR rl) = la at hA HTA hlA
                    generalize (rs.take q).map (rootN rl) = lb at hB HTB hlB
                    have HA := Lib.hid hA
                    have HB := Lib.hid hB
                    clear hA hB
                    have hwq := hU9.size
                    go_wp2_with fail
                    refine (number_any x ((rl.length : Int) + 1) _ (by omega) (by omega)).mono ?_
                    rintro e w' ⟨rfl, rfl⟩
                    rw [HT.out]
                    clear hrc
                    go_wp2_with (at_builtin; refine stop_here ?_)
                    refine Hid.mk ?_
                    have hc8 := cell_of (heap_alloc_new wq (.cells #[.int .i64 t] 2))
                    refine (wpList_append_own_at _ rfl _ _ 58 rfl wo.heap.size 2 i1 (.int .i64 0) 1 8 Tryd.underlying58 JI.out JZ0.out JZ1.out JZ2.out rfl (by decide) _ _ _ rfl (HB.out.alloc _) ⟨wq.heap.size, 0, none⟩ 1 1 [.int .i64 t] rfl rfl ?a1 ?a2 ?a3 ?a4 ?a5 ?a6)
                    case a1 =>
                      intro jj uu hjj
                      rw [Addr.add_lit, Nat.zero_add, hc8]
                      simpa using hjj
                    case a2 => simp [Value.oneCell']
                    case a3 => unfold maxLen; omega
                    case a4 => omega
                    case a5 => simp; omega
                    case a6 =>
                      as_aux_lemma =>
                        intro v1 w6 hown1 hgr1 _ _
                        obtain ⟨hB6, hg6, hl6⟩ := HB.out.push hown1 hgr1
                        have HA6 := Lib.hid (HA.out.upd hg6 (fun z hz hm => own_ne HA.out HB.out (by decide) z hz (Option.mem_toList.1 hm)))
                        have HB6 := Lib.hid hB6
                        have hU6 : Upd [] wo w6 := hU9.trans' hg6 (fun z hz hlt2 => by have := (hl6 z hz).1; omega)
                        have hw6 := hU6.size
                        clear hown1 hgr1 hB6 hg6 hl6 hc8
                        by_cases h0 : 0 ≤ t
                        · obtain ⟨tn, rfl⟩ := Int.eq_ofNat_of_zero_le h0
                          have htl : tn < rl.length := by omega
                          obtain ⟨g', rc', e9, _, hgl, hgt⟩ := HO.out.nth tn htl
                          injection e9 with e9 _ e10
                          subst e10
                          subst e9
                          have hgt6 := hU6.cell hgt (by simp)
                          have hta := HTA.out
                          rw [if_pos h0, Int.toNat_natCast] at hta
                          have HTA2 := Lib.hid hta
                          have d0 : decide ((0 : Int) ≤ (tn : Int)) = true := by simp
                          clear hta hgt h0
                          generalize rl.getD tn 0 = vt at hgt6 HTA2
                          go_wp2_with (at_builtin; refine stop_here ?_)
                          refine Hid.mk ?_
                          have hc9 := cell_of (heap_alloc_new w6 (.cells #[.int .i64 vt] 3))
                          refine (wpList_append_own_at _ rfl _ _ 35 rfl wo.heap.size 3 i0 (.int .i64 0) 1 8 Tryd.underlying35 HI.out HZ0.out HZ1.out HZ2.out rfl (by decide) _ _ _ rfl (HA6.out.alloc _) ⟨w6.heap.size, 0, none⟩ 1 1 [.int .i64 vt] rfl rfl ?b1 ?b2 ?b3 ?b4 ?b5 ?b6)
                          case b1 =>
                            intro jj uu hjj
                            rw [Addr.add_lit, Nat.zero_add, hc9]
                            simpa using hjj
                          case b2 => simp [Value.oneCell']
                          case b3 => unfold maxLen; omega
                          case b4 => omega
                          case b5 => simp; omega
                          case b6 =>
                            intro v2 w7 hown2 hgr2 _ _
                            obtain ⟨hA7, hg7, hl7⟩ := HA6.out.push hown2 hgr2
                            have HB7 := Lib.hid (HB6.out.upd hg7 (fun z hz hm => own_ne HB6.out HA6.out (by decide) z hz (Option.mem_toList.1 hm)))
                            have HA7 := Lib.hid hA7
                            have hU7 : Upd [] wo w7 := hU6.trans' hg7 (fun z hz hlt2 => by have := (hl7 z hz).1; omega)
                            clear hown2 hgr2 hA7 hg7 hl7 hc9
                            go_wp2_with fail
                            go_roundw
                            case rel => exact ⟨q + 1, by omega, by go_num, by rw [HTA2.out]; exact HA7.out, by rw [HTB.out]; exact HB7.out, hU7⟩
                            case measure => simp [intOf]; omega
                        · have d0 : decide ((0 : Int) ≤ t) = false := by simp; omega
                          have hta := HTA.out
                          rw [if_neg h0] at hta
                          have HTA2 := Lib.hid hta
                          clear hta h0
                          go_wp2_with (at_builtin; refine stop_here ?_)
                          refine Hid.mk ?_
                          have hc9 := cell_of (heap_alloc_new w6 (.cells #[.int .i64 0] 3))
                          refine (wpList_append_own_at _ rfl _ _ 35 rfl wo.heap.size 3 i0 (.int .i64 0) 1 8 Tryd.underlying35 HI.out HZ0.out HZ1.out HZ2.out rfl (by decide) _ _ _ rfl (HA6.out.alloc _) ⟨w6.heap.size, 0, none⟩ 1 1 [.int .i64 0] rfl rfl ?f1 ?f2 ?f3 ?f4 ?f5 ?f6)
                          case f1 =>
                            intro jj uu hjj
                            rw [Addr.add_lit, Nat.zero_add, hc9]
                            simpa using hjj
                          case f2 => simp [Value.oneCell']
                          case f3 => unfold maxLen; omega
                          case f4 => omega
                          case f5 => simp; omega
                          case f6 =>
                            intro v2 w7 hown2 hgr2 _ _
                            obtain ⟨hA7, hg7, hl7⟩ := HA6.out.push hown2 hgr2
                            have HB7 := Lib.hid (HB6.out.upd hg7 (fun z hz hm => own_ne HB6.out HA6.out (by decide) z hz (Option.mem_toList.1 hm)))
                            have HA7 := Lib.hid hA7
                            have hU7 : Upd [] wo w7 := hU6.trans' hg7 (fun z hz hlt2 => by have := (hl7 z hz).1; omega)
                            clear hown2 hgr2 hA7 hg7 hl7 hc9
                            go_wp2_with fail
                            go_roundw
                            case rel => exact ⟨q + 1, by omega, by go_num, by rw [HTA2.out]; exact HA7.out, by rw [HTB.out]; exact HB7.out, hU7⟩
                            case measure => simp [intOf]; omega
                  · obtain rfl : q = rs.length := by omega
                    as_aux_lemma =>
                      rw [List.take_length] at hA hB
                      obtain ⟨bA, hiA, _⟩ := hA.ints
                      obtain ⟨bB, hiB, _⟩ := hB.ints
                      obtain ⟨pA, cA, rfl⟩ := hA.shape
                      have hH9 := hH.upd0 hU9
                      have HMO := Lib.hid (HM.out.low hU9 (by simp)).objs
                      have hU39 := hU.trans hU9
                      have HHH := Lib.hid (shape_any L hv hmv S pA cA bA (rs.map (rootR rl)) _ hH9 (fun z hz => by have := hLC.out z hz; have := hU9.size; omega) HS.out.wide.rng (by simp; omega) (by
                        rcases hiA.1 with ⟨_, h2⟩ | ⟨c9, h2⟩
                        · exact .inl h2
                        · injection h2 with h2 _ _
                          exact .inr h2) hiA.2 (by
                        intro r hr
                        obtain ⟨z, _, rfl⟩ := List.mem_map.1 hr
                        have := rootR_bd HS.out hH.ok z
                        omega))
                      rw [List.length_map] at HHH
                      have HIB := Lib.hid hiB
                      clear hA hB hiA hiB
                      go_wp2_with fail
                      refine HHH.out.mono ?_
                      rintro e w10 ⟨uv, av, qs, ov, od, rfl, hst, hqs, hu10⟩
                      have HOB := Lib.hid (hst.objsV hqs)
                      obtain ⟨bN, hN⟩ := hst.nums
                      have HNU := Lib.hid hN
                      have hbx10 := (hU39.trans hu10).heap HB3.out (by simp)
                      have hx0 := cell_of hbx10 0
                      have hx1 := cell_of hbx10 1
                      clear hst hqs hN
                      have HRS := Lib.hid (rshape_any p.cs (.slice cp p.cs.length cc) (.slice mp p.ms.length mc) (.slice p1 ps.length c1) _ cb co bB (ps.map OP.o) (rs.map (rootN rl)) w10 (HCL3.out.upd (hU39.trans hu10) (by simp)) (HMO.out.upd hu10) (HIB.out.upd hu10 (.inr (by simp))) (by
                        have h1 := HS.out.twin.len
                        omega) (by simp; omega) (by omega) (fun o ho => by
                        obtain ⟨h1, h2, h3⟩ := HS.out.cl o ho
                        exact ⟨by omega, fun h0 => ⟨h2, h3 h0⟩⟩))
                      go_wp2_with fail
                      refine HRS.out.mono ?_
                      rintro e w11 ⟨uv2, av2, qs2, ov2, od2, rfl, hst2, hqs2, hu11⟩
                      have hob2 := objsV_row hst2.out (fun z hz => (hst2.vals z hz).1)
                      rw [hqs2] at hob2
                      obtain ⟨bM, hM2, _⟩ := IntsV.of_row hst2.ats
                      have hsh := shs_end HS.out (by omega) rs
                      have hbd := shs_bd HS.out (by omega) (rs.map (rootN rl))
                      have hob1 := HOB.out.upd hu11
                      have hn1 := HNU.out.upd hu11 (.inr (by simp))
                      rw [hsh] at hob1 hn1
                      have hU11 := (hU39.trans hu10).trans hu11
                      have HSO := Lib.hid (sobjs uv uv2 _ _ w11 hob1 hob2 hbd.1 hbd.2)
                      rw [decide_eq_true rfl] at HSO
                      have HN1 := Lib.hid hn1
                      have HM2 := Lib.hid hM2
                      have hnl : ((objGr p.cs (ps.map OP.o)).shapeN ((ps.map OP.o).length + 1) (rs.map (rootN rl))).2.length ≤ 1000000 := by
                        show ((objGr p.cs (ps.map OP.o)).roots (rs.map (rootN rl))).1.length ≤ 1000000
                        rw [groots_len]; simp; omega
                      clear hst2 hqs2 hob2 hM2 hsh hbd hob1 hn1 hx0 hx1 hbx10
                      go_wp2_with fail
                      refine HSO.out.mono ?_
                      rintro e w12 ⟨rfl, hu12⟩
                      have HSI := Lib.hid (sints av av2 _ _ _ _ w12 (HN1.out.upd hu12 (.inr (by simp))) (HM2.out.upd hu12 (.inr (by simp))) hnl)
                      rw [decide_eq_true rfl] at HSI
                      go_wp2_with fail
                      refine HSI.out.mono ?_
                      rintro e w13 ⟨rfl, hu13⟩
                      go_wp2_with fail
                      go_ret
                      exact ⟨rfl, HU3.out.trans ((hU11.trans hu12).trans hu13)⟩
    · have d1 : (!(c == 0)) = true := by simpa using hz
      go_wp2_with fail
      go_ret
      exact ⟨rfl, hU3⟩

end Go.Proofs.YtlkflkgohclbmaaDoor
