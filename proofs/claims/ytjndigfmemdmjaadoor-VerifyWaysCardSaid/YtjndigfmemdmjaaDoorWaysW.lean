/- VerifyWays: the law's walk. -/
import Derived.Test.YtjndigfmemdmjaaDoorFirstL
import Derived.Test.YtjndigfmemdmjaaDoorFirst7
import Derived.Test.YtjndigfmemdmjaaDoorAtW
import Derived.Test.YtjndigfmemdmjaaDoorOpenB
import Derived.Test.YtjndigfmemdmjaaDoorREff
import Derived.Test.YtjndigfmemdmjaaDoorNumA
import Derived.Test.YtjndigfmemdmjaaDoorLightP
import Derived.Test.YtjndigfmemdmjaaDoorRNext
import Derived.Test.YtjndigfmemdmjaaDoorVerL11
namespace Go.Proofs.YtjndigfmemdmjaaDoor
open Go.RowKit

theorem at_atV {s : Lk} {n pc : Nat} {u : List UInt8} (h : s.At pc u) (hn : pc < n) : atV s n (pc : Int) = .tuple #[.string (bs u), .bool true] := by
  unfold atV
  rw [Int.toNat_natCast, if_pos ⟨by omega, by omega, h.1⟩, h.2]
theorem mod_place (n : Int) (L : Nat) (h : 0 < L) : ∃ k : Nat, n % (L : Int) = (k : Int) ∧ k < L := by
  have h1 := Int.emod_nonneg n (show (L : Int) ≠ 0 by omega)
  have h2 := Int.emod_lt_of_pos n (show (0 : Int) < L by omega)
  exact ⟨(n % (L : Int)).toNat, by omega, by omega⟩
theorem Prg.Ok.szs {p : Prg} (h : p.Ok) {k : Nat} (hk : k < p.ms.length) : (p.ms.getD k default).params.size ≤ 12 ∧ (p.ms.getD k default).locals.size ≤ 12 ∧ 1 ≤ (p.ms.getD k default).code.length ∧ (p.ms.getD k default).code.length ≤ 120 := by
  have h1 := h.meth k hk
  unfold headCode at h1
  by_cases hc : 12 < (p.ms.getD k default).params.size ∨ (12 : Int) - (p.ms.getD k default).params.size < (p.ms.getD k default).locals.size ∨ (p.ms.getD k default).code.length < 1 ∨ 120 < (p.ms.getD k default).code.length
  · rw [if_pos hc] at h1; omega
  · omega
theorem Prg.Ok.cls_le {p : Prg} (h : p.Ok) : ∀ c ∈ p.cs, c.size ≤ 1000 := by
  intro c hc
  obtain ⟨j, hj, rfl⟩ := List.mem_iff_getElem.1 hc
  have h1 := h.cls j hj
  rw [List.getD_eq_getElem?_getD, List.getElem?_eq_getElem hj] at h1
  show (p.cs[j]'hj).size ≤ 1000
  have h1 : clsCode (p.cs[j]'hj) = 0 := h1
  unfold clsCode at h1
  by_cases hc : 10 < (p.cs[j]'hj).size
  · rw [if_pos hc] at h1; omega
  · omega
theorem ErrV.boxed {w : World} {E : Nat → Addr} {v : Value} {c : Int} {at_ : List Int} (h : ErrV w E v c at_) (hc : c ≠ 0) : ∃ tz tp, v = .iface tz (.pointer tp) := by
  rcases h.2 with ⟨_, rfl⟩ | ⟨b, _, _, _, _, rfl, _⟩
  · rcases h.1 with h0 | ⟨h1, h2⟩
    · exact absurd h0 hc
    · obtain ⟨k, rfl⟩ : ∃ k : Nat, c = 101 + (k : Int) := ⟨(c - 101).toNat, by omega⟩
      exact ⟨_, _, errC_at E k⟩
  · exact ⟨_, _, rfl⟩

set_option maxRecDepth 100000 in
set_option maxHeartbeats 8000000 in
theorem waysW_any (E : Nat → Addr) (p : Prg) (cv mv : Value) (n : Int) (wv : Value) (ways : List Bool) (w : World) (hS : SentAt w E) (hc : ClassAt w cv p.cs) (hm : MethsAt w mv p.ms) (hb : BoolsAt w wv ways) :
    Calls Tryd.prog 3 #[.agg #[cv, mv], .int .i64 n, wv] w fun e w' => e = .returned (.bool true) ∧ Upd [] w w' := by
  obtain ⟨wa, wc, rfl, hwx⟩ := hb
  have HW := Lib.hid hwx
  have HS := Lib.hid hS
  have HC := Lib.hid hc
  have HM := Lib.hid hm
  obtain ⟨cp, cc, rfl, _, hccl, hccm, _⟩ := hc
  obtain ⟨mp, mc, rfl, hml, hmm, hmx⟩ := hm
  have HMX := Lib.hid hmx
  clear hmx
  unfold maxLen at hccm hmm
  clear hwx hS
  have HU0 := Lib.hid ((Upd.refl [] w).alloc (.cells #[.slice cp p.cs.length cc, .slice mp p.ms.length mc] 25))
  have hB0 := heap_alloc_new w (.cells #[.slice cp p.cs.length cc, .slice mp p.ms.length mc] 25)
  have HZ0 : Hid ((w.alloc (.cells #[.slice cp p.cs.length cc, .slice mp p.ms.length mc] 25)).heap.size = w.heap.size + 1) := by show _ = _; simp
  go_enter Tryd.func3, Tryd.ntmps3
  go_wp2_with fail
  refine (first7_any E _ (HS.out.upd HU0.out)).mono ?_
  rintro e w1 ⟨rfl, hu1⟩
  have HU1 := Lib.hid (HU0.out.trans hu1)
  have hB1 := hu1.heap hB0 (by simp)
  clear hu1 hB0 HU0 HZ0
  have c0 : w1.cell? ⟨w.heap.size, 0, none⟩ = some (.slice cp p.cs.length cc) := by rw [cell_of hB1]; rfl
  have c1 : w1.cell? ⟨w.heap.size, 1, none⟩ = some (.slice mp p.ms.length mc) := by rw [cell_of hB1]; rfl
  clear hB1
  go_wp2_with fail
  refine (light_any p _ _ w1 (HC.out.upd HU1.out) (HM.out.upd HU1.out)).mono ?_
  rintro e w2 ⟨⟨lb, rfl⟩, hu2⟩
  have HU2 := Lib.hid (HU1.out.trans hu2)
  have c0 := hu2.cell c0 (by simp)
  have c1 := hu2.cell c1 (by simp)
  clear hu2 HU1
  cases lb with
  | false =>
    go_wp2_with fail
    go_ret
    exact ⟨rfl, HU2.out⟩
  | true =>
  by_cases hn0 : p.ms.length = 0
  · have d0 : ((p.ms.length : Int) == 0) = true := by rw [beq_iff_eq]; omega
    clear hn0
    go_wp2_with fail
    go_ret
    exact ⟨rfl, HU2.out⟩
  have d0 : ((p.ms.length : Int) == 0) = false := by rw [beq_eq_false_iff_ne]; omega
  have hpos : 0 < p.ms.length := by omega
  clear hn0
  by_cases h300 : 300 < ways.length
  · have d1 : decide ((300 : Int) < (ways.length : Int)) = true := by simp; omega
    go_wp2_with fail
    go_ret
    exact ⟨rfl, HU2.out⟩
  have d1 : decide ((300 : Int) < (ways.length : Int)) = false := by simp; omega
  have HOF := Lib.hid (ofV_any p (.slice cp p.cs.length cc) (.slice mp p.ms.length mc) E w2 (HS.out.upd HU2.out) (HC.out.upd HU2.out) (HM.out.upd HU2.out))
  go_wp2_with fail
  refine HOF.out.mono ?_
  rintro e w3 ⟨v3, rfl, hend, hu3⟩
  have HU3 := Lib.hid (HU2.out.trans hu3)
  have HIB : Hid (w.heap.size < w2.heap.size) := World.block_lt_of_cell? _ _ c0
  have c0 := hu3.cell c0 (by simp)
  have c1 := hu3.cell c1 (by simp)
  clear hu3 HU2 HOF
  rcases hend with ⟨c, at_, ev, h1, h2, rfl, h4⟩ | ⟨hok, k, c, pc, ev, hk, _, hbad, rfl, h4⟩ | ⟨hok, ib, ss, hl, hlk, rfl, hinfo, hib, hib2⟩
  · obtain ⟨tz, tp, rfl⟩ := h4.boxed h2
    clear h4 h1
    go_wp2_with fail
    go_ret
    exact ⟨rfl, HU3.out⟩
  · obtain ⟨tz, tp, rfl⟩ := h4.boxed (by have := look_code hbad; omega)
    clear h4 hbad
    go_wp2_with fail
    go_ret
    exact ⟨rfl, HU3.out⟩
  have HLK := Lib.hid hlk
  have HI := Lib.hid hinfo
  have HL := Lib.hid hl
  have HOK := Lib.hid hok
  clear hlk hinfo hl hok hib2
  have hmany := HOK.out.many
  go_wp2_with fail
  refine (number_any n p.ms.length _ (by omega) (by omega)).mono ?_
  rintro e w' ⟨rfl, rfl⟩
  obtain ⟨k, hk, hkl⟩ := mod_place n p.ms.length hpos
  rw [hk]
  clear hk
  obtain ⟨mb, mo, rfl, _, q0, q1, q2, kv, q3, hcode⟩ := HMX.out k hkl
  have hsz := HOK.out.szs hkl
  have HLKK := Lib.hid (HLK.out k hkl)
  generalize hmk : p.ms.getD k default = m at q0 q1 q2 q3 hcode hsz HLKK
  have HMK := Lib.hid hmk
  clear hmk
  generalize hsk : ss.getD k default = sk at HLKK
  have HSK := Lib.hid hsk
  clear hsk
  have HCODE := Lib.hid hcode
  obtain ⟨ka, kc, rfl, hkl1, hkm, hkc⟩ := hcode
  unfold maxLen at hkm
  have HKC := Lib.hid hkc
  clear hkc
  have m0 := HU3.out.cell q0 (by simp)
  have m1 := HU3.out.cell q1 (by simp)
  have m2 := HU3.out.cell q2 (by simp)
  have m3 := HU3.out.cell q3 (by simp)
  clear q0 q1 q2 q3
  go_wp2_with fail
  have HU4 := Lib.hid (HU3.out.alloc (.cells #[.string m.params, .string m.locals, .string m.ret, .slice ka m.code.length kc] 37))
  have HI4 := Lib.hid (HI.out.upd ((Upd.refl [] w3).alloc (.cells #[.string m.params, .string m.locals, .string m.ret, .slice ka m.code.length kc] 37)))
  have hb := heap_alloc_new w3 (.cells #[.string m.params, .string m.locals, .string m.ret, .slice ka m.code.length kc] 37)
  have c0 := ((Upd.refl [] w3).alloc (.cells #[.string m.params, .string m.locals, .string m.ret, .slice ka m.code.length kc] 37)).cell c0 (by simp)
  have c1 := ((Upd.refl [] w3).alloc (.cells #[.string m.params, .string m.locals, .string m.ret, .slice ka m.code.length kc] 37)).cell c1 (by simp)
  have HIB3 : Hid (ib < w3.heap.size) := by obtain ⟨_, _, _, h, _⟩ := HI.out; exact lt_of_heap h
  clear m0 m1 m2 m3 HI
  generalize w3.alloc (.cells #[.string m.params, .string m.locals, .string m.ret, .slice ka m.code.length kc] 37) = w4 at HU4 HI4 hb c0 c1 ⊢
  generalize w3.heap.size = B at hb HIB3 ⊢
  have HB := Lib.hid hb
  have HC0 := Lib.hid c0
  have HC1 := Lib.hid c1
  have HIW : Hid (w.heap.size < ib) := Nat.lt_of_lt_of_le HIB.out hib
  clear hb c0 c1 HU3 HIB hib
  go_loopw [11, 12, 13] (fun pv sv iv wr => ∃ (pc i : Nat) (u : List UInt8), i ≤ ways.length ∧ pv = .int .i64 pc ∧ sv = .string (bs u) ∧ iv = .int .i64 i ∧ Hid (sk.At pc u) ∧ Hid (InfoAt wr ib p ss (2 * i)) ∧ Hid (Upd [ib] w4 wr)) (fun _ _ iv _ => ways.length - (intOf iv).toNat)
  case atStart => exact ⟨0, 0, [], by omega, rfl, rfl, rfl, Lk.at_start (by omega) HLKK.out, HI4.out, Upd.refl _ _⟩
  case round =>
    obtain ⟨pc, i, u, hi, rfl, rfl, rfl, HAT, HI, HV⟩ := hrel
    obtain ⟨wo, rfl⟩ : ∃ wo : World, wo = wr := ⟨_, rfl⟩
    generalize hsu : bs u = S
    have HSU := Lib.hid hsu
    clear hsu
    have HU : Hid (Upd [] w wo) := HU4.out.trans' HV.out (fun q hq hl => by
      simp at hq
      have := HIW.out
      omega)
    clear HI4
    by_cases hlt : i < ways.length
    · obtain ⟨wb, wo2, rfl, hwc⟩ := HW.out i hlt
      have HWC := Lib.hid hwc
      clear hwc
      have hpc := Lk.at_lt (by omega) HLKK.out HAT.out
      obtain ⟨t, hbeh, hmo, hu12, hret, hnx⟩ := Lk.at_next (by omega) HLKK.out HAT.out
      have HBEH := Lib.hid hbeh
      have HRET := Lib.hid hret
      have HNX := Lib.hid hnx
      have HNG : Hid (∀ x ∈ nextL m.code pc, 0 ≤ x) := by have h := next_ge HOK.out k hkl pc (by rw [HMK.out]; exact hpc); rwa [HMK.out] at h
      have HAV := Lib.hid (at_atV HAT.out hpc)
      have HST := Lib.hid (stack_in ib p ss (2 * i) k pc wo HI.out HL.out hkl (by rw [HMK.out]; omega) (by omega) (by omega))
      rw [HMK.out, HSK.out, HAV.out, HSU.out] at HST
      clear hbeh hret hnx HAV HAT
      have hss : S.size = u.length := by rw [← HSU.out]; exact bs_size u
      have h12 : S.size ≤ 12 := by omega
      have hmo2 : S.size ≤ sk.most := by omega
      have e1 : (S.toList != S.toList) = false := by simp
      have e2 : decide ((S.size : Int) > (sk.most : Int)) = false := by simp; omega
      have e3 : decide ((S.size : Int) > 12) = false := by simp; omega
      have e2n : decide (sk.most < S.size) = false := by simp; omega
      have HSS := Lib.hid hss
      clear hss hmo
      go_wp2_with fail
      refine HST.out.mono ?_
      rintro e w5 ⟨rfl, hi5, hu5⟩
      have HI5 := Lib.hid hi5
      have HV5 := Lib.hid (HV.out.trans hu5)
      have HMS := Lib.hid (most_in ib p ss (2 * i + 1) k w5 hi5 HL.out hkl (by omega) (by omega))
      rw [HSK.out] at HMS
      clear hi5 hu5 HST HI
      go_wp2_with fail
      refine HMS.out.mono ?_
      rintro e w6 ⟨rfl, hi6, hu6⟩
      have HI6 := Lib.hid hi6
      have HV6 := Lib.hid (HV5.out.trans hu6)
      clear hi6 hu6 HMS HV5 HI5
      have hB6 := HV6.out.heap HB.out (by simp; have := HIB3.out; omega)
      have b0 : w6.cell? ⟨B, 0, none⟩ = some (.string m.params) := by rw [cell_of hB6]; rfl
      have b1 : w6.cell? ⟨B, 1, none⟩ = some (.string m.locals) := by rw [cell_of hB6]; rfl
      have b2 : w6.cell? ⟨B, 2, none⟩ = some (.string m.ret) := by rw [cell_of hB6]; rfl
      have b3 : w6.cell? ⟨B, 3, none⟩ = some (.slice ka m.code.length kc) := by rw [cell_of hB6]; rfl
      have c0 := HV6.out.cell HC0.out (by simp; have := HIW.out; omega)
      have c1 := HV6.out.cell HC1.out (by simp; have := HIW.out; omega)
      have HU6 : Hid (Upd [] w w6) := HU4.out.trans' HV6.out (fun q hq hl => by
        simp at hq
        have := HIW.out
        omega)
      obtain ⟨kb, ko, rfl, hbd, x0, x1, x2, x3⟩ := HKC.out pc hpc
      have x0 := HU6.out.cell x0 (by simp)
      have x1 := HU6.out.cell x1 (by simp)
      have x2 := HU6.out.cell x2 (by simp)
      have x3 := HU6.out.cell x3 (by simp)
      have HIN := Lib.hid (ins_in (by have := HOK.out.ins k hkl pc (by rw [HMK.out]; exact hpc); rwa [HMK.out] at this))
      generalize m.code.getD pc default = x at HBEH hbd x0 x1 x2 x3 HIN
      obtain ⟨op, a, b, nn⟩ := x
      simp only at x0 x1 x2 x3
      clear hB6 hbd HV HU
      go_upto_block 2 with fail
      have hx := heap_alloc_new w6 (.cells #[.int .i64 op, .int .i64 a, .int .i64 b, .int .i64 nn] 42)
      have hal := (Upd.refl [] w6).alloc (.cells #[.int .i64 op, .int .i64 a, .int .i64 b, .int .i64 nn] 42)
      have b0 := hal.cell b0 (by simp)
      have b1 := hal.cell b1 (by simp)
      have b2 := hal.cell b2 (by simp)
      have b3 := hal.cell b3 (by simp)
      have c0 := hal.cell c0 (by simp)
      have c1 := hal.cell c1 (by simp)
      have HI7 := Lib.hid (HI6.out.upd hal)
      have HU7 := Lib.hid (HU6.out.trans hal)
      have HV7 := Lib.hid (HV6.out.trans (hal.mono (T := [ib]) (by simp)))
      clear hal x0 x1 x2 x3 HI6 HU6 HV6
      generalize w6.alloc (.cells #[.int .i64 op, .int .i64 a, .int .i64 b, .int .i64 nn] 42) = w7 at *
      generalize w6.heap.size = xb at *
      have y0 : w7.cell? ⟨xb, 0, none⟩ = some (.int .i64 op) := by rw [cell_of hx]; rfl
      have y1 : w7.cell? ⟨xb, 1, none⟩ = some (.int .i64 a) := by rw [cell_of hx]; rfl
      have y2 : w7.cell? ⟨xb, 2, none⟩ = some (.int .i64 b) := by rw [cell_of hx]; rfl
      have y3 : w7.cell? ⟨xb, 3, none⟩ = some (.int .i64 nn) := by rw [cell_of hx]; rfl
      clear hx e1 e2 e2n e3 hmo2
      go_cut [12, 17, 18, 19] from 100 to 179 (fun sv v17 v18 v19 wx => sv = .string (bs t) ∧ Hid (Upd [] w7 wx))
      case first =>
        by_cases h5 : op = 5
        · subst h5
          obtain ⟨h1, ht⟩ := behL_dup HBEH.out rfl
          have HT : Hid (S ++ S.extract (S.size - 1) S.size = bs t) := by
            show _ = _
            rw [ht, ← HSU.out, bs_extract, bs_append, bs_size, List.take_of_length_le (by rw [List.length_drop]; omega)]
          have hs1 : 1 ≤ S.size := by have := HSS.out; omega
          clear ht h1
          go_wp2_with fail
          go_meet
          exact ⟨by rw [HT.out], Upd.refl _ _⟩
        by_cases h6 : op = 6
        · subst h6
          obtain ⟨h1, ht⟩ := behL_pop HBEH.out rfl
          have HT : Hid (S.extract 0 (S.size - 1) = bs t) := by
            show _ = _
            rw [ht, ← HSU.out, bs_extract, bs_size]
            rfl
          have hs1 : 1 ≤ S.size := by have := HSS.out; omega
          clear ht h1 h5
          go_wp2_with fail
          go_meet
          exact ⟨by rw [HT.out], Upd.refl _ _⟩
        by_cases h7 : op = 7
        · subst h7
          obtain ⟨h1, ht⟩ := behL_swap HBEH.out rfl
          have HT : Hid (S.extract 0 (S.size - 2) ++ S.extract (S.size - 1) S.size ++ S.extract (S.size - 2) (S.size - 1) = bs t) := by
            show _ = _
            rw [ht, ← HSU.out, bs_extract, bs_extract, bs_extract, bs_append, bs_append, bs_size, List.take_of_length_le (l := u.drop (u.length - 1)) (by rw [List.length_drop]; omega), List.drop_take]
            rfl
          have hs1 : 2 ≤ S.size := by have := HSS.out; omega
          clear ht h1 h5 h6
          go_wp2_with fail
          have s0 : IntKind.i64.wrap ((S.size : Int) - 2) = ((S.size - 2 : Nat) : Int) := by rw [IntWalk.i64_in _ (by omega)]; omega
          have s1 : IntKind.i64.wrap ((S.size : Int) - 1) = ((S.size - 1 : Nat) : Int) := by rw [IntWalk.i64_in _ (by omega)]; omega
          have s2 : ((S.size - 2 : Nat) : Int) ≤ ((S.size - 1 : Nat) : Int) := by omega
          have s3 : ((S.size - 1 : Nat) : Int) ≤ (S.size : Int) := by omega
          have s4 : ((S.size - 2 : Nat) : Int) ≤ (S.size : Int) := by omega
          have s5 : ((S.size - 2 : Nat) : Int).toNat = S.size - 2 := by omega
          have s6 : ((S.size - 1 : Nat) : Int).toNat = S.size - 1 := by omega
          go_quiet (fail)
          go_wp2_with fail
          go_meet
          exact ⟨by rw [HT.out], (Upd.refl _ _).drewN _⟩
        · have HEF : ∃ pop push, effL p m ⟨op, a, b, nn⟩ = some (pop, push) := by
            cases he : effL p m ⟨op, a, b, nn⟩ with
            | none =>
              rcases eff_none HIN.out.op he with h | h | h
              · exact absurd h h5
              · exact absurd h h6
              · exact absurd h h7
            | some r => exact ⟨r.1, r.2, rfl⟩
          obtain ⟨pop, push, he⟩ := HEF
          obtain ⟨g1, g2, g3⟩ := behL_eff HBEH.out h5 h6 h7 he
          have HRE := Lib.hid (reffect_any p k _ _ ⟨op, a, b, nn⟩ w7 (HC.out.upd HU7.out) (HM.out.upd HU7.out) hkl (by omega) (by have := HOK.out.few; omega) HOK.out.cls_le (by rw [HMK.out]; omega) (by rw [HMK.out]; omega) (by rw [HMK.out]; exact HIN.out))
          rw [HMK.out, he] at HRE
          have hpp : (bs pop).size ≤ S.size := by rw [bs_size]; have := HSS.out; omega
          have HX : Hid (S.extract (S.size - (bs pop).size) S.size = bs pop) := by
            show _ = _
            rw [← HSU.out, bs_extract, bs_size, bs_size]
            rw [List.take_of_length_le (by rw [List.length_drop]; omega), g2]
          have HT : Hid (S.extract 0 (S.size - (bs pop).size) ++ bs push = bs t) := by
            show _ = _
            rw [g3, ← HSU.out, bs_extract, bs_append, bs_size, bs_size]
            rfl
          have hps : (bs push).size ≤ 12 := by rw [bs_size]; exact (eff_sizes HOK.out (k := k) (x := ⟨op, a, b, nn⟩) (by rw [HMK.out]; exact he)).2
          have d5 : (op == 5) = false := by rw [beq_eq_false_iff_ne]; exact h5
          have d6 : (op == 6) = false := by rw [beq_eq_false_iff_ne]; exact h6
          have d7 : (op == 7) = false := by rw [beq_eq_false_iff_ne]; exact h7
          clear he g1 g2 g3 h5 h6 h7
          unfold effV at HRE
          dsimp only at HRE
          generalize bs pop = P at hpp HX HT HRE
          generalize bs push = Q at HT HRE hps
          go_wp2_with fail
          refine HRE.out.mono ?_
          rintro e w8 ⟨rfl, hu8⟩
          have HU8 := Lib.hid hu8
          clear hu8 HRE
          have hx := HX.out
          have e4 : (P.toList != P.toList) = false := by simp
          go_wp2_with fail
          go_meet
          exact ⟨by rw [HT.out], HU8.out⟩
      case rest =>
        obtain ⟨rfl, HU8⟩ := hcut
        have b0 := HU8.out.cell b0 (by simp)
        have b1 := HU8.out.cell b1 (by simp)
        have b2 := HU8.out.cell b2 (by simp)
        have b3 := HU8.out.cell b3 (by simp)
        have HUC := Lib.hid (HU7.out.trans HU8.out)
        have HRN := Lib.hid (rnext_any m.params m.locals m.ret _ m.code pc wc (HCODE.out.upd HUC.out) (by omega))
        have HNL := Lib.hid (nextL_len m.code pc)
        clear y0 y1 y2 y3 c0 c1 HBEH HIN
        go_wp2_with fail
        refine HRN.out.mono ?_
        rintro e w9 ⟨nv, rfl, hown, hu9⟩
        have HU9 := Lib.hid (HUC.out.trans hu9)
        have HV9 : Hid (Upd [ib] w4 w9) := HV7.out.trans ((HU8.out.trans hu9).mono (T := [ib]) (by simp))
        have HI9 := Lib.hid ((HI7.out.upd HU8.out).upd hu9)
        have b3 := hu9.cell b3 (by simp)
        have hwc := HU9.out.cell HWC.out (by simp)
        obtain ⟨g, ⟨hform, hcell⟩, _⟩ := hown.ints
        have HCELL := Lib.hid hcell
        clear hown hu9 HRN b0 b1 b2 hcell HU8 HI7 HV7 HUC HU7
        generalize nextL m.code pc = L at hform HCELL HNX HNG HNL HRET
        rcases hform with ⟨rfl, rfl⟩ | ⟨c9, rfl⟩
        · obtain rfl : t = [] := HRET.out rfl
          rw [show bs [] = ⟨#[]⟩ from rfl]
          go_wp2_with fail
          go_ret
          exact ⟨rfl, HU9.out⟩
        · match L, HCELL, HNX, HNG, HNL, HRET with
          | [], HCELL, HNX, HNG, HNL, HRET =>
            obtain rfl : t = [] := HRET.out rfl
            rw [show bs [] = ⟨#[]⟩ from rfl]
            go_wp2_with fail
            go_ret
            exact ⟨rfl, HU9.out⟩
          | [a0], HCELL, HNX, HNG, HNL, HRET =>
            have k0 : w9.cell? ⟨g, 0, none⟩ = some (.int .i64 a0) := HCELL.out 0 (by simp)
            have h0 := HNG.out a0 (by simp)
            obtain ⟨q, rfl⟩ := Int.eq_ofNat_of_zero_le h0
            have hq := (HNX.out q (by simp)).1
            have HQ := Lib.hid (HNX.out q (by simp)).2
            have hq2 : q < m.code.length := by omega
            clear HCELL HNX HNG HNL HRET h0 hq
            cases hbit : ways.getD i false with
            | true =>
              rw [hbit] at hwc
              clear hbit
              go_wp2_with fail
              go_roundw
              case rel => exact ⟨q, i + 1, t, by omega, rfl, rfl, by go_num, HQ.out, by have := HI9.out; rwa [show (2 * (i : Int) + 1 + 1) = 2 * ((i + 1 : Nat) : Int) by omega] at this, HV9.out⟩
              case measure => simp [intOf]; omega
            | false =>
              rw [hbit] at hwc
              clear hbit
              go_wp2_with fail
              go_roundw
              case rel => exact ⟨q, i + 1, t, by omega, rfl, rfl, by go_num, HQ.out, by have := HI9.out; rwa [show (2 * (i : Int) + 1 + 1) = 2 * ((i + 1 : Nat) : Int) by omega] at this, HV9.out⟩
              case measure => simp [intOf]; omega
          | [a0, a1], HCELL, HNX, HNG, HNL, HRET =>
            have k0 : w9.cell? ⟨g, 0, none⟩ = some (.int .i64 a0) := HCELL.out 0 (by simp)
            have k1 : w9.cell? ⟨g, 1, none⟩ = some (.int .i64 a1) := HCELL.out 1 (by simp)
            have h0 := HNG.out a0 (by simp)
            have h1 := HNG.out a1 (by simp)
            obtain ⟨q, rfl⟩ := Int.eq_ofNat_of_zero_le h0
            obtain ⟨r, rfl⟩ := Int.eq_ofNat_of_zero_le h1
            have hq := (HNX.out q (by simp)).1
            have hr := (HNX.out r (by simp)).1
            have HQ := Lib.hid (HNX.out q (by simp)).2
            have HR := Lib.hid (HNX.out r (by simp)).2
            have hq2 : q < m.code.length := by omega
            have hr2 : r < m.code.length := by omega
            clear HCELL HNX HNG HNL HRET h0 h1 hq hr
            cases hbit : ways.getD i false with
            | true =>
              rw [hbit] at hwc
              clear hbit
              go_wp2_with fail
              go_roundw
              case rel => exact ⟨r, i + 1, t, by omega, rfl, rfl, by go_num, HR.out, by have := HI9.out; rwa [show (2 * (i : Int) + 1 + 1) = 2 * ((i + 1 : Nat) : Int) by omega] at this, HV9.out⟩
              case measure => simp [intOf]; omega
            | false =>
              rw [hbit] at hwc
              clear hbit
              go_wp2_with fail
              go_roundw
              case rel => exact ⟨q, i + 1, t, by omega, rfl, rfl, by go_num, HQ.out, by have := HI9.out; rwa [show (2 * (i : Int) + 1 + 1) = 2 * ((i + 1 : Nat) : Int) by omega] at this, HV9.out⟩
              case measure => simp [intOf]; omega
          | a0 :: a1 :: a2 :: l, HCELL, HNX, HNG, HNL, HRET =>
            exfalso
            have := HNL.out
            simp at this
    · obtain rfl : i = ways.length := by omega
      go_wp2_with fail
      go_ret
      exact ⟨rfl, HU.out⟩
end Go.Proofs.YtjndigfmemdmjaaDoor
