/- GcPlays: the walk. -/
import Derived.Test.YtneeljhjfmcdoaaDoorPlD1
import Derived.Test.YtneeljhjfmcdoaaDoorPlD2
import Derived.Test.YtneeljhjfmcdoaaDoorPlD
import Derived.Test.YtneeljhjfmcdoaaDoorPlD4
import Derived.Test.YtneeljhjfmcdoaaDoorOpenE
import Derived.Test.YtneeljhjfmcdoaaDoorLightP
import Derived.Test.YtneeljhjfmcdoaaDoorMay3
namespace Go.Proofs.YtneeljhjfmcdoaaDoor
open Go.RowKit

section
variable {w0 w : World} {xb : Nat} {L : HL} {hv hmv cv mv : Value} {cb co : Nat} {S : Hp} {rv ov nv : Value} {rs ts : List Int} {ps : List OP} {R : Int → Int → Prop} {kk : Nat}
theorem do_any (h : PlAt w0 w xb L hv hmv cv mv cb co S rv ov nv rs ts ps) (hk : PlOk kk S R rs ts ps) (he : S.Even) (hkk : kk ≤ 80) (kd a b n v : Int) (hvb : -9223372036854775808 ≤ v ∧ v ≤ 9223372036854775807) :
    Calls Tryd.prog 30 #[.pointer (some ⟨xb, 0, none⟩), .agg #[.int .i64 kd, .int .i64 a, .int .i64 b, .int .i64 n, .int .i64 v]] w fun e w' => e = .returned (.bool true) ∧ PlEnd w0 xb hv hmv cv mv cb co (kk + 1) S.cs w' := by
  by_cases h1 : kd = 1
  · subst h1; exact do1_any h hk he hkk a b n v
  by_cases h2 : kd = 2
  · subst h2; exact do2_any h hk he hkk a b n v hvb
  by_cases h3 : kd = 3
  · subst h3; exact do3_any h hk he hkk a b n v
  exact do4_any h hk he hkk kd a b n v h1 h2 h3
end

theorem cls_low {w : World} {v : Value} {b o : Nat} {cs : List ByteArray} (h : ClsAt w v b o cs) (h0 : 0 < w.heap.size) : ∃ b' o', ClsAt w v b' o' cs ∧ b' < w.heap.size := by
  by_cases hc : cs = []
  · subst hc
    refine ⟨0, 0, ⟨?_, fun i hi => by simp at hi⟩, h0⟩
    rcases h.1 with h1 | ⟨x, cap, h1, h2⟩
    · exact .inl h1
    · exact .inr ⟨x, cap, h1, .inl rfl⟩
  · have h1 := h.2 0 (by cases cs with | nil => exact absurd rfl hc | cons a t => simp)
    refine ⟨b, o, h, ?_⟩
    exact World.block_lt_of_cell? w _ h1

theorem play_start {w4 w5 : World} {L : HL} {hv hmv cv mv : Value} {cb co : Nat} {cs : List ByteArray} {lim nur : Int} (hg : GcAt w4 w5 L hv hmv (Hp.new cs lim nur)) (hc : ClsAt w5 cv cb co cs) (hcb : cb < w4.heap.size) (ht : 1 < w4.heap.size) :
    PlEnd w4 w5.heap.size hv hmv cv mv cb co 0 cs (w5.alloc (.cells #[cv, mv, .pointer (some ⟨L.hb, 0, none⟩), .slice none 0 0, .slice none 0 0, .slice none 0 0] 72)) := by
  have hu := (Upd.refl [] w5).alloc (.cells #[cv, mv, .pointer (some ⟨L.hb, 0, none⟩), .slice none 0 0, .slice none 0 0, .slice none 0 0] 72)
  have hs := hg.up.size
  refine ⟨L, Hp.new cs lim nur, _, _, _, _, [], [], [], ⟨heap_alloc_new _ _, hg.upd hu, OwnI.nil _ _ _, OwnI.nil _ _ _, Mir.nil _ _, hc.upd hu (by simp), ⟨hcb, hs, by omega⟩, by simp, fun i hi => ⟨fun e => by have := hg.hi i hi; omega, by simp [Value.ownBlock], by simp [Value.ownBlock], by simp [Value.ownBlock], by simp⟩⟩, ⟨Bd.start, ⟨rfl, by simp⟩, by simp, by simp, by omega, by simp⟩, ?_, rfl⟩
  unfold Hp.Even
  simp only [Hp.new]
  omega

set_option maxRecDepth 100000 in
set_option maxHeartbeats 16000000 in
theorem playsW_any (p : Prg) (cv mv vl : Value) (lim nur : Int) (n : Nat) (w : World) (hc : ClassAt w cv p.cs) (hm : MethsAt w mv p.ms) (hl : DosAt w vl n) (hT : TzAt w) :
    Calls Tryd.prog 5 #[.agg #[cv, mv], .int .i64 lim, .int .i64 nur, vl] w fun e w' => e = .returned (.bool true) ∧ Upd [] w w' := by
  obtain ⟨la, lc, rfl, hl1, hl2, hl3⟩ := hl
  obtain ⟨cp, cc, rfl⟩ := (show ∃ a c, cv = .slice a p.cs.length c by obtain ⟨a, c, h, _⟩ := hc; exact ⟨a, c, h⟩)
  obtain ⟨mp, mc, rfl⟩ := (show ∃ a c, mv = .slice a p.ms.length c by obtain ⟨a, c, h, _⟩ := hm; exact ⟨a, c, h⟩)
  unfold maxLen at hl2
  have HL3 := Lib.hid hl3
  clear hl3 hl1
  have hfc := fault_code
  have hcA := hc.upd ((Upd.refl [] w).alloc (.cells #[.slice cp p.cs.length cc, .slice mp p.ms.length mc] 28))
  have hmA := hm.upd ((Upd.refl [] w).alloc (.cells #[.slice cp p.cs.length cc, .slice mp p.ms.length mc] 28))
  have hbox := heap_alloc_new w (.cells #[.slice cp p.cs.length cc, .slice mp p.ms.length mc] 28)
  have hUA := (Upd.refl [] w).alloc (.cells #[.slice cp p.cs.length cc, .slice mp p.ms.length mc] 28)
  have HTW := Lib.hid hT
  have HF := Lib.hid (first12_any _ (hT.upd hUA (by simp)))
  go_enter Tryd.func5, Tryd.ntmps5
  go_wp2_with fail
  refine HF.out.mono ?_
  rintro e w1 ⟨rfl, hu1⟩
  have hc1 := hcA.upd hu1
  have hm1 := hmA.upd hu1
  have hb1 := hu1.heap hbox (by simp)
  have hU1 := hUA.trans hu1
  clear hcA hmA hbox hUA hu1 HF hc hm hT
  have hb10 := cell_of hb1 0
  have hb11 := cell_of hb1 1
  go_wp2_with fail
  refine (light_any p _ _ _ hc1 hm1).mono ?_
  rintro e w2 ⟨⟨b, rfl⟩, hu2⟩
  have hc2 := hc1.upd hu2
  have hm2 := hm1.upd hu2
  have hb2 := hu2.heap hb1 (by simp)
  have hU2 := hU1.trans hu2
  clear hc1 hm1 hb10 hb11 hb1 hU1 hu2
  have hb20 := cell_of hb2 0
  have hb21 := cell_of hb2 1
  cases b with
  | false =>
    go_wp2_with fail
    go_ret
    exact ⟨rfl, hU2⟩
  | true =>
    go_wp2_with fail
    refine (may_any p _ _ _ hc2 hm2).mono ?_
    rintro e w3 ⟨c, s, b, at_, rfl, hia, hmay, hu3⟩
    obtain ⟨sp, sc, rfl⟩ := hia.form
    clear hia
    have hc3 := hc2.upd hu3
    have hb3 := hu3.heap hb2 (by simp)
    have hU3 := hU2.trans hu3
    clear hc2 hm2 hb20 hb21 hb2 hU2 hu3
    have hb30 := cell_of hb3 0
    have hb31 := cell_of hb3 1
    by_cases hz : c = 0
    · subst hz
      have hok := hmay.ok
      clear hmay
      by_cases hn : 80 < n
      · have d1 : decide ((80 : Int) < (n : Int)) = true := by simp; omega
        go_wp2_with fail
        go_ret
        exact ⟨rfl, hU3⟩
      have d1 : decide ((80 : Int) < (n : Int)) = false := by simp; omega
      have hq0 := Int.emod_nonneg lim (show (4001 : Int) ≠ 0 by omega)
      have hq1 := Int.emod_lt_of_pos lim (show (0 : Int) < 4001 by omega)
      obtain ⟨cb0, co0, hcl0⟩ := hc3.cls
      obtain ⟨cb, co, hcl, hcb⟩ := cls_low hcl0 (by have := lt_of_heap hb3; omega)
      clear hcl0
      go_wp2_with fail
      refine (number_any lim 4001 w3 (by omega) (by omega)).mono ?_
      rintro e w' ⟨rfl, rfl⟩
      generalize lim % 4001 = lm at hq0 hq1 ⊢
      have hr0 := Int.emod_nonneg nur (show lm + 1 ≠ 0 by omega)
      have hr1 := Int.emod_lt_of_pos nur (show (0 : Int) < lm + 1 by omega)
      go_wp2_with fail
      refine (number_any nur (lm + 1) w3 (by omega) (by omega)).mono ?_
      rintro e w' ⟨rfl, rfl⟩
      generalize nur % (lm + 1) = nr at hr0 hr1 ⊢
      have HN := Lib.hid (newat_any (.slice cp p.cs.length cc) (.slice mp p.ms.length mc) cb co p.cs lm nr w3 hcl hr0 (by omega) (by omega) hok.few hok.small (HTW.out.upd hU3 (by simp)))
      have HU3 := Lib.hid hU3
      have HCL := Lib.hid hcl
      have HTL : Hid (1 < w3.heap.size) := (HTW.out.upd hU3 (by simp)).lt
      clear hok hU3 hcl hc3
      go_wp2_with fail
      refine HN.out.mono ?_
      rintro e w5 ⟨L, hv, hmv, rfl, hg, hu5⟩
      have hb5 := hu5.heap hb3 (by simp)
      clear hb30 hb31 hb3
      have hb50 := cell_of hb5 0
      have hb51 := cell_of hb5 1
      have HPS := Lib.hid (play_start (cv := .slice cp p.cs.length cc) (mv := .slice mp p.ms.length mc) hg (HCL.out.upd hu5 (by simp)) hcb HTL.out)
      clear hg hu5 HN
      go_wp2_with fail
      generalize w5.alloc (.cells #[.slice cp p.cs.length cc, .slice mp p.ms.length mc, .pointer (some ⟨L.hb, 0, none⟩), .slice none 0 0, .slice none 0 0, .slice none 0 0] 72) = w6 at HPS ⊢
      clear hb50 hb51 hb5
      go_loopw [13] (fun iv wr => ∃ i : Nat, i ≤ n ∧ iv = .int .i64 i ∧ Hid (PlEnd w3 w5.heap.size hv hmv (.slice cp p.cs.length cc) (.slice mp p.ms.length mc) cb co i p.cs wr)) (fun iv _ => n - (intOf iv).toNat)
      case atStart => exact ⟨0, by omega, rfl, HPS.out⟩
      case round =>
        clear HPS
        obtain ⟨i, hi, rfl, HP⟩ := hrel
        obtain ⟨wo, rfl⟩ : ∃ w' : World, w' = wr := ⟨_, rfl⟩
        obtain ⟨L', S, R, rv, ov, nv, rs, ts, ps, hp, hk, he, hcs⟩ := HP.out
        by_cases hlt : i < n
        · have e1 : decide ((i : Int) < (n : Int)) = true := decide_eq_true (by omega)
          obtain ⟨b, o, d, rfl, hbd, hin⟩ := HL3.out i hlt
          have hin2 := (hin.upd HU3.out (by simp)).upd hp.gc.up (by simp)
          obtain ⟨d0, d1', d2', d3', d4'⟩ := hin2
          have hdo := do_any hp hk he (by omega) d.kind d.a d.b d.n d.v hbd.2.2.2.2
          rw [hcs] at hdo
          have HDO := Lib.hid hdo
          clear hdo hp hk he hcs HP hin hbd
          obtain ⟨dk, da, db, dn, dv⟩ := d
          dsimp only at d0 d1' d2' d3' d4' HDO
          go_wp2_with fail
          refine HDO.out.mono ?_
          rintro e w7 ⟨rfl, hpe⟩
          have HPE := Lib.hid hpe
          obtain ⟨L2, S2, R2, rv2, ov2, nv2, rs2, ts2, ps2, hp2, hk2, he2, hcs2⟩ := hpe
          have HSM := Lib.hid (same12_any hp2 hk2)
          have HP2 := Lib.hid hp2
          have HK2 := Lib.hid hk2
          clear hp2 hk2 d0 d1' d2' d3' d4' HDO
          go_wp2_with fail
          refine HSM.out.mono ?_
          rintro e w8 ⟨rfl, hu8⟩
          have HEND : Hid (PlEnd w3 w5.heap.size hv hmv (.slice cp p.cs.length cc) (.slice mp p.ms.length mc) cb co (i + 1) p.cs w8) := ⟨L2, S2, R2, _, _, _, _, _, _, HP2.out.upd hu8, HK2.out, he2, hcs2⟩
          clear hu8 HSM HP2 HK2 HPE he2 hcs2
          go_wp2_with fail
          go_roundw
          case rel => exact ⟨i + 1, by omega, by go_num, HEND.out⟩
          case measure => simp [intOf]; omega
        · obtain rfl : i = n := by omega
          have e1 : decide ((i : Int) < (i : Int)) = false := decide_eq_false (by omega)
          have HU := Lib.hid (HU3.out.trans hp.gc.up)
          clear hp hk he hcs HP
          go_wp2_with fail
          go_ret
          exact ⟨rfl, HU.out⟩
    · have d1 : (!(c == 0)) = true := by simpa using hz
      go_wp2_with fail
      go_ret
      exact ⟨rfl, hU3⟩
end Go.Proofs.YtneeljhjfmcdoaaDoor
