/- HeapFills: the walk. -/
import Derived.Test.YtlkflkgohclbmaaDoorFills
namespace Go.Proofs.YtlkflkgohclbmaaDoor
open Go.RowKit

set_option maxRecDepth 100000 in
set_option maxHeartbeats 4000000 in
theorem fills_true (x0 x1 x2 : Int) (w : World) :
    Calls Tryd.prog 5 #[.int .i64 x0, .int .i64 x1, .int .i64 x2, .bool true] w fun e w' => e = .returned (.bool true) ∧ Upd [] w w' := by
  obtain ⟨i0, hi, hz0, hz1, hz2⟩ := info_parts Tryd.infoInt
  have HI := Lib.hid hi
  have HZ0 := Lib.hid hz0
  have HZ1 := Lib.hid hz1
  have HZ2 := Lib.hid hz2
  clear hi hz0 hz1 hz2
  have m0 := and_7 x0
  have m1 := and_2047 x1
  have m2 := and_1023 x2
  obtain ⟨fn, hfn, hf7⟩ : ∃ fn : Nat, x0 % 8 = (fn : Int) ∧ fn ≤ 7 := ⟨(x0 % 8).toNat, by omega, by omega⟩
  obtain ⟨lim, hlim, hl7⟩ : ∃ fn : Nat, x1 % 2048 = (fn : Int) ∧ fn ≤ 2047 := ⟨(x1 % 2048).toNat, by omega, by omega⟩
  obtain ⟨nur, hnur, hn7⟩ : ∃ fn : Nat, x2 % 1024 = (fn : Int) ∧ fn ≤ 1023 := ⟨(x2 % 1024).toNat, by omega, by omega⟩
  rw [hfn] at m0
  rw [hlim] at m1
  rw [hnur] at m2
  clear hfn hlim hnur
  by_cases hbig : lim < nur
  · have d1 : decide ((lim : Int) < (nur : Int)) = true := by simp; omega
    go_enter Tryd.func5, Tryd.ntmps5
    go_wp2_with fail
    refine (first_any w).mono ?_
    rintro e w1 ⟨rfl, hu1⟩
    go_wp2_with fail
    go_ret
    exact ⟨rfl, hu1⟩
  have d1 : decide (lim < nur) = false := by simp; omega
  have d1' : decide ((lim : Int) < (nur : Int)) = false := by simp; omega
  go_enter Tryd.func5, Tryd.ntmps5
  go_wp2_with fail
  refine (first_any w).mono ?_
  rintro e w1 ⟨rfl, hu1⟩
  go_wp2_with fail
  have M0 := Lib.hid m0
  have M1 := Lib.hid m1
  have M2 := Lib.hid m2
  clear m0 m1 m2
  go_loopw [10, 11] (fun s i wr => ∃ k : Nat, k ≤ fn ∧ s = .string (repR k) ∧ i = .int .i64 k ∧ w1 = wr) (fun _ i _ => fn - (intOf i).toNat)
  case atStart => exact ⟨0, by omega, rfl, rfl, rfl⟩
  case round =>
    obtain ⟨k, hk, rfl, rfl, rfl⟩ := hrel
    by_cases hlt : k < fn
    · have hs := repR_succ k
      have hsz : (repR k).size ≤ 7 := by rw [repR_size]; omega
      go_wp2_with fail
      go_roundw
      case rel => exact ⟨k + 1, by omega, rfl, by go_num, trivial⟩
      case measure => simp [intOf]; omega
    · obtain rfl : fn = k := by omega
      have hls := repR_size fn
      generalize repR fn = cl at *
      have hcls : ClsAt ((((w1.alloc (.cells #[.string cl] 34)).alloc (.cells #[.int .i64 33, .int .i64 0, .int .i64 0, .int .i64 0] 25)).alloc (.cells #[.string ⟨#[]⟩, .string ⟨#[]⟩, .string ⟨#[]⟩, .slice (some ⟨w1.heap.size + 1, 0, none⟩) 1 1] 28)).alloc (.cells #[.slice (some ⟨w1.heap.size, 0, none⟩) 1 1, .slice (some ⟨w1.heap.size + 1 + 1, 0, none⟩) 1 1] 32)) (.slice (some ⟨w1.heap.size, 0, none⟩) 1 1) w1.heap.size 0 [cl] := by
        refine ⟨.inr ⟨_, _, rfl, .inr rfl⟩, fun i hi => ?_⟩
        obtain rfl : i = 0 := by simpa using hi
        have h1 := ((((Upd.refl [] (w1.alloc (.cells #[.string cl] 34))).alloc (.cells #[.int .i64 33, .int .i64 0, .int .i64 0, .int .i64 0] 25)).alloc (.cells #[.string ⟨#[]⟩, .string ⟨#[]⟩, .string ⟨#[]⟩, .slice (some ⟨w1.heap.size + 1, 0, none⟩) 1 1] 28)).alloc (.cells #[.slice (some ⟨w1.heap.size, 0, none⟩) 1 1, .slice (some ⟨w1.heap.size + 1 + 1, 0, none⟩) 1 1] 32)).heap (heap_alloc_new w1 _) (by simp)
        rw [cell_of h1]
        rfl
      have hprg := heap_alloc_new (((w1.alloc (.cells #[.string cl] 34)).alloc (.cells #[.int .i64 33, .int .i64 0, .int .i64 0, .int .i64 0] 25)).alloc (.cells #[.string ⟨#[]⟩, .string ⟨#[]⟩, .string ⟨#[]⟩, .slice (some ⟨w1.heap.size + 1, 0, none⟩) 1 1] 28)) (.cells #[.slice (some ⟨w1.heap.size, 0, none⟩) 1 1, .slice (some ⟨w1.heap.size + 1 + 1, 0, none⟩) 1 1] 32)
      have hzz : (((w1.alloc (.cells #[.string cl] 34)).alloc (.cells #[.int .i64 33, .int .i64 0, .int .i64 0, .int .i64 0] 25)).alloc (.cells #[.string ⟨#[]⟩, .string ⟨#[]⟩, .string ⟨#[]⟩, .slice (some ⟨w1.heap.size + 1, 0, none⟩) 1 1] 28)).heap.size = w1.heap.size + 1 + 1 + 1 := by simp
      rw [hzz] at hprg
      have hU0 : Upd [] w _ := (((hu1.alloc (.cells #[.string cl] 34)).alloc (.cells #[.int .i64 33, .int .i64 0, .int .i64 0, .int .i64 0] 25)).alloc (.cells #[.string ⟨#[]⟩, .string ⟨#[]⟩, .string ⟨#[]⟩, .slice (some ⟨w1.heap.size + 1, 0, none⟩) 1 1] 28)).alloc (.cells #[.slice (some ⟨w1.heap.size, 0, none⟩) 1 1, .slice (some ⟨w1.heap.size + 1 + 1, 0, none⟩) 1 1] 32)
      have HLS := Lib.hid hls
      have HPRG := Lib.hid hprg
      have HU0 := Lib.hid hU0
      clear hls hprg hzz hU0
      go_wp2_with fail
      refine (hnew_ok _ _ _ _ [cl] lim nur _ hcls (by omega) (by omega) (by omega) (by simp) (by simp; rw [HLS.out]; omega) (by simp)).mono ?_
      rintro e w2 ⟨L, hv, mv, rfl, hH, hu2, hlo⟩
      have hp2 := hu2.heap HPRG.out (by simp)
      have hcl2 := hcls.upd hu2 (by simp)
      have hU2 := HU0.out.trans hu2
      have hLB : Hid (∀ i ∈ [L.hb, L.wb, L.bw], w.heap.size ≤ i) := fun i hi => HL.above hH.nd (fun i hi => by
        rcases (hlo i hi).1 with h | h
        · exact .inl h
        · right; have := HU0.out.size; omega) i (by simp only [List.mem_cons, List.not_mem_nil, or_false] at hi ⊢; rcases hi with h | h | h <;> simp [h])
      have hLC : Hid (∀ i ∈ L.all, i < w2.heap.size) := fun i hi => (hlo i hi).2
      have hc0 := cell_of hp2 0
      have hc1 := cell_of hp2 1
      clear hcls hu2 hlo
      go_wp2_with fail
      refine (words3_class _ _ _ _ 0 0 [cl] _ hcl2 (by simp) (by simp) (by simp; rw [HLS.out]; omega)).mono ?_
      rintro e w3 ⟨rfl, hu3⟩
      rw [show ([cl].getD 0 ByteArray.empty) = cl from rfl, HLS.out]
      have hH3 := hH.upd0 hu3
      have hU3 := hU2.trans hu3
      have hsz3 := hu3.size
      clear hc0 hc1 hp2 hcl2 hu3 hH hU2
      go_wp2_with fail
      obtain ⟨sz, hsz⟩ : ∃ sz : Nat, (2 : Int) + fn = sz := ⟨2 + fn, by omega⟩
      obtain ⟨rm, hrm⟩ : ∃ rm : Nat, (((lim : Int) - nur) / 2) = (rm : Int) := ⟨((((lim : Int) - nur) / 2)).toNat, by omega⟩
      rw [hsz]
      try rw [hrm]
      have hmz : rm / sz * sz ≤ rm := Nat.div_mul_le_self rm sz
      have hmz2 : rm < (rm / sz + 1) * sz := by
        have := Nat.lt_div_mul_add (a := rm) (b := sz) (by omega)
        rw [Nat.add_mul, Nat.one_mul]; omega
      have hmle : rm / sz ≤ rm := Nat.div_le_self rm sz
      have HM1 := Lib.hid hmz
      have HM2 := Lib.hid hmz2
      have HSZ := Lib.hid hsz
      have HRM := Lib.hid hrm
      have hsb : 2 ≤ sz ∧ sz ≤ 9 := by omega
      have hrb : rm ≤ 2047 := by omega
      clear hmz hmz2 hsz hrm
      obtain ⟨m, hm⟩ : ∃ m : Nat, m = rm / sz := ⟨_, rfl⟩
      rw [← hm] at HM1 HM2 hmle
      have hq2 : (rm : Int) / (sz : Int) = (m : Int) := by rw [hm, ← Int.natCast_ediv]
      have hq1 : (rm : Int).tdiv (sz : Int) = (m : Int) := by rw [Int.tdiv_eq_ediv_of_nonneg (by omega), hq2]
      have hq : IntKind.i64.wrap (m : Int) = (m : Int) := IntWalk.i64_in _ (by omega)
      clear hm
      go_loopw [17, 18] (fun a iv wr => ∃ (i : Nat) (S : Hp), i ≤ m ∧ iv = .int .i64 i ∧ HpAt wr L hv mv S ∧ Hid (S.now = 0 ∧ S.cs = [cl] ∧ (S.sp 1).top = (nur : Int) + ((i * sz : Nat) : Int) ∧ (S.sp 1).to = (nur : Int) + rm) ∧ OwnI wr w3.heap.size 3 a ((List.range i).map fun j => (nur : Int) + ((j * sz : Nat) : Int) + 1) ∧ Upd [] w wr ∧ w3.heap.size ≤ wr.heap.size) (fun _ iv _ => m - (intOf iv).toNat)
      case atStart => exact ⟨0, _, by omega, rfl, hH3, ⟨rfl, rfl, by simp [Hp.new, Hp.sp], by have := HRM.out; simp [Hp.new, Hp.sp]; omega⟩, OwnI.nil _ _ _, hU3, Nat.le_refl _⟩
      case round =>
        obtain ⟨i, S, hi, rfl, hH, HS, hO, hU, h3w⟩ := hrel
        by_cases hlt : i < m
        · obtain ⟨wo, rfl⟩ : ∃ wo : World, wo = wr := ⟨_, rfl⟩
          have hok := hH.ok
          obtain ⟨s1, s2, s3, s4⟩ := HS.out
          have hwant : wantN [cl] 0 0 = (fn : Int) := by
            show ((cl.size : Nat) : Int) = fn
            rw [HLS.out]
          have hmul : (i + 1) * sz ≤ m * sz := Nat.mul_le_mul_right sz hlt
          have hmul2 : (i + 1) * sz = i * sz + sz := Nat.succ_mul i sz
          have hm1 := HM1.out
          have hsz := HSZ.out
          have F := new_facts hok hH.bg.2.2.2.1 (k := 1) (by omega) (c := 0) (n := 0) (by omega) (by rw [s2]; simp) (by omega) (by omega) (by rw [s2, hwant, s3, s4]; omega)
          obtain ⟨f1, f2, f3, f4, f5, _, _, _, _, _⟩ := F
          rw [s2, hwant] at f3 f4
          have hiny := laid_inY_new hok f4 hH.bg.2.2.2.1
          have HS' : Hid ((S.layK 1 0 0).now = 0 ∧ (S.layK 1 0 0).cs = [cl] ∧ ((S.layK 1 0 0).sp 1).top = (nur : Int) + (((i + 1) * sz : Nat) : Int) ∧ ((S.layK 1 0 0).sp 1).to = (nur : Int) + rm) := by
            rw [f3]
            have e := laid_sp S 1 1 0 (2 + fn) (by omega) (by omega)
            rw [if_pos rfl] at e
            rw [e]
            refine ⟨by rw [laid_now]; exact s1, by rw [laid_cs]; exact s2, ?_, s4⟩
            show (S.sp 1).top + (2 + (fn : Int)) = _
            rw [s3, hmul2]
            omega
          have HY := Lib.hid (oldo_any L hv mv S 0 0 wo hH)
          have hoK : S.oldK = 1 := by unfold Hp.oldK; rw [if_pos HS.out.1]
          rw [hoK] at HY
          rw [f1, f2, s3] at HY
          have hIY : (S.layK 1 0 0).inY ((nur : Int) + ((i * sz : Nat) : Int) + 1) = false := by rw [f3, ← s3, hiny]; rfl
          have HIY : Hid (∀ w, HpAt w L hv mv (S.layK 1 0 0) → Calls Tryd.prog 31 #[.pointer (some ⟨L.hb, 0, none⟩), .int .i64 ((nur : Int) + ((i * sz : Nat) : Int) + 1)] w fun e w' => e = .returned (.bool false) ∧ w = w') := fun w h => by
            have := inYoung_any L hv mv (S.layK 1 0 0) ((nur : Int) + ((i * sz : Nat) : Int) + 1) w h (by omega)
            rwa [hIY] at this
          clear f1 f2 f3 f4 f5 hiny hIY s1 s2 s3 s4 hwant hsz hm1
          generalize S.layK 1 0 0 = S' at *
          obtain ⟨r, hr⟩ : ∃ r : Int, (nur : Int) + ((i * sz : Nat) : Int) + 1 = r := ⟨_, rfl⟩
          rw [hr] at HY HIY
          have HR := Lib.hid hr
          clear hr
          have hap : ∀ q ∈ [L.hb, L.wb, L.bw], ∀ k, u17.ownBlock = some k → k ≠ q := fun q hq k hk => by
            have := hO.lt k hk
            have := hLC.out q (by simp only [HL.all, List.mem_cons, List.not_mem_nil, or_false] at hq ⊢; rcases hq with h | h | h <;> simp [h])
            omega
          go_wp2_with fail
          refine HY.out.mono ?_
          rintro e w5 ⟨rfl, hH5, hu5⟩
          have hU5 := hU.trans' hu5 (fun q hq hlt2 => by have := hLB.out q hq; omega)
          have hO5 := hO.upd hu5 (fun k hk hm => hap k hm k hk rfl)
          go_wp2_with fail
          refine (HIY.out _ hH5).mono ?_
          rintro e w' ⟨rfl, rfl⟩
          have hs5 := hU5.size
          have hlw := hO5.lt
          have h35 : w3.heap.size ≤ w5.heap.size := Nat.le_trans h3w hu5.size
          go_wp2_with (at_builtin; refine stop_here ?_)
          refine Hid.mk ?_
          refine (wpList_append_src rfl (.tmp 101) (.tmp 103) 35 rfl w3.heap.size 3 i0 (.int .i64 0) 1 8 Tryd.underlying35 HI.out HZ0.out HZ1.out HZ2.out rfl (by decide) _ _ _ rfl (World.ownsRow.alloc hO5 _) (.slice (some ⟨w5.heap.size, 0, none⟩) 1 1) 1 [.int .i64 r] rfl (.inr ⟨_, _, rfl, cell_one_new _ _ _⟩) rfl (by simp [Value.oneCell']) ?c1 ?c2 ?c3 ?c4)
          case c1 => unfold maxLen; simp; omega
          case c2 => simp; omega
          case c3 => simp; omega
          case c4 =>
            intro v1 w6 hown hgr _
            have hU6 := (hU5.alloc (.cells #[.int .i64 r] 3)).grown hgr (fun z hz => Or.inr (by have := (hO5.lt z hz).1; have := hU3.size; omega))
            have hu6 : Upd u17.ownBlock.toList w5 w6 := ((Upd.refl _ _).alloc _).grown hgr (fun z hz => Or.inl (Option.mem_toList.2 hz))
            have hH6 := hH5.upd hu6 (fun i hi hm => by
              have h1 := (hO5.lt i (Option.mem_toList.1 hm)).1
              have h2 := hLC.out i hi
              omega)
            have hs6 := hgr.size
            have HO6 := Lib.hid hown
            clear hown hgr hlw
            go_wp2_with fail
            go_roundw
            case rel =>
              refine ⟨i + 1, S', by omega, by go_num, hH6, HS'.out, ?_, hU6, by simp at hs6; omega⟩
              unfold OwnI
              have := HO6.out
              rw [← HR.out] at this
              simpa [List.range_succ] using this
            case measure => simp [intOf]; omega
        · obtain rfl : m = i := by omega
          obtain ⟨wo, rfl⟩ : ∃ wo : World, wo = wr := ⟨_, rfl⟩
          have hap : ∀ q ∈ [L.hb, L.wb, L.bw], ∀ k, u17.ownBlock = some k → k ≠ q := fun q hq k hk => by
            have := hO.lt k hk
            have := hLC.out q (by simp only [HL.all, List.mem_cons, List.not_mem_nil, or_false] at hq ⊢; rcases hq with h | h | h <;> simp [h])
            omega
          have hwant : wantN [cl] 0 0 = (fn : Int) := by
            show ((cl.size : Nat) : Int) = fn
            rw [HLS.out]
          have hm2 := HM2.out
          rw [Nat.succ_mul] at hm2
          have hsz := HSZ.out
          have HYY := Lib.hid (young_any L hv mv S 0 0 wo hH)
          obtain ⟨rY, hrY⟩ : ∃ r, S.layR 0 0 0 = r := ⟨_, rfl⟩
          obtain ⟨bY, hbY⟩ : ∃ r, S.room 0 0 0 = r := ⟨_, rfl⟩
          rw [hrY, hbY] at HYY
          have hSY : (S.layK 0 0 0).now = 0 ∧ (S.layK 0 0 0).cs = [cl] ∧ (S.layK 0 0 0).sp 1 = S.sp 1 := by
            unfold Hp.layK
            split
            · refine ⟨by rw [laid_now]; exact HS.out.1, by rw [laid_cs]; exact HS.out.2.1, ?_⟩
              rw [laid_sp S 0 1 _ _ (by omega) (by omega), if_neg (by omega)]
            · exact ⟨HS.out.1, HS.out.2.1, rfl⟩
          have HSY := Lib.hid hSY
          clear hSY hrY hbY
          generalize S.layK 0 0 0 = S2 at HYY HSY
          go_wp2_with fail
          refine HYY.out.mono ?_
          rintro e w5 ⟨rfl, hH5, hu5⟩
          have hUU := hU.trans' hu5 (fun q hq hlt2 => by have := hLB.out q hq; omega)
          have hO5 := hO.upd hu5 (fun k hk hm => hap k hm k hk rfl)
          have hfull : S2.room 1 0 0 = false := by
            have h1 := HS.out
            unfold Hp.room
            rw [words_want (by omega) (by rw [HSY.out.2.1]; simp) (by omega) (by omega), HSY.out.2.1, hwant, HSY.out.2.2, decide_eq_false_iff_not]
            have := h1.2.2.1
            have := h1.2.2.2
            omega
          have HY2 := Lib.hid (oldo_any L hv mv S2 0 0 w5 hH5)
          rw [show S2.oldK = 1 by unfold Hp.oldK; rw [if_pos HSY.out.1], show S2.layR 1 0 0 = 0 by unfold Hp.layR; rw [hfull]; rfl, hfull] at HY2
          clear hfull
          go_wp2_with fail
          refine HY2.out.mono ?_
          rintro e w6 ⟨rfl, hH6, hu6⟩
          have hUV := hUU.trans' hu6 (fun q hq hlt2 => by have := hLB.out q hq; omega)
          have hO6 := hO5.upd hu6 (fun k hk hm => hap k hm k hk rfl)

          have hsorted := sortL_rising ((List.range m).map fun j => (nur : Int) + ((j * sz : Nat) : Int) + 1) (fun a b hab hb => by
            have hb' : b < m := by simpa using hb
            have ea : ((List.range m).map fun j => (nur : Int) + ((j * sz : Nat) : Int) + 1).getD a 0 = (nur : Int) + ((a * sz : Nat) : Int) + 1 := by
              rw [List.getD_eq_getElem?_getD, List.getElem?_map, List.getElem?_range (by omega)]; rfl
            have eb : ((List.range m).map fun j => (nur : Int) + ((j * sz : Nat) : Int) + 1).getD b 0 = (nur : Int) + ((b * sz : Nat) : Int) + 1 := by
              rw [List.getD_eq_getElem?_getD, List.getElem?_map, List.getElem?_range (by omega)]; rfl
            rw [ea, eb]
            have h1 : (a + 1) * sz ≤ b * sz := Nat.mul_le_mul_right sz hab
            rw [Nat.succ_mul] at h1
            omega)
          have hlen : ((List.range m).map fun j => (nur : Int) + ((j * sz : Nat) : Int) + 1).length = m := by simp
          have HSO := Lib.hid hsorted
          have HLN := Lib.hid hlen
          clear hsorted hm2 hsz
          generalize ((List.range m).map fun j => (nur : Int) + ((j * sz : Nat) : Int) + 1) = all at *
          obtain ⟨bb, hiv, _⟩ := hO6.ints
          obtain ⟨ap, ac, hap2⟩ := hiv.form
          subst hap2
          have HIV := Lib.hid hiv
          clear hiv hlen
          go_wp2_with fail
          refine (sorted_any _ bb all _ HIV.out (by rw [HLN.out]; omega)).mono ?_
          rintro e w7 ⟨u, rfl, hou, hu7⟩
          rw [HSO.out] at hou
          obtain ⟨_, hivu, _⟩ := hou.ints
          obtain ⟨up, uc, hup⟩ := hivu.form
          subst hup
          clear hou hivu
          go_wp2_with fail
          go_ret
          exact ⟨by simp, hUV.trans hu7⟩

set_option maxRecDepth 100000 in
set_option maxHeartbeats 4000000 in
theorem fills_false (x0 x1 x2 : Int) (w : World) :
    Calls Tryd.prog 5 #[.int .i64 x0, .int .i64 x1, .int .i64 x2, .bool false] w fun e w' => e = .returned (.bool true) ∧ Upd [] w w' := by
  obtain ⟨i0, hi, hz0, hz1, hz2⟩ := info_parts Tryd.infoInt
  have HI := Lib.hid hi
  have HZ0 := Lib.hid hz0
  have HZ1 := Lib.hid hz1
  have HZ2 := Lib.hid hz2
  clear hi hz0 hz1 hz2
  have m0 := and_7 x0
  have m1 := and_2047 x1
  have m2 := and_1023 x2
  obtain ⟨fn, hfn, hf7⟩ : ∃ fn : Nat, x0 % 8 = (fn : Int) ∧ fn ≤ 7 := ⟨(x0 % 8).toNat, by omega, by omega⟩
  obtain ⟨lim, hlim, hl7⟩ : ∃ fn : Nat, x1 % 2048 = (fn : Int) ∧ fn ≤ 2047 := ⟨(x1 % 2048).toNat, by omega, by omega⟩
  obtain ⟨nur, hnur, hn7⟩ : ∃ fn : Nat, x2 % 1024 = (fn : Int) ∧ fn ≤ 1023 := ⟨(x2 % 1024).toNat, by omega, by omega⟩
  rw [hfn] at m0
  rw [hlim] at m1
  rw [hnur] at m2
  clear hfn hlim hnur
  by_cases hbig : lim < nur
  · have d1 : decide ((lim : Int) < (nur : Int)) = true := by simp; omega
    go_enter Tryd.func5, Tryd.ntmps5
    go_wp2_with fail
    refine (first_any w).mono ?_
    rintro e w1 ⟨rfl, hu1⟩
    go_wp2_with fail
    go_ret
    exact ⟨rfl, hu1⟩
  have d1 : decide (lim < nur) = false := by simp; omega
  have d1' : decide ((lim : Int) < (nur : Int)) = false := by simp; omega
  go_enter Tryd.func5, Tryd.ntmps5
  go_wp2_with fail
  refine (first_any w).mono ?_
  rintro e w1 ⟨rfl, hu1⟩
  go_wp2_with fail
  have M0 := Lib.hid m0
  have M1 := Lib.hid m1
  have M2 := Lib.hid m2
  clear m0 m1 m2
  go_loopw [10, 11] (fun s i wr => ∃ k : Nat, k ≤ fn ∧ s = .string (repR k) ∧ i = .int .i64 k ∧ w1 = wr) (fun _ i _ => fn - (intOf i).toNat)
  case atStart => exact ⟨0, by omega, rfl, rfl, rfl⟩
  case round =>
    obtain ⟨k, hk, rfl, rfl, rfl⟩ := hrel
    by_cases hlt : k < fn
    · have hs := repR_succ k
      have hsz : (repR k).size ≤ 7 := by rw [repR_size]; omega
      go_wp2_with fail
      go_roundw
      case rel => exact ⟨k + 1, by omega, rfl, by go_num, trivial⟩
      case measure => simp [intOf]; omega
    · obtain rfl : fn = k := by omega
      have hls := repR_size fn
      generalize repR fn = cl at *
      have hcls : ClsAt ((((w1.alloc (.cells #[.string cl] 34)).alloc (.cells #[.int .i64 33, .int .i64 0, .int .i64 0, .int .i64 0] 25)).alloc (.cells #[.string ⟨#[]⟩, .string ⟨#[]⟩, .string ⟨#[]⟩, .slice (some ⟨w1.heap.size + 1, 0, none⟩) 1 1] 28)).alloc (.cells #[.slice (some ⟨w1.heap.size, 0, none⟩) 1 1, .slice (some ⟨w1.heap.size + 1 + 1, 0, none⟩) 1 1] 32)) (.slice (some ⟨w1.heap.size, 0, none⟩) 1 1) w1.heap.size 0 [cl] := by
        refine ⟨.inr ⟨_, _, rfl, .inr rfl⟩, fun i hi => ?_⟩
        obtain rfl : i = 0 := by simpa using hi
        have h1 := ((((Upd.refl [] (w1.alloc (.cells #[.string cl] 34))).alloc (.cells #[.int .i64 33, .int .i64 0, .int .i64 0, .int .i64 0] 25)).alloc (.cells #[.string ⟨#[]⟩, .string ⟨#[]⟩, .string ⟨#[]⟩, .slice (some ⟨w1.heap.size + 1, 0, none⟩) 1 1] 28)).alloc (.cells #[.slice (some ⟨w1.heap.size, 0, none⟩) 1 1, .slice (some ⟨w1.heap.size + 1 + 1, 0, none⟩) 1 1] 32)).heap (heap_alloc_new w1 _) (by simp)
        rw [cell_of h1]
        rfl
      have hprg := heap_alloc_new (((w1.alloc (.cells #[.string cl] 34)).alloc (.cells #[.int .i64 33, .int .i64 0, .int .i64 0, .int .i64 0] 25)).alloc (.cells #[.string ⟨#[]⟩, .string ⟨#[]⟩, .string ⟨#[]⟩, .slice (some ⟨w1.heap.size + 1, 0, none⟩) 1 1] 28)) (.cells #[.slice (some ⟨w1.heap.size, 0, none⟩) 1 1, .slice (some ⟨w1.heap.size + 1 + 1, 0, none⟩) 1 1] 32)
      have hzz : (((w1.alloc (.cells #[.string cl] 34)).alloc (.cells #[.int .i64 33, .int .i64 0, .int .i64 0, .int .i64 0] 25)).alloc (.cells #[.string ⟨#[]⟩, .string ⟨#[]⟩, .string ⟨#[]⟩, .slice (some ⟨w1.heap.size + 1, 0, none⟩) 1 1] 28)).heap.size = w1.heap.size + 1 + 1 + 1 := by simp
      rw [hzz] at hprg
      have hU0 : Upd [] w _ := (((hu1.alloc (.cells #[.string cl] 34)).alloc (.cells #[.int .i64 33, .int .i64 0, .int .i64 0, .int .i64 0] 25)).alloc (.cells #[.string ⟨#[]⟩, .string ⟨#[]⟩, .string ⟨#[]⟩, .slice (some ⟨w1.heap.size + 1, 0, none⟩) 1 1] 28)).alloc (.cells #[.slice (some ⟨w1.heap.size, 0, none⟩) 1 1, .slice (some ⟨w1.heap.size + 1 + 1, 0, none⟩) 1 1] 32)
      have HLS := Lib.hid hls
      have HPRG := Lib.hid hprg
      have HU0 := Lib.hid hU0
      clear hls hprg hzz hU0
      go_wp2_with fail
      refine (hnew_ok _ _ _ _ [cl] lim nur _ hcls (by omega) (by omega) (by omega) (by simp) (by simp; rw [HLS.out]; omega) (by simp)).mono ?_
      rintro e w2 ⟨L, hv, mv, rfl, hH, hu2, hlo⟩
      have hp2 := hu2.heap HPRG.out (by simp)
      have hcl2 := hcls.upd hu2 (by simp)
      have hU2 := HU0.out.trans hu2
      have hLB : Hid (∀ i ∈ [L.hb, L.wb, L.bw], w.heap.size ≤ i) := fun i hi => HL.above hH.nd (fun i hi => by
        rcases (hlo i hi).1 with h | h
        · exact .inl h
        · right; have := HU0.out.size; omega) i (by simp only [List.mem_cons, List.not_mem_nil, or_false] at hi ⊢; rcases hi with h | h | h <;> simp [h])
      have hLC : Hid (∀ i ∈ L.all, i < w2.heap.size) := fun i hi => (hlo i hi).2
      have hc0 := cell_of hp2 0
      have hc1 := cell_of hp2 1
      clear hcls hu2 hlo
      go_wp2_with fail
      refine (words3_class _ _ _ _ 0 0 [cl] _ hcl2 (by simp) (by simp) (by simp; rw [HLS.out]; omega)).mono ?_
      rintro e w3 ⟨rfl, hu3⟩
      rw [show ([cl].getD 0 ByteArray.empty) = cl from rfl, HLS.out]
      have hH3 := hH.upd0 hu3
      have hU3 := hU2.trans hu3
      have hsz3 := hu3.size
      clear hc0 hc1 hp2 hcl2 hu3 hH hU2
      go_wp2_with fail
      obtain ⟨sz, hsz⟩ : ∃ sz : Nat, (2 : Int) + fn = sz := ⟨2 + fn, by omega⟩
      obtain ⟨rm, hrm⟩ : ∃ rm : Nat, (nur : Int) = (rm : Int) := ⟨((nur : Int)).toNat, by omega⟩
      rw [hsz]
      try rw [hrm]
      have hmz : rm / sz * sz ≤ rm := Nat.div_mul_le_self rm sz
      have hmz2 : rm < (rm / sz + 1) * sz := by
        have := Nat.lt_div_mul_add (a := rm) (b := sz) (by omega)
        rw [Nat.add_mul, Nat.one_mul]; omega
      have hmle : rm / sz ≤ rm := Nat.div_le_self rm sz
      have HM1 := Lib.hid hmz
      have HM2 := Lib.hid hmz2
      have HSZ := Lib.hid hsz
      have HRM := Lib.hid hrm
      have hsb : 2 ≤ sz ∧ sz ≤ 9 := by omega
      have hrb : rm ≤ 2047 := by omega
      clear hmz hmz2 hsz hrm
      obtain ⟨m, hm⟩ : ∃ m : Nat, m = rm / sz := ⟨_, rfl⟩
      rw [← hm] at HM1 HM2 hmle
      have hq2 : (rm : Int) / (sz : Int) = (m : Int) := by rw [hm, ← Int.natCast_ediv]
      have hq1 : (rm : Int).tdiv (sz : Int) = (m : Int) := by rw [Int.tdiv_eq_ediv_of_nonneg (by omega), hq2]
      have hq : IntKind.i64.wrap (m : Int) = (m : Int) := IntWalk.i64_in _ (by omega)
      clear hm
      go_loopw [17, 18] (fun a iv wr => ∃ (i : Nat) (S : Hp), i ≤ m ∧ iv = .int .i64 i ∧ HpAt wr L hv mv S ∧ Hid (S.now = 0 ∧ S.cs = [cl] ∧ (S.sp 0).top = (0 : Int) + ((i * sz : Nat) : Int) ∧ (S.sp 0).to = (0 : Int) + rm) ∧ OwnI wr w3.heap.size 3 a ((List.range i).map fun j => (0 : Int) + ((j * sz : Nat) : Int) + 1) ∧ Upd [] w wr ∧ w3.heap.size ≤ wr.heap.size) (fun _ iv _ => m - (intOf iv).toNat)
      case atStart => exact ⟨0, _, by omega, rfl, hH3, ⟨rfl, rfl, by simp [Hp.new, Hp.sp], by have := HRM.out; simp [Hp.new, Hp.sp]; omega⟩, OwnI.nil _ _ _, hU3, Nat.le_refl _⟩
      case round =>
        obtain ⟨i, S, hi, rfl, hH, HS, hO, hU, h3w⟩ := hrel
        by_cases hlt : i < m
        · obtain ⟨wo, rfl⟩ : ∃ wo : World, wo = wr := ⟨_, rfl⟩
          have hok := hH.ok
          obtain ⟨s1, s2, s3, s4⟩ := HS.out
          have hwant : wantN [cl] 0 0 = (fn : Int) := by
            show ((cl.size : Nat) : Int) = fn
            rw [HLS.out]
          have hmul : (i + 1) * sz ≤ m * sz := Nat.mul_le_mul_right sz hlt
          have hmul2 : (i + 1) * sz = i * sz + sz := Nat.succ_mul i sz
          have hm1 := HM1.out
          have hsz := HSZ.out
          have F := new_facts hok hH.bg.2.2.2.1 (k := 0) (by omega) (c := 0) (n := 0) (by omega) (by rw [s2]; simp) (by omega) (by omega) (by rw [s2, hwant, s3, s4]; omega)
          obtain ⟨f1, f2, f3, f4, f5, _, _, _, _, _⟩ := F
          rw [s2, hwant] at f3 f4
          have hiny := laid_inY_new hok f4 hH.bg.2.2.2.1
          have HS' : Hid ((S.layK 0 0 0).now = 0 ∧ (S.layK 0 0 0).cs = [cl] ∧ ((S.layK 0 0 0).sp 0).top = (0 : Int) + (((i + 1) * sz : Nat) : Int) ∧ ((S.layK 0 0 0).sp 0).to = (0 : Int) + rm) := by
            rw [f3]
            have e := laid_sp S 0 0 0 (2 + fn) (by omega) (by omega)
            rw [if_pos rfl] at e
            rw [e]
            refine ⟨by rw [laid_now]; exact s1, by rw [laid_cs]; exact s2, ?_, s4⟩
            show (S.sp 0).top + (2 + (fn : Int)) = _
            rw [s3, hmul2]
            omega
          have HY := Lib.hid (young_any L hv mv S 0 0 wo hH)
          skip
          rw [f1, f2, s3] at HY
          have hIY : (S.layK 0 0 0).inY ((0 : Int) + ((i * sz : Nat) : Int) + 1) = true := by rw [f3, ← s3, hiny]; rfl
          have HIY : Hid (∀ w, HpAt w L hv mv (S.layK 0 0 0) → Calls Tryd.prog 31 #[.pointer (some ⟨L.hb, 0, none⟩), .int .i64 ((0 : Int) + ((i * sz : Nat) : Int) + 1)] w fun e w' => e = .returned (.bool true) ∧ w = w') := fun w h => by
            have := inYoung_any L hv mv (S.layK 0 0 0) ((0 : Int) + ((i * sz : Nat) : Int) + 1) w h (by omega)
            rwa [hIY] at this
          clear f1 f2 f3 f4 f5 hiny hIY s1 s2 s3 s4 hwant hsz hm1
          generalize S.layK 0 0 0 = S' at *
          obtain ⟨r, hr⟩ : ∃ r : Int, (0 : Int) + ((i * sz : Nat) : Int) + 1 = r := ⟨_, rfl⟩
          rw [hr] at HY HIY
          have HR := Lib.hid hr
          clear hr
          have hap : ∀ q ∈ [L.hb, L.wb, L.bw], ∀ k, u17.ownBlock = some k → k ≠ q := fun q hq k hk => by
            have := hO.lt k hk
            have := hLC.out q (by simp only [HL.all, List.mem_cons, List.not_mem_nil, or_false] at hq ⊢; rcases hq with h | h | h <;> simp [h])
            omega
          go_wp2_with fail
          refine HY.out.mono ?_
          rintro e w5 ⟨rfl, hH5, hu5⟩
          have hU5 := hU.trans' hu5 (fun q hq hlt2 => by have := hLB.out q hq; omega)
          have hO5 := hO.upd hu5 (fun k hk hm => hap k hm k hk rfl)
          go_wp2_with fail
          refine (HIY.out _ hH5).mono ?_
          rintro e w' ⟨rfl, rfl⟩
          have hs5 := hU5.size
          have hlw := hO5.lt
          have h35 : w3.heap.size ≤ w5.heap.size := Nat.le_trans h3w hu5.size
          go_wp2_with (at_builtin; refine stop_here ?_)
          refine Hid.mk ?_
          refine (wpList_append_src rfl (.tmp 101) (.tmp 103) 35 rfl w3.heap.size 3 i0 (.int .i64 0) 1 8 Tryd.underlying35 HI.out HZ0.out HZ1.out HZ2.out rfl (by decide) _ _ _ rfl (World.ownsRow.alloc hO5 _) (.slice (some ⟨w5.heap.size, 0, none⟩) 1 1) 1 [.int .i64 r] rfl (.inr ⟨_, _, rfl, cell_one_new _ _ _⟩) rfl (by simp [Value.oneCell']) ?c1 ?c2 ?c3 ?c4)
          case c1 => unfold maxLen; simp; omega
          case c2 => simp; omega
          case c3 => simp; omega
          case c4 =>
            intro v1 w6 hown hgr _
            have hU6 := (hU5.alloc (.cells #[.int .i64 r] 3)).grown hgr (fun z hz => Or.inr (by have := (hO5.lt z hz).1; have := hU3.size; omega))
            have hu6 : Upd u17.ownBlock.toList w5 w6 := ((Upd.refl _ _).alloc _).grown hgr (fun z hz => Or.inl (Option.mem_toList.2 hz))
            have hH6 := hH5.upd hu6 (fun i hi hm => by
              have h1 := (hO5.lt i (Option.mem_toList.1 hm)).1
              have h2 := hLC.out i hi
              omega)
            have hs6 := hgr.size
            have HO6 := Lib.hid hown
            clear hown hgr hlw
            go_wp2_with fail
            go_roundw
            case rel =>
              refine ⟨i + 1, S', by omega, by go_num, hH6, HS'.out, ?_, hU6, by simp at hs6; omega⟩
              unfold OwnI
              have := HO6.out
              rw [← HR.out] at this
              simpa [List.range_succ] using this
            case measure => simp [intOf]; omega
        · obtain rfl : m = i := by omega
          obtain ⟨wo, rfl⟩ : ∃ wo : World, wo = wr := ⟨_, rfl⟩
          have hap : ∀ q ∈ [L.hb, L.wb, L.bw], ∀ k, u17.ownBlock = some k → k ≠ q := fun q hq k hk => by
            have := hO.lt k hk
            have := hLC.out q (by simp only [HL.all, List.mem_cons, List.not_mem_nil, or_false] at hq ⊢; rcases hq with h | h | h <;> simp [h])
            omega
          have hwant : wantN [cl] 0 0 = (fn : Int) := by
            show ((cl.size : Nat) : Int) = fn
            rw [HLS.out]
          have hm2 := HM2.out
          rw [Nat.succ_mul] at hm2
          have hsz := HSZ.out
          have hfull : S.room 0 0 0 = false := by
            have h1 := HS.out
            unfold Hp.room
            rw [words_want (by omega) (by rw [h1.2.1]; simp) (by omega) (by omega), h1.2.1, hwant, decide_eq_false_iff_not]
            have := h1.2.2.1
            have := h1.2.2.2
            omega
          have HY2 := Lib.hid (young_any L hv mv S 0 0 wo hH)
          rw [show S.layR 0 0 0 = 0 by unfold Hp.layR; rw [hfull]; rfl, hfull] at HY2
          clear hfull
          go_wp2_with fail
          refine HY2.out.mono ?_
          rintro e w6 ⟨rfl, hH6, hu6⟩
          have hUV := hU.trans' hu6 (fun q hq hlt2 => by have := hLB.out q hq; omega)
          have hO6 := hO.upd hu6 (fun k hk hm => hap k hm k hk rfl)

          have hsorted := sortL_rising ((List.range m).map fun j => (0 : Int) + ((j * sz : Nat) : Int) + 1) (fun a b hab hb => by
            have hb' : b < m := by simpa using hb
            have ea : ((List.range m).map fun j => (0 : Int) + ((j * sz : Nat) : Int) + 1).getD a 0 = (0 : Int) + ((a * sz : Nat) : Int) + 1 := by
              rw [List.getD_eq_getElem?_getD, List.getElem?_map, List.getElem?_range (by omega)]; rfl
            have eb : ((List.range m).map fun j => (0 : Int) + ((j * sz : Nat) : Int) + 1).getD b 0 = (0 : Int) + ((b * sz : Nat) : Int) + 1 := by
              rw [List.getD_eq_getElem?_getD, List.getElem?_map, List.getElem?_range (by omega)]; rfl
            rw [ea, eb]
            have h1 : (a + 1) * sz ≤ b * sz := Nat.mul_le_mul_right sz hab
            rw [Nat.succ_mul] at h1
            omega)
          have hlen : ((List.range m).map fun j => (0 : Int) + ((j * sz : Nat) : Int) + 1).length = m := by simp
          have HSO := Lib.hid hsorted
          have HLN := Lib.hid hlen
          clear hsorted hm2 hsz
          generalize ((List.range m).map fun j => (0 : Int) + ((j * sz : Nat) : Int) + 1) = all at *
          obtain ⟨bb, hiv, _⟩ := hO6.ints
          obtain ⟨ap, ac, hap2⟩ := hiv.form
          subst hap2
          have HIV := Lib.hid hiv
          clear hiv hlen
          go_wp2_with fail
          refine (sorted_any _ bb all _ HIV.out (by rw [HLN.out]; omega)).mono ?_
          rintro e w7 ⟨u, rfl, hou, hu7⟩
          rw [HSO.out] at hou
          obtain ⟨_, hivu, _⟩ := hou.ints
          obtain ⟨up, uc, hup⟩ := hivu.form
          subst hup
          clear hou hivu
          go_wp2_with fail
          go_ret
          exact ⟨by simp, hUV.trans hu7⟩

theorem fills_any (x0 x1 x2 : Int) (b : Bool) (w : World) :
    Calls Tryd.prog 5 #[.int .i64 x0, .int .i64 x1, .int .i64 x2, .bool b] w fun e w' => e = .returned (.bool true) ∧ Upd [] w w' := by
  cases b with
  | true => exact fills_true x0 x1 x2 w
  | false => exact fills_false x0 x1 x2 w

end Go.Proofs.YtlkflkgohclbmaaDoor
