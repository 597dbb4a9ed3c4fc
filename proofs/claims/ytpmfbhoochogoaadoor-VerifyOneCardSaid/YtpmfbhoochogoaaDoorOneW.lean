/- VerifyOne: the law's walk. -/
import Derived.Test.YtpmfbhoochogoaaDoorFirstL
import Derived.Test.YtpmfbhoochogoaaDoorFirst7
import Derived.Test.YtpmfbhoochogoaaDoorAtW
import Derived.Test.YtpmfbhoochogoaaDoorNumA
import Derived.Test.YtpmfbhoochogoaaDoorLightP
import Derived.Test.YtpmfbhoochogoaaDoorTurnM
import Derived.Test.YtpmfbhoochogoaaDoorSeeW
namespace Go.Proofs.YtpmfbhoochogoaaDoor
open Go.RowKit

theorem ErrV.boxed {w : World} {E : Nat → Addr} {v : Value} {c : Int} {at_ : List Int} (h : ErrV w E v c at_) (hc : c ≠ 0) : ∃ tz tp, v = .iface tz (.pointer tp) := by
  rcases h.2 with ⟨_, rfl⟩ | ⟨b, _, _, _, _, rfl, _⟩
  · rcases h.1 with h0 | ⟨h1, h2⟩
    · exact absurd h0 hc
    · obtain ⟨k, rfl⟩ : ∃ k : Nat, c = 101 + (k : Int) := ⟨(c - 101).toNat, by omega⟩
      exact ⟨_, _, errC_at E k⟩
  · exact ⟨_, _, rfl⟩
theorem MethsAt.bds {w : World} {v : Value} {ms : List Meth} (h : MethsAt w v ms) : ∀ j, j < ms.length → ∀ i, i < (ms.getD j default).code.length → ((ms.getD j default).code.getD i default).bd := by
  obtain ⟨a, cap, _, _, _, h4⟩ := h
  intro j hj i hi
  obtain ⟨b, o, _, _, _, _, _, v, _, ka, kc, _, _, _, h5⟩ := h4 j hj
  obtain ⟨_, _, _, h6, _⟩ := h5 i hi
  exact h6
theorem MethsAt.szs {w : World} {v : Value} {ms : List Meth} (h : MethsAt w v ms) : ∀ j, j < ms.length → (ms.getD j default).sz := by
  obtain ⟨a, cap, _, _, _, h4⟩ := h
  intro j hj
  obtain ⟨b, o, _, h5, _⟩ := h4 j hj
  exact h5
theorem Prg.Ok.codes {p : Prg} (h : p.Ok) : ∀ j, j < p.ms.length → 1 ≤ (p.ms.getD j default).code.length ∧ (p.ms.getD j default).code.length ≤ 120 := by
  intro j hj
  have h1 := h.meth j hj
  unfold headCode at h1
  split at h1
  · cases h1
  · omega

set_option maxRecDepth 100000 in
set_option maxHeartbeats 8000000 in
theorem oneW_any (E : Nat → Addr) (p : Prg) (cv mv : Value) (m pc : Int) (x : Ins) (w : World) (hS : SentAt w E) (hc : ClassAt w cv p.cs) (hm : MethsAt w mv p.ms) (hx : x.bd) :
    Calls Tryd.prog 3 #[.agg #[cv, mv], .int .i64 m, .int .i64 pc, .agg #[.int .i64 x.op, .int .i64 x.a, .int .i64 x.b, .int .i64 x.n]] w fun e w' => e = .returned (.bool true) ∧ Upd [] w w' := by
  have HXB := Lib.hid hx
  have HS := Lib.hid hS
  have HC := Lib.hid hc
  have HM := Lib.hid hm
  obtain ⟨cp, cc, rfl, _, hccl, hccm, _⟩ := hc
  obtain ⟨mp, mc, rfl, hml, hmm, hmx⟩ := hm
  clear hmx hx hS
  unfold maxLen at hccm hmm
  have ha := (Upd.refl [] w).alloc (.cells #[.slice cp p.cs.length cc, .slice mp p.ms.length mc] 25)
  have HU0 := Lib.hid (ha.alloc (.cells #[.int .i64 x.op, .int .i64 x.a, .int .i64 x.b, .int .i64 x.n] 27))
  have hB0 := ((Upd.refl [] _).alloc (.cells #[.int .i64 x.op, .int .i64 x.a, .int .i64 x.b, .int .i64 x.n] 27)).heap (heap_alloc_new w (.cells #[.slice cp p.cs.length cc, .slice mp p.ms.length mc] 25)) (by simp)
  have hX0 := heap_alloc_new (w.alloc (.cells #[.slice cp p.cs.length cc, .slice mp p.ms.length mc] 25)) (.cells #[.int .i64 x.op, .int .i64 x.a, .int .i64 x.b, .int .i64 x.n] 27)
  rw [show (w.alloc (.cells #[.slice cp p.cs.length cc, .slice mp p.ms.length mc] 25)).heap.size = w.heap.size + 1 by simp] at hX0
  clear ha
  go_enter Tryd.func3, Tryd.ntmps3
  go_wp2_with fail
  refine (first7_any E _ (HS.out.upd HU0.out)).mono ?_
  rintro e w1 ⟨rfl, hu1⟩
  have HU1 := Lib.hid (HU0.out.trans hu1)
  have hB1 := hu1.heap hB0 (by simp)
  have HX1 := Lib.hid (hu1.heap hX0 (by simp))
  clear hu1 hB0 hX0 HU0
  have c0 : w1.cell? ⟨w.heap.size, 0, none⟩ = some (.slice cp p.cs.length cc) := by rw [cell_of hB1]; rfl
  have c1 : w1.cell? ⟨w.heap.size, 1, none⟩ = some (.slice mp p.ms.length mc) := by rw [cell_of hB1]; rfl
  clear hB1
  go_wp2_with fail
  refine (light_any p _ _ w1 (HC.out.upd HU1.out) (HM.out.upd HU1.out)).mono ?_
  rintro e w2 ⟨⟨lb, rfl⟩, hu2⟩
  have HU2 := Lib.hid (HU1.out.trans hu2)
  have HX2 := Lib.hid (hu2.heap HX1.out (by simp))
  have c0 := hu2.cell c0 (by simp)
  have c1 := hu2.cell c1 (by simp)
  clear hu2 HU1 HX1
  cases lb with
  | false =>
    go_wp2_with fail
    go_ret
    exact ⟨rfl, HU2.out⟩
  | true =>
  by_cases hn0 : p.ms.length = 0
  · have d0 : ((p.ms.length : Int) == 0) = true := by rw [beq_iff_eq]; omega
    clear hn0
    go_wp2_with fail
    go_ret
    exact ⟨rfl, HU2.out⟩
  have d0 : ((p.ms.length : Int) == 0) = false := by rw [beq_eq_false_iff_ne]; omega
  have hpos : 0 < p.ms.length := by omega
  clear hn0
  have HOF := Lib.hid (ofV_any p (.slice cp p.cs.length cc) (.slice mp p.ms.length mc) E w2 (HS.out.upd HU2.out) (HC.out.upd HU2.out) (HM.out.upd HU2.out))
  go_wp2_with fail
  refine HOF.out.mono ?_
  rintro e w3 ⟨v3, rfl, hend, hu3⟩
  have HU3 := Lib.hid (HU2.out.trans hu3)
  have HX3 := Lib.hid (hu3.heap HX2.out (by simp))
  have c0 := hu3.cell c0 (by simp)
  have c1 := hu3.cell c1 (by simp)
  clear hu3 HU2 HOF HX2
  rcases hend with ⟨c, at_, ev, h1, h2, rfl, h4⟩ | ⟨hok, k, c, pc, ev, hk, _, hbad, rfl, h4⟩ | ⟨hok, ib, ss, hl, hlk, rfl, hinfo, hib, hib2⟩
  · obtain ⟨tz, tp, rfl⟩ := h4.boxed h2
    clear h4 h1
    go_wp2_with fail
    go_ret
    exact ⟨rfl, HU3.out⟩
  · obtain ⟨tz, tp, rfl⟩ := h4.boxed (by have := look_code hbad; omega)
    clear h4 hbad
    go_wp2_with fail
    go_ret
    exact ⟨rfl, HU3.out⟩
  have HLK := Lib.hid hlk
  have HL := Lib.hid hl
  have HOK := Lib.hid hok
  clear hlk hinfo hl hok hib2 hib
  have hmany := HOK.out.many
  have hfew := HOK.out.few
  have HPG := Lib.hid (program_any p (.slice cp p.cs.length cc) (.slice mp p.ms.length mc) w3 (HC.out.upd HU3.out) (HM.out.upd HU3.out) (by omega) (by omega) (fun j hj => by have := HOK.out.codes j hj; omega) HM.out.bds)
  go_wp2_with fail
  refine HPG.out.mono ?_
  rintro e w4 ⟨cu, mu, vs, rfl, hk4, hm4, hr4, hu4⟩
  obtain ⟨c1p, c1c, rfl⟩ := hk4.shape
  obtain ⟨m1p, m1c, rfl⟩ := hm4.shape
  have HK4 := Lib.hid hk4
  have HM4 := Lib.hid hm4
  have HR4 := Lib.hid hr4
  have HU4 := Lib.hid (HU3.out.trans hu4)
  have HX4 := Lib.hid (hu4.heap HX3.out (by simp))
  have hsz4 := hu4.size
  have HWS := Lib.hid HU3.out.size
  clear hu4 HU3 HPG HX3 c0 c1 hk4 hm4 hr4 hccl hccm hml hmm
  go_wp2_with fail
  refine (number_any m (p.ms.length : Int) _ (by omega) (by omega)).mono ?_
  rintro e w5 ⟨rfl, rfl⟩
  have hu5 := (Upd.refl [] w4).alloc (.cells #[.slice c1p p.cs.length c1c, .slice m1p p.ms.length m1c] 25)
  have hq5 := heap_alloc_new w4 (.cells #[.slice c1p p.cs.length c1c, .slice m1p p.ms.length m1c] 25)
  have HK5 := Lib.hid (HK4.out.upd hu5)
  have HM5 := Lib.hid (HM4.out.upd hu5)
  have HR5 := Lib.hid (HR4.out.upd hu5 (by simp))
  have HU5 := Lib.hid (HU4.out.trans hu5)
  have HX5 := Lib.hid (hu5.heap HX4.out (by simp))
  have HLT := Lib.hid (fun q hq => (HM4.out.blk q hq).2.1)
  have HLK4 := Lib.hid (fun q hq => (HK4.out.lt q hq).2)
  have HLR := Lib.hid HR4.out.at_
  have HWU := Lib.hid HU4.out.size
  clear HK4 HM4 HR4 HU4 HX4 hu5 hsz4
  generalize w4.alloc (.cells #[.slice c1p p.cs.length c1c, .slice m1p p.ms.length m1c] 25) = w5 at hq5 HK5 HM5 HR5 HU5 HX5 ⊢
  generalize w4.heap.size = qb at hq5 HLT HLR HLK4 HWU ⊢
  obtain ⟨k, hk, hke⟩ : ∃ k : Nat, k < p.ms.length ∧ m % (p.ms.length : Int) = (k : Int) := by
    have h1 := Int.emod_nonneg m (show (p.ms.length : Int) ≠ 0 by omega)
    have h2 := Int.emod_lt_of_pos m (show (0 : Int) < (p.ms.length : Int) by omega)
    exact ⟨(m % (p.ms.length : Int)).toNat, by omega, by omega⟩
  rw [hke]
  clear hke
  have q0 : w5.cell? ⟨qb, 0, none⟩ = some (.slice c1p p.cs.length c1c) := by rw [cell_of hq5]; rfl
  have q1 : w5.cell? ⟨qb, 1, none⟩ = some (.slice m1p p.ms.length m1c) := by rw [cell_of hq5]; rfl
  have HQ5 := Lib.hid hq5
  clear hq5
  obtain ⟨gm, hgm⟩ : ∃ gm, m1p = some ⟨gm, 0, none⟩ := by
    rcases HM5.out.row.2 with ⟨h1, h2⟩ | ⟨g, c, cur, h1, _⟩
    · omega
    · injection h1 with h1; exact ⟨g, h1⟩
  subst hgm
  have mc3 : w5.cell? ⟨gm, k * 4 + 3, none⟩ = some (vs.getD k undef) := by
    have h1 := HM5.out.row.cells (g := gm) rfl _ _ (mcells_get p.ms vs k HM5.out.len hk).2.2.2
    rwa [Addr.add_lit, Nat.zero_add] at h1
  have hcl := HOK.out.codes k hk
  obtain ⟨kc, hvk, cb, co, hins⟩ : ∃ kc, ∃ hv : Nat → Nat → Prop, ∃ cb co, vs.getD k undef = .slice (some ⟨cb, co, none⟩) (p.ms.getD k default).code.length kc := by
    obtain ⟨ka, kc, h1, _, _, h4⟩ := (HM5.out.code k hk).1
    obtain ⟨b, o, h5, _⟩ := h4 0 (by omega)
    exact ⟨kc, fun _ _ => True, b, o, by rw [h1, h5]⟩
  clear hvk
  obtain ⟨n, hn⟩ : ∃ n, n = (p.ms.getD k default).code.length := ⟨_, rfl⟩
  rw [← hn] at hins hcl
  rw [hins] at mc3
  have HINS := Lib.hid hins
  have HN := Lib.hid hn
  clear hins hn
  go_wp2_with fail
  refine (number_any pc (n : Int) _ (by omega) (by omega)).mono ?_
  rintro e w6 ⟨rfl, rfl⟩
  obtain ⟨i, hi, hie⟩ : ∃ i : Nat, i < n ∧ pc % (n : Int) = (i : Int) := by
    have h1 := Int.emod_nonneg pc (show (n : Int) ≠ 0 by omega)
    have h2 := Int.emod_lt_of_pos pc (show (0 : Int) < (n : Int) by omega)
    exact ⟨(pc % (n : Int)).toNat, by omega, by omega⟩
  rw [hie]
  clear hie
  go_upto_region 10 with fail
  obtain ⟨_, _, cur, hcb⟩ := HR5.out.at_ k (by have := HM5.out.len; omega) cb (by rw [HINS.out]; rfl)
  have hcode : CodeAt w5 (.slice (some ⟨cb, co, none⟩) n kc) (p.ms.getD k default).code := by
    have := (HM5.out.code k hk).1
    rwa [HINS.out] at this
  obtain ⟨ka, kc', he, hkl, hkm, hcx⟩ := hcode
  injection he with he1 he2 he3
  subst he1; subst he3
  rw [← HN.out] at hcx hkl
  have HCX := Lib.hid hcx
  obtain ⟨b', o', he4, _, hi0, hi1, hi2, hi3⟩ := hcx i hi
  injection he4 with he4
  injection he4 with he4 he5 _
  subst he4; subst he5
  have z0 := froz_of hcb (co + i * 4)
  have z1 := froz_of hcb (co + i * 4 + 1)
  have z2 := froz_of hcb (co + i * 4 + 2)
  have z3 := froz_of hcb (co + i * 4 + 3)
  have x0 : w5.cell? ⟨w.heap.size + 1, 0, none⟩ = some (.int .i64 x.op) := by rw [cell_of HX5.out]; rfl
  have x1 : w5.cell? ⟨w.heap.size + 1, 1, none⟩ = some (.int .i64 x.a) := by rw [cell_of HX5.out]; rfl
  have x2 : w5.cell? ⟨w.heap.size + 1, 2, none⟩ = some (.int .i64 x.b) := by rw [cell_of HX5.out]; rfl
  have x3 : w5.cell? ⟨w.heap.size + 1, 3, none⟩ = some (.int .i64 x.n) := by rw [cell_of HX5.out]; rfl
  clear hcx he2 hkl hcb
  go_region
  obtain ⟨hb1, hb2, _⟩ := HLR.out k (by have := HM5.out.len; omega) cb (by rw [HINS.out]; rfl)
  have hb3 := HWS.out
  obtain ⟨_, _, cur, hcb⟩ := HR5.out.at_ k (by have := HM5.out.len; omega) cb (by rw [HINS.out]; rfl)
  have hst := (store4_upd w5 cb (co + i * 4) x).drew
  have HM6 : Hid (OwnM (store4 w5 cb (co + i * 4) x).drew _ _ (p.turn k i x).ms vs) := (HM5.out.turn HR5.out hk HINS.out (by have := HN.out; omega) HXB.out).upd (Upd.refl [] _).drew
  have HK6 : Hid (OwnK (store4 w5 cb (co + i * 4) x).drew _ _ p.cs) := row_upd HK5.out hst (fun q hq hm => by
    simp at hm
    subst hm
    rcases HK5.out.2 with ⟨h1, h2⟩ | ⟨g, c, cur2, h1, _, h4, _⟩
    · rw [h1] at hq; simp [Value.ownBlock] at hq
    · rw [h1] at hq
      simp only [Value.ownBlock, Option.some.injEq] at hq
      subst hq
      rw [hcb] at h4
      injection h4 with h4
      injection h4 with _ h4 _
      exact absurd h4 (by decide))
  have HQ6 := Lib.hid (hst.heap HQ5.out (by simp; omega))
  have HU6 := Lib.hid (HU5.out.trans' hst (fun q hq hl => by simp at hq; omega))
  have HCL := Lib.hid (HK6.out.cls (by
    intro c hc
    obtain ⟨_, _, _, _, _, _, h7⟩ := HC.out
    obtain ⟨j, hj, e⟩ := List.getElem_of_mem hc
    obtain ⟨_, _, _, h8, _⟩ := h7 j hj
    rw [List.getD_eq_getElem?_getD, List.getElem?_eq_getElem hj] at h8
    rw [← e]
    exact h8))
  have HMT := Lib.hid (HM6.out.meths (fun j hj => HM.out.turn_sz k i x j (by rw [turn_mslen] at hj; exact hj)))
  show Exit.then _ _ _ _ (store4 w5 cb (co + i * 4) x).drew
  clear hst hcb mc3 q0 q1 x0 x1 x2 x3 z0 z1 z2 z3 hi0 hi1 hi2 hi3 HM5 HK5 HR5 HQ5 HU5 HX5 HM6 HK6
  generalize (store4 w5 cb (co + i * 4) x).drew = w6 at HQ6 HU6 HCL HMT ⊢
  have q0 : w6.cell? ⟨qb, 0, none⟩ = some (.slice c1p p.cs.length c1c) := by rw [cell_of HQ6.out]; rfl
  have q1 : w6.cell? ⟨qb, 1, none⟩ = some (.slice (some ⟨gm, 0, none⟩) p.ms.length m1c) := by rw [cell_of HQ6.out]; rfl
  have HOF := Lib.hid (ofV_any (p.turn k i x) _ _ E w6 (HS.out.upd HU6.out) HCL.out HMT.out)
  go_wp2_with fail
  refine HOF.out.mono ?_
  rintro e w7 ⟨v7, rfl, hend, hu7⟩
  have HU7 := Lib.hid (HU6.out.trans hu7)
  have HQ7 := Lib.hid (hu7.heap HQ6.out (by simp))
  have HMT7 := Lib.hid (HMT.out.upd hu7)
  clear hu7 HOF q0 q1
  have hends : (∃ (c : Int) (j : Nat) (ev : Value), j < n ∧ c ≠ 0 ∧ v7 = .tuple #[.pointer none, ev] ∧ ErrV w7 E ev c [(k : Int), (j : Int)]) ∨ ∃ ib2, v7 = .tuple #[.pointer (some ⟨ib2, 0, none⟩), .nilIface] := by
    rcases hend with ⟨c, at_, ev, h1, h2, h3, h4⟩ | ⟨_, k2, c, j, ev, hk2, _, hbad, h3, h4⟩ | ⟨_, ib2, ss2, _, _, h3, _⟩
    · have := may_turn HOK.out h1 h2
      subst this
      exact .inl ⟨c, i, ev, hi, h2, h3, h4⟩
    · have e : k = k2 := by
        refine Decidable.byContradiction fun hne => ?_
        rw [turn_look p k i x k2 hne, HLK.out k2 (by rw [turn_mslen] at hk2; exact hk2)] at hbad
        cases hbad
      subst e
      have h5 := look_place hbad
      rw [turn_len, ← HN.out] at h5
      exact .inl ⟨c, j, ev, h5, by have := look_code hbad; omega, h3, h4⟩
    · exact .inr ⟨ib2, h3⟩
  clear hend
  rcases hends with ⟨c, j, ev, hj, hc0, rfl, hev⟩ | ⟨ib2, rfl⟩
  · obtain ⟨tz, tp, hbx⟩ := hev.boxed hc0
    subst hbx
    have HEV := Lib.hid hev
    have HFT := Lib.hid (Fault_any E _ c _ w7 (HS.out.upd HU7.out) hev)
    clear hev
    go_wp2_with fail
    refine HFT.out.mono ?_
    rintro e w8 ⟨s8, b8, rfl, hints, hu8⟩
    obtain ⟨hs8 | ⟨cap8, rfl⟩, hcell⟩ := hints
    · exact absurd hs8.2 (by simp)
    have i0 := hcell 0 (by simp)
    have i1 := hcell 1 (by simp)
    simp only [List.getD_cons_zero, List.getD_cons_succ] at i0 i1
    have hl2 : ([(k : Int), (j : Int)]).length = 2 := rfl
    rw [hl2]
    clear hl2 hcell
    have HU8 := Lib.hid (HU7.out.trans hu8)
    have HQ8 := Lib.hid (hu8.heap HQ7.out (by simp))
    obtain ⟨a8, c8, hv8, _, _, hm8⟩ := HMT7.out.upd hu8
    injection hv8 with hv8 _ _
    subst hv8
    obtain ⟨b9, o9, e9, _, _, _, _, v9, hc9, hcode9⟩ := hm8 k (by rw [turn_mslen]; exact hk)
    injection e9 with e9
    injection e9 with e91 e92 _
    subst e91; subst e92
    obtain ⟨a10, c10, hv10, _⟩ := hcode9
    rw [turn_len, ← HN.out] at hv10
    subst hv10
    rw [Nat.zero_add] at hc9
    clear hm8 HMT HMT7 HQ7 HQ6 HFT HEV hu8
    go_upto_region 15 with fail
    have hu9 := (Upd.refl [] w8).alloc (.cells #[.int .i64 c, .slice (some ⟨b8, 0, none⟩) 2 cap8] 42)
    have hf9 := heap_alloc_new w8 (.cells #[.int .i64 c, .slice (some ⟨b8, 0, none⟩) 2 cap8] 42)
    have i0 := hu9.cell i0 (by simp)
    have i1 := hu9.cell i1 (by simp)
    have hc9 := hu9.cell hc9 (by simp)
    have HQ9 := Lib.hid (hu9.heap HQ8.out (by simp))
    have HU9 := Lib.hid (HU8.out.trans hu9)
    clear hu9
    generalize w8.alloc (.cells #[.int .i64 c, .slice (some ⟨b8, 0, none⟩) 2 cap8] 42) = w9 at *
    generalize w8.heap.size = fb at *
    have q1 : w9.cell? ⟨qb, 1, none⟩ = some (.slice (some ⟨gm, 0, none⟩) p.ms.length m1c) := by rw [cell_of HQ9.out]; rfl
    have f1 : w9.cell? ⟨fb, 1, none⟩ = some (.slice (some ⟨b8, 0, none⟩) 2 cap8) := by rw [cell_of hf9]; rfl
    have g1 : decide ((0 : Int) ≤ (j : Int)) = true := decide_eq_true (by omega)
    have g2 : decide ((j : Int) < (n : Int)) = true := decide_eq_true (by omega)
    have g3 : decide (j < n) = true := decide_eq_true hj
    go_quiet (fail)
    go_wp2_with fail
    go_ret
    exact ⟨rfl, HU9.out.drewN _⟩
  · go_wp2_with fail
    go_ret
    exact ⟨rfl, HU7.out⟩
end Go.Proofs.YtpmfbhoochogoaaDoor
