/- GcAgain: the walk. -/
import Derived.Test.YtneeljhjfmcdoaaDoorAgL
import Derived.Test.YtneeljhjfmcdoaaDoorSameO
import Derived.Test.YtneeljhjfmcdoaaDoorSame
import Derived.Test.YtneeljhjfmcdoaaDoorFrame
import Derived.Deep.QuietTactic
import Derived.BigQuiet
namespace Go.Proofs.YtneeljhjfmcdoaaDoor
open Go.RowKit

/-- A row made behind the classes is none of the heap's blocks. -/
theorem GcAt.freeAll {w0 w : World} {L : HL} {cv mv : Value} {S : Hp} (h : GcAt w0 w L cv mv S) {B : Nat} {u : Value} {xs : List Int} (ho : OwnI w B 3 u xs) (hc : L.cb < B) : ∀ k, u.ownBlock = some k → k ∉ L.all := by
  intro k hk hm
  rcases ho.2 with ⟨h1, _⟩ | ⟨g, c, cur, h1, hB, h2, _⟩
  · rw [h1] at hk; cases hk
  · rw [h1] at hk
    simp only [Value.ownBlock, Option.some.injEq] at hk
    subst hk
    simp only [HL.all, List.mem_cons, List.not_mem_nil, or_false] at hm
    have t1 := h.hp.hb
    have t2 := h.hp.ar.1
    have t3 := h.hp.ar.2.1
    have t4 := h.hp.bg.1
    have t5 := h.hp.bg.2.1
    have t6 := h.hp.mr.1
    have t7 := h.hp.mr.2.1
    rcases hm with e | e | e | e | e | e | e | e
    · rw [← e, h2] at t1; injection t1 with t1; injection t1 with _ t _; exact absurd t (by decide)
    · rw [← e, h2] at t2; injection t2 with t1; injection t1 with _ t _; exact absurd t (by decide)
    · rw [← e, h2] at t3; injection t3 with t1; injection t1 with _ t _; exact absurd t (by decide)
    · rw [← e, h2] at t4; injection t4 with t1; injection t1 with _ t _; exact absurd t (by decide)
    · rw [← e, h2] at t5; injection t5 with t1; injection t1 with _ t _; exact absurd t (by decide)
    · rw [← e, h2] at t6; injection t6 with t1; injection t1 with _ t _; exact absurd t (by decide)
    · rw [← e, h2] at t7; injection t7 with t1; injection t1 with _ t _; exact absurd t (by decide)
    · omega

theorem own_arg2 {w : World} {B : Nat} {e : TypeId} {v : Value} {xs : List Int} (h : OwnI w B e v xs) : ∃ p c rb, v = .slice p xs.length c ∧ ((xs = [] ∧ p = none ∧ c = 0) ∨ p = some ⟨rb, 0, none⟩) ∧ (∀ i, i < xs.length → w.cell? ⟨rb, i, none⟩ = some (.int .i64 (xs.getD i 0))) := by
  rcases h.form with ⟨h1, h2⟩ | ⟨g, c, h1, h2, h3, h4, h5⟩
  · subst h2
    exact ⟨none, 0, B, h1, .inl ⟨rfl, rfl, rfl⟩, (fun i hi => by cases hi)⟩
  · exact ⟨_, c, g, h1, .inr rfl, h5⟩

theorem left_sub {L L' : HL} {B E n : Nat} (h : ∀ q ∈ L.own, q < B ∨ E ≤ q) (hn : E ≤ n) (hs : ∀ i ∈ L'.own, i ∈ L.own ∨ n ≤ i) : ∀ q ∈ L'.own, q < B ∨ E ≤ q := fun q hq => by
  rcases hs q hq with h1 | h1
  · exact h q h1
  · exact .inr (by omega)

theorem drewN_add2 (w : World) (a b : Nat) : (w.drewN a).drewN b = w.drewN (a + b) := by
  unfold World.drewN
  simp [Nat.add_assoc]
theorem shape_nums (S : Hp) (rs : List Int) : (S.shape rs).2.length = rs.length := by
  have h : ∀ (l : List Int) (s : List Int × List Int), (l.foldl S.gr.rootStep s).1.length = s.1.length + l.length := by
    intro l
    induction l with
    | nil => intro s; rfl
    | cons a t ih =>
      intro s
      rw [List.foldl_cons, ih]
      unfold Gr.rootStep
      simp only [List.length_append, List.length_cons, List.length_nil]
      omega
  rw [gr_shape]
  show (rs.foldl S.gr.rootStep ([], [])).1.length = _
  rw [h]
  simp

set_option maxRecDepth 100000 in
set_option maxHeartbeats 8000000 in
theorem agW_any (x t : Int) (major : Bool) (w : World) (hT : TzAt w) :
    Calls Tryd.prog 6 #[.int .i64 x, .int .i64 t, .bool major] w fun e w' => e = .returned (.bool true) ∧ Upd [] w w' := by
  obtain ⟨i0, hi, hz0, hz1, hz2⟩ := info_parts Tryd.infoInt
  have HI := Lib.hid hi
  have HZ0 := Lib.hid hz0
  have HZ1 := Lib.hid hz1
  have HZ2 := Lib.hid hz2
  clear hi hz0 hz1 hz2
  have HF := Lib.hid (first12_any w hT)
  have HT := Lib.hid hT
  have e1 := and_15 x
  have e2 := and_7 t
  have hn0 := Int.emod_nonneg x (show (16 : Int) ≠ 0 by omega)
  have hn1 := Int.emod_lt_of_pos x (show (0 : Int) < 16 by omega)
  have hm0 := Int.emod_nonneg t (show (8 : Int) ≠ 0 by omega)
  have hm1 := Int.emod_lt_of_pos t (show (0 : Int) < 8 by omega)
  clear hT
  go_enter Tryd.func6, Tryd.ntmps6
  go_wp2_with fail
  refine HF.out.mono ?_
  rintro e wz ⟨rfl, huz⟩
  have HUZ := Lib.hid huz
  have HTZ := Lib.hid (HT.out.upd huz (by simp))
  clear huz HF HT
  go_upto_region 4 with fail
  go_cut [0, 1, 8] (fun s tv q wx => ∃ n m : Nat, s = .int .i64 (n : Int) ∧ tv = .int .i64 (m : Int) ∧ q = .pointer (some ⟨wz.heap.size + 1 + 1 + 1, 0, none⟩) ∧ 1 ≤ n ∧ n ≤ 16 ∧ m ≤ 8 ∧ Hid (OnePrg wz wx RRc))
  case first =>
    go_wp2_with fail
    go_meet
    exact ⟨(x % 16 + 1).toNat, (t % 8 + 1).toNat, by rw [show (((x % 16 + 1).toNat : Nat) : Int) = x % 16 + 1 by omega], by rw [show (((t % 8 + 1).toNat : Nat) : Int) = t % 8 + 1 by omega], rfl, by omega, by omega, by omega, onePrg wz RRc⟩
  case rest =>
    obtain ⟨n, m, rfl, rfl, rfl, hn, hn2, hm, HP⟩ := hcut
    obtain ⟨wp, rfl⟩ : ∃ wp : World, wp = wc := ⟨_, rfl⟩
    clear e1 e2 hn0 hn1 hm0 hm1
    have c0 := HP.out.c0
    have c1 := HP.out.c1
    have HN := Lib.hid (newat_any _ (.slice (some ⟨wz.heap.size + 1 + 1, 0, none⟩) 1 1) wz.heap.size 0 [RRc] 800 100 wp HP.out.cls (by omega) (by omega) (by omega) (by simp) (by simp; decide) (HTZ.out.upd HP.out.up (by simp)))
    go_wp2_with fail
    refine HN.out.mono ?_
    rintro e w1 ⟨L, cv, mv, rfl, hg, hu1⟩
    have HU0 := Lib.hid (HUZ.out.trans HP.out.up)
    have HG1 := Lib.hid hg
    have HCB : Hid (L.cb < w1.heap.size) := hg.hi _ (by simp [HL.all])
    have hw1z : wp.heap.size ≤ w1.heap.size := hg.up.size
    have HTL : Hid (1 < wp.heap.size) := (HTZ.out.upd HP.out.up (by simp)).lt
    clear hg hu1 c0 c1 HN HTZ HUZ HP
    have HNA := Lib.hid agA_new
    generalize Hp.new [RRc] 800 100 = S0 at HG1 HNA
    go_wp2_with fail
    go_loopw [11, 12] (fun rv iv wr => ∃ (i : Nat) (S : Hp) (L' : HL), i ≤ n ∧ iv = .int .i64 i ∧ Hid (L'.hb = L.hb ∧ L'.cb = L.cb) ∧ Hid (OwnI wr w1.heap.size 3 rv (agR i)) ∧ Hid (GcAt wp wr L' cv mv S) ∧ Hid (AgA S i) ∧ w1.heap.size ≤ wr.heap.size) (fun _ iv _ => n - (intOf iv).toNat)
    case atStart => exact ⟨0, _, L, by omega, rfl, ⟨rfl, rfl⟩, OwnI.nil _ _ _, HG1.out, HNA.out, Nat.le_refl _⟩
    case round =>
      clear HG1 HNA S0
      obtain ⟨i, S, L', hi, rfl, HLL, HO, HG, HA, hwo⟩ := hrel
      obtain ⟨wo, rfl⟩ : ∃ wo : World, wo = wr := ⟨_, rfl⟩
      by_cases hlt : i < n
      · as_aux_lemma =>
        have e1 : decide ((i : Int) < (n : Int)) = true := decide_eq_true (by omega)
        obtain ⟨pr, cr, rb, rfl, hpr, hcr⟩ := own_arg2 HO.out
        have hrl := agR_len i
        have hrng : ∀ r ∈ agR i, -9223372036854775808 ≤ r ∧ r ≤ 9223372036854775807 := fun r hm => by
          obtain ⟨k, hk, e⟩ := List.getElem_of_mem hm
          have := agR_get i k (by omega)
          rw [List.getD_eq_getElem?_getD, List.getElem?_eq_getElem hk, Option.getD_some, e] at this
          omega
        have HM := Lib.hid (make_any wp L' cv mv S 0 0 pr cr rb (agR i) wo HG.out (by omega) hpr hcr hrng)
        rw [HLL.out.1] at HM
        clear hpr hcr hrng hrl
        go_wp2_with fail
        refine HM.out.mono ?_
        rintro e w5 ⟨v, L2, r, rs', is, S', u, rfl, hme⟩
        obtain ⟨rfl, hown, hmade, hg5, hb5, hs5, hu5, hcb5⟩ := hme
        obtain ⟨rfl, hr, rfl, hA5⟩ := ag_made HA.out HG.out.hp.ok HG.out.hp.bg.2.2.2.1 (by omega) hmade
        have HLL5 : Hid (L2.hb = L.hb ∧ L2.cb = L.cb) := ⟨hb5.trans HLL.out.1, hcb5.trans HLL.out.2⟩
        have hw5 : w1.heap.size ≤ w5.heap.size := Nat.le_trans hwo hu5.size
        have HO5 : Hid (OwnI w5 w1.heap.size 3 u (agR i)) := row_base hown hwo
        have HG5 := Lib.hid hg5
        have HA5 := Lib.hid hA5
        have hlen := agR_len i
        obtain ⟨p5, c5, rfl⟩ := ownI_shape hown
        have hrb : 1 ≤ r ∧ r ≤ 100 := by omega
        have hg0 := agR_get (i + 1) 0 (by omega)
        have HS : Hid (agR (i + 1) = agR i ++ [r, r]) := by show _ = _; rw [hr]; rfl
        have HS0 : Hid ((agR (i + 1)).getD 0 0 = 1) := by show _ = _; rw [hg0]; rfl
        have HR := Lib.hid hr
        have HIL : Hid (i < n) := hlt
        clear hmade hg5 hb5 hs5 hu5 hcb5 hown hA5 HM HG HA HO HLL hr hg0 hwo
        generalize agR i = rs at HO5 HS hlen
        rw [hlen]
        go_wp2_with (at_builtin; refine stop_here ?_)
        refine Hid.mk ?_
        have hcn := cell_of (heap_alloc_new w5 (.cells #[.int .i64 r, .int .i64 r] 3))
        have hsz := HG5.out.up.size
        have hO8 := HO5.out
        rw [OwnI, hlen] at hO8
        refine (wpList_append_own _ rfl _ _ 22 rfl w1.heap.size 3 i0 (.int .i64 0) 1 8 Tryd.underlying22 HI.out HZ0.out HZ1.out HZ2.out rfl (by decide) _ _ _ rfl (hO8.alloc (.cells #[.int .i64 r, .int .i64 r] 3)) ⟨w5.heap.size, 0, none⟩ 2 2 [.int .i64 r, .int .i64 r] rfl rfl ?c1 ?c2 ?c3 ?c4 ?c5 ?c6)
        case c1 =>
          intro jj uu hjj
          rw [Addr.add_lit, Nat.zero_add, hcn]
          simpa using hjj
        case c2 => simp [Value.oneCell']
        case c3 => unfold maxLen; omega
        case c4 => omega
        case c5 => simp; omega
        case c6 =>
          intro v' w6 hown hgr _
          have hu6 : Upd (Value.slice p5 rs.length c5).ownBlock.toList w5 w6 := ((Upd.refl _ w5).alloc (.cells #[.int .i64 r, .int .i64 r] 3)).grown hgr (fun q hq => .inl (Option.mem_toList.2 (by rw [hlen]; exact hq)))
          have hO6 : OwnI w6 w1.heap.size 3 v' (agR (i + 1)) := by
            rw [HS.out]
            unfold OwnI
            rw [List.length_append, List.map_append, hlen]
            exact hown
          have htl := HTL.out
          have HG6 := Lib.hid (HG5.out.updT hu6 (fun k hk => by
            have hk1 := Option.mem_toList.1 hk
            have hk2 := (HO5.out.lt k hk1).1
            exact ⟨HG5.out.freeAll HO5.out (by rw [HLL5.out.2]; exact HCB.out) k hk1, by omega, by omega⟩))
          have hw6 : w1.heap.size ≤ w6.heap.size := Nat.le_trans hw5 hu6.size
          have hlen6 : (agR (i + 1)).length = 2 * (i + 1) := agR_len _
          rcases hO6.form with ⟨_, h2⟩ | ⟨g, c6, rfl, hc1, hgb, hgl, hcell⟩
          · rw [h2] at hlen6; simp at hlen6
          have hc0 := hcell 0 (by omega)
          rw [HS0.out] at hc0
          have HO6 := Lib.hid hO6
          have hp1 := ag_put HA5.out HG6.out.hp.ok i 0 (by omega) (by omega) (by omega) 0 (.inl rfl)
          rw [← HR.out, show (4 * ((0 : Nat) : Int) + 1) = 1 by omega] at hp1
          have hp := gput HG6.out r 0 1 (by omega) (by omega)
          rw [hp1.1, if_pos rfl, HLL5.out.1] at hp
          have HPC := Lib.hid hp
          have HA6 := Lib.hid hp1.2
          have HGF := Lib.hid (HG6.out.free hO6)
          have hgo : g ∉ L2.own := HGF.out g rfl
          clear hown hgr hcn hO8 hu6 hO6 hcell hp1 hp HA5 HG5 HO5 HS HS0 hlen htl
          rw [hlen6]
          rw [hlen6] at hc1
          have hix : 0 < 2 * (i + 1) := by omega
          have hixI : (0 : Int) < ((2 * (i + 1) : Nat) : Int) := by omega
          obtain ⟨ln, hln⟩ : ∃ ln : Nat, ln = 2 * (i + 1) := ⟨_, rfl⟩
          rw [← hln] at hix hixI hc1 ⊢
          have HLNE := Lib.hid (hlen6.trans hln.symm)
          clear hln hlen6
          go_wp2_with fail
          refine HPC.out.mono ?_
          rintro e w7 ⟨rfl, hg7, hu7⟩
          have HG7 := Lib.hid hg7
          have hc7 := hu7.cell hc0 hgo
          have HO7 := Lib.hid (HO6.out.upd hu7 HGF.out)
          have hw7 : w1.heap.size ≤ w7.heap.size := Nat.le_trans hw6 hu7.size
          clear hg7 hu7 HPC HG6 HO6 hc0
          generalize S'.put r 0 1 = S7 at HG7 HA6
          have hp1 := ag_put HA6.out HG7.out.hp.ok 0 i (by omega) (by omega) (by omega) 1 (.inr rfl)
          rw [← HR.out, show (4 * ((0 : Nat) : Int) + 1) = 1 by omega] at hp1
          have hp := gput HG7.out 1 1 r (by omega) (by omega)
          rw [hp1.1, if_pos rfl, HLL5.out.1] at hp
          have HPC := Lib.hid hp
          have HA7 := Lib.hid hp1.2
          clear hp1 hp HA6
          go_wp2_with fail
          refine HPC.out.mono ?_
          rintro e w8 ⟨rfl, hg8, hu8⟩
          have HG8 := Lib.hid hg8
          have HO8 := Lib.hid (HO7.out.upd hu8 HGF.out)
          have hw8 : w1.heap.size ≤ w8.heap.size := Nat.le_trans hw7 hu8.size
          clear hg8 hu8 HPC HG7 HO7 hc7
          go_wp2_with fail
          go_roundw
          case rel => exact ⟨i + 1, _, L2, by have := HIL.out; omega, by go_num, HLL5.out, (by have h9 := HO8.out; rwa [HLNE.out] at h9), HG8.out, HA7.out, hw8⟩
          case measure => have := HIL.out; simp [intOf]; omega
      · obtain rfl : i = n := by omega
        have e1 : decide ((i : Int) < (i : Int)) = false := decide_eq_false (by omega)
        have hlen : (agR i).length = 2 * i := agR_len i
        rcases HO.out.form with ⟨_, h2⟩ | ⟨g, c, rfl, hc1, hgb, hgl, hcell⟩
        · rw [h2] at hlen; simp at hlen; omega
        have hB := agB_start HA.out HG.out.hp.ok hn2
        have HRG := Lib.hid (HG.out.rng hB.roots)
        have HC := Lib.hid (gshape HG.out (some ⟨g, 0, none⟩) c g (agR i) (by omega) (.inr rfl) hcell HRG.out)
        rw [HLL.out.1] at HC
        have HB := Lib.hid hB
        have HLN := Lib.hid hlen
        have HHB : Hid (L'.hb = L.hb) := HLL.out.1
        clear hB hcell hlen HLL
        go_wp2_with fail
        refine HC.out.mono ?_
        rintro e w4 ⟨uv, av, ps, ov, od, rfl, hout, hps, hu4⟩
        have hor := hout.objsR hps
        obtain ⟨nb, hns, hnb⟩ := hout.numsR
        have HG4 := Lib.hid (HG.out.upd hu4)
        have HO4 := Lib.hid (HO.out.upd hu4 (by simp))
        have HLO : Hid (∀ q ∈ L'.own, q < wo.heap.size ∨ w4.heap.size ≤ q) := fun q hq => .inl (HG.out.hi _ (HL.sub hq))
        have hw4 : w1.heap.size ≤ w4.heap.size := Nat.le_trans hwo hu4.size
        have hwl : wo.heap.size ≤ w4.heap.size := hu4.size
        obtain ⟨po, ko, rfl, _⟩ := id hor
        obtain ⟨pn, kn, rfl⟩ := hns.form
        have HOR := Lib.hid hor
        have HNS := Lib.hid hns
        have HNB := Lib.hid hnb
        have HSZ : Hid (∀ o ∈ (S.shape (agR i)).1, o.2.length ≤ 100000) := fun o ho => by
          have h1 : ∀ l : List (Int × List Int), o ∈ l → 2 + (o.2.length : Int) ≤ wordsO l := by
            intro l
            induction l with
            | nil => intro h; cases h
            | cons a t ih =>
              intro h
              have hn := wordsO_nonneg t
              simp only [wordsO]
              rcases List.mem_cons.1 h with h | h
              · rw [h]; omega
              · have := ih h; omega
          have := h1 _ ho
          have := HB.out.few
          omega
        have HFEW : Hid ((S.shape (agR i)).1.length ≤ 1000) := by
          have h1 : ∀ l : List (Int × List Int), 2 * (l.length : Int) ≤ wordsO l := by
            intro l
            induction l with
            | nil => simp [wordsO]
            | cons a t ih => simp only [wordsO, List.length_cons]; omega
          have := h1 (S.shape (agR i)).1
          have := HB.out.few
          show _ ≤ _
          omega
        have HNL : Hid ((S.shape (agR i)).2.length ≤ 1000) := by
          have := shape_nums S (agR i)
          have := HLN.out
          show _ ≤ _
          omega
        clear hout hps hu4 hor hns hnb HC HG HA
        generalize (S.shape (agR i)).1 = os at HB HOR HSZ HFEW ⊢
        generalize (S.shape (agR i)).2 = ns at HB HNS HNB HNL ⊢
        go_wp2_with fail
        go_loopw [11, 18] (fun rv jv wr => ∃ (j : Nat) (S2 : Hp) (L2 : HL) (rs : List Int), j ≤ m ∧ jv = .int .i64 j ∧ Hid (L2.hb = L.hb) ∧ Hid (OwnI wr w1.heap.size 3 rv rs) ∧ Hid (GcAt wp wr L2 cv mv S2) ∧ Hid (AgB S2 rs os ns) ∧ Hid (∀ q ∈ L2.own, q < wo.heap.size ∨ w4.heap.size ≤ q) ∧ Hid (ObjsR wo.heap.size w4.heap.size wr (.slice po os.length ko) os) ∧ Hid (IntsV wr (.slice pn ns.length kn) nb ns) ∧ Hid (rs.length = 2 * i) ∧ w4.heap.size ≤ wr.heap.size) (fun _ jv _ => m - (intOf jv).toNat)
        case atStart => exact ⟨0, _, L', _, by omega, rfl, HHB.out, HO4.out, HG4.out, HB.out, HLO.out, HOR.out, HNS.out, HLN.out, Nat.le_refl _⟩
        case round =>
          clear HO4 HG4 HB HLO HOR HNS HHB HLN HRG
          obtain ⟨j, S2, L2, rs, hj, rfl, HHB, HO, HG, HB, HLO, HOR, HNS, HLR, hwr⟩ := hrel
          obtain ⟨wq, rfl⟩ : ∃ w' : World, w' = wr := ⟨_, rfl⟩
          by_cases hlt : j < m
          · have e2 : decide ((j : Int) < (m : Int)) = true := decide_eq_true (by omega)
            have hlr := HLR.out
            rcases HO.out.form with ⟨_, h2⟩ | ⟨g2, c2, rfl, hc2, hgb2, hgl2, hcell2⟩
            · rw [h2] at hlr; simp at hlr; omega
            have HCE := Lib.hid hcell2
            clear hcell2 hlr
            go_upto_if 99 with fail
            go_cut [19, 20] (fun isv lv wx => ∃ sc M bg L3, isv = .bool true ∧ Hid (Done S2 major rs sc M bg) ∧ Hid (OwnI wx w1.heap.size 3 lv (rs.map (fwL M.mv))) ∧ Hid (GcAt wp wx L3 cv mv (S2.left major M bg)) ∧ Hid (L3.hb = L.hb) ∧ Hid (∀ q ∈ L3.own, q < wo.heap.size ∨ w4.heap.size ≤ q) ∧ Hid (Upd L2.own wq wx))
            case first =>
              as_aux_lemma =>
              have hfr := HG.out.free HO.out g2 rfl
              have hmay := HB.out.may HG.out.hp.ok major
              have hw1q : w1.heap.size ≤ wq.heap.size := Nat.le_trans hw4 hwr
              cases major
              · have HC := Lib.hid (gminor2 HG.out (some ⟨g2, 0, none⟩) c2 g2 rs (by have := HLR.out; omega) (.inr rfl) HCE.out (HG.out.rng HB.out.roots) hfr)
                rw [HHB.out] at HC
                have HMY := Lib.hid hmay
                clear hmay hfr
                go_wp2_with fail
                refine HC.out.mono ?_
                rintro e w6 ⟨vv, rfl, hend, hu6⟩
                rcases hend with ⟨h9, _⟩ | ⟨_, sc, M, bg, L3, u, hd, rfl, ho, hg, hb, hs6, hso, hcb⟩
                · have := HMY.out; omega
                have HX : Hid (Done S2 false rs sc M bg ∧ OwnI w6 w1.heap.size 3 u (rs.map (fwL M.mv)) ∧ GcAt wp w6 L3 cv mv (S2.left false M bg) ∧ L3.hb = L.hb ∧ (∀ q ∈ L3.own, q < wo.heap.size ∨ w4.heap.size ≤ q) ∧ Upd L2.own wq w6) := ⟨hd, row_base ho hw1q, hg, hb.trans HHB.out, left_sub HLO.out hwr hso, hu6⟩
                obtain ⟨pu, cu, rfl⟩ := ownI_shape ho
                clear hd ho hg hb hs6 hso hcb hu6 HC
                go_wp2_with fail
                go_meet
                exact ⟨sc, M, bg, L3, rfl, HX.out.1, (by have h9 := HX.out.2.1; rwa [List.length_map] at h9), HX.out.2.2.1, HX.out.2.2.2.1, HX.out.2.2.2.2.1, HX.out.2.2.2.2.2⟩
              · have HC := Lib.hid (gmajor2 HG.out (some ⟨g2, 0, none⟩) c2 g2 rs (by have := HLR.out; omega) (.inr rfl) HCE.out (HG.out.rng HB.out.roots) hfr)
                rw [HHB.out] at HC
                have HMY := Lib.hid hmay
                clear hmay hfr
                go_wp2_with fail
                refine HC.out.mono ?_
                rintro e w6 ⟨vv, rfl, hend, hu6⟩
                rcases hend with ⟨h9, _⟩ | ⟨_, sc, M, bg, L3, u, hd, rfl, ho, hg, hb, hs6, hso, hcb⟩
                · have := HMY.out; omega
                have HX : Hid (Done S2 true rs sc M bg ∧ OwnI w6 w1.heap.size 3 u (rs.map (fwL M.mv)) ∧ GcAt wp w6 L3 cv mv (S2.left true M bg) ∧ L3.hb = L.hb ∧ (∀ q ∈ L3.own, q < wo.heap.size ∨ w4.heap.size ≤ q) ∧ Upd L2.own wq w6) := ⟨hd, row_base ho hw1q, hg, hb.trans HHB.out, left_sub HLO.out hwr hso, hu6⟩
                obtain ⟨pu, cu, rfl⟩ := ownI_shape ho
                clear hd ho hg hb hs6 hso hcb hu6 HC
                go_wp2_with fail
                go_meet
                exact ⟨sc, M, bg, L3, rfl, HX.out.1, (by have h9 := HX.out.2.1; rwa [List.length_map] at h9), HX.out.2.2.1, HX.out.2.2.2.1, HX.out.2.2.2.2.1, HX.out.2.2.2.2.2⟩
            case rest =>
              as_aux_lemma =>
              obtain ⟨sc, M, bg, L3, rfl, HD, HO3, HG3, HHB3, HLO3, HU3⟩ := hcut
              obtain ⟨w5, rfl⟩ : ∃ w' : World, w' = wc := ⟨_, rfl⟩
              have HB3 := Lib.hid (HB.out.next HG.out.inv HD.out HG3.out.hp.ok)
              have HOR3 := Lib.hid (HOR.out.upd HU3.out HLO.out)
              have HNS3 := Lib.hid (HNS.out.upd HU3.out (by
                rcases HNB.out with h | h
                · exact .inl h
                · exact .inr (fun hm => by have := HLO.out _ hm; omega)))
              have HLR3 : Hid ((rs.map (fwL M.mv)).length = 2 * i) := (List.length_map _).trans HLR.out
              have hw5 : w4.heap.size ≤ w5.heap.size := Nat.le_trans hwr HU3.out.size
              have hlr := HLR.out
              clear HB HG HD HOR HNS HU3 HCE HO HLO HHB
              generalize S2.left major M bg = S3 at HG3 HB3
              generalize rs.map (fwL M.mv) = rs3 at HO3 HB3 HLR3
              have hlr3 := HLR3.out
              rcases HO3.out.form with ⟨_, h2⟩ | ⟨g3, c3, rfl, hc3, hgb3, hgl3, hcell3⟩
              · rw [h2] at hlr3; simp at hlr3; omega
              have HCE := Lib.hid hcell3
              clear hcell3 hlr3 hc2
              rw [hlr, HLR3.out]
              rw [HLR3.out] at hc3
              clear hlr HLR
              go_wp2_with fail
              obtain ⟨ln, hln⟩ : ∃ ln : Nat, ln = 2 * i := ⟨_, rfl⟩
              rw [← hln] at HLR3 hc3 ⊢
              have HLI := Lib.hid hln
              have hl32 : ln ≤ 32 := by omega
              have hl2 : ln % 2 = 0 := by omega
              clear hln
              go_loopw [21] (fun kv wr => ∃ k : Nat, k % 2 = 0 ∧ k ≤ ln ∧ kv = .int .i64 k ∧ ∃ d, wr = w5.drewN d) (fun kv _ => ln - (intOf kv).toNat)
              case atStart => exact ⟨0, by omega, by omega, rfl, 0, rfl⟩
              case round =>
                obtain ⟨k, hk2, hk, rfl, d, hd⟩ := hrel
                have hu := (Upd.refl [] w5).drewN d
                rw [← hd] at hu
                have HDR := Lib.hid hd
                clear hd
                obtain ⟨wk, rfl⟩ : ∃ w' : World, w' = wr := ⟨_, rfl⟩
                by_cases hkl : k < ln
                · have hk1 : k + 1 < ln := by omega
                  have e3 : decide ((k : Int) + 1 < (ln : Int)) = true := decide_eq_true (by omega)
                  have hx := hu.cell (HCE.out k (by rw [HLR3.out]; omega)) (by simp)
                  have hy := hu.cell (HCE.out (k + 1) (by rw [HLR3.out]; omega)) (by simp)
                  rw [← HB3.out.pair k hk2 (by rw [HLR3.out]; omega)] at hy
                  generalize rs3.getD k 0 = a at hx hy
                  clear hu
                  go_wp2_with fail
                  go_quiet (fail)
                  go_wp2_with fail
                  go_roundw
                  case rel =>
                    refine ⟨k + 2, by omega, by omega, by go_num, ?_⟩
                    have hm := HDR.out
                    subst hm
                    exact ⟨_, drewN_add2 w5 _ _⟩
                  case measure => simp [intOf]; omega
                · obtain rfl : k = ln := by omega
                  have e3 : decide ((k : Int) + 1 < (k : Int)) = false := decide_eq_false (by omega)
                  have HG4 := Lib.hid (HG3.out.upd hu)
                  have HO4 := Lib.hid (HO3.out.upd hu (by simp))
                  have HOR4 := Lib.hid (HOR3.out.upd hu (by simp))
                  have HNS4 := Lib.hid (HNS3.out.upd hu (.inr (by simp)))
                  have HCE4 : Hid (∀ i, i < rs3.length → wk.cell? ⟨g3, i, none⟩ = some (.int .i64 (rs3.getD i 0))) := fun i hi => hu.cell (HCE.out i hi) (by simp)
                  have hwk : w4.heap.size ≤ wk.heap.size := Nat.le_trans hw5 hu.size
                  have HC := Lib.hid (gshape HG4.out (some ⟨g3, 0, none⟩) c3 g3 rs3 (by rw [HLR3.out]; omega) (.inr rfl) HCE4.out (HG4.out.rng HB3.out.roots))
                  rw [HHB3.out, HLR3.out] at HC
                  clear hu HDR HG3 HO3 HOR3 HNS3 HCE
                  go_wp2_with fail
                  refine HC.out.mono ?_
                  rintro e w7 ⟨uv, av, ps, ov, od, rfl, hout, hps, hu7⟩
                  have hps2 : ps.map OP.o = os := hps.trans (congrArg Prod.fst HB3.out.shape)
                  have HOV := Lib.hid (hout.objsV hps2)
                  obtain ⟨nb2, hnv⟩ := hout.nums
                  rw [HB3.out.shape] at hnv
                  have HNV : Hid (IntsV w7 av nb2 ns) := hnv
                  have HOR7 := Lib.hid (HOR4.out.upd hu7 (by simp))
                  have HNS7 := Lib.hid (HNS4.out.upd hu7 (.inr (by simp)))
                  have HG7 := Lib.hid (HG4.out.upd hu7)
                  have HO7 := Lib.hid (HO4.out.upd hu7 (by simp))
                  have HCE7 : Hid (∀ i, i < rs3.length → w7.cell? ⟨g3, i, none⟩ = some (.int .i64 (rs3.getD i 0))) := fun i hi => hu7.cell (HCE4.out i hi) (by simp)
                  have hw7 : w4.heap.size ≤ w7.heap.size := Nat.le_trans hwk hu7.size
                  obtain ⟨p7, k7, rfl, _⟩ := id HOV.out
                  obtain ⟨q7, r7, rfl⟩ := hnv.form
                  have HSO := Lib.hid (sobjs _ _ os os w7 HOR7.out.v HOV.out (by have := HFEW.out; omega) HSZ.out)
                  rw [decide_eq_true (rfl : os = os)] at HSO
                  clear hout hps hu7 hps2 HC hnv HG4 HO4 HOR4 HNS4 HCE4
                  go_wp2_with fail
                  refine HSO.out.mono ?_
                  rintro e w8 ⟨rfl, hu8⟩
                  have HNV8 := Lib.hid (HNV.out.upd hu8 (.inr (by simp)))
                  have HOR8 := Lib.hid (HOR7.out.upd hu8 (by simp))
                  have HNS8 := Lib.hid (HNS7.out.upd hu8 (.inr (by simp)))
                  have HG8 := Lib.hid (HG7.out.upd hu8)
                  have HO8 := Lib.hid (HO7.out.upd hu8 (by simp))
                  have HCE8 : Hid (∀ i, i < rs3.length → w8.cell? ⟨g3, i, none⟩ = some (.int .i64 (rs3.getD i 0))) := fun i hi => hu8.cell (HCE7.out i hi) (by simp)
                  have hw8 : w4.heap.size ≤ w8.heap.size := Nat.le_trans hw7 hu8.size
                  have HSI := Lib.hid (sints _ _ nb nb2 ns ns w8 HNS8.out HNV8.out (by have := HNL.out; omega))
                  rw [decide_eq_true (rfl : ns = ns)] at HSI
                  clear hu8 HSO HG7 HO7 HOR7 HNS7 HCE7 HOV HNV HNV8
                  go_wp2_with fail
                  refine HSI.out.mono ?_
                  rintro e w9 ⟨rfl, hu9⟩
                  have HOR9 := Lib.hid (HOR8.out.upd hu9 (by simp))
                  have HNS9 := Lib.hid (HNS8.out.upd hu9 (.inr (by simp)))
                  have HG9 := Lib.hid (HG8.out.upd hu9)
                  have HO9 := Lib.hid (HO8.out.upd hu9 (by simp))
                  have hw9 : w4.heap.size ≤ w9.heap.size := Nat.le_trans hw8 hu9.size
                  have HVC := Lib.hid (gverify HG9.out (some ⟨g3, 0, none⟩) c3 g3 rs3 (by rw [HLR3.out]; omega) (.inr rfl) (fun i hi => hu9.cell (HCE8.out i hi) (by simp)) HB3.out.roots)
                  rw [HHB3.out, HLR3.out] at HVC
                  clear hu9 HSI HG8 HO8 HOR8 HNS8 HCE8
                  go_wp2_with fail
                  refine HVC.out.mono ?_
                  rintro e wE ⟨rfl, huE⟩
                  have HORE := Lib.hid (HOR9.out.upd huE (by simp))
                  have HNSE := Lib.hid (HNS9.out.upd huE (.inr (by simp)))
                  have HGE := Lib.hid (HG9.out.upd huE)
                  have HOE := Lib.hid (HO9.out.upd huE (by simp))
                  have hwE : w4.heap.size ≤ wE.heap.size := Nat.le_trans hw9 huE.size
                  clear huE HVC HG9 HO9 HOR9 HNS9
                  have HLE := Lib.hid (HLR3.out.trans HLI.out)
                  have HO2 : Hid (OwnI wE w1.heap.size 3 (.slice (some ⟨g3, 0, none⟩) k c3) rs3) := by
                    have := HOE.out
                    rwa [HLR3.out] at this
                  go_wp2_with fail
                  go_roundw
                  case rel => exact ⟨j + 1, S3, L3, rs3, by omega, by go_num, HHB3.out, HO2.out, HGE.out, HB3.out, HLO3.out, HORE.out, HNSE.out, HLE.out, hwE⟩
                  case measure => simp [intOf]; omega
          · obtain rfl : j = m := by omega
            have e2 : decide ((j : Int) < (j : Int)) = false := decide_eq_false (by omega)
            have HU := Lib.hid (HU0.out.trans HG.out.up)
            go_wp2_with fail
            go_ret
            exact ⟨rfl, HU.out⟩
end Go.Proofs.YtneeljhjfmcdoaaDoor
