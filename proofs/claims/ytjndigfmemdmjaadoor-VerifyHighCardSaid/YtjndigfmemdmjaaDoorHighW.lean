/- VerifyHigh: the law's walk. -/
import Derived.Test.YtjndigfmemdmjaaDoorMeetsW
namespace Go.Proofs.YtjndigfmemdmjaaDoor
open Go.RowKit

def consC (n : Nat) : List Ins := (List.range n).map (fun (i : Nat) => (⟨1, 0, 0, (i : Int)⟩ : Ins))
def outC (n : Nat) : List Ins := List.replicate n ⟨35, 0, 0, 0⟩
theorem consC_len (n : Nat) : (consC n).length = n := by simp [consC]
theorem outC_len (n : Nat) : (outC n).length = n := by simp [outC]
theorem consC_snoc (n : Nat) : consC n ++ [⟨1, 0, 0, (n : Int)⟩] = consC (n + 1) := by unfold consC; rw [List.range_succ, List.map_append]; rfl
theorem outC_snoc (n : Nat) : outC n ++ [⟨35, 0, 0, 0⟩] = outC (n + 1) := by unfold outC; rw [List.replicate_succ']
theorem highC_is (n : Nat) : highC n = consC n ++ outC n ++ [⟨33, 0, 0, 0⟩] := rfl
set_option maxRecDepth 100000 in
theorem high_prg (n : Nat) (hn : n < 20) : (withM (plainM (highC n))).Ok := okB_ok ((show ∀ n, n < 20 → okB (withM (plainM (highC n))) = true by decide +kernel) n hn)
theorem high_small (n : Nat) (hn : n < 20) : ∀ i, i < (highC n).length → ((highC n).getD i default).bd := bdS_all ((show ∀ n, n < 20 → (highC n).all bdS = true by decide +kernel) n hn)
theorem highS_len (n i : Nat) : (highS n i).length = min i (2 * n - i) := by simp [highS]
theorem high_at (n i : Nat) (hi : i ≤ 2 * n) : atV (strS (2 * n + 1) (highS n) (2 * n + 1) (2 * n)) (2 * n + 1) (i : Int) = .tuple #[.string (bs (highS n i)), .bool true] := by
  have h1 : (strS (2 * n + 1) (highS n) (2 * n + 1) (2 * n)).seen.getD i false = true := by
    show ((List.range (2 * n + 1)).map fun j => decide (j ≤ 2 * n)).getD i false = true
    rw [range_getD, if_pos (by omega)]; simpa using hi
  have h2 : (strS (2 * n + 1) (highS n) (2 * n + 1) (2 * n)).stk.getD i [] = highS n i := by
    show ((List.range (2 * n + 1)).map fun j => if j ≤ 2 * n then highS n j else []).getD i [] = _
    rw [range_getD, if_pos (by omega), if_pos hi]
  unfold atV
  rw [Int.toNat_natCast, h2, if_pos ⟨by omega, by omega, h1⟩]
theorem tmodB (a n : Int) (h : 0 < n) : -n < a.tmod n ∧ a.tmod n < n := by
  have h1 := Int.tmod_lt_of_pos a h
  have h2 := Int.tmod_lt_of_pos (-a) h
  rw [Int.neg_tmod] at h2
  omega

set_option maxRecDepth 100000 in
set_option maxHeartbeats 4000000 in
theorem highW_any (E : Nat → Addr) (n : Int) (w : World) (hS : SentAt w E) :
    Calls Tryd.prog 5 #[.int .i64 n] w fun e w' => e = .returned (.bool true) ∧ Upd [] w w' := by
  obtain ⟨i0, hi, hz0, hz1, hz2⟩ := info_parts Tryd.infoInstr
  have HI := Lib.hid hi
  have HZ0 := Lib.hid hz0
  have HZ1 := Lib.hid hz1
  have HZ2 := Lib.hid hz2
  clear hi hz0 hz1 hz2
  have HS := Lib.hid hS
  have hb1 := tmodB n 20 (by omega)
  have hb2 : 0 ≤ (n.tmod 20 + 20).tmod 20 ∧ (n.tmod 20 + 20).tmod 20 < 20 := ⟨Int.tmod_nonneg _ (by omega), Int.tmod_lt_of_pos _ (by omega)⟩
  have e1 : IntKind.i64.wrap (n.tmod 20 + 20) = n.tmod 20 + 20 := IntWalk.i64_in _ (by omega)
  obtain ⟨k, hk⟩ := Int.eq_ofNat_of_zero_le hb2.1
  have hk20 : k < 20 := by omega
  clear hb1 hb2 hS
  go_enter Tryd.func5, Tryd.ntmps5
  go_wp2_with fail
  refine (first7_any E w HS.out).mono ?_
  rintro e w1 ⟨rfl, hu1⟩
  have HU1 := Lib.hid hu1
  clear hu1
  go_wp2_with fail
  go_loopw [4, 5] (fun v iv wr => ∃ i : Nat, i ≤ k ∧ iv = .int .i64 i ∧ Hid (OwnX wr w.heap.size v (consC i)) ∧ Hid (Upd [] w wr)) (fun _ iv _ => k - (intOf iv).toNat)
  case atStart => exact ⟨0, by omega, rfl, OwnX.nil _ _, HU1.out⟩
  case round =>
    obtain ⟨i, hi, rfl, HX, HU⟩ := hrel
    obtain ⟨wo, rfl⟩ : ∃ wo : World, wo = wr := ⟨_, rfl⟩
    have hli := consC_len i
    obtain ⟨vp, vc, hv⟩ := HX.out.shape
    rw [hli] at hv
    subst hv
    have HLI := Lib.hid hli
    clear hli
    by_cases hlt : i < k
    · go_wp2_with (at_builtin; refine stop_here ?_)
      refine Hid.mk ?_
      have hrow : (wo.alloc (.cells (xcells [⟨1, 0, 0, (i : Int)⟩]).toArray 42)).ownsRow w.heap.size 42 4 (.slice vp (i) vc) (i) (xcells (consC i)) := by
        have h := HX.out.upd ((Upd.refl [] wo).alloc (.cells (xcells [⟨1, 0, 0, (i : Int)⟩]).toArray 42))
        unfold OwnX at h
        rwa [HLI.out] at h
      have hsz := HU.out.size
      refine (wpList_append_src rfl _ _ 35 rfl w.heap.size 42 i0 _ 4 32 Tryd.underlying35 HI.out HZ0.out HZ1.out HZ2.out rfl (by decide) _ _ _ rfl hrow _ 1 (xcells [⟨1, 0, 0, (i : Int)⟩]) rfl (.inr ⟨_, _, rfl, fun j u hu => by
        rw [Addr.add_lit, Nat.zero_add, cell_of (heap_alloc_new wo _)]
        show ((xcells [⟨1, 0, 0, (i : Int)⟩]).toArray)[j]? = some u
        rw [List.getElem?_toArray]
        exact hu⟩) rfl (xcells_one _) (by unfold maxLen; omega) (by omega) (by simp; omega) ?_)
      intro v' w7 hown hgr _
      obtain ⟨hP, hW, hB⟩ := HX.out.push (ys := [⟨1, 0, 0, (i : Int)⟩]) (by rw [HLI.out]; rfl) hown hgr
      have hP : OwnX w7 w.heap.size v' (consC (i + 1)) := by rw [consC_snoc] at hP; exact hP
      have HP := Lib.hid hP
      have HU7 := Lib.hid (HU.out.trans' hW (fun q hq hl => by have := (hB q hq).1; omega))
      obtain ⟨vp', vc', hv'⟩ := hP.shape
      subst hv'
      clear hP hW hB hown hgr hrow hsz
      have HL2 := Lib.hid (consC_len (i + 1))
      rw [HL2.out] at HP ⊢
      clear HL2
      go_wp2_with fail
      go_roundw
      case rel => exact ⟨i + 1, by omega, by go_num, HP.out, HU7.out⟩
      case measure => simp [intOf]; omega
    · obtain rfl : i = k := by omega
      go_wp2_with fail
      go_loopw [4, 6] (fun v iv wr => ∃ j : Nat, j ≤ i ∧ iv = .int .i64 j ∧ Hid (OwnX wr w.heap.size v (consC i ++ outC j)) ∧ Hid (Upd [] w wr)) (fun _ iv _ => i - (intOf iv).toNat)
      case atStart => exact ⟨0, by omega, rfl, by show OwnX _ _ _ (consC i ++ []); rw [List.append_nil]; exact HX.out, HU.out⟩
      case round =>
        clear HX HU HLI
        obtain ⟨j, hj, rfl, HX, HU⟩ := hrel
        obtain ⟨wo, rfl⟩ : ∃ wo : World, wo = wr := ⟨_, rfl⟩
        have hli : (consC i ++ outC j).length = i + j := by rw [List.length_append, consC_len, outC_len]
        obtain ⟨vp, vc, hv⟩ := HX.out.shape
        rw [hli] at hv
        subst hv
        have HLI := Lib.hid hli
        clear hli
        by_cases hlt2 : j < i
        · go_wp2_with (at_builtin; refine stop_here ?_)
          refine Hid.mk ?_
          have hrow : (wo.alloc (.cells (xcells [⟨35, 0, 0, 0⟩]).toArray 42)).ownsRow w.heap.size 42 4 (.slice vp (i + j) vc) (i + j) (xcells (consC i ++ outC j)) := by
            have h := HX.out.upd ((Upd.refl [] wo).alloc (.cells (xcells [⟨35, 0, 0, 0⟩]).toArray 42))
            unfold OwnX at h
            rwa [HLI.out] at h
          have hsz := HU.out.size
          refine (wpList_append_src rfl _ _ 35 rfl w.heap.size 42 i0 _ 4 32 Tryd.underlying35 HI.out HZ0.out HZ1.out HZ2.out rfl (by decide) _ _ _ rfl hrow _ 1 (xcells [⟨35, 0, 0, 0⟩]) rfl (.inr ⟨_, _, rfl, fun j u hu => by
            rw [Addr.add_lit, Nat.zero_add, cell_of (heap_alloc_new wo _)]
            show ((xcells [⟨35, 0, 0, 0⟩]).toArray)[j]? = some u
            rw [List.getElem?_toArray]
            exact hu⟩) rfl (xcells_one _) (by unfold maxLen; omega) (by omega) (by simp; omega) ?_)
          intro v' w7 hown hgr _
          obtain ⟨hP, hW, hB⟩ := HX.out.push (ys := [⟨35, 0, 0, 0⟩]) (by rw [HLI.out]; rfl) hown hgr
          have hP : OwnX w7 w.heap.size v' (consC i ++ outC (j + 1)) := by rw [List.append_assoc, outC_snoc] at hP; exact hP
          have HP := Lib.hid hP
          have HU7 := Lib.hid (HU.out.trans' hW (fun q hq hl => by have := (hB q hq).1; omega))
          obtain ⟨vp', vc', hv'⟩ := hP.shape
          subst hv'
          clear hP hW hB hown hgr hrow hsz
          have HL2 : Hid ((consC i ++ outC (j + 1)).length = i + (j + 1)) := by show _ = _; rw [List.length_append, consC_len, outC_len]
          rw [HL2.out] at HP ⊢
          clear HL2
          go_wp2_with fail
          go_roundw
          case rel => exact ⟨j + 1, by omega, by go_num, HP.out, HU7.out⟩
          case measure => simp [intOf]; omega
        · obtain rfl : j = i := by omega
          go_wp2_with (at_builtin; refine stop_here ?_)
          refine Hid.mk ?_
          have hrow : (wo.alloc (.cells (xcells [⟨33, 0, 0, 0⟩]).toArray 42)).ownsRow w.heap.size 42 4 (.slice vp (j + j) vc) (j + j) (xcells (consC j ++ outC j)) := by
            have h := HX.out.upd ((Upd.refl [] wo).alloc (.cells (xcells [⟨33, 0, 0, 0⟩]).toArray 42))
            unfold OwnX at h
            rwa [HLI.out] at h
          have hsz := HU.out.size
          refine (wpList_append_src rfl _ _ 35 rfl w.heap.size 42 i0 _ 4 32 Tryd.underlying35 HI.out HZ0.out HZ1.out HZ2.out rfl (by decide) _ _ _ rfl hrow _ 1 (xcells [⟨33, 0, 0, 0⟩]) rfl (.inr ⟨_, _, rfl, fun j u hu => by
            rw [Addr.add_lit, Nat.zero_add, cell_of (heap_alloc_new wo _)]
            show ((xcells [⟨33, 0, 0, 0⟩]).toArray)[j]? = some u
            rw [List.getElem?_toArray]
            exact hu⟩) rfl (xcells_one _) (by unfold maxLen; omega) (by omega) (by simp; omega) ?_)
          intro v' w7 hown hgr _
          obtain ⟨hP, hW, hB⟩ := HX.out.push (ys := [⟨33, 0, 0, 0⟩]) (by rw [HLI.out]; rfl) hown hgr
          have hP : OwnX w7 w.heap.size v' (highC j) := by exact hP
          have HP := Lib.hid hP
          have HU7 := Lib.hid (HU.out.trans' hW (fun q hq hl => by have := (hB q hq).1; omega))
          obtain ⟨vp', vc', hv'⟩ := hP.shape
          subst hv'
          clear hP hW hB hown hgr hrow hsz
          have hcd := HP.out.code (high_small j hk20)
          clear HP
          have HWITH := Lib.hid (with_any (plainM (highC j)) _ w7 hcd ⟨Nat.zero_le _, Nat.zero_le _, Nat.zero_le _⟩)
          clear hcd
          rw [show (plainM (highC j)).params = ⟨#[]⟩ from rfl, show (plainM (highC j)).locals = ⟨#[]⟩ from rfl, show (plainM (highC j)).ret = ⟨#[]⟩ from rfl] at HWITH
          go_wp2_with fail
          refine HWITH.out.mono ?_
          rintro e w8 ⟨cv, mv, rfl, hc8, hm8, hu8⟩
          have HU8 := Lib.hid (HU7.out.trans hu8)
          have HOF := Lib.hid (ofV_any (withM (plainM (highC j))) cv mv E w8 (HS.out.upd (HU7.out.trans hu8)) hc8 hm8)
          clear hc8 hm8 hu8 HWITH
          go_wp2_with fail
          refine HOF.out.mono ?_
          rintro e w9 ⟨v9, rfl, hend⟩
          by_cases h12 : 12 < j
          · obtain ⟨ev, rfl, herr, hu9⟩ := hend.bad (high_prg j hk20) (k := 1) (by show 1 < 2; omega) (by
              intro q hq
              obtain rfl : q = 0 := by omega
              exact ret_first _) (high_bad j h12)
            have HU9 := Lib.hid (HU8.out.trans hu9)
            have HER := Lib.hid herr
            obtain ⟨tz, tp, rfl⟩ : ∃ tz tp, ev = .iface tz (.pointer tp) := by
              rcases herr.2 with ⟨h, _⟩ | ⟨_, _, _, _, _, h, _⟩
              · cases h
              · exact ⟨_, _, h⟩
            clear hend hu9 herr
            go_wp2_with fail
            refine (there_fault 108 1 12 _).mono ?_
            rintro e w10 ⟨fb, rfl, hfi, hu10, _⟩
            have HU10 := Lib.hid (HU9.out.trans hu10)
            have HSM := Lib.hid (same_any E (.iface tz (.pointer tp)) 108 108 [((1 : Nat) : Int), ((12 : Nat) : Int)] [1, 12] _ fb w10 (HS.out.upd HU10.out) (HER.out.upd hu10) hfi (by simp) (by simp))
            rw [decide_eq_true (⟨rfl, rfl⟩ : (108 : Int) = 108 ∧ [((1 : Nat) : Int), ((12 : Nat) : Int)] = [1, 12])] at HSM
            clear hu10 hfi
            go_wp2_with fail
            refine HSM.out.mono ?_
            rintro e w11 ⟨rfl, hu11⟩
            have HU11 := Lib.hid (HU10.out.trans hu11)
            clear hu11
            go_wp2_with fail
            go_ret
            exact ⟨rfl, HU11.out⟩
          · have hlk1 := high_ok j (by omega)
            obtain ⟨ib, ss, hl, hlk, rfl, hinfo, hib, hu9⟩ := hend.good (high_prg j hk20) (by
              intro q hq
              have : q = 0 ∨ q = 1 := by have h : (withM (plainM (highC j))).ms.length = 2 := rfl; omega
              rcases this with rfl | rfl
              · exact ret_first _
              · exact ⟨_, hlk1⟩)
            have hs1 : ss.getD 1 default = strS (2 * j + 1) (highS j) (2 * j + 1) (2 * j) := by
              have h := hlk 1 (by show 1 < 2; omega)
              have h1 : (withM (plainM (highC j))).ms.getD 1 default = plainM (highC j) := rfl
              rw [h1, hlk1] at h
              injection h with h
              exact h.symm
            have HS1 := Lib.hid hs1
            have HL := Lib.hid hl
            have HI9 := Lib.hid hinfo
            have HIB := Lib.hid (Nat.le_trans HU8.out.size hib)
            have HU9 := Lib.hid (HU8.out.trans hu9)
            clear hend hu9 hinfo hib hlk hl hs1 hlk1
            go_wp2_with fail
            go_loopw [9] (fun iv wr => ∃ i : Nat, i ≤ 2 * j + 1 ∧ iv = .int .i64 i ∧ Hid (InfoAt wr ib (withM (plainM (highC j))) ss i) ∧ Hid (Upd [] w wr)) (fun iv _ => 2 * j + 1 - (intOf iv).toNat)
            case atStart => exact ⟨0, by omega, rfl, HI9.out, HU9.out⟩
            case round =>
              clear HI9 HU9 HX HU HLI
              obtain ⟨i, hi, rfl, HI9, HU9⟩ := hrel
              by_cases hlt3 : i ≤ 2 * j
              · have hst := stack_in ib (withM (plainM (highC j))) ss i 1 i wr HI9.out HL.out (by show 1 < 2; omega) (by show (highC j).length ≤ 1000; rw [highC_len]; omega) (by omega) (by omega)
                rw [show ((withM (plainM (highC j))).ms.getD 1 default).code.length = 2 * j + 1 from highC_len j, HS1.out, high_at j i hlt3] at hst
                have HST := Lib.hid hst
                clear hst
                go_wp2_with fail
                refine HST.out.mono ?_
                rintro e w10 ⟨rfl, hi10, hu10⟩
                have HI10 := Lib.hid hi10
                have HU10 := Lib.hid (HU9.out.trans' hu10 (fun k hk hl => by simp at hk; have := HIB.out; omega))
                clear hi10 hu10 HST
                have hsz : (bs (highS j i)).size = min i (2 * j - i) := by rw [bs_size, highS_len]
                generalize bs (highS j i) = tv at hsz ⊢
                have hm1 : IntKind.i64.wrap (2 * (j : Int)) = 2 * (j : Int) := IntWalk.i64_in _ (by omega)
                have hm2 : IntKind.i64.wrap (2 * (j : Int) - i) = 2 * (j : Int) - i := IntWalk.i64_in _ (by omega)
                have hmin : (tv.size : Int) = min (i : Int) (2 * (j : Int) - i) := by rw [hsz]; omega
                go_wp2_with fail
                go_roundw
                case rel => exact ⟨i + 1, by omega, by go_num, HI10.out, HU10.out⟩
                case measure => simp [intOf]; omega
              · obtain rfl : i = 2 * j + 1 := by omega
                have hm1 : IntKind.i64.wrap (2 * (j : Int)) = 2 * (j : Int) := IntWalk.i64_in _ (by omega)
                have hmo : (ss.getD 1 default).most = j := by
                  rw [HS1.out]
                  show mostS (highS j) (2 * j + 1) = j
                  rw [high_most j _ (by omega)]; omega
                have HMO := Lib.hid hmo
                have hms := most_in ib (withM (plainM (highC j))) ss ((2 * j + 1 : Nat) : Int) 1 wr HI9.out HL.out (by show 1 < 2; omega) (by omega) (by omega)
                rw [hmo] at hms
                have HMS := Lib.hid hms
                clear hms hmo
                go_wp2_with fail
                refine HMS.out.mono ?_
                rintro e w10 ⟨rfl, hi10, hu10⟩
                have HU10 := Lib.hid (HU9.out.trans' hu10 (fun k hk hl => by simp at hk; have := HIB.out; omega))
                have hwd := words_in ib (withM (plainM (highC j))) ss (((2 * j + 1 : Nat) : Int) + 1) 1 w10 hi10 HL.out (by show 1 < 2; omega) (by show 0 < (highC j).length; rw [highC_len]; omega) (Nat.zero_le _) (Nat.zero_le _) (by rw [HMO.out]; omega) (by omega) (by omega)
                rw [HMO.out, show (4 + (((((withM (plainM (highC j))).ms.getD 1 default).params.size + ((withM (plainM (highC j))).ms.getD 1 default).locals.size : Nat) : Int)) + ((j : Nat) : Int)) = 4 + (j : Int) from rfl] at hwd
                have HWD := Lib.hid hwd
                have hm3 : IntKind.i64.wrap (4 + (j : Int)) = 4 + (j : Int) := IntWalk.i64_in _ (by omega)
                clear hi10 hu10 hwd HMS HMO
                go_wp2_with fail
                refine HWD.out.mono ?_
                rintro e w11 ⟨rfl, hi11, hu11⟩
                have HU11 := Lib.hid (HU10.out.trans' hu11 (fun k hk hl => by simp at hk; have := HIB.out; omega))
                clear hi11 hu11
                go_wp2_with fail
                go_ret
                exact ⟨rfl, HU11.out⟩
end Go.Proofs.YtjndigfmemdmjaaDoor
