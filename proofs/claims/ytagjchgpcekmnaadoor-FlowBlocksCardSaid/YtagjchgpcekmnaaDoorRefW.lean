/- overdriveref5.Of: the document's blocks. -/
import Derived.Test.YtagjchgpcekmnaaDoorRefL2
import Derived.Test.YtagjchgpcekmnaaDoorRNext
import Derived.Test.YtagjchgpcekmnaaDoorOfN
import Derived.Test.YtagjchgpcekmnaaDoorOfW
import Derived.Test.YtagjchgpcekmnaaDoorBools
import Derived.Deep.RegionHeld3
namespace Go.Proofs.YtagjchgpcekmnaaDoor
open Go.RowKit

theorem Tryd.infoRBlk : (Tryd.prog.info? 42).map (fun i => (i.zero, i.size, i.bytes)) = some (some (.agg #[.int .i64 0, .int .i64 0, .slice none 0 0, .slice none 0 0]), 4, 64) := by kernel_rfl
theorem mark_set {w : World} {hb N : Nat} {f : Nat → Bool} (h : w.heap[hb]? = some (.cells (bcells (tabB N f)) 4)) (p : Nat) (hp : p < N) :
    w.frozen? ⟨hb, p, none⟩ = false ∧ w.cell? ⟨hb, p, none⟩ = some (.bool (f p)) ∧ (w.setCell ⟨hb, p, none⟩ (.bool true)).heap[hb]? = some (.cells (bcells (tabB N (fun k => f k || k == p))) 4) := by
  refine ⟨froz_of h p, ?_, ?_⟩
  · rw [cell_of h, bcells_get _ _ (by rw [tabB_len]; exact hp), tabB_get _ _ _ hp]
  · rw [heap_setCell h, bcells_set, tabB_set]

theorem row_pl4 {w : World} {B sz : Nat} {T : TypeId} {bv : Value} {n : Nat} {l : List Value} (h : w.ownsRow B T sz bv n l) : ∃ p c, bv = .slice p n c ∧ n ≤ maxLen := by
  rcases h.2 with ⟨h1, h2⟩ | ⟨gk, ck, _, h1, _, _, hc, hcm, _⟩
  · exact ⟨none, 0, by rw [h1, h2], by rw [h2]; simp [maxLen]⟩
  · exact ⟨_, _, h1, Nat.le_trans hc hcm⟩

set_option maxRecDepth 100000 in
set_option maxHeartbeats 20000000 in
theorem rof_any (s1 s2 s3 : ByteArray) (kv : Value) (xs : List Ins) (w : World) (h : CodeAt w kv xs) (hn : xs.length ≤ 100000) (hn1 : 1 ≤ xs.length)
    (hA : ∀ j, j < xs.length → ((xs.getD j default).op = 22 ∨ (xs.getD j default).op = 23) → 0 ≤ (xs.getD j default).a ∧ (xs.getD j default).a < (xs.length : Int)) :
    Calls Tryd.prog 13 #[.agg #[.string s1, .string s2, .string s3, kv]] w fun e w' => ∃ G B gb vs cap, e = .returned (.slice (some ⟨gb, 0, none⟩) (begL xs).length cap) ∧
      OwnD w' G B gb xs.length (begL xs) vs (prd xs (begL xs).length) ∧ w.heap.size ≤ G ∧ Upd [] w w' := by
  obtain ⟨a, cap, rfl, hl, hm, hx⟩ := h
  have HCODE : Hid (CodeAt w (.slice a xs.length cap) xs) := ⟨a, cap, rfl, hl, hm, hx⟩
  have HX := Lib.hid hx
  have HA := Lib.hid hA
  clear hx hm hA
  obtain ⟨i1, ji, jz0, jz1, jz2⟩ := info_parts Tryd.infoInt
  have HI := Lib.hid ji
  have HZ0 := Lib.hid jz0
  have HZ1 := Lib.hid jz1
  have HZ2 := Lib.hid jz2
  clear ji jz0 jz1 jz2
  obtain ⟨i2, ji, jz0, jz1, jz2⟩ := info_parts Tryd.infoRBlk
  have KI := Lib.hid ji
  have KZ0 := Lib.hid jz0
  have KZ1 := Lib.hid jz1
  have KZ2 := Lib.hid jz2
  clear ji jz0 jz1 jz2
  have hAU := (Upd.refl [] w).alloc (.cells #[.string s1, .string s2, .string s3, .slice a xs.length cap] 36)
  have hmc := heap_alloc_new w (.cells #[.string s1, .string s2, .string s3, .slice a xs.length cap] 36)
  have hmk := make_bools (w.alloc (.cells #[.string s1, .string s2, .string s3, .slice a xs.length cap] 36)) (xs.length + 1) (by omega)
  have hbx := heap_alloc_new (w.alloc (.cells #[.string s1, .string s2, .string s3, .slice a xs.length cap] 36)) (.cells (bcells (List.replicate (xs.length + 1) false)) 4)
  have hUB := (Upd.refl [] (w.alloc (.cells #[.string s1, .string s2, .string s3, .slice a xs.length cap] 36))).alloc (.cells (bcells (List.replicate (xs.length + 1) false)) 4)
  have hmc2 := hUB.heap hmc (by simp)
  have HU1 := Lib.hid (hAU.trans hUB)
  have hz1 : ((w.alloc (.cells #[.string s1, .string s2, .string s3, .slice a xs.length cap] 36)).alloc (.cells (bcells (List.replicate (xs.length + 1) false)) 4)).heap.size = w.heap.size + 2 := by simp
  rw [World.size_alloc] at hbx
  have hbx2 : ((w.alloc (.cells #[.string s1, .string s2, .string s3, .slice a xs.length cap] 36)).alloc (.cells (bcells (List.replicate (xs.length + 1) false)) 4)).heap[w.heap.size + 1]? = some (.cells (bcells (tabB (xs.length + 1) (headB xs 0))) 4) := by rw [headB_zero]; exact hbx
  have HBX := Lib.hid hbx2
  have HMC := Lib.hid hmc2
  rw [World.size_alloc] at hmk
  rw [show (((xs.length + 1 : Nat)) : Int) = (xs.length : Int) + 1 by omega] at hmk
  have hm3 := cell_of hmc 3
  clear hmc hmc2 hUB hAU hbx hbx2
  go_enter Tryd.func13, Tryd.ntmps13
  go_wp2_with fail
  generalize hw1 : (w.alloc (.cells #[.string s1, .string s2, .string s3, .slice a xs.length cap] 36)).alloc (.cells (bcells (List.replicate (xs.length + 1) false)) 4) = w1 at HBX HMC HU1 hz1 ⊢
  clear hw1 hmk hm3
  go_loopw [5] (fun iv wr => ∃ m : Nat, m ≤ xs.length ∧ iv = .int .i64 m ∧ Hid (wr.heap[w.heap.size + 1]? = some (.cells (bcells (tabB (xs.length + 1) (headB xs m))) 4)) ∧ Hid (Upd [w.heap.size + 1] w1 wr)) (fun iv _ => xs.length - (intOf iv).toNat)
  case atStart => exact ⟨0, by omega, rfl, HBX, Upd.refl _ _⟩
  case round =>
    clear HBX
    obtain ⟨m, hm, rfl, HB, HU⟩ := hrel
    obtain ⟨wo, rfl⟩ : ∃ wo : World, wo = wr := ⟨_, rfl⟩
    have hmo := HU.out.heap HMC.out (by simp)
    have hm3 := cell_of hmo 3
    simp only [List.getElem?_toArray, List.getElem?_cons_zero, List.getElem?_cons_succ] at hm3
    by_cases hlt : m < xs.length
    · skip
      -- <L1
      obtain ⟨b, o, rfl, _, hi0, hi1, _, _⟩ := HX.out m hlt
      have hbl := World.block_lt_of_cell? w _ hi0
      have hcl : ∀ {q : Nat} {v : Value}, w.cell? ⟨b, q, none⟩ = some v → wo.cell? ⟨b, q, none⟩ = some v := fun hq => HU.out.cell (HU1.out.cell hq (by simp)) (by simp; simp at hbl; omega)
      have hy0 := hcl hi0
      have hy1 := hcl hi1
      have HJ := Lib.hid (fun k a h ha => headB_jump xs m k a h ha)
      have HRT := Lib.hid (fun k h => headB_ret xs m k h)
      have HNO := Lib.hid (fun k h1 h2 h3 => headB_no xs m k h1 h2 h3)
      have HAM := Lib.hid (HA.out m hlt)
      have hbne : b ≠ w.heap.size + 1 := by simp at hbl; omega
      -- the mark at 0
      have hq : ∃ wa : World, (m ≠ 0 → wa = wo) ∧ (m = 0 → wo.frozen? ⟨w.heap.size + 1, 0, none⟩ = false ∧ wo.cell? ⟨w.heap.size + 1, 0, none⟩ = some (.bool (headB xs m 0)) ∧ wa = wo.setCell ⟨w.heap.size + 1, 0, none⟩ (.bool true)) ∧
          wa.heap[w.heap.size + 1]? = some (.cells (bcells (tabB (xs.length + 1) (fun k => headB xs m k || k == 0))) 4) ∧ Upd [w.heap.size + 1] wo wa := by
        by_cases h0 : m = 0
        · obtain ⟨q1, q2, q3⟩ := mark_set HB.out 0 (by omega)
          exact ⟨_, fun h => absurd h0 h, fun _ => ⟨q1, q2, rfl⟩, q3, (Upd.refl _ _).setCell (.inl (by simp)) _⟩
        · refine ⟨wo, fun _ => rfl, fun h => absurd h h0, ?_, Upd.refl _ _⟩
          rw [tabB_congr _ _ _ (fun k => headB_pos xs m k (by omega))]
          exact HB.out
      obtain ⟨wa, hwa1, hwa2, hwb, hwu⟩ := hq
      have hz0 := hwu.cell hy0 (by simp; exact hbne)
      have hz1' := hwu.cell hy1 (by simp; exact hbne)
      have hmoa := hwu.heap hmo (by simp)
      have hm3a := cell_of hmoa 3
      simp only [List.getElem?_toArray, List.getElem?_cons_zero, List.getElem?_cons_succ] at hm3a
      have HWU := Lib.hid (HU.out.trans hwu)
      have HWB := Lib.hid hwb
      clear hi0 hi1 hcl hwu hwb hmo hmoa
      generalize (xs.getD m default).op = op at hy0 hz0 HJ HRT HNO HAM
      generalize (xs.getD m default).a = ia at hy1 hz1' HJ HAM
      by_cases h0 : m = 0
      · obtain ⟨q1, q2, rfl⟩ := hwa2 h0
        have dz : ((m : Int) == 0) = true := by rw [beq_iff_eq]; omega
        clear hwa1 hwa2 h0
        by_cases k1 : op = 22 ∨ op = 23
        · have haa := HAM.out k1
          obtain ⟨an, rfl⟩ := Int.eq_ofNat_of_zero_le haa.1
          have han : an < xs.length := by omega
          obtain ⟨p1, p2, p3⟩ := mark_set HWB.out (m + 1) (by omega)
          obtain ⟨p4, p5, p6⟩ := mark_set p3 an (by omega)
          have hu2 : Upd [w.heap.size + 1] (wo.setCell ⟨w.heap.size + 1, 0, none⟩ (.bool true)) ((wo.setCell ⟨w.heap.size + 1, 0, none⟩ (.bool true)).setCell ⟨w.heap.size + 1, m + 1, none⟩ (.bool true)) := (Upd.refl _ _).setCell (.inl (by simp)) _
          have hv1 := hu2.cell hz1' (by simp; exact hbne)
          have hv3 := hu2.cell hm3a (by simp)
          have HU3 := Lib.hid ((HWU.out.setCell (p := ⟨w.heap.size + 1, m + 1, none⟩) (.inl (by simp)) (.bool true)).setCell (p := ⟨w.heap.size + 1, an, none⟩) (.inl (by simp)) (.bool true))
          rw [← tabB_congr _ _ _ (fun k => HJ.out k an k1 rfl)] at p6
          have HP6 := Lib.hid p6
          have d33 : (op == 33) = false := by rw [beq_eq_false_iff_ne]; omega
          have hbop : Hid ((op == 22) = true ∨ ((op == 22) = false ∧ (op == 23) = true)) := by
            rcases k1 with e | e
            · left; simp [e]
            · right; simp [e]
          clear p3 p6 hu2 haa k1 HJ HRT HNO HAM
          rcases hbop.out with hb1 | ⟨hb1, hb2⟩
          · go_wp2_with fail
            go_roundw
            case rel => exact ⟨m + 1, by omega, by go_num, HP6, HU3⟩
            case measure => simp [intOf]; omega
          · go_wp2_with fail
            go_roundw
            case rel => exact ⟨m + 1, by omega, by go_num, HP6, HU3⟩
            case measure => simp [intOf]; omega
        · have d22 : (op == 22) = false := by rw [beq_eq_false_iff_ne]; exact fun e => k1 (.inl e)
          have d23 : (op == 23) = false := by rw [beq_eq_false_iff_ne]; exact fun e => k1 (.inr e)
          by_cases k2 : op = 33
          · obtain ⟨p1, p2, p3⟩ := mark_set HWB.out (m + 1) (by omega)
            have HU3 := Lib.hid (HWU.out.setCell (p := ⟨w.heap.size + 1, m + 1, none⟩) (.inl (by simp)) (.bool true))
            rw [← tabB_congr _ _ _ (fun k => HRT.out k k2)] at p3
            have HP3 := Lib.hid p3
            have d33 : (op == 33) = true := by rw [beq_iff_eq]; exact k2
            clear p3 k1 k2 HJ HRT HNO HAM
            go_wp2_with fail
            go_roundw
            case rel => exact ⟨m + 1, by omega, by go_num, HP3, HU3⟩
            case measure => simp [intOf]; omega
          · have d33 : (op == 33) = false := by rw [beq_eq_false_iff_ne]; exact k2
            have p3 := HWB.out
            rw [← tabB_congr _ _ _ (fun k => HNO.out k (fun e => k1 (.inl e)) (fun e => k1 (.inr e)) k2)] at p3
            have HP3 := Lib.hid p3
            clear p3 k1 k2 HJ HRT HNO HAM
            go_wp2_with fail
            go_roundw
            case rel => exact ⟨m + 1, by omega, by go_num, HP3, HWU⟩
            case measure => simp [intOf]; omega
      · obtain rfl := hwa1 h0
        have dz : ((m : Int) == 0) = false := by rw [beq_eq_false_iff_ne]; omega
        clear hwa1 hwa2 h0
        by_cases k1 : op = 22 ∨ op = 23
        · have haa := HAM.out k1
          obtain ⟨an, rfl⟩ := Int.eq_ofNat_of_zero_le haa.1
          have han : an < xs.length := by omega
          obtain ⟨p1, p2, p3⟩ := mark_set HWB.out (m + 1) (by omega)
          obtain ⟨p4, p5, p6⟩ := mark_set p3 an (by omega)
          have hu2 : Upd [w.heap.size + 1] wa (wa.setCell ⟨w.heap.size + 1, m + 1, none⟩ (.bool true)) := (Upd.refl _ _).setCell (.inl (by simp)) _
          have hv1 := hu2.cell hz1' (by simp; exact hbne)
          have hv3 := hu2.cell hm3a (by simp)
          have HU3 := Lib.hid ((HWU.out.setCell (p := ⟨w.heap.size + 1, m + 1, none⟩) (.inl (by simp)) (.bool true)).setCell (p := ⟨w.heap.size + 1, an, none⟩) (.inl (by simp)) (.bool true))
          rw [← tabB_congr _ _ _ (fun k => HJ.out k an k1 rfl)] at p6
          have HP6 := Lib.hid p6
          have d33 : (op == 33) = false := by rw [beq_eq_false_iff_ne]; omega
          have hbop : Hid ((op == 22) = true ∨ ((op == 22) = false ∧ (op == 23) = true)) := by
            rcases k1 with e | e
            · left; simp [e]
            · right; simp [e]
          clear p3 p6 hu2 haa k1 HJ HRT HNO HAM
          rcases hbop.out with hb1 | ⟨hb1, hb2⟩
          · go_wp2_with fail
            go_roundw
            case rel => exact ⟨m + 1, by omega, by go_num, HP6, HU3⟩
            case measure => simp [intOf]; omega
          · go_wp2_with fail
            go_roundw
            case rel => exact ⟨m + 1, by omega, by go_num, HP6, HU3⟩
            case measure => simp [intOf]; omega
        · have d22 : (op == 22) = false := by rw [beq_eq_false_iff_ne]; exact fun e => k1 (.inl e)
          have d23 : (op == 23) = false := by rw [beq_eq_false_iff_ne]; exact fun e => k1 (.inr e)
          by_cases k2 : op = 33
          · obtain ⟨p1, p2, p3⟩ := mark_set HWB.out (m + 1) (by omega)
            have HU3 := Lib.hid (HWU.out.setCell (p := ⟨w.heap.size + 1, m + 1, none⟩) (.inl (by simp)) (.bool true))
            rw [← tabB_congr _ _ _ (fun k => HRT.out k k2)] at p3
            have HP3 := Lib.hid p3
            have d33 : (op == 33) = true := by rw [beq_iff_eq]; exact k2
            clear p3 k1 k2 HJ HRT HNO HAM
            go_wp2_with fail
            go_roundw
            case rel => exact ⟨m + 1, by omega, by go_num, HP3, HU3⟩
            case measure => simp [intOf]; omega
          · have d33 : (op == 33) = false := by rw [beq_eq_false_iff_ne]; exact k2
            have p3 := HWB.out
            rw [← tabB_congr _ _ _ (fun k => HNO.out k (fun e => k1 (.inl e)) (fun e => k1 (.inr e)) k2)] at p3
            have HP3 := Lib.hid p3
            clear p3 k1 k2 HJ HRT HNO HAM
            go_wp2_with fail
            go_roundw
            case rel => exact ⟨m + 1, by omega, by go_num, HP3, HWU⟩
            case measure => simp [intOf]; omega
      -- L1>
    · obtain rfl : m = xs.length := by omega
      have hmk := make_intsN wo (xs.length + 1) (by omega)
      rw [show (((xs.length + 1 : Nat)) : Int) = (xs.length : Int) + 1 by omega] at hmk
      have hU2 := (Upd.refl [] wo).alloc (.cells (icells (List.replicate (xs.length + 1) 0)) 3)
      have hb2 := hU2.heap HB.out (by simp)
      have hm2 := hU2.heap hmo (by simp)
      have hnb := heap_alloc_new wo (.cells (icells (List.replicate (xs.length + 1) 0)) 3)
      have HNB := Lib.hid hnb
      have HB2 := Lib.hid hb2
      have HM2 := Lib.hid hm2
      have HU2 : Hid (Upd [] w (wo.alloc (.cells (icells (List.replicate (xs.length + 1) 0)) 3))) := (HU1.out.trans' HU.out (fun q hq hlt2 => by simp at hq; omega)).trans hU2
      have hz2 := World.size_alloc wo (.cells (icells (List.replicate (xs.length + 1) 0)) 3)
      have hzo := HU.out.size
      clear hU2 hb2 hm2 hnb hmo HB HU HMC HU1
      go_wp2_with fail
      generalize hw2 : wo.alloc (.cells (icells (List.replicate (xs.length + 1) 0)) 3) = w2 at HNB HB2 HM2 HU2 hz2 ⊢
      clear hw2 hmk hm3
      go_loopw [7, 9] (fun ov pv wr => ∃ m : Nat, m ≤ xs.length ∧ pv = .int .i64 m ∧ Hid (wr.ownsRow w2.heap.size 42 4 ov (begP xs m).length (bflat xs.length (begP xs m) [])) ∧ Hid (wr.heap[wo.heap.size]? = some (.cells (icells (numT xs m)) 3)) ∧ Hid (Upd [wo.heap.size] w2 wr)) (fun _ pv _ => xs.length - (intOf pv).toNat)
      case atStart => exact ⟨0, by omega, rfl, World.ownsRow_nil _ _ _ _, by rw [numT_zero]; exact HNB, Upd.refl _ _⟩
      case round =>
        clear HNB
        obtain ⟨m, hm, rfl, HRW, HN, HU⟩ := hrel
        obtain ⟨wq, rfl⟩ : ∃ wq : World, wq = wr := ⟨_, rfl⟩
        by_cases hlt : m < xs.length
        · skip
          -- <L2
          have hhb := HU.out.heap HB2.out (by simp; omega)
          have hhc : wq.cell? ⟨w.heap.size + 1, m, none⟩ = some (.bool (headB xs xs.length m)) := by
            rw [cell_of hhb, bcells_get _ _ (by rw [tabB_len]; omega), tabB_get _ _ _ (by omega)]
          have hnc : wq.cell? ⟨wo.heap.size, m, none⟩ = some (.int .i64 ((numT xs m).getD m 0)) := by
            rw [cell_of HN.out, icells_get _ _ (by rw [numT_len]; omega)]
          have hnf := froz_of HN.out m
          have HPS := Lib.hid (begP_succ xs m)
          have HNS := Lib.hid (numT_step xs m)
          have hpl := begP_len xs m
          have HPP := Lib.hid (begP_pos xs (m + 1) hn1 (by omega))
          obtain ⟨op, oc, rfl, _⟩ := row_pl4 HRW.out
          clear hhb
          cases hh : headB xs xs.length m with
          | true =>
            rw [hh] at hhc HPS
            simp only [if_true] at HPS
            have HNV : Hid (((numB xs m : Nat) : Int) = ((begP xs m).length : Int)) := by show _ = _; unfold numB; rw [HPS.out]; simp
            have HFS := Lib.hid (bflat_snoc xs.length (begP xs m) m)
            have HFO := Lib.hid (bflat_one xs.length m)
            have HFL := Lib.hid (bflat_len xs.length (begP xs m) [])
            clear hh
            generalize begP xs m = pre at HRW HPS HNV HFS HFL hpl ⊢
            go_wp2_with (at_builtin; refine stop_here ?_)
            refine Hid.mk ?_
            have hcn := cell_of (heap_alloc_new wq (.cells #[.int .i64 (m : Int), .int .i64 (xs.length : Int), .slice none 0 0, .slice none 0 0] 42))
            refine (wpList_append_own_at _ rfl _ _ 37 rfl w2.heap.size 42 i2 (.agg #[.int .i64 0, .int .i64 0, .slice none 0 0, .slice none 0 0]) 4 64 Tryd.underlying37 KI.out KZ0.out KZ1.out KZ2.out rfl (by decide) _ _ _ rfl (HRW.out.alloc _) ⟨wq.heap.size, 0, none⟩ 1 1 [.int .i64 (m : Int), .int .i64 (xs.length : Int), .slice none 0 0, .slice none 0 0] rfl rfl ?c1 ?c2 ?c3 ?c4 ?c5 ?c6)
            case c1 =>
              intro jj uu hjj
              rw [Addr.add_lit, Nat.zero_add, hcn]
              simpa using hjj
            case c2 => simp [Value.oneCell']
            case c3 => unfold maxLen; omega
            case c4 => omega
            case c5 => have h1 := HU.out.size; simp; omega
            case c6 =>
              intro v' w6 hown hgr _ hat
              have hU6 : Upd [wo.heap.size] w2 w6 := (HU.out.alloc _).grown hgr (fun q hq => .inr (HRW.out.lt q hq).1)
              have hn6 := (((Upd.refl (Value.slice op pre.length oc).ownBlock.toList wq).alloc _).grown hgr (fun q hq => .inl (Option.mem_toList.2 hq))).heap HN.out (fun hm => own_heap_ne HRW.out HN.out (by decide) (Option.mem_toList.1 hm))
              obtain ⟨g6, c6, rfl⟩ : ∃ g6 c6, v' = .slice (some ⟨g6, 0, none⟩) (pre.length + 1) c6 := by
                obtain ⟨gk, ck, _, h1, _⟩ := hown.2.resolve_left (fun h => by have := h.2; omega)
                exact ⟨gk, ck, h1⟩
              have hnc6 : w6.cell? ⟨wo.heap.size, m, none⟩ = some (.int .i64 ((numT xs m).getD m 0)) := by
                rw [cell_of hn6, icells_get _ _ (by rw [numT_len]; omega)]
              have hnf6 := froz_of hn6 m
              have hne6 : g6 ≠ wo.heap.size := fun e => own_heap_ne hown hn6 (by decide) (by rw [e]; rfl)
              have HOW := Lib.hid hown
              have HN6 := Lib.hid hn6
              have HU6 := Lib.hid hU6
              clear hown hgr hat hU6 hn6 hcn hnc hnf
              by_cases hl0 : pre.length = 0
              · have HPR : Hid (pre = []) := List.eq_nil_of_length_eq_zero hl0
                have d1 : decide ((pre.length : Int) + 1 > 1) = false := decide_eq_false (by omega)
                have d1' : decide (pre.length + 1 > 1) = false := decide_eq_false (by omega)
                have d1'' : decide (1 < pre.length + 1) = false := decide_eq_false (by omega)
                have hl1 : pre.length < 1 := by omega
                clear hl0
                go_wp2_with fail
                go_roundw
                case rel =>
                  refine ⟨m + 1, by omega, by go_num, ?_, ?_, HU6.out.setCell (.inl (by simp)) _⟩
                  · rw [HPS.out]
                    have h9 := ownsRow_setCell_other (a := ⟨wo.heap.size, m, none⟩) HOW.out (own_heap_ne HOW.out HN6.out (by decide)) (.int .i64 ((pre.length : Nat) : Int))
                    rw [HPR.out] at h9 ⊢
                    exact h9
                  · rw [← HNS.out]
                    show _ = _
                    rw [heap_setCell HN6.out, HNV.out, icells_set]
                case measure => simp [intOf]; omega
              · obtain ⟨k, hk⟩ : ∃ k, pre.length = k + 1 := ⟨pre.length - 1, by omega⟩
                have hst := HOW.out.stored (k * 4 + 1) (.int .i64 (m : Int))
                have hf1 := HOW.out.frozenAt (k * 4 + 1)
                have hc1 := HOW.out.cellAt (k * 4 + 1) (by omega)
                rw [List.getElem?_append_left (by rw [HFL.out]; omega)] at hc1
                obtain ⟨u1, hu1⟩ : ∃ u1, (bflat xs.length pre [])[k * 4 + 1]? = some u1 := ⟨_, List.getElem?_eq_getElem (by rw [HFL.out]; omega)⟩
                rw [hu1] at hc1
                have hU7 : Upd [g6] w6 (w6.setCell ⟨g6, k * 4 + 1, none⟩ (.int .i64 (m : Int))) := (Upd.refl _ _).setCell (.inl (by simp)) _
                have hn7 := hU7.heap HN6.out (by simp; exact fun e => hne6 e.symm)
                have hnc7 : (w6.setCell ⟨g6, k * 4 + 1, none⟩ (.int .i64 (m : Int))).cell? ⟨wo.heap.size, m, none⟩ = some (.int .i64 ((numT xs m).getD m 0)) := by
                  rw [cell_of hn7, icells_get _ _ (by rw [numT_len]; omega)]
                have hnf7 := froz_of hn7 m
                have HST := Lib.hid hst.1
                have HN7 := Lib.hid hn7
                have hg6 : w2.heap.size ≤ g6 := (HOW.out.lt g6 rfl).1
                have HU7 : Hid (Upd [wo.heap.size] w2 (w6.setCell ⟨g6, k * 4 + 1, none⟩ (.int .i64 (m : Int)))) := HU6.out.setCell (.inr hg6) _
                have HK := Lib.hid hk
                have e3 : IntKind.i64.wrap ((k : Int) + 1) = (k : Int) + 1 := IntWalk.i64_in _ (by omega)
                have e2 : IntKind.i64.wrap ((k : Int) + 1 + 1 - 2) = (k : Int) := by rw [IntWalk.i64_in _ (by omega)]; omega
                clear hst hl0 hu1 hn7 hU7
                rw [hk] at HST HOW ⊢
                clear hk
                go_wp2_with fail
                go_roundw
                case rel =>
                  refine ⟨m + 1, by omega, by go_num, ?_, ?_, HU7.out.setCell (.inl (by simp)) _⟩
                  · rw [HPS.out]
                    have h9 := ownsRow_setCell_other (a := ⟨wo.heap.size, m, none⟩) HST.out (own_heap_ne HST.out HN7.out (by decide)) (.int .i64 ((k : Int) + 1))
                    rw [List.set_append_left _ _ (by rw [HFL.out, HK.out]; omega), show k * 4 + 1 = 4 * (pre.length - 1) + 1 by rw [HK.out]; omega, HFS.out (by rw [HK.out]; omega)] at h9
                    rw [List.length_append, List.length_singleton, HK.out]
                    rw [show 4 * (pre.length - 1) + 1 = k * 4 + 1 by rw [HK.out]; omega] at h9
                    exact h9
                  · rw [← HNS.out]
                    show _ = _
                    rw [heap_setCell HN7.out, HNV.out, HK.out, show (((k + 1 : Nat)) : Int) = (k : Int) + 1 by omega, icells_set]
                case measure => simp [intOf]; omega
          | false =>
            rw [hh] at hhc HPS
            simp only [Bool.false_eq_true, if_false] at HPS
            have hp1 : 1 ≤ (begP xs m).length := by have := HPP.out; rw [HPS.out] at this; exact this
            have HNV : Hid (((numB xs m : Nat) : Int) = ((begP xs m).length : Int) - 1) := by show _ = _; unfold numB; rw [HPS.out]; omega
            have f1 : IntKind.i64.wrap (((begP xs m).length : Int) - 1) = ((begP xs m).length : Int) - 1 := IntWalk.i64_in _ (by omega)
            clear hh
            go_wp2_with fail
            go_roundw
            case rel =>
              refine ⟨m + 1, by omega, by go_num, ?_, ?_, HU.out.setCell (.inl (by simp)) _⟩
              · rw [HPS.out]
                exact ownsRow_setCell_other HRW.out (own_heap_ne HRW.out HN.out (by decide)) _
              · rw [← HNS.out]
                show _ = _
                rw [heap_setCell HN.out, ← HNV.out, icells_set]
            case measure => simp [intOf]; omega
          -- L2>
        · obtain rfl : m = xs.length := by omega
          have hro := HRW.out
          rw [begP_all] at hro
          have hL1 := (begL_zero xs hn1).2
          have hLn : (begL xs).length ≤ xs.length := by have := begP_len xs xs.length; rwa [begP_all] at this
          obtain ⟨gb, capo, cur, rfl, hg1, hg2, hg3, hg4, hg5, hg6⟩ := hro.2.resolve_left (fun h => by omega)
          have hC0 : OwnD wq w2.heap.size wq.heap.size gb xs.length (begL xs) (List.replicate (2 * (begL xs).length) (.slice none 0 0)) (rowsS xs 0) := by
            rw [rowsS_zero]
            exact OwnD.start hg2 (by rw [Nat.mul_comm]; exact hg6) hg1 HU.out.size
          have HC0 := Lib.hid hC0
          have HNQ := HN
          have HMQ := Lib.hid (HU.out.heap HM2.out (by simp; omega))
          have HUQ : Hid (Upd [] w wq) := HU2.out.trans' HU.out (fun q hq hlt2 => by simp at hq; omega)
          have hnq := lt_of_heap HN.out
          have hgn : gb ≠ wo.heap.size := by omega
          have hgm : gb ≠ w.heap.size := by omega
          clear hro hg2 hg6 hC0 HRW HB2 HM2 hlt
          go_wp2_with fail
          go_loopw [10] (fun iv wr => ∃ (i : Nat) (vs : List Value), i ≤ (begL xs).length ∧ iv = .int .i64 i ∧ Hid (OwnD wr w2.heap.size wq.heap.size gb xs.length (begL xs) vs (rowsS xs i)) ∧ Hid (Upd [gb] wq wr)) (fun iv _ => (begL xs).length - (intOf iv).toNat)
          case atStart => exact ⟨0, _, by omega, rfl, HC0, Upd.refl _ _⟩
          case round =>
            clear HC0
            obtain ⟨i, vs, hi, rfl, HC, HUx⟩ := hrel
            obtain ⟨wz, rfl⟩ : ∃ wz : World, wz = wr := ⟨_, rfl⟩
            by_cases hil : i < (begL xs).length
            · skip
              -- <L3
              have hb4 : wz.cell? ⟨gb, i * 4 + 1, none⟩ = some (.int .i64 ((bto xs i : Nat) : Int)) := HC.out.to i hil
              have hmz := HUx.out.heap HMQ.out (by simp; exact fun e => hgm e.symm)
              have hm0 := cell_of hmz 0
              have hm1' := cell_of hmz 1
              have hm2' := cell_of hmz 2
              have hm3 := cell_of hmz 3
              simp only [List.getElem?_toArray, List.getElem?_cons_zero, List.getElem?_cons_succ] at hm0 hm1' hm2' hm3
              have hto : bto xs i ≤ xs.length := (bfr_bto xs i hil).2
              have HUz : Hid (Upd [] w wz) := HUQ.out.trans' HUx.out (fun q hq hlt2 => by simp at hq; omega)
              have HNX := Lib.hid (rnext_any s1 s2 s3 (.slice a xs.length cap) xs (((bto xs i : Nat) : Int) - 1) wz.drew (HCODE.out.upd HUz.out.drew) hn)
              have HNL := Lib.hid (nextL_len xs (((bto xs i : Nat) : Int) - 1))
              have HBD := Lib.hid (fun x hx hn => next_beg xs i hil (fun j hj hop => (HA.out j hj hop).1) x hx hn)
              have HGG := Lib.hid (gD_gs xs i hil (fun j hj hop => (HA.out j hj hop).1))
              have HGS := Lib.hid (gs_sorted xs i hil (fun j hj hop => (HA.out j hj hop).1))
              have HRS := Lib.hid (rowsS_step xs i)
              have HSF := Lib.hid (rowsS_self xs i)
              generalize hnx : nextL xs (((bto xs i : Nat) : Int) - 1) = nx at HNX HNL HBD HGG
              clear hnx
              generalize bto xs i = tv at hb4 hto HNX
              rw [← show IntKind.i64.wrap ((tv : Int) - 1) = (tv : Int) - 1 from IntWalk.i64_in _ (by omega)] at HNX
              clear hmz
              go_wp2_with fail
              go_region_held3 (fun w' => w'.cell? ⟨w.heap.size, 0, none⟩ = some (.string s1) ∧ w'.cell? ⟨w.heap.size, 1, none⟩ = some (.string s2) ∧ w'.cell? ⟨w.heap.size, 2, none⟩ = some (.string s3) ∧ w'.cell? ⟨w.heap.size, 3, none⟩ = some (.slice a xs.length cap) ∧ w'.cell? ⟨gb, i * 4 + 1, none⟩ = some (.int .i64 (tv : Int)))
                (first | exact ⟨hk0, hk1, hk2, hk3, hk5⟩ | exact ⟨hm0, hm1', hm2', hm3, hb4⟩ | go_keep)
                ((go_at_call 35; refine HNX.out.mono ?_; rintro e w3 ⟨u, rfl, hun, hu3⟩; have hk0 := hu3.cell (p := ⟨w.heap.size, 0, none⟩) hm0 (by simp); have hk1 := hu3.cell (p := ⟨w.heap.size, 1, none⟩) hm1' (by simp); have hk2 := hu3.cell (p := ⟨w.heap.size, 2, none⟩) hm2' (by simp); have hk3 := hu3.cell (p := ⟨w.heap.size, 3, none⟩) hm3 (by simp); have hk5 := hu3.cell (p := ⟨gb, i * 4 + 1, none⟩) hb4 (by simp); obtain ⟨p3, c3, rfl⟩ := hun.shape))
              have hu3' : Upd [] wz w3 := ((Upd.refl [] wz).drew).trans hu3
              have HC3 := Lib.hid (HC.out.upd hu3' (by simp) (by simp))
              have HU3 := Lib.hid (HUx.out.trans' hu3' (by simp))
              have HUN : Hid (OwnI w3 wz.heap.size 3 (.slice p3 nx.length c3) nx) := hun
              have HAP : Hid (∀ q, q < 2 * (begL xs).length → ∀ k, (vs.getD q undef).ownBlock = some k → (Value.slice p3 nx.length c3).ownBlock ≠ some k) := fun q hq k hk hk' => by
                have h1 := ((HC.out.own q (by rw [HC.out.two]; exact hq)).lt k hk).2
                have h2 := (HUN.out.lt k hk').1
                omega
              have hnl := HNL.out
              clear hk0 hk1 hk2 hk3 hk5 hm0 hm1' hm2' hm3 hb4 hu3 hu3' hun HNX HC HUx HUz
              go_wp2_with fail
              go_loopw [12] (fun jv wr => ∃ (j : Nat) (vs : List Value), j ≤ nx.length ∧ jv = .int .i64 j ∧ Hid (OwnD wr w2.heap.size wq.heap.size gb xs.length (begL xs) vs ((rowsS xs i).set (2 * i) (gD xs (nx.take j)))) ∧ Hid (Upd [gb] wq wr) ∧ Hid (OwnI wr wz.heap.size 3 (.slice p3 nx.length c3) nx) ∧
                Hid (∀ q, q < 2 * (begL xs).length → ∀ k, (vs.getD q undef).ownBlock = some k → (Value.slice p3 nx.length c3).ownBlock ≠ some k)) (fun jv _ => nx.length - (intOf jv).toNat)
              case atStart =>
                refine ⟨0, vs, by omega, rfl, ?_, HU3, HUN, HAP⟩
                rw [List.take_zero, show gD xs [] = [] from rfl, HSF.out]
                exact HC3
              case round =>
                clear HC3 HU3 HUN HAP
                obtain ⟨j, vs, hj, rfl, HC, HUk, HUN, HAP⟩ := hrel
                obtain ⟨wk, rfl⟩ : ∃ wk : World, wk = wr := ⟨_, rfl⟩
                have hRl : 2 * i < (rowsS xs i).length := by rw [rowsS_len]; omega
                have hWk := HUk.out.size
                by_cases hjl : j < nx.length
                · obtain ⟨ub, uc, e1, _, _, hy⟩ := HUN.out.nth j hjl
                  injection e1 with e1 _ e3
                  subst e1
                  subst e3
                  have hmem : nx.getD j 0 ∈ nx := by
                    rw [List.getD_eq_getElem?_getD, List.getElem?_eq_getElem hjl]
                    exact List.getElem_mem hjl
                  have HST := Lib.hid (gD_step xs nx j hjl)
                  have HPB := Lib.hid (HBD.out _ hmem)
                  have hgl : (gD xs (nx.take j)).length ≤ 2 := by
                    have := gD_len xs (nx.take j)
                    rw [List.length_take] at this
                    omega
                  clear hmem
                  generalize nx.getD j 0 = pc at hy HST HPB
                  by_cases hpn : pc < (xs.length : Int)
                  · obtain ⟨hp0, _⟩ := HPB.out hpn
                    obtain ⟨pn, rfl⟩ := Int.eq_ofNat_of_zero_le hp0
                    have hpn2 : pn < xs.length := by omega
                    have HST2 := HST.out
                    rw [if_pos hpn, Int.toNat_natCast] at HST2
                    have HST3 : Hid (((rowsS xs i).set (2 * i) (gD xs (nx.take j))).set (2 * i + 0) (((rowsS xs i).set (2 * i) (gD xs (nx.take j))).getD (2 * i + 0) [] ++ [((numB xs pn : Nat) : Int)]) = (rowsS xs i).set (2 * i) (gD xs (nx.take (j + 1)))) := by
                      show _ = _
                      rw [Nat.add_zero, getD_set_eq _ _ _ _ hRl, List.set_set, HST2]
                    have hcn : wk.cell? ⟨wo.heap.size, pn, none⟩ = some (.int .i64 ((numB xs pn : Nat) : Int)) := by
                      rw [cell_of (HUk.out.heap HNQ.out (by simp; exact fun e => hgn e.symm)), icells_get _ _ (by rw [numT_len]; omega), numT_get _ _ _ (by omega), if_pos hpn2]
                    have hrl : (((rowsS xs i).set (2 * i) (gD xs (nx.take j))).getD (2 * i) []).length ≤ 2 := by rw [getD_set_eq _ _ _ _ hRl]; exact hgl
                    clear HST2 HST HPB hp0
                    generalize numB xs pn = kb at hcn HST3
                    generalize (rowsS xs i).set (2 * i) (gD xs (nx.take j)) = rows at HC HST3 hrl
                    have hcr : wk.cell? ⟨gb, i * 4 + 2, none⟩ = some (vs.getD (2 * i) undef) := HC.out.row i 0 hil (by omega)
                    have hrw := HC.out.own (2 * i) (by rw [HC.out.two]; omega)
                    obtain ⟨sp, sc, hsv⟩ := hrw.shape
                    rw [hsv] at hcr
                    have hrw2 := World.ownsRow.drew hrw
                    rw [hsv] at hrw2
                    have HRW2 := Lib.hid hrw2
                    have HSV := Lib.hid hsv
                    have hubg : ub ≠ gb := fun e => by
                      obtain ⟨cur3, hblk3, _⟩ := HC.out.blk
                      exact own_heap_ne HUN.out hblk3 (by decide) (by rw [e]; rfl)
                    have HAPU : Hid ((Value.slice sp (rows.getD (2 * i) []).length sc).ownBlock ≠ some ub) := fun e => HAP.out (2 * i) (by omega) ub (by rw [HSV.out]; exact e) rfl
                    have hd : decide ((pn : Int) < (xs.length : Int)) = true := decide_eq_true hpn
                    have hpn3 : (pn : Int) < (xs.length : Int) + 1 := by omega
                    clear hrw hrw2 hsv hpn
                    go_upto_region 31 with fail
                    have hy2 := fun o => ((Upd.refl [] wk).drew.alloc o).cell hy (by simp)
                    have hcn2 := fun o => ((Upd.refl [] wk).drew.alloc o).cell hcn (by simp)
                    have hcr2 := fun o => ((Upd.refl [] wk).alloc o).cell hcr (by simp)
                    refine wp_region_noPanic ?_
                    refine wp_region_held_drew (S := fun w' => w'.cell? ⟨ub, j, none⟩ = some (.int .i64 (pn : Int)) ∧ w'.cell? ⟨wo.heap.size, pn, none⟩ = some (.int .i64 (kb : Int))) (by kernel_rfl) ?_ (fun hHeld => ?_)
                    · first | exact ⟨hy, hcn⟩ | exact ⟨hy2 _, hcn2 _⟩ | exact ⟨hk0, hk1⟩ | exact ⟨hs0 _, hs1 _⟩
                    refine wpAnyH_take (i := 0) (oi := ?_) (v := ?_) ?_ (by kernel_rfl) (by kernel_rfl) (by kernel_rfl) (fun _ _ _ h => h) (Or.inl ⟨?_, ?_⟩) hHeld ?_
                    rotate_left 2
                    · simp only [List.getElem?_toArray, List.getElem?_cons_zero]; rfl
                    · rfl
                    · intro _ hSw; (try dsimp only at hSw); go_simp <;> with_reducible rfl
                    (try simp only [Act.put, List.setIfInBounds_toArray, List.set_cons_zero, List.set_cons_succ])
                    refine wpAnyH_take (i := 1) (oi := ?_) (v := ?_) ?_ (by kernel_rfl) (by kernel_rfl) (by kernel_rfl) (fun _ _ _ h => h) (Or.inl ⟨?_, ?_⟩) hHeld ?_
                    rotate_left 2
                    · simp only [List.getElem?_toArray, List.getElem?_cons_zero, List.getElem?_cons_succ]; rfl
                    · rfl
                    · intro _ hSw; (try dsimp only at hSw); go_simp <;> with_reducible rfl
                    (try simp only [Act.put, List.setIfInBounds_toArray, List.set_cons_zero, List.set_cons_succ])
                    refine wpAnyH_take (i := 2) (oi := ?_) (v := ?_) ?_ (by kernel_rfl) (by kernel_rfl) (by kernel_rfl) (fun _ _ _ h => h) (Or.inl ⟨?_, ?_⟩) hHeld ?_
                    rotate_left 2
                    · simp only [List.getElem?_toArray, List.getElem?_cons_zero, List.getElem?_cons_succ]; rfl
                    · rfl
                    · intro _ hSw; (try dsimp only at hSw); go_simp <;> with_reducible rfl
                    (try simp only [Act.put, List.setIfInBounds_toArray, List.set_cons_zero, List.set_cons_succ])
                    refine wpAnyH_take (i := 3) (oi := ?_) (v := ?_) ?_ (by kernel_rfl) (by kernel_rfl) (by kernel_rfl) (fun _ _ _ h => h) (Or.inl ⟨?_, ?_⟩) hHeld ?_
                    rotate_left 2
                    · simp only [List.getElem?_toArray, List.getElem?_cons_zero, List.getElem?_cons_succ]; rfl
                    · rfl
                    · intro _ hSw; (try dsimp only at hSw); go_simp <;> with_reducible rfl
                    (try simp only [Act.put, List.setIfInBounds_toArray, List.set_cons_zero, List.set_cons_succ])
                    refine wpAnyH_take (i := 4) (oi := ?_) (v := ?_) ?_ (by kernel_rfl) (by kernel_rfl) (by kernel_rfl) (fun _ _ _ h => h) (Or.inl ⟨?_, ?_⟩) hHeld ?_
                    rotate_left 2
                    · simp only [List.getElem?_toArray, List.getElem?_cons_zero, List.getElem?_cons_succ]; rfl
                    · rfl
                    · intro _ hSw; (try dsimp only at hSw); go_simp <;> with_reducible rfl
                    (try simp only [Act.put, List.setIfInBounds_toArray, List.set_cons_zero, List.set_cons_succ])
                    refine wpAnyH_take (i := 5) (oi := ?_) (v := ?_) ?_ (by kernel_rfl) (by kernel_rfl) (by kernel_rfl) (fun _ _ _ h => h) (Or.inl ⟨?_, ?_⟩) hHeld ?_
                    rotate_left 2
                    · simp only [List.getElem?_toArray, List.getElem?_cons_zero, List.getElem?_cons_succ]; rfl
                    · rfl
                    · intro _ hSw; (try dsimp only at hSw); go_simp <;> with_reducible rfl
                    (try simp only [Act.put, List.setIfInBounds_toArray, List.set_cons_zero, List.set_cons_succ])
                    refine wpAnyH_take (i := 7) (oi := ?_) (v := ?_) ?_ (by kernel_rfl) (by kernel_rfl) (by kernel_rfl) (fun _ _ _ h => h) (Or.inl ⟨?_, ?_⟩) hHeld ?_
                    rotate_left 2
                    · simp only [List.getElem?_toArray, List.getElem?_cons_zero, List.getElem?_cons_succ]; rfl
                    · rfl
                    · intro _ hSw; (try dsimp only at hSw); go_simp <;> with_reducible rfl
                    (try simp only [Act.put, List.setIfInBounds_toArray, List.set_cons_zero, List.set_cons_succ])
                    refine wpAnyH_take (i := 8) (oi := ?_) (v := ?_) ?_ (by kernel_rfl) (by kernel_rfl) (by kernel_rfl) (fun _ _ _ h => h) (Or.inl ⟨?_, ?_⟩) hHeld ?_
                    rotate_left 2
                    · simp only [List.getElem?_toArray, List.getElem?_cons_zero, List.getElem?_cons_succ]; rfl
                    · rfl
                    · intro _ hSw; (try dsimp only at hSw); go_simp <;> with_reducible rfl
                    (try simp only [Act.put, List.setIfInBounds_toArray, List.set_cons_zero, List.set_cons_succ])
                    refine wpAnyH_take (i := 9) (oi := ?_) (v := ?_) ?_ (by kernel_rfl) (by kernel_rfl) (by kernel_rfl) (fun _ _ _ h => h) (Or.inl ⟨?_, ?_⟩) hHeld ?_
                    rotate_left 2
                    · simp only [List.getElem?_toArray, List.getElem?_cons_zero, List.getElem?_cons_succ]; rfl
                    · rfl
                    · intro _ hSw; (try dsimp only at hSw); go_simp <;> with_reducible rfl
                    (try simp only [Act.put, List.setIfInBounds_toArray, List.set_cons_zero, List.set_cons_succ])
                    refine wpAnyH_take (i := 10) (oi := ?_) (v := ?_) ?_ (by kernel_rfl) (by kernel_rfl) (by kernel_rfl) (fun _ _ _ h => h) (Or.inl ⟨?_, ?_⟩) hHeld ?_
                    rotate_left 2
                    · simp only [List.getElem?_toArray, List.getElem?_cons_zero, List.getElem?_cons_succ]; rfl
                    · rfl
                    · intro _ hSw; (try dsimp only at hSw); go_simp <;> with_reducible rfl
                    (try simp only [Act.put, List.setIfInBounds_toArray, List.set_cons_zero, List.set_cons_succ])
                    refine wpAnyH_take (i := 11) (oi := ?_) (v := ?_) ?_ (by kernel_rfl) (by kernel_rfl) (by kernel_rfl) (fun _ _ _ h => h) (Or.inl ⟨?_, ?_⟩) hHeld ?_
                    rotate_left 2
                    · simp only [List.getElem?_toArray, List.getElem?_cons_zero, List.getElem?_cons_succ]; rfl
                    · rfl
                    · intro _ hSw; (try dsimp only at hSw); go_simp <;> with_reducible rfl
                    (try simp only [Act.put, List.setIfInBounds_toArray, List.set_cons_zero, List.set_cons_succ])
                    refine wpAnyH_take (i := 12) (oi := ?_) (v := ?_) ?_ (by kernel_rfl) (by kernel_rfl) (by kernel_rfl) (fun _ _ _ h => h) (Or.inl ⟨?_, ?_⟩) hHeld ?_
                    rotate_left 2
                    · simp only [List.getElem?_toArray, List.getElem?_cons_zero, List.getElem?_cons_succ]; rfl
                    · rfl
                    · intro _ hSw; (try dsimp only at hSw); go_simp <;> with_reducible rfl
                    (try simp only [Act.put, List.setIfInBounds_toArray, List.set_cons_zero, List.set_cons_succ])
                    refine wpAnyH_take (i := 13) (oi := ?_) (v := ?_) ?_ (by kernel_rfl) (by kernel_rfl) (by kernel_rfl) (fun _ _ _ h => h) (Or.inl ⟨?_, ?_⟩) hHeld ?_
                    rotate_left 2
                    · simp only [List.getElem?_toArray, List.getElem?_cons_zero, List.getElem?_cons_succ]; rfl
                    · rfl
                    · intro _ hSw; (try dsimp only at hSw); go_simp <;> with_reducible rfl
                    (try simp only [Act.put, List.setIfInBounds_toArray, List.set_cons_zero, List.set_cons_succ])
                    refine wpAnyH_ready (rs := [6, 14]) (by kernel_rfl) (by simp) ?_
                    refine (AllReadyH.cons (o := ?o6) ?ho6 (fun K hK => ?w6) (AllReadyH.cons (o := ?o14) ?ho14 (fun K hK => ?w14) AllReadyH.nil))
                    case ho6 => (simp only [List.getElem?_toArray, List.getElem?_cons_zero, List.getElem?_cons_succ]; rfl)
                    case ho14 => (simp only [List.getElem?_toArray, List.getElem?_cons_zero, List.getElem?_cons_succ]; rfl)
                    case' w6 =>
                      clear hHeld
                      go_simp
                      refine hK.out _ _ ?_ (fun hHeld => ?_)
                      · first | exact ⟨hy, hcn⟩ | exact ⟨hy2 _, hcn2 _⟩ | exact ⟨hk0, hk1⟩ | exact ⟨hs0 _, hs1 _⟩
                      clear hK K
                      (try simp only [Act.put, List.setIfInBounds_toArray, List.set_cons_zero, List.set_cons_succ])
                      refine wpAnyH_ready (rs := [14]) (by kernel_rfl) (by simp) ?_
                      refine AllReadyH.cons (o := ?_) ?_ (fun K hK => ?_) AllReadyH.nil
                      rotate_left 1
                      · simp only [List.getElem?_toArray, List.getElem?_cons_zero, List.getElem?_cons_succ]; rfl
                      clear hHeld
                      go_simp
                      refine hK.out _ _ ?_ (fun hHeld => ?_)
                      · first | exact ⟨hy, hcn⟩ | exact ⟨hy2 _, hcn2 _⟩ | exact ⟨hk0, hk1⟩ | exact ⟨hs0 _, hs1 _⟩
                      clear hK K
                      (try simp only [Act.put, List.setIfInBounds_toArray, List.set_cons_zero, List.set_cons_succ])
                    case' w14 =>
                      clear hHeld
                      go_simp
                      refine hK.out _ _ ?_ (fun hHeld => ?_)
                      · first | exact ⟨hy, hcn⟩ | exact ⟨hy2 _, hcn2 _⟩ | exact ⟨hk0, hk1⟩ | exact ⟨hs0 _, hs1 _⟩
                      clear hK K
                      (try simp only [Act.put, List.setIfInBounds_toArray, List.set_cons_zero, List.set_cons_succ])
                      refine wpAnyH_ready (rs := [6]) (by kernel_rfl) (by simp) ?_
                      refine AllReadyH.cons (o := ?_) ?_ (fun K hK => ?_) AllReadyH.nil
                      rotate_left 1
                      · simp only [List.getElem?_toArray, List.getElem?_cons_zero, List.getElem?_cons_succ]; rfl
                      clear hHeld
                      go_simp
                      refine hK.out _ _ ?_ (fun hHeld => ?_)
                      · first | exact ⟨hy, hcn⟩ | exact ⟨hy2 _, hcn2 _⟩ | exact ⟨hk0, hk1⟩ | exact ⟨hs0 _, hs1 _⟩
                      clear hK K
                      (try simp only [Act.put, List.setIfInBounds_toArray, List.set_cons_zero, List.set_cons_succ])
                    all_goals
                      refine wpAnyH_ready (rs := [15]) (by kernel_rfl) (by simp) ?_
                      refine AllReadyH.cons (o := ?_) ?_ (fun K hK => ?_) AllReadyH.nil
                      rotate_left 1
                      · simp only [List.getElem?_toArray, List.getElem?_cons_zero, List.getElem?_cons_succ]; rfl
                      clear hHeld
                      (refine step_append_own_at rfl (.tmp 127) (.tmp 135) 28 rfl wq.heap.size 3 i1 (.int .i64 0) 1 8 Tryd.underlying28 HI.out HZ0.out HZ1.out HZ2.out rfl (by decide) _ _ _ rfl (HRW2.out.alloc _) ⟨wk.heap.size, 0, none⟩ 1 1 [.int .i64 (kb : Int)] rfl rfl (cell_one_new _ _ _) (by simp [Value.oneCell']) (by unfold maxLen; omega) (by omega) (by simp; omega) ?_; intro v' w6 hown' hgrow hat; obtain ⟨hfz, hcc, HP6, HR6, HS6, HT6⟩ := rowD_push (b := i) (r := 0) HC.out HSV.out hil (by omega) hown' hgrow hat; obtain ⟨hk1, _⟩ := rowD_keep (b := i) (r := 0) HC.out HSV.out hil (by omega) hgrow hcn (by simp; omega); have hk0 := ((((Upd.refl _ wk).drew).alloc _).grown hgrow (fun q hq => Or.inl (Option.mem_toList.2 hq))).cell hy (fun hm => HAPU.out (Option.mem_toList.1 hm)); have hs0 := fun v => ((Upd.refl [gb] w6).setCell (p := ⟨gb, i * 4 + 2, none⟩) (Or.inl (by simp)) v).cell hk0 (by simp; exact hubg); have hs1 := fun v => ((Upd.refl [gb] w6).setCell (p := ⟨gb, i * 4 + 2, none⟩) (Or.inl (by simp)) v).cell hk1 (by simp; exact fun e => hgn e.symm); have hfz2 : w6.frozen? ⟨gb, i * 4 + 2, none⟩ = false := hfz; have hcc2 : w6.cell? ⟨gb, i * 4 + 2, none⟩ = _ := hcc; have HDN := Lib.hid (rowD_done (b := i) (r := 0) HC.out HSV.out hil (by omega) HP6 HR6 HS6 HT6 rfl HUk.out HUN.out HAP.out); obtain ⟨g6, c6, rfl⟩ := ownsRow_succ hown'; clear HP6 HR6 HS6 HT6 hown' hgrow hat)
                      refine hK.out _ _ ?_ (fun hHeld => ?_)
                      · first | exact ⟨hy, hcn⟩ | exact ⟨hy2 _, hcn2 _⟩ | exact ⟨hk0, hk1⟩ | exact ⟨hs0 _, hs1 _⟩
                      clear hK K
                      (try simp only [Act.put, List.setIfInBounds_toArray, List.set_cons_zero, List.set_cons_succ])
                      refine wpAnyH_take (i := 16) (oi := ?_) (v := ?_) ?_ (by kernel_rfl) (by kernel_rfl) (by kernel_rfl) (fun _ _ _ h => h) (Or.inl ⟨?_, ?_⟩) hHeld ?_
                      rotate_left 2
                      · simp only [List.getElem?_toArray, List.getElem?_cons_zero, List.getElem?_cons_succ]; rfl
                      · rfl
                      · intro _ hSw; (try dsimp only at hSw); go_simp <;> with_reducible rfl
                      (try simp only [Act.put, List.setIfInBounds_toArray, List.set_cons_zero, List.set_cons_succ])
                      refine wpAnyH_take (i := 17) (oi := ?_) (v := ?_) ?_ (by kernel_rfl) (by kernel_rfl) (by kernel_rfl) (fun _ _ _ h => h) (Or.inl ⟨?_, ?_⟩) hHeld ?_
                      rotate_left 2
                      · simp only [List.getElem?_toArray, List.getElem?_cons_zero, List.getElem?_cons_succ]; rfl
                      · rfl
                      · intro _ hSw; (try dsimp only at hSw); go_simp <;> with_reducible rfl
                      (try simp only [Act.put, List.setIfInBounds_toArray, List.set_cons_zero, List.set_cons_succ])
                      refine wpAnyH_ready (rs := [18]) (by kernel_rfl) (by simp) ?_
                      refine AllReadyH.cons (o := ?_) ?_ (fun K hK => ?_) AllReadyH.nil
                      rotate_left 1
                      · simp only [List.getElem?_toArray, List.getElem?_cons_zero, List.getElem?_cons_succ]; rfl
                      clear hHeld
                      go_simp
                      refine hK.out _ _ ?_ (fun hHeld => ?_)
                      · first | exact ⟨hy, hcn⟩ | exact ⟨hy2 _, hcn2 _⟩ | exact ⟨hk0, hk1⟩ | exact ⟨hs0 _, hs1 _⟩
                      clear hK K
                      (try simp only [Act.put, List.setIfInBounds_toArray, List.set_cons_zero, List.set_cons_succ])
                      refine wpAnyH_done (by kernel_rfl) ?_ _
                      refine NoPanic.normal ?_
                      obtain ⟨vs3, HC5, HU5, HUN5, HAP5⟩ := HDN.out
                      clear HDN hHeld
                      go_wp2_with fail
                      go_roundw
                      case rel => exact ⟨j + 1, vs3, by omega, by go_num, (by rw [← HST3.out]; exact HC5), HU5, HUN5, HAP5⟩
                      case measure => simp [intOf]; omega
                  · have dn : decide (pc < (xs.length : Int)) = false := decide_eq_false hpn
                    have HST2 := HST.out
                    rw [if_neg hpn] at HST2
                    have HST2 := Lib.hid HST2
                    go_wp2_with fail
                    go_roundw
                    case rel => exact ⟨j + 1, vs, by omega, by go_num, (by rw [HST2.out]; exact HC), HUk, HUN, HAP⟩
                    case measure => simp [intOf]; omega
                · obtain rfl : j = nx.length := by omega
                  have HC4 := HC.out
                  rw [List.take_length, HGG.out] at HC4
                  have hcr : wk.cell? ⟨gb, i * 4 + 2, none⟩ = some (vs.getD (2 * i) undef) := HC4.row i 0 hil (by omega)
                  have hrw := HC4.own (2 * i) (by rw [HC4.two]; omega)
                  rw [getD_set_eq _ _ _ _ hRl] at hrw
                  obtain ⟨sp, sc, hsv⟩ := hrw.shape
                  rw [hsv] at hcr
                  obtain ⟨sb, hsb, _⟩ := hrw.ints
                  rw [hsv] at hsb
                  have HSB := Lib.hid hsb
                  have HC5 := Lib.hid HC4
                  have hgl := (gs_bd xs i).1
                  clear HC4 HC hrw hsv hsb HUN HAP
                  go_wp2_with fail
                  refine (sorted_any _ sb (gsL xs i) wk HSB.out (by omega)).mono ?_
                  rintro e w8 ⟨u, rfl, hO, hU8⟩
                  rw [HGS.out] at hO
                  obtain ⟨up, uc, rfl⟩ := hO.shape
                  obtain ⟨q1, q2, q3, q4⟩ := HC5.out.place i 0 hil (by omega) hU8 hO (Nat.le_refl _) hWk
                  have hfz2 : w8.frozen? ⟨gb, i * 4 + 2, none⟩ = false := q1
                  have hcc2 : w8.cell? ⟨gb, i * 4 + 2, none⟩ = _ := q2
                  simp only [Nat.add_zero] at q3
                  rw [List.set_set, HRS.out] at q3
                  have HQ3 := Lib.hid q3
                  have HQ4 := Lib.hid (HUk.out.trans q4)
                  clear q1 q2 q3 q4 hO hU8 hcr HSB HC5
                  go_wp2_with fail
                  go_roundw
                  case rel => exact ⟨i + 1, _, by omega, by go_num, HQ3, HQ4⟩
                  case measure => simp [intOf]; omega
              -- L3>
            · obtain rfl : i = (begL xs).length := by omega
              have HC0 : Hid (OwnD wz w2.heap.size wq.heap.size gb xs.length (begL xs) vs (prd xs 0)) := HC
              clear HC hil
              go_wp2_with fail
              go_loopw [13] (fun iv wr => ∃ (i : Nat) (vs : List Value), i ≤ (begL xs).length ∧ iv = .int .i64 i ∧ Hid (OwnD wr w2.heap.size wq.heap.size gb xs.length (begL xs) vs (prd xs i)) ∧ Hid (Upd [gb] wq wr)) (fun iv _ => (begL xs).length - (intOf iv).toNat)
              case atStart => exact ⟨0, vs, by omega, rfl, HC0, HUx⟩
              case round =>
                clear HC0 HUx
                obtain ⟨i, vs, hi2, rfl, HC, HUx⟩ := hrel
                obtain ⟨wy, rfl⟩ : ∃ wy : World, wy = wr := ⟨_, rfl⟩
                by_cases hil : i < (begL xs).length
                · skip
                  -- <L4
                  have HPS := Lib.hid (prd_succ xs i)
                  have hgb := gs_bd xs i
                  have HGB := Lib.hid hgb.2
                  have HPE := Lib.hid (prd_even xs i i hil)
                  have HPM := Lib.hid (prd_rmax xs i)
                  have hpl := prd_len xs i
                  have hg2 := hgb.1
                  clear hgb
                  generalize gsL xs i = gs at HPS HGB HPE hg2
                  generalize prd xs i = ro at HC HPS HPE HPM hpl
                  have HOT := Lib.hid (fun k hk => oRow_take i gs ro k hk)
                  have HOE := Lib.hid (fun k => oRow_even i (gs.take k) ro i)
                  have HOL := Lib.hid (fun k => oRow_len i (gs.take k) ro)
                  have HOM := Lib.hid (fun k => oRow_rmax i (gs.take k) ro _ HPM.out)
                  go_wp2_with fail
                  go_loopw [14] (fun kv wr => ∃ (k : Nat) (vs : List Value), k ≤ gs.length ∧ kv = .int .i64 k ∧ Hid (OwnD wr w2.heap.size wq.heap.size gb xs.length (begL xs) vs (oRow i (gs.take k) ro)) ∧ Hid (Upd [gb] wq wr)) (fun kv _ => gs.length - (intOf kv).toNat)
                  case atStart => exact ⟨0, vs, by omega, rfl, HC, HUx⟩
                  case round =>
                    clear HC HUx
                    obtain ⟨k, vs, hk, rfl, HC, HUx⟩ := hrel
                    obtain ⟨wk, rfl⟩ : ∃ wk : World, wk = wr := ⟨_, rfl⟩
                    have hWk := HUx.out.size
                    have hcs : wk.cell? ⟨gb, i * 4 + 2, none⟩ = some (vs.getD (2 * i) undef) := HC.out.row i 0 hil (by omega)
                    have hos := HC.out.own (2 * i) (by rw [HC.out.two]; omega)
                    rw [HOE.out, HPE.out] at hos
                    obtain ⟨sp, sc, hsv⟩ := hos.shape
                    rw [hsv] at hcs hos
                    by_cases hkl : k < gs.length
                    · obtain ⟨ub, uc, e1, _, _, hy⟩ := hos.nth k hkl
                      injection e1 with e1 _ e3
                      subst e1
                      subst e3
                      have hmem : gs.getD k 0 ∈ gs := by
                        rw [List.getD_eq_getElem?_getD, List.getElem?_eq_getElem hkl]
                        exact List.getElem_mem hkl
                      have hxb := HGB.out _ hmem
                      have HST := Lib.hid (HOT.out k hkl)
                      have hrl := HOM.out k
                      rw [List.length_take] at hrl
                      clear hmem hos hsv
                      generalize gs.getD k 0 = x at hy hxb HST
                      obtain ⟨j, rfl⟩ := Int.eq_ofNat_of_zero_le hxb.1
                      have hjl : j < (begL xs).length := by omega
                      unfold oAdd at HST
                      rw [Int.toNat_natCast] at HST
                      have hcj : wk.cell? ⟨gb, j * 4 + 3, none⟩ = some (vs.getD (2 * j + 1) undef) := HC.out.row j 1 hjl (by omega)
                      have hoj := HC.out.own (2 * j + 1) (by rw [HC.out.two]; omega)
                      have hrj := hrl (2 * j + 1)
                      generalize oRow i (gs.take k) ro = rows at HC HST hoj hrj
                      obtain ⟨jp, jc, hjv⟩ := hoj.shape
                      rw [hjv] at hcj
                      have HJV := Lib.hid hjv
                      have HOJ := Lib.hid hoj
                      have hgr := gb
                      have hfj : wk.frozen? ⟨gb, j * 4 + 3, none⟩ = false := HC.out.froz _
                      clear hrl hxb hoj hjv hgr
                      go_wp2_with (at_builtin; refine stop_here ?_)
                      refine Hid.mk ?_
                      have hcn := cell_of (heap_alloc_new wk (.cells #[.int .i64 (i : Int)] 3))
                      refine (wpList_append_own_at _ rfl _ _ 28 rfl wq.heap.size 3 i1 (.int .i64 0) 1 8 Tryd.underlying28 HI.out HZ0.out HZ1.out HZ2.out rfl (by decide) _ _ _ rfl (by have := HOJ.out.alloc (.cells #[.int .i64 (i : Int)] 3); rw [HJV.out] at this; exact this) ⟨wk.heap.size, 0, none⟩ 1 1 [.int .i64 (i : Int)] rfl rfl ?c1 ?c2 ?c3 ?c4 ?c5 ?c6)
                      case c1 =>
                        intro jj uu hjj
                        rw [Addr.add_lit, Nat.zero_add, hcn]
                        simpa using hjj
                      case c2 => simp [Value.oneCell']
                      case c3 => unfold maxLen; omega
                      case c4 => omega
                      case c5 => simp; omega
                      case c6 =>
                        intro v' w6 hown hgr _ hat
                        have hgr : (wk.alloc (.cells #[.int .i64 (i : Int)] 3)).grownBy w6 (Value.slice jp (rows.getD (2 * j + 1) []).length jc).ownBlock := hgr
                        have hat : v'.ownBlock = (Value.slice jp (rows.getD (2 * j + 1) []).length jc).ownBlock ∨ v'.ownBlock = some (wk.alloc (.cells #[.int .i64 (i : Int)] 3)).heap.size := hat
                        rw [← HJV.out] at hgr hat
                        obtain ⟨q1, q2, q3, q4, q5⟩ := HC.out.push j 1 hjl (by omega) hown hgr hat
                        obtain ⟨g6, c6, rfl⟩ := ownsRow_succ hown
                        have hU6 := HUx.out.trans' q4 (fun q hq hlt2 => by
                          rcases q5 q hq with e | e
                          · simp [e]
                          · omega)
                        rw [← HST.out] at q3
                        have hfz2 : w6.frozen? ⟨gb, j * 4 + 3, none⟩ = false := q1
                        have hcc2 : w6.cell? ⟨gb, j * 4 + 3, none⟩ = _ := q2
                        rw [HJV.out] at hcc2
                        have HQ3 := Lib.hid q3
                        have HU6 := Lib.hid hU6
                        clear q1 q2 q3 q4 q5 hU6 hown hgr hat hcn hcs hcj hfj hy
                        go_wp2_with fail
                        go_roundw
                        case rel => exact ⟨k + 1, _, by omega, by go_num, HQ3, HU6⟩
                        case measure => simp [intOf]; omega
                    · obtain rfl : k = gs.length := by omega
                      have HC4 := HC.out
                      rw [List.take_length, ← HPS.out] at HC4
                      have HC5 := Lib.hid HC4
                      clear HC4 HC hos hsv
                      go_wp2_with fail
                      go_roundw
                      case rel => exact ⟨i + 1, vs, by omega, by go_num, HC5, HUx⟩
                      case measure => simp [intOf]; omega
                  -- L4>
                · obtain rfl : i = (begL xs).length := by omega
                  go_wp2_with fail
                  go_ret
                  exact ⟨w2.heap.size, wq.heap.size, gb, vs, capo, rfl, HC.out, by omega, HUQ.out.trans' HUx.out (fun q hq hlt2 => by simp at hq; omega)⟩

end Go.Proofs.YtagjchgpcekmnaaDoor
