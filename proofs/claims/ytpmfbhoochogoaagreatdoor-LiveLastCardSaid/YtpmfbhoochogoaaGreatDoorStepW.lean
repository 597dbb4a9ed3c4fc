/- verify.step. -/
import Derived.Test.YtpmfbhoochogoaaGreatDoorEff
import Derived.Test.YtpmfbhoochogoaaGreatDoorStepL
import Derived.Test.YtpmfbhoochogoaaGreatDoorSent
import Derived.Test.YtpmfbhoochogoaaGreatDoorShelf
namespace Go.Proofs.YtpmfbhoochogoaaGreatDoor
open Go.RowKit

/-- What step answers. -/
def stepV (E : Nat → Addr) (r : Except Int (List UInt8)) : Value := match r with
  | .ok t => .tuple #[.string (bs t), .nilIface]
  | .error c => .tuple #[.string (bs []), errC E c]
theorem ret_step {E : Nat → Addr} {r r' : Except Int (List UInt8)} {v : Value} (h : r' = r) (e : v = stepV E r) : Ending.returned v = .returned (stepV E r') := by rw [h, e]
theorem stepV_err (E : Nat → Addr) (k : Nat) : stepV E (.error (101 + (k : Int))) = .tuple #[.string (bs []), .iface 271 (.pointer (some (E k)))] := by
  unfold stepV errC sErr
  simp only
  rw [if_neg (by omega), show ((101 : Int) + (k : Int) - 101).toNat = k by omega]

theorem two_parts (e : ByteArray) (D : List UInt8) (h : e.toList = D) (h2 : D.length = 2) : (e.extract 1 2).toList = D.drop 1 ∧ (e.extract 0 1).toList = D.take 1 := by
  rw [list_extract, list_extract, h, List.take_of_length_le (by rw [List.length_drop, h2]; omega), List.drop_zero]
  exact ⟨rfl, rfl⟩
theorem parts_size (e : ByteArray) : (e.extract 1 2 ++ e.extract 0 1).size ≤ 100 := by
  rw [ByteArray.size_append, ByteArray.size_extract, ByteArray.size_extract]
  omega
theorem suffix_drop (s p : ByteArray) (h : p.size ≤ s.size) : Lib.hasSuffix s.data.toList p.data.toList = decide (s.toList.drop (s.toList.length - p.toList.length) = p.toList) := by
  rw [← Lib.hasSuffix_of_drop, ByteArray.toList_eq, ByteArray.toList_eq]
  have e : decide (p.data.toList.length ≤ s.data.toList.length) = true := decide_eq_true (by rw [← Lib.size_eq, ← Lib.size_eq]; exact h)
  rw [e, Bool.true_and, Bool.eq_iff_iff]
  simp

set_option maxRecDepth 100000 in
set_option maxHeartbeats 4000000 in
theorem step_any (p : Prg) (hok : p.Ok) (k : Nat) (cv mv : Value) (x : Ins) (s : ByteArray) (E : Nat → Addr) (w : World) (hS : SentAt w E) (hc : ClassAt w cv p.cs) (hm : MethsAt w mv p.ms) (hk : k < p.ms.length) (hop : 1 ≤ x.op ∧ x.op ≤ 35) (hs : s.size ≤ 1000) :
    Calls Tryz.prog 79 #[.agg #[cv, mv], .int .i64 k, .agg #[.int .i64 x.op, .int .i64 x.a, .int .i64 x.b, .int .i64 x.n], .string s] w fun e w' => e = .returned (stepV E (behL p (p.ms.getD k default) x s.toList)) ∧ Upd [] w w' := by
  have HES := Lib.hid (fun (a b : List UInt8) (he : effL p (p.ms.getD k default) x = some (a, b)) => eff_sizes hok he)
  have HEN := Lib.hid (fun (he : effL p (p.ms.getD k default) x = none) => eff_none hop he)
  have HEE := Lib.hid (fun w hc hm => effect_any p k cv mv x w hc hm hk (by have := hok.many; omega) (by have := hok.few; omega) (fun c h => by have := hok.small c h; omega) (by have := hok.sizes k; omega) (by have := hok.sizes k; omega) hop)
  have hlen := size_list s
  have HLEN := Lib.hid hlen
  clear hlen
  generalize p.ms.getD k default = m at HES HEN HEE ⊢
  obtain ⟨op, a, b, n⟩ := x
  simp only at hop
  have hU0 := (((Upd.refl [] w).alloc (.cells #[cv, mv] 36)).alloc (.cells #[.int .i64 op, .int .i64 a, .int .i64 b, .int .i64 n] 24))
  have hS0 := hS.upd hU0
  have hc0 := hc.upd hU0
  have hm0 := hm.upd hU0
  have HU0 := Lib.hid hU0
  clear hS hc hm hU0
  go_enter Tryz.func79, Tryz.ntmps79
  go_wp2_with fail
  have HE2 := Lib.hid (HEE.out _ hc0 hm0)
  clear hc0 hm0 HEE
  refine HE2.out.mono ?_
  rintro e w1 ⟨rfl, hu1⟩
  have hb1 : w1.heap[w.heap.size + 1]? = some (.cells #[.int .i64 op, .int .i64 a, .int .i64 b, .int .i64 n] 24) := by
    have h := heap_alloc_new (w.alloc (.cells #[cv, mv] 36)) (.cells #[.int .i64 op, .int .i64 a, .int .i64 b, .int .i64 n] 24)
    rw [show (w.alloc (.cells #[cv, mv] 36)).heap.size = w.heap.size + 1 by simp] at h
    exact hu1.heap h (by simp)
  have i0 : w1.cell? ⟨w.heap.size + 1, 0, none⟩ = some (.int .i64 op) := by rw [cell_of hb1]; rfl
  have hS1 := hS0.upd hu1
  have HU1 := Lib.hid (HU0.out.trans hu1)
  have g6 : w1.cell? ⟨9, 0, none⟩ = some (.iface 271 (.pointer (some (E 7)))) := hS1.g 7 (by omega)
  have g1 : w1.cell? ⟨5, 0, none⟩ = some (.iface 271 (.pointer (some (E 1)))) := hS1.g 1 (by omega)
  clear hb1 hu1 hS0 hS1 HU0 HE2
  generalize w1.heap.size = B1
  generalize hr : effL p m ⟨op, a, b, n⟩ = r
  have HR0 := Lib.hid hr
  clear hr
  obtain ⟨pb, qb, bb, hev, hbf, hbt⟩ : ∃ pb qb bb, effV r = .tuple #[.string pb, .string qb, .bool bb] ∧ (bb = false → r = none ∧ qb = bs []) ∧ (bb = true → ∃ pop push, r = some (pop, push) ∧ pb = bs pop ∧ qb = bs push) := by
    cases r with
    | none => exact ⟨_, _, _, rfl, fun _ => ⟨rfl, rfl⟩, fun h => by cases h⟩
    | some r => obtain ⟨a, b⟩ := r; exact ⟨_, _, _, rfl, fun h => (by cases h), fun _ => ⟨a, b, rfl, rfl, rfl⟩⟩
  have HBF := Lib.hid hbf
  have HBT := Lib.hid hbt
  rw [hev]
  clear hbf hbt hev
  go_upto_if 27 with fail
  go_cut [11, 12] (fun v11 v12 wx => (∃ m, wx = w1.drewN m) ∧ ∃ pv qv : ByteArray, v11 = .string pv ∧ v12 = .string qv ∧ pv.size ≤ 12 ∧ qv.size ≤ 100 ∧ Hid (behL p m ⟨op, a, b, n⟩ s.toList = tailL ⟨op, a, b, n⟩ s.toList pv.toList qv.toList))
  case first =>
    cases bb with
    | true =>
      obtain ⟨pop, push, hrr, rfl, rfl⟩ := HBT.out rfl
      have HR0 : Hid (effL p m ⟨op, a, b, n⟩ = some (pop, push)) := HR0.out.trans hrr
      clear hrr HBT HBF
      have hz := HES.out pop push HR0.out
      have hne := eff_some HR0.out
      have HB : Hid (behL p m ⟨op, a, b, n⟩ s.toList = tailL ⟨op, a, b, n⟩ s.toList (bs pop).toList (bs push).toList) := by show _ = _; rw [bs_list, bs_list]; exact beh_some hne.1 hne.2.1 hne.2.2 HR0.out
      have hz2 : (bs pop).size ≤ 12 ∧ (bs push).size ≤ 100 := by rw [bs_size, bs_size]; omega
      clear HR0 hne hz hop
      go_wp2_with fail
      go_meet
      exact ⟨⟨0, rfl⟩, _, _, rfl, rfl, hz2.1, hz2.2, HB⟩
    | false =>
      obtain ⟨hrn, rfl⟩ := HBF.out rfl
      have hcase : op = 5 ∨ op = 6 ∨ op = 7 := HEN.out (HR0.out.trans hrn)
      clear hrn HBF HBT HR0 HEN HES hop
      rcases hcase with rfl | rfl | rfl
      · by_cases hl : s.size < 1
        · have dl : decide ((s.size : Int) < 1) = true := decide_eq_true (by omega)
          have HR : Hid (behL p m ⟨5, a, b, n⟩ s.toList = .error 108) := beh_low (.inl ⟨.inl rfl, by rw [← HLEN.out]; exact hl⟩)
          clear hl
          go_wp2_with fail
          go_quiet (fail)
          go_wp2_with fail
          go_ret2
          exact ⟨ret_step HR.out (stepV_err E 7).symm, HU1.out.drewN _⟩
        · have dl : decide ((s.size : Int) < 1) = false := decide_eq_false (by omega)
          have hx : (s.extract (s.size - 1) s.size).size = 1 := by rw [ByteArray.size_extract]; omega
          have HB : Hid (behL p m ⟨5, a, b, n⟩ s.toList = tailL ⟨5, a, b, n⟩ s.toList (s.extract (s.size - 1) s.size).toList (s.extract (s.size - 1) s.size ++ s.extract (s.size - 1) s.size).toList) := by
            show _ = _
            rw [beh_dup (by rfl) (by rw [← HLEN.out]; omega)]
            simp only [list_append, list_extract, HLEN.out]
            simp only [show s.toList.length - (s.toList.length - 1) = 1 by have := HLEN.out; omega]
            rw [List.take_of_length_le (by rw [List.length_drop]; omega)]
          have HX := Lib.hid hx
          go_wp2_with fail
          go_meet
          exact ⟨⟨0, rfl⟩, _, _, rfl, rfl, by rw [HX.out]; omega, by rw [ByteArray.size_append, HX.out]; omega, HB⟩
      · by_cases hl : s.size < 1
        · have dl : decide ((s.size : Int) < 1) = true := decide_eq_true (by omega)
          have HR : Hid (behL p m ⟨6, a, b, n⟩ s.toList = .error 108) := beh_low (.inl ⟨.inr rfl, by rw [← HLEN.out]; exact hl⟩)
          clear hl
          go_wp2_with fail
          go_quiet (fail)
          go_wp2_with fail
          go_ret2
          exact ⟨ret_step HR.out (stepV_err E 7).symm, HU1.out.drewN _⟩
        · have dl : decide ((s.size : Int) < 1) = false := decide_eq_false (by omega)
          have hx : (s.extract (s.size - 1) s.size).size = 1 := by rw [ByteArray.size_extract]; omega
          have HB : Hid (behL p m ⟨6, a, b, n⟩ s.toList = tailL ⟨6, a, b, n⟩ s.toList (s.extract (s.size - 1) s.size).toList (bs []).toList) := by
            show _ = _
            rw [beh_pop (by rfl) (by rw [← HLEN.out]; omega)]
            simp only [list_extract, HLEN.out, bs_list]
            simp only [show s.toList.length - (s.toList.length - 1) = 1 by have := HLEN.out; omega]
            rw [List.take_of_length_le (by rw [List.length_drop]; omega)]
          have HX := Lib.hid hx
          go_wp2_with fail
          go_meet
          exact ⟨⟨0, rfl⟩, _, _, rfl, rfl, by rw [HX.out]; omega, by rw [bs_size]; simp, HB⟩
      · by_cases hl : s.size < 2
        · have dl : decide ((s.size : Int) < 2) = true := decide_eq_true (by omega)
          have HR : Hid (behL p m ⟨7, a, b, n⟩ s.toList = .error 108) := beh_low (.inr ⟨rfl, by rw [← HLEN.out]; exact hl⟩)
          clear hl
          go_wp2_with fail
          go_quiet (fail)
          go_wp2_with fail
          go_ret2
          exact ⟨ret_step HR.out (stepV_err E 7).symm, HU1.out.drewN _⟩
        · have dl : decide ((s.size : Int) < 2) = false := decide_eq_false (by omega)
          have hx : (s.extract (s.size - 2) s.size).size = 2 := by rw [ByteArray.size_extract]; omega
          have HB : Hid (behL p m ⟨7, a, b, n⟩ s.toList = tailL ⟨7, a, b, n⟩ s.toList (s.extract (s.size - 2) s.size).toList ((s.extract (s.size - 2) s.size).extract 1 2 ++ (s.extract (s.size - 2) s.size).extract 0 1).toList) := by
            show _ = _
            have h9 : 2 ≤ s.toList.length := by rw [← HLEN.out]; omega
            have eD : (s.extract (s.size - 2) s.size).toList = s.toList.drop (s.toList.length - 2) := by rw [list_extract, HLEN.out, List.take_of_length_le (by rw [List.length_drop]; omega)]
            rw [beh_swap (by rfl) h9, list_append, (two_parts _ _ eD (by rw [List.length_drop]; omega)).1, (two_parts _ _ eD (by rw [List.length_drop]; omega)).2, eD]
          have HX := Lib.hid hx
          go_wp2_with fail
          go_quiet (fail)
          go_wp2_with fail
          go_meet
          exact ⟨⟨_, rfl⟩, _, _, rfl, rfl, by rw [HX.out]; omega, parts_size _, HB⟩
  case rest =>
    obtain ⟨⟨nd, rfl⟩, pv, qv, rfl, rfl, z3, z4, HB⟩ := hcut
    have i0 := ((Upd.refl [] w1).drewN nd).cell i0 (by simp)
    have g1 := ((Upd.refl [] w1).drewN nd).cell g1 (by simp)
    have g6 := ((Upd.refl [] w1).drewN nd).cell g6 (by simp)
    have HU1 := Lib.hid (HU1.out.drewN nd)
    generalize w1.drewN nd = w1 at i0 g1 g6 HU1 ⊢
    by_cases c1 : s.size < pv.size
    · have d1 : decide ((s.size : Int) < (pv.size : Int)) = true := decide_eq_true (by omega)
      have HR : Hid (behL p m ⟨op, a, b, n⟩ s.toList = .error 108) := by
        show _ = _
        rw [HB.out]
        unfold tailL
        rw [if_pos (by rw [← HLEN.out, ← size_list]; exact c1)]
      go_wp2_with fail
      go_quiet (fail)
      go_wp2_with fail
      go_ret2
      exact ⟨ret_step HR.out (stepV_err E 7).symm, HU1.out.drewN _⟩
    · have d1 : decide ((s.size : Int) < (pv.size : Int)) = false := decide_eq_false (by omega)
      have HSF := Lib.hid (Tryz.strings_HasSuffix s pv w1 (by omega))
      rw [suffix_drop s pv (by omega)] at HSF
      by_cases c2 : s.toList.drop (s.toList.length - pv.toList.length) = pv.toList
      · rw [decide_eq_true c2] at HSF
        obtain ⟨t, ht⟩ : ∃ t, t = s.toList.take (s.toList.length - pv.toList.length) ++ qv.toList := ⟨_, rfl⟩
        have HB2 : Hid (behL p m ⟨op, a, b, n⟩ s.toList = outL ⟨op, a, b, n⟩ t) := by
          show _ = _
          rw [HB.out, ht]
          unfold tailL
          rw [if_neg (by rw [← HLEN.out, ← size_list]; exact c1), if_neg (by simpa using c2)]
        have hcat : s.extract 0 (s.size - pv.size) ++ qv = bs t := by
          apply bs_eq
          rw [list_append, list_extract, ht, HLEN.out, size_list pv]
          rfl
        have HCAT := Lib.hid hcat
        have HTS := Lib.hid (bs_size t)
        have HTL := Lib.hid (bs_list t)
        clear c2 ht hcat HB
        generalize bs t = tv at HCAT HTS HTL
        go_upto_region 19 with (refine HSF.out.mono ?_; rintro e w' ⟨rfl, hw⟩; rw [hw]; clear hw)
        go_cut [15] (fun v wx => v = .string tv ∧ w1 = wx)
        case first =>
          go_wp2_with fail
          go_meet
          exact ⟨by rw [← HCAT.out], rfl⟩
        case rest =>
          obtain ⟨rfl, rfl⟩ := hcut
          by_cases c3 : 12 < t.length
          · have d3 : decide ((12 : Int) < (tv.size : Int)) = true := decide_eq_true (by rw [HTS.out]; omega)
            have HR : Hid (behL p m ⟨op, a, b, n⟩ s.toList = .error 108) := by show _ = _; rw [HB2.out]; unfold outL; rw [if_pos (.inl c3)]
            go_wp2_with fail
            go_quiet (fail)
            go_wp2_with fail
            go_ret2
            exact ⟨ret_step HR.out (stepV_err E 7).symm, HU1.out.drewN _⟩
          · have d3 : decide ((12 : Int) < (tv.size : Int)) = false := decide_eq_false (by rw [HTS.out]; omega)
            by_cases c4 : op = 33
            · by_cases c5 : t = []
              · have d4 : tv.toList.isEmpty = true := by rw [HTL.out, c5]; rfl
                have HR : Hid (behL p m ⟨op, a, b, n⟩ s.toList = .ok t) := by show _ = _; rw [HB2.out]; unfold outL; rw [if_neg (by simp [c5])]
                have HTV : Hid (tv = bs t) := by show _ = _; rw [← HTL.out, bs_of]
                clear c5
                subst c4
                go_wp2_with fail
                go_ret2
                exact ⟨ret_step HR.out (by rw [HTV.out]; rfl), HU1.out⟩
              · have d4 : tv.toList.isEmpty = false := by rw [HTL.out]; cases t with | nil => exact absurd rfl c5 | cons _ _ => rfl
                have HR : Hid (behL p m ⟨op, a, b, n⟩ s.toList = .error 108) := by show _ = _; rw [HB2.out]; unfold outL; rw [if_pos (.inr ⟨c4, c5⟩)]
                clear c5
                subst c4
                go_wp2_with fail
                go_quiet (fail)
                go_wp2_with fail
                go_ret2
                exact ⟨ret_step HR.out (stepV_err E 7).symm, HU1.out.drewN _⟩
            · have d4 : (op == 33) = false := by rw [beq_eq_false_iff_ne]; exact c4
              have HR : Hid (behL p m ⟨op, a, b, n⟩ s.toList = .ok t) := by show _ = _; rw [HB2.out]; unfold outL; rw [if_neg (by simp [c4, c3])]
              have HTV : Hid (tv = bs t) := by show _ = _; rw [← HTL.out, bs_of]
              clear c4
              go_wp2_with fail
              go_ret2
              exact ⟨ret_step HR.out (by rw [HTV.out]; rfl), HU1.out⟩
      · rw [decide_eq_false c2] at HSF
        have HR : Hid (behL p m ⟨op, a, b, n⟩ s.toList = .error 102) := by
          show _ = _
          rw [HB.out]
          unfold tailL
          rw [if_neg (by rw [← HLEN.out, ← size_list]; exact c1), if_pos c2]
        clear c2
        go_wp2_with fail
        refine HSF.out.mono ?_
        rintro e w' ⟨rfl, hw⟩
        rw [hw]
        clear hw
        go_wp2_with fail
        go_quiet (fail)
        go_wp2_with fail
        go_ret2
        exact ⟨ret_step HR.out (stepV_err E 1).symm, HU1.out.drewN _⟩
end Go.Proofs.YtpmfbhoochogoaaGreatDoor
