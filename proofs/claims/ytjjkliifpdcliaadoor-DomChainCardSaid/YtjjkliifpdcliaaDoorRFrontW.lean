/- overdriveref5.Frontier: the document's. -/
import Derived.Test.YtjjkliifpdcliaaDoorAbove
import Derived.Test.YtjjkliifpdcliaaDoorRClean
namespace Go.Proofs.YtjjkliifpdcliaaDoor
open Go.RowKit

/-- Where i stops standing above, of these places. -/
noncomputable def stops (g : List (List Int)) (i : Nat) (l : List Nat) : List Nat := l.filter fun y => !abv g y i || decide (y = i)
theorem stops_snoc (g : List (List Int)) (i : Nat) (l : List Nat) (y : Nat) : stops g i (l ++ [y]) = stops g i l ++ if (!abv g y i || decide (y = i)) = true then [y] else [] := by
  unfold stops
  rw [List.filter_append]
  congr 1
  by_cases h : (!abv g y i || decide (y = i)) = true
  · rw [if_pos h]; simp [h]
  · rw [if_neg h]; simp [h]
theorem stops_len (g : List (List Int)) (i : Nat) (l : List Nat) : (stops g i l).length ≤ l.length := List.length_filter_le _ _
/-- Of the first m places. -/
noncomputable def frP (g : List (List Int)) (i : Nat) : Nat → List Nat
  | 0 => []
  | m + 1 => frP g i m ++ if abv g m i = true then stops g i ((cleanG g).getD m []) else []
theorem frP_len (g : List (List Int)) (i m : Nat) (hm : m ≤ g.length) : (frP g i m).length ≤ m * g.length := by
  induction m with
  | zero => simp [frP]
  | succ m ih =>
    have h1 := ih (by omega)
    have h2 : ((cleanG g).getD m []).length ≤ g.length := by
      rw [cleanG_get g m (by omega)]; exact (crow_len _ _).1
    have h3 := stops_len g i ((cleanG g).getD m [])
    show (frP g i m ++ _).length ≤ _
    rw [List.length_append, Nat.succ_mul]
    split
    · omega
    · simp only [List.length_nil]; omega
theorem frP_mem (g : List (List Int)) (i m y : Nat) : y ∈ frP g i m ↔ ∃ x, x < m ∧ abv g x i = true ∧ y ∈ (cleanG g).getD x [] ∧ (!abv g y i || decide (y = i)) = true := by
  induction m with
  | zero => simp [frP]
  | succ m ih =>
    show y ∈ frP g i m ++ _ ↔ _
    rw [List.mem_append, ih]
    constructor
    · rintro (⟨x, h1, h2⟩ | h)
      · exact ⟨x, by omega, h2⟩
      · split at h
        · rename_i hab
          unfold stops at h
          rw [List.mem_filter] at h
          exact ⟨m, by omega, hab, h.1, h.2⟩
        · simp at h
    · rintro ⟨x, h1, h2, h3, h4⟩
      by_cases e : x = m
      · subst e
        right
        rw [if_pos h2]
        unfold stops
        rw [List.mem_filter]
        exact ⟨h3, h4⟩
      · exact .inl ⟨x, by omega, h2, h3, h4⟩
/-- The frontier of i, rising. -/
noncomputable def frL (g : List (List Int)) (i : Int) : List Int := if 0 ≤ i ∧ i < (g.length : Int) then sortL (ints (frP g i.toNat g.length)) else []

set_option maxRecDepth 100000 in
set_option maxHeartbeats 4000000 in
theorem rfront_any (v : Value) (g : List (List Int)) (w : World) (h : RowsAt w v g) (hn : g.length ≤ 100) (hr : ∀ l ∈ g, l.length ≤ 100000) (i : Int) (hi : -9223372036854775808 ≤ i ∧ i ≤ 9223372036854775807) :
    Calls Tryd.prog 22 #[v, .int .i64 i] w fun e w' => ∃ u, e = .returned u ∧ OwnI w' w.heap.size 3 u (frL g i) ∧ Upd [] w w' := by
  obtain ⟨i0, hi0, hz0, hz1, hz2⟩ := info_parts Tryd.infoInt
  have HI := Lib.hid hi0
  have HZ0 := Lib.hid hz0
  have HZ1 := Lib.hid hz1
  have HZ2 := Lib.hid hz2
  clear hi0 hz0 hz1 hz2
  have HAB := Lib.hid (rabove_any v g w h (by omega) hr)
  have HCL : Hid (∀ W, Upd [] w W → Calls Tryd.prog 32 #[v] W fun e w' => ∃ ov vs, e = .returned ov ∧ OwnR w' W.heap.size ov vs (intsL (cleanG g)) ∧ Upd [] W w') := fun W hW => rclean_any v g W (h.upd hW) (by omega) hr
  obtain ⟨a, cap, rfl, hl, hrow⟩ := h
  clear hrow hr hl
  go_enter Tryd.func22, Tryd.ntmps22
  by_cases hi1 : i < 0
  · have d0 : decide (i < 0) = true := decide_eq_true hi1
    have HE : Hid (frL g i = []) := if_neg (fun h => by omega)
    go_wp2_with fail
    go_ret
    exact ⟨_, rfl, by rw [HE.out]; exact OwnI.nil _ _ _, Upd.refl _ _⟩
  · have d0 : decide (i < 0) = false := decide_eq_false hi1
    by_cases hi2 : (g.length : Int) ≤ i
    · have d1 : decide ((g.length : Int) ≤ i) = true := decide_eq_true hi2
      have d1' : decide (i ≥ (g.length : Int)) = true := decide_eq_true hi2
      have HE : Hid (frL g i = []) := if_neg (fun h => by omega)
      go_wp2_with fail
      go_ret
      exact ⟨_, rfl, by rw [HE.out]; exact OwnI.nil _ _ _, Upd.refl _ _⟩
    · have d1 : decide ((g.length : Int) ≤ i) = false := decide_eq_false hi2
      have d1' : decide (i ≥ (g.length : Int)) = false := decide_eq_false hi2
      obtain ⟨q, rfl⟩ := Int.eq_ofNat_of_zero_le (show 0 ≤ i by omega)
      have hq : q < g.length := by omega
      have HE : Hid (frL g (q : Int) = sortL (ints (frP g q g.length))) := by
        show _ = _
        unfold frL
        rw [if_pos ⟨by omega, by omega⟩, Int.toNat_natCast]
      go_wp2_with fail
      refine HAB.out.mono ?_
      rintro e w1 ⟨gb, wb, rfl, hT, hu1⟩
      have HT1 := Lib.hid hT
      have HU1 := Lib.hid hu1
      have HC2 := Lib.hid (HCL.out w1 hu1)
      have hs1 := hu1.size
      clear hT hu1
      go_wp2_with fail
      refine HC2.out.mono ?_
      rintro e w2 ⟨cv, cvs, rfl, hC, hu2⟩
      obtain ⟨cp, cc, rfl, hcm⟩ := hC.form
      have hcl : (intsL (cleanG g)).length = g.length := by rw [intsL_len, cleanG_len]
      rw [hcl] at hC hcm ⊢
      have HC := Lib.hid hC
      have HCLN := Lib.hid hcl
      have hs2 := hu2.size
      have HTV : Hid (∀ wr, Upd [] w2 wr → TabAt wr w.heap.size gb wb g.length (fun b => rowM g g.length 0 b)) := fun wr hU => HT1.out.upd (hu2.trans hU) (by simp)
      have HU2 := Lib.hid (HU1.out.trans hu2)
      clear hC hcl hu2 HC2 HCL HAB
      go_wp2_with fail
      go_loopw [7, 8] (fun ov xv wr => ∃ x : Nat, x ≤ g.length ∧ xv = .int .i64 (x : Int) ∧ Hid (OwnI wr w2.heap.size 3 ov (ints (frP g q x))) ∧ Hid (Upd [] w2 wr)) (fun _ xv _ => g.length - (intOf xv).toNat)
      case atStart => exact ⟨0, by omega, rfl, OwnI.nil _ _ _, Upd.refl _ _⟩
      case round =>
        obtain ⟨x, hx, rfl, HO, HU⟩ := hrel
        obtain ⟨wo, rfl⟩ : ∃ wo : World, wo = wr := ⟨_, rfl⟩
        obtain ⟨op, oc, rfl⟩ := HO.out.shape
        by_cases hxn : x < g.length
        · have hTq := HTV.out wo HU.out
          have hhx := hTq.head x hxn
          have hvx := hTq.val x q hxn hq
          have HFR : Hid (frP g q (x + 1) = frP g q x ++ if abv g x q = true then stops g q ((cleanG g).getD x []) else []) := (rfl : _ = _)
          clear hTq
          cases hab : abv g x q with
          | false =>
            rw [hab] at hvx HFR
            have HF2 : Hid (frP g q (x + 1) = frP g q x) := by
              show _ = _
              rw [HFR.out]; simp
            clear hab HFR
            go_wp2_with fail
            go_roundw
            case rel => exact ⟨x + 1, by omega, by go_num, by rw [HF2.out]; exact HO, HU⟩
            case measure => simp [intOf]; omega
          | true =>
            rw [hab] at hvx HFR
            have HF2 : Hid (frP g q (x + 1) = frP g q x ++ stops g q ((cleanG g).getD x [])) := by
              show _ = _
              rw [HFR.out]; simp
            have hCo := HC.out
            rw [show g.length = (intsL (cleanG g)).length from HCLN.out.symm] at hCo
            obtain ⟨cg, ecp, hcg1, hcg2, hcc⟩ := hCo.cell x (by rw [HCLN.out]; exact hxn)
            subst ecp
            have hro := hCo.own x (by rw [HCLN.out]; exact hxn)
            obtain ⟨rp, rc, hrv⟩ := hro.shape
            rw [hrv] at hcc
            rw [intsL_get, ints_len] at hcc
            have hro2 := hro
            rw [hrv, intsL_get] at hro2
            have HRO := Lib.hid hro2
            have hpb : ((cleanG g).getD x []).length ≤ g.length := by
              rw [cleanG_get g x hxn]; exact (crow_len _ _).1
            have HPN := Lib.hid (fun y (hy : y ∈ (cleanG g).getD x []) => (cleanG_clean g x (by rw [cleanG_len]; exact hxn)).2 y hy)
            rw [cleanG_len] at HPN
            have hfl := frP_len g q x (by omega)
            have hfm : x * g.length ≤ 10000 := Nat.le_trans (Nat.mul_le_mul (show x ≤ 100 by omega) hn) (by omega)
            clear hCo hro hro2 hrv hab HFR hcg1 hcg2
            generalize (cleanG g).getD x [] = row at hcc HRO hpb HPN HF2
            have HCC := Lib.hid hcc
            have hcc := HU.out.cell hcc (by simp)
            rw [ints_len] at HRO
            generalize hfr : frP g q x = fr at HO HF2 hfl ⊢
            clear hfr
            go_wp2_with fail
            go_loopw [7, 9] (fun ov kv wr => ∃ k : Nat, k ≤ row.length ∧ kv = .int .i64 (k : Int) ∧ Hid (OwnI wr w2.heap.size 3 ov (ints (fr ++ stops g q (row.take k)))) ∧ Hid (Upd [] w2 wr)) (fun _ kv _ => row.length - (intOf kv).toNat)
            case atStart => exact ⟨0, by omega, rfl, by show OwnI _ _ _ _ _; rw [List.take_zero, show fr ++ stops g q [] = fr by simp [stops]]; exact HO.out, HU.out⟩
            case round =>
              have hU0 := HU
              clear HO hvx hhx hcc
              obtain ⟨k, hk, rfl, HO, HU⟩ := hrel
              obtain ⟨wq, rfl⟩ : ∃ wq : World, wq = wr := ⟨_, rfl⟩
              have hcc := HU.out.cell HCC.out (by simp)
              by_cases hkl : k < row.length
              · obtain ⟨pg, pc, e, _, _, hpc⟩ := (HRO.out.upd HU.out (by simp)).nth k (by rw [ints_len]; exact hkl)
                rw [ints_len] at e
                injection e with e e2 e3
                subst e
                subst e3
                rw [ints_get row k hkl] at hpc
                have hyn : row.getD k 0 < g.length := HPN.out _ (by
                  rw [List.getD_eq_getElem?_getD, List.getElem?_eq_getElem hkl]
                  exact List.getElem_mem hkl)
                have HTK : Hid (row.take (k + 1) = row.take k ++ [row.getD k 0]) := by
                  show _ = _
                  rw [List.take_succ_eq_append_getElem hkl, List.getD_eq_getElem?_getD, List.getElem?_eq_getElem hkl]; rfl
                have HST := Lib.hid (stops_snoc g q (row.take k) (row.getD k 0))
                rw [← HTK.out] at HST
                generalize row.getD k 0 = y at hpc hyn HTK HST
                have hTq := HTV.out wq HU.out
                have hhy := hTq.head y hyn
                have hvy := hTq.val y q hyn hq
                clear hTq
                cases hab : abv g y q with
                | false =>
                  rw [hab] at hvy
                  have HF3 : Hid (fr ++ stops g q (row.take (k + 1)) = (fr ++ stops g q (row.take k)) ++ [y]) := by
                    show _ = _
                    rw [HST.out, hab]; simp
                  clear hab HST
                  have hOO := HO.out
                  have hil : (ints (fr ++ stops g q (row.take k))).length ≤ 20000 := by
                    rw [ints_len, List.length_append]
                    have := stops_len g q (row.take k)
                    rw [List.length_take] at this
                    omega
                  have hwq := HU.out.size
                  have HSN := Lib.hid (ints_snoc (fr ++ stops g q (row.take k)) y)
                  rw [← HF3.out] at HSN
                  have HF4 : Hid (fr ++ stops g q (row.take (k + 1)) = fr ++ stops g q (row.take (k + 1))) := (rfl : _ = _)
                  obtain ⟨tp, tc2, rfl⟩ := HO.out.shape
                  generalize fr ++ stops g q (row.take k) = acc at HO hOO hil HSN HF3 ⊢
                  clear HF4 hOO
                  go_wp2_with (at_builtin; refine stop_here ?_)
                  refine Hid.mk ?_
                  have hcn := cell_of (heap_alloc_new wq (.cells #[.int .i64 (y : Int)] 3))
                  refine (wpList_append_own_at _ rfl _ _ 27 rfl w2.heap.size 3 i0 (.int .i64 0) 1 8 Tryd.underlying27 HI.out HZ0.out HZ1.out HZ2.out rfl (by decide) _ _ _ rfl (HO.out.alloc (.cells #[.int .i64 (y : Int)] 3)) ⟨wq.heap.size, 0, none⟩ 1 1 [.int .i64 (y : Int)] rfl rfl ?c1 ?c2 ?c3 ?c4 ?c5 ?c6)
                  case c1 =>
                    intro jj uu hjj
                    rw [Addr.add_lit, Nat.zero_add, hcn]
                    simpa using hjj
                  case c2 => simp [Value.oneCell']
                  case c3 => unfold maxLen; omega
                  case c4 => omega
                  case c5 => simp; omega
                  case c6 =>
                    intro v' w6 hown hgr _ hat
                    have hU6 := (HU.out.alloc (.cells #[.int .i64 (y : Int)] 3)).grown hgr (fun q2 hq2 => .inr (HO.out.lt q2 hq2).1)
                    have hO6 := OwnI.snoc hown
                    rw [← HSN.out] at hO6
                    have HO6 := Lib.hid hO6
                    have HU6 := Lib.hid hU6
                    obtain ⟨g', cap', rfl⟩ := ownsRow_succ hown
                    clear hown hgr hat hO6 hU6 hcn hcc hpc hhy hvy
                    go_wp2_with fail
                    go_roundw
                    case rel => exact ⟨k + 1, by omega, by go_num, HO6, HU6⟩
                    case measure => simp [intOf]; omega
                | true =>
                  rw [hab] at hvy
                  by_cases hyq : y = q
                  · have d2 : ((y : Int) == (q : Int)) = true := by rw [beq_iff_eq]; omega
                    have HF3 : Hid (fr ++ stops g q (row.take (k + 1)) = (fr ++ stops g q (row.take k)) ++ [y]) := by
                      show _ = _
                      rw [HST.out, hab]; simp [hyq]
                    clear hab HST hyq
                    have hOO := HO.out
                    have hil : (ints (fr ++ stops g q (row.take k))).length ≤ 20000 := by
                      rw [ints_len, List.length_append]
                      have := stops_len g q (row.take k)
                      rw [List.length_take] at this
                      omega
                    have hwq := HU.out.size
                    have HSN := Lib.hid (ints_snoc (fr ++ stops g q (row.take k)) y)
                    rw [← HF3.out] at HSN
                    have HF4 : Hid (fr ++ stops g q (row.take (k + 1)) = fr ++ stops g q (row.take (k + 1))) := (rfl : _ = _)
                    obtain ⟨tp, tc2, rfl⟩ := HO.out.shape
                    generalize fr ++ stops g q (row.take k) = acc at HO hOO hil HSN HF3 ⊢
                    clear HF4 hOO
                    go_wp2_with (at_builtin; refine stop_here ?_)
                    refine Hid.mk ?_
                    have hcn := cell_of (heap_alloc_new wq (.cells #[.int .i64 (y : Int)] 3))
                    refine (wpList_append_own_at _ rfl _ _ 27 rfl w2.heap.size 3 i0 (.int .i64 0) 1 8 Tryd.underlying27 HI.out HZ0.out HZ1.out HZ2.out rfl (by decide) _ _ _ rfl (HO.out.alloc (.cells #[.int .i64 (y : Int)] 3)) ⟨wq.heap.size, 0, none⟩ 1 1 [.int .i64 (y : Int)] rfl rfl ?c1 ?c2 ?c3 ?c4 ?c5 ?c6)
                    case c1 =>
                      intro jj uu hjj
                      rw [Addr.add_lit, Nat.zero_add, hcn]
                      simpa using hjj
                    case c2 => simp [Value.oneCell']
                    case c3 => unfold maxLen; omega
                    case c4 => omega
                    case c5 => simp; omega
                    case c6 =>
                      intro v' w6 hown hgr _ hat
                      have hU6 := (HU.out.alloc (.cells #[.int .i64 (y : Int)] 3)).grown hgr (fun q2 hq2 => .inr (HO.out.lt q2 hq2).1)
                      have hO6 := OwnI.snoc hown
                      rw [← HSN.out] at hO6
                      have HO6 := Lib.hid hO6
                      have HU6 := Lib.hid hU6
                      obtain ⟨g', cap', rfl⟩ := ownsRow_succ hown
                      clear hown hgr hat hO6 hU6 hcn hcc hpc hhy hvy
                      go_wp2_with fail
                      go_roundw
                      case rel => exact ⟨k + 1, by omega, by go_num, HO6, HU6⟩
                      case measure => simp [intOf]; omega
                  · have d2 : ((y : Int) == (q : Int)) = false := by rw [beq_eq_false_iff_ne]; omega
                    have HF3 : Hid (fr ++ stops g q (row.take (k + 1)) = fr ++ stops g q (row.take k)) := by
                      show _ = _
                      rw [HST.out, hab]; simp [hyq]
                    clear hab HST hyq
                    go_wp2_with fail
                    go_roundw
                    case rel => exact ⟨k + 1, by omega, by go_num, by rw [HF3.out]; exact HO, HU⟩
                    case measure => simp [intOf]; omega
              · obtain rfl : k = row.length := by omega
                rw [List.take_length] at HO
                have HF3 := HF2.out
                obtain ⟨tp, tc2, rfl⟩ := HO.out.shape
                have HON : Hid (OwnI wq w2.heap.size 3 (.slice tp (ints (fr ++ stops g q row)).length tc2) (ints (frP g q (x + 1)))) := by
                  show OwnI _ _ _ _ _
                  rw [HF3]; exact HO.out
                clear HF3
                go_wp2_with fail
                go_roundw
                case rel => exact ⟨x + 1, by omega, by go_num, HON, HU⟩
                case measure => simp [intOf]; omega
        · obtain rfl : x = g.length := by omega
          obtain ⟨bb, hib, _⟩ := HO.out.ints
          have hfl := frP_len g q g.length (Nat.le_refl _)
          have hfm : g.length * g.length ≤ 10000 := Nat.le_trans (Nat.mul_le_mul hn hn) (by omega)
          have HSRT := Lib.hid (sorted_any _ bb _ wo hib (by rw [ints_len]; omega))
          clear hib hfl hfm
          go_wp2_with fail
          refine HSRT.out.mono ?_
          rintro e w' ⟨u, rfl, hu, hU2⟩
          go_wp2_with fail
          go_ret
          refine ⟨_, rfl, ?_, (HU2.out.trans HU.out).trans hU2⟩
          rw [HE.out]
          exact row_base hu (by have := HU.out.size; omega)

end Go.Proofs.YtjjkliifpdcliaaDoor
