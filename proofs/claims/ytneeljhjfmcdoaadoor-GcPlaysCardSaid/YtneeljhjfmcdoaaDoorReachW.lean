/- reach: how many words can be reached. Marked: the marked objects. -/
import Derived.Test.YtneeljhjfmcdoaaDoorSettleW
import Derived.Test.YtneeljhjfmcdoaaDoorObjs
namespace Go.Proofs.YtneeljhjfmcdoaaDoor
open Go.RowKit

theorem wordsO_take (l : List (Int × List Int)) (i : Nat) (h : i < l.length) : wordsO (l.take (i + 1)) = wordsO (l.take i) + (2 + ((l.getD i (0, [])).2.length : Int)) := by
  rw [List.take_succ_eq_append_getElem h, wordsO_app]
  have e : l.getD i (0, []) = l[i] := by rw [List.getD_eq_getElem?_getD, List.getElem?_eq_getElem h]; rfl
  rw [e]
  simp only [wordsO]
  omega
theorem wordsO_nonneg : ∀ l : List (Int × List Int), 0 ≤ wordsO l
  | [] => Int.le_refl _
  | o :: t => by have := wordsO_nonneg t; simp only [wordsO]; omega

theorem wordsO_le (l : List (Int × List Int)) (i : Nat) : wordsO (l.take i) ≤ wordsO l := by
  have h : wordsO l = wordsO (l.take i) + wordsO (l.drop i) := by rw [← wordsO_app, List.take_append_drop]
  have := wordsO_nonneg (l.drop i)
  omega
theorem sumW_bd (S : Hp) : ∀ l : List Int, (∀ a ∈ l, S.num a ≤ 1048576) → sumW S l ≤ (l.length : Int) * 1048578
  | [], _ => by simp [sumW]
  | a :: t, h => by
    have h1 := h a (by simp)
    have ih := sumW_bd S t (fun b hb => h b (by simp [hb]))
    simp only [sumW, Hp.wd, List.length_cons]
    omega
theorem reach_bd {S : Hp} (hS : S.Ok) (rs : List Int) : 0 ≤ sumW S (S.reach rs) ∧ sumW S (S.reach rs) ≤ 68719607808 := by
  have h1 := sumW_bd S (S.reach rs) (reach_all (P := fun a => S.num a ≤ 1048576) (fun r _ hi => (hS.le hi).2.2.2.1) (fun a _ j _ _ hi => (hS.le hi).2.2.2.1))
  have h2 := (reach_inN hS rs).le
  have h3 := hS.len
  exact ⟨sum_pos _ _, by omega⟩

set_option maxRecDepth 100000 in
set_option maxHeartbeats 4000000 in
theorem reach_w (L : HL) (cv mv : Value) (S : Hp) (p : Option Addr) (cap rb : Nat) (rs : List Int) (w : World) (h : HpAt w L cv mv S) (hlow : ∀ i ∈ L.all, i < w.heap.size) (hrng : S.Rng) (hn : rs.length ≤ 100000)
    (hp : rs = [] ∨ p = some ⟨rb, 0, none⟩) (hr : ∀ i, i < rs.length → w.cell? ⟨rb, i, none⟩ = some (.int .i64 (rs.getD i 0))) (hrr : ∀ r ∈ rs, -9223372036854775808 ≤ r ∧ r ≤ 9223372036854775807) :
    Calls Tryd.prog 74 #[.pointer (some ⟨L.hb, 0, none⟩), .slice p rs.length cap] w fun e w' => e = .returned (.int .i64 (sumW S (S.reach rs))) ∧ Upd [] w w' := by
  have HSH := Lib.hid (shape_any L cv mv S p cap rb rs w h hlow hrng hn hp hr hrr)
  have hok := h.ok
  clear h hlow hrng hp hr hrr
  go_enter Tryd.func74, Tryd.ntmps74
  go_wp2_with fail
  refine HSH.out.mono ?_
  rintro e w1 ⟨uv, av, ps, ov, od, rfl, hout, hps, hu⟩
  have hov := hout.objsV hps
  have HWR := Lib.hid (words_reach hok rs)
  have hol : (S.shape rs).1.length ≤ 65536 := by
    rw [reach_len hok rs]
    have h2 := (reach_inN hok rs).le
    have h3 := hok.len
    omega
  generalize (S.shape rs).1 = os at hov HWR hol
  have HU := Lib.hid hu
  have hbd := (reach_bd hok rs).2
  rw [← HWR.out] at hbd
  obtain ⟨up, ucap, rfl, hcells⟩ := hov
  have HC := Lib.hid hcells
  have HBD : Hid (∀ i, wordsO (os.take i) ≤ 68719607808) := fun i => Int.le_trans (wordsO_le os i) hbd
  clear hout hps hu HSH hcells hbd
  go_wp2_with fail
  go_loopw [7, 18] (fun nv iv wr => ∃ i : Nat, i ≤ os.length ∧ iv = .int .i64 i ∧ nv = .int .i64 (wordsO (os.take i)) ∧ Hid (Upd [] w1 wr)) (fun _ iv _ => os.length - (intOf iv).toNat)
  case atStart => exact ⟨0, by omega, rfl, rfl, Upd.refl _ _⟩
  case round =>
    obtain ⟨i, hi, rfl, rfl, HV⟩ := hrel
    obtain ⟨wo, rfl⟩ : ∃ wo : World, wo = wr := ⟨_, rfl⟩
    by_cases hlt : i < os.length
    · obtain ⟨ub, v, b, rfl, e1, e2, hiv⟩ := HC.out i hlt
      have e1 := HV.out.cell e1 (by simp)
      have e2 := HV.out.cell e2 (by simp)
      obtain ⟨vp, vc, hv⟩ := hiv.form
      have HT := Lib.hid (wordsO_take os i hlt)
      have hb1 := HBD.out (i + 1)
      rw [HT.out] at hb1
      have hb0 := wordsO_nonneg (os.take i)
      generalize os.getD i (0, []) = o at e1 e2 hv HT hb1 hiv
      subst hv
      rw [show 2 * i = i * 2 by omega] at e1 e2
      clear hiv
      go_wp2_with fail
      go_roundw
      case rel => exact ⟨i + 1, by omega, by go_num, by rw [HT.out], HV.out.alloc _⟩
      case measure => simp [intOf]; omega
    · obtain rfl : i = os.length := by omega
      rw [List.take_length, HWR.out]
      go_wp2_with fail
      go_ret
      exact ⟨rfl, HU.out.trans HV.out⟩
end Go.Proofs.YtneeljhjfmcdoaaDoor
