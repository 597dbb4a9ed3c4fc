/- HeapPlays: the objects are as they were noted. -/
import Derived.Test.YtbcoejmiihgfoaaDoorHpI
/-! HeapPlays: the objects are as they were noted. -/
namespace Go.Proofs.YtbcoejmiihgfoaaDoor
open Go.RowKit

set_option maxRecDepth 1000000 in
set_option maxHeartbeats 16000000 in
theorem hblk3 {w0 wx : World} {B ub pb nl lc i : Nat} {la : Option Addr} {L : HL} {hv hmv : Value} {cs : List ByteArray} {lim nur half ask at_ : Int} {S : Hp} {ov rv yv tv : Value} {ps : List OP} {rs : List Int} {ys : List Bool} {ts : List Int} {u0 u1 : Int} {s24 : Value} {f : Nat → Value} {Q : Exit → Act → World → Prop}
  (hM : HpW w0 wx B ub L hv hmv S ov rv yv tv ps rs ys ts u0 u1) (hT : HpT S ps rs ys ts u0 u1 nur half cs i) (hrl : rs.length ≤ 60) (h42 : f 42 = .int .i64 0)
  (hQ : ∀ a' w', (Upd [] wx w' ∧ ∃ f, a' = hpF lim nur la nl lc ask at_ pb L.hb ub half ov rv yv tv s24 f) → Q .normal a' w') :
  (hpB 3).wp Tryd.prog Q (hpF lim nur la nl lc ask at_ pb L.hb ub half ov rv yv tv s24 f) wx := by
 have HQ := Lib.hid hQ
 have HM := Lib.hid hM
 have HT := Lib.hid hT
 obtain ⟨pr, rc, rfl⟩ := own_shape hM.refs
 clear hQ hM hT
 unfold hpF
 rw [h42]
 conv => arg 2; whnf
 clear h42
 go_wp2_with fail
 refine wp_loop (fun a w => ∃ k : Nat, k ≤ rs.length ∧ Upd [] wx w ∧ ∃ f, a = hpF lim nur la nl lc ask at_ pb L.hb ub half ov (.slice pr rs.length rc) yv tv s24 f ∧ f 42 = .int .i64 (k : Int)) (fun a' _ => rs.length - (intOf (a'.tmps.getD 42 undef)).toNat) ?_ ?_
 ·exact ⟨0, by omega, Upd.refl _ _, hpF_eqP _ (by kernel_rfl) rfl⟩
 ·rintro a w ⟨k, hk, hu, f, rfl, h42⟩
  have HU := Lib.hid hu
  have HMw := Lib.hid (HM.out.same hu)
  clear hu
  by_cases hlt : k < rs.length
  ·obtain ⟨g, oc, gr, rc', gy, yc, rfl, e, rfl, hrows⟩ := HMw.out.rows HT.out (by omega)
   injection e with e1 _ e3
   subst e1 e3
   obtain ⟨r0, _, _, vb, n, hn, o1, _⟩ := hrows k hlt
   obtain ⟨hi1, hi2, hi3⟩ := HT.out.isr hlt
   have hnb : n ≤ 1048576 := by have := HT.out.k.ok.le hi1; omega
   have HI := Lib.hid (is_any L hv hmv S (rs.getD k 0) w HMw.out.hp (by omega))
   rw [if_pos hi1, if_pos hi1, hi1, hn] at HI
   have hhv : S.hasV (rs.getD k 0) (n : Int) = false := by
    unfold Hp.hasV
    rw [hn, decide_eq_false (by omega), Bool.and_false]
   have HGA : Hid (∀ w1 : World, Upd [] w w1 → Calls Tryd.prog 20 #[.pointer (some ⟨L.hb, 0, none⟩), .int .i64 (rs.getD k 0), .int .i64 (n : Int)] w1 fun e w' => e = .returned (.tuple #[.int .i64 (S.getV (rs.getD k 0) n), .bool false]) ∧ w1 = w') := fun w1 hu => by
    have h := get_any L hv hmv S (rs.getD k 0) n w1 (HMw.out.hp.upd0 hu) (by omega)
    rw [hhv] at h
    exact h
   have HN := Lib.hid hn
   have hk1 : (k : Int) < (rs.length : Int) := by omega
   have hk0 : (0 : Int) ≤ (k : Int) := by omega
   clear hhv hn hrows o1 hi1 hi2 hi3
   obtain ⟨r, hrr⟩ : ∃ r, rs.getD k 0 = r := ⟨_, rfl⟩
   rw [hrr] at r0 HI HGA
   have HRR := Lib.hid hrr
   have R0 := Lib.hid r0
   unfold hpF
   rw [h42]
   clear h42 hrr
   go_wp2_with fail
   refine HI.out.mono ?_
   rintro e w2 ⟨rfl, rfl⟩
   clear HI r0
   go_upto_region 75 with fail
   rename_i K1 hK1
   have HK1 := Lib.hid hK1
   clear hK1
   refine wp_cut (fun a' w' => Upd [] w w' ∧ ∃ f, a' = hpF lim nur la nl lc ask at_ pb L.hb ub half (.slice (some ⟨g, 0, none⟩) rs.length oc) (.slice (some ⟨gr, 0, none⟩) rs.length rc) (.slice (some ⟨gy, 0, none⟩) rs.length yc) tv s24 f ∧ f 42 = .int .i64 (k : Int) ∧ f 44 = .int .i64 (n : Int) ∧ f 458 = .bool false) ?_ ?_
   rotate_left 1
   ·intro J2 K2 hJ2 hK2
    refine wp_hpFP (lim := lim) (nur := nur) (la := la) (nl := nl) (lc := lc) (ask := ask) (at_ := at_) (pb := pb) (hb := L.hb) (ub := ub) (half := half) (s19 := .slice (some ⟨g, 0, none⟩) rs.length oc) (s20 := .slice (some ⟨gr, 0, none⟩) rs.length rc) (s21 := .slice (some ⟨gy, 0, none⟩) rs.length yc) (s22 := tv) (s24 := s24) (fun f => f 42 = .int .i64 (k : Int) ∧ f 43 = .int .i64 (S.cls r) ∧ f 44 = .int .i64 (n : Int) ∧ f 45 = .bool true) (by kernel_rfl) ⟨rfl, rfl, rfl, rfl⟩ (fun f hf => ?_)
    exact hreg75 HMw.out HT.out hlt hrl HN.out hf.1 (by rw [HRR.out]; exact hf.2.1) hf.2.2.1 hf.2.2.2 hJ2 hK2
   rintro a w3 ⟨hu3, f, rfl, h42, h44, h458⟩
   refine HK1.out _ _ ?_
   clear HK1
   have HU3 := Lib.hid hu3
   have HM3 := Lib.hid (HMw.out.same hu3)
   clear hu3
   unfold hpF
   rw [h42, h44, h458]
   clear h42 h44 h458 K1
   go_upto_block 5 with fail
   rename_i K1 hK1
   have HK1 := Lib.hid hK1
   clear hK1
   refine wp_hpFP (lim := lim) (nur := nur) (la := la) (nl := nl) (lc := lc) (ask := ask) (at_ := at_) (pb := pb) (hb := L.hb) (ub := ub) (half := half) (s19 := .slice (some ⟨g, 0, none⟩) rs.length oc) (s20 := .slice (some ⟨gr, 0, none⟩) rs.length rc) (s21 := .slice (some ⟨gy, 0, none⟩) rs.length yc) (s22 := tv) (s24 := s24) (fun f => f 42 = .int .i64 (k : Int) ∧ f 44 = .int .i64 (n : Int) ∧ f 46 = .int .i64 0) (by kernel_rfl) ⟨rfl, rfl, rfl⟩ (fun f hf => ?_)
   refine hblk5 HM3.out HT.out hlt hrl HN.out hf.1 hf.2.1 hf.2.2 (fun a' w4 h => ?_)
   obtain ⟨hu4, f, rfl, h42, h44⟩ := h
   refine HK1.out _ _ ?_
   clear HK1
   have HU4 := Lib.hid (HU3.out.trans hu4)
   have HA := Lib.hid (HGA.out w4 HU4.out)
   have r0 := HU4.out.cell R0.out (by simp)
   clear hu4 HGA hf
   unfold hpF
   rw [h42, h44]
   clear h42 h44 K1
   generalize S.getV r n = vv at HA
   as_aux_lemma =>
    go_wp2_with fail
    refine HA.out.mono ?_
    rintro e w5 ⟨rfl, rfl⟩
    go_wp2_with fail
    refine ⟨⟨k + 1, hlt, HU.out.trans HU4.out, hpF_eqP _ (by kernel_rfl) rfl⟩, ?_⟩
    show rs.length - (k + 1) < rs.length - k
    omega
  ·obtain rfl : k = rs.length := by omega
   unfold hpF
   rw [h42]
   clear h42
   as_aux_lemma =>
    go_wp2_with fail
    exact HQ.out _ _ ⟨HU.out, hpF_eq (by kernel_rfl)⟩
end Go.Proofs.YtbcoejmiihgfoaaDoor
