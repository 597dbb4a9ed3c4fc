/- HeapPlays: an old object with a young one is marked. HeapPlays: each value of an object against all. -/
import Derived.Test.YtbcoejmiihgfoaaDoorHpK
/-! HeapPlays: an old object with a young one is marked. -/
/-! HeapPlays: an old object with a young one is marked. -/
namespace Go.Proofs.YtbcoejmiihgfoaaDoor
open Go.RowKit

set_option maxRecDepth 1000000 in
set_option maxHeartbeats 16000000 in
theorem hblk13 {w0 wx : World} {B ub pb nl lc i : Nat} {la : Option Addr} {L : HL} {hv hmv : Value} {cs : List ByteArray} {lim nur half ask at_ : Int} {S : Hp} {ov rv yv tv : Value} {ps : List OP} {rs : List Int} {ys : List Bool} {ts : List Int} {u0 u1 : Int} {s24 : Value} {k j n : Nat} {P : Prop} {b0 : Bool} {v51 : Value} {f : Nat → Value} {Q : Exit → Act → World → Prop}
  (hM : HpW w0 wx B ub L hv hmv S ov rv yv tv ps rs ys ts u0 u1) (hT : HpT S ps rs ys ts u0 u1 nur half cs i) (hrl : rs.length ≤ 60) (hk : k < rs.length) (hn : S.num (rs.getD k 0) = (n : Int)) (hj : j < n) (hb0 : b0 = true → P) (hcond : ∀ q, q < rs.length → S.refB (rs.getD k 0) j = true → S.inY (rs.getD q 0) = true → S.get (rs.getD k 0) j = rs.getD q 0 → P)
  (h51 : f 51 = v51) (h53 : f 53 = .int .i64 (k : Int)) (h54 : f 54 = .bool b0) (h55 : f 55 = .int .i64 (j : Int)) (h56 : f 56 = .int .i64 0)
  (hQ : ∀ a' w', (Upd [] wx w' ∧ ∃ b, (b = true → P) ∧ ∃ f, a' = hpF lim nur la nl lc ask at_ pb L.hb ub half ov rv yv tv s24 f ∧ f 51 = v51 ∧ f 53 = .int .i64 (k : Int) ∧ f 54 = .bool b ∧ f 55 = .int .i64 (j : Int)) → Q .normal a' w') :
  (hpB 13).wp Tryd.prog Q (hpF lim nur la nl lc ask at_ pb L.hb ub half ov rv yv tv s24 f) wx := by
 have HQ := Lib.hid hQ
 have HM := Lib.hid hM
 have HT := Lib.hid hT
 have HCO := Lib.hid hcond
 have HB0 := Lib.hid hb0
 have HN := Lib.hid hn
 obtain ⟨pr, rc, rfl⟩ := own_shape hM.refs
 clear hQ hM hT hcond hb0 hn
 unfold hpF
 rw [h51, h53, h54, h55, h56]
 conv => arg 2; whnf
 clear h51 h53 h54 h55 h56
 go_wp2_with fail
 refine wp_loop (fun a w => ∃ (q : Nat) (b : Bool), q ≤ rs.length ∧ (b = true → P) ∧ Upd [] wx w ∧ ∃ f, a = hpF lim nur la nl lc ask at_ pb L.hb ub half ov (.slice pr rs.length rc) yv tv s24 f ∧ f 51 = v51 ∧ f 53 = .int .i64 (k : Int) ∧ f 54 = .bool b ∧ f 55 = .int .i64 (j : Int) ∧ f 56 = .int .i64 (q : Int)) (fun a' _ => rs.length - (intOf (a'.tmps.getD 56 undef)).toNat) ?_ ?_
 ·exact ⟨0, b0, by omega, HB0.out, Upd.refl _ _, hpF_eqP _ (by kernel_rfl) ⟨rfl, rfl, rfl, rfl, rfl⟩⟩
 ·rintro a w ⟨q, b, hq, hb, hu, f, rfl, h51, h53, h54, h55, h56⟩
  have HU := Lib.hid hu
  have HBB := Lib.hid hb
  clear hu hb
  unfold hpF
  rw [h51, h53, h54, h55, h56]
  clear h51 h53 h54 h55 h56
  by_cases hlt : q < rs.length
  ·have hq1 : (q : Int) < (rs.length : Int) := by omega
   go_upto_region 102 with fail
   refine wp_hpFP (lim := lim) (nur := nur) (la := la) (nl := nl) (lc := lc) (ask := ask) (at_ := at_) (pb := pb) (hb := L.hb) (ub := ub) (half := half) (s19 := ov) (s20 := .slice pr rs.length rc) (s21 := yv) (s22 := tv) (s24 := s24) (fun f => f 51 = v51 ∧ f 53 = .int .i64 (k : Int) ∧ f 54 = .bool b ∧ f 55 = .int .i64 (j : Int) ∧ f 56 = .int .i64 (q : Int)) (by kernel_rfl) ⟨rfl, rfl, rfl, rfl, rfl⟩ (fun f hf => ?_)
   refine hreg102 (HM.out.same HU.out) HT.out hk hlt HN.out hj hf.1 hf.2.1 hf.2.2.1 hf.2.2.2.1 hf.2.2.2.2 (fun a w3 h => ?_)
   obtain ⟨hu3, f, rfl, h51, h53, h54, h55, h56⟩ := h
   clear hf
   obtain ⟨b2, hb2⟩ : ∃ c : Bool, (b || (S.refB (rs.getD k 0) j && S.inY (rs.getD q 0) && decide (S.get (rs.getD k 0) j = rs.getD q 0))) = c := ⟨_, rfl⟩
   rw [hb2] at h54
   have HP2 : Hid (b2 = true → P) := fun h => by
    rw [← hb2, Bool.or_eq_true, Bool.and_eq_true, Bool.and_eq_true, decide_eq_true_eq] at h
    rcases h with h | ⟨⟨h1, h2⟩, h3⟩
    ·exact HBB.out h
    ·exact HCO.out q hlt h1 h2 h3
   have HU3 := Lib.hid hu3
   clear hb2 hu3
   unfold hpF
   rw [h51, h53, h54, h55, h56]
   clear h51 h53 h54 h55 h56
   as_aux_lemma =>
    go_wp2_with fail
    refine ⟨⟨q + 1, b2, hlt, HP2.out, HU.out.trans HU3.out, hpF_eqP _ (by kernel_rfl) ⟨rfl, rfl, rfl, rfl, rfl⟩⟩, ?_⟩
    show rs.length - (q + 1) < rs.length - q
    omega
  ·obtain rfl : q = rs.length := by omega
   as_aux_lemma =>
    go_wp2_with fail
    exact HQ.out _ _ ⟨HU.out, b, HBB.out, hpF_eqP _ (by kernel_rfl) ⟨rfl, rfl, rfl, rfl⟩⟩
end Go.Proofs.YtbcoejmiihgfoaaDoor

/-! HeapPlays: each value of an object against all. -/
/-! HeapPlays: each value of an object against all. -/
namespace Go.Proofs.YtbcoejmiihgfoaaDoor
open Go.RowKit

set_option maxRecDepth 1000000 in
set_option maxHeartbeats 16000000 in
theorem hblk11 {w0 wx : World} {B ub pb nl lc i : Nat} {la : Option Addr} {L : HL} {hv hmv : Value} {cs : List ByteArray} {lim nur half ask at_ : Int} {S : Hp} {ov rv yv tv : Value} {ps : List OP} {rs : List Int} {ys : List Bool} {ts : List Int} {u0 u1 : Int} {s24 : Value} {k n : Nat} {P : Prop} {v51 : Value} {f : Nat → Value} {Q : Exit → Act → World → Prop}
  (hM : HpW w0 wx B ub L hv hmv S ov rv yv tv ps rs ys ts u0 u1) (hT : HpT S ps rs ys ts u0 u1 nur half cs i) (hrl : rs.length ≤ 60) (hk : k < rs.length) (hn : S.num (rs.getD k 0) = (n : Int)) (hcond : S.inY (rs.getD k 0) = false → ∀ j q, j < n → q < rs.length → S.refB (rs.getD k 0) (j : Nat) = true → S.inY (rs.getD q 0) = true → S.get (rs.getD k 0) (j : Nat) = rs.getD q 0 → P)
  (h51 : f 51 = v51) (h53 : f 53 = .int .i64 (k : Int)) (h54 : f 54 = .bool false) (h55 : f 55 = .int .i64 0)
  (hQ : ∀ a' w', (Upd [] wx w' ∧ ∃ b, (b = true → P) ∧ ∃ f, a' = hpF lim nur la nl lc ask at_ pb L.hb ub half ov rv yv tv s24 f ∧ f 51 = v51 ∧ f 53 = .int .i64 (k : Int) ∧ f 54 = .bool b) → Q .normal a' w') :
  (hpB 11).wp Tryd.prog Q (hpF lim nur la nl lc ask at_ pb L.hb ub half ov rv yv tv s24 f) wx := by
 have HQ := Lib.hid hQ
 have HM := Lib.hid hM
 have HT := Lib.hid hT
 have HCO := Lib.hid hcond
 have HN := Lib.hid hn
 obtain ⟨g, oc, gr, rc, gy, yc, rfl, rfl, rfl, hrows⟩ := hM.rows hT (by omega)
 have HR := Lib.hid hrows
 have hnb : n ≤ 1048576 := by have := hT.k.ok.le (hT.isr hk).1; omega
 have hk1 : (k : Int) < (rs.length : Int) := by omega
 have hk0 : (0 : Int) ≤ (k : Int) := by omega
 clear hQ hM hT hcond hn hrows
 unfold hpF
 rw [h51, h53, h54, h55]
 conv => arg 2; whnf
 clear h51 h53 h54 h55
 go_wp2_with fail
 refine wp_loop (fun a w => ∃ (j : Nat) (b : Bool), j ≤ n ∧ (b = true → P) ∧ Upd [] wx w ∧ ∃ f, a = hpF lim nur la nl lc ask at_ pb L.hb ub half (.slice (some ⟨g, 0, none⟩) rs.length oc) (.slice (some ⟨gr, 0, none⟩) rs.length rc) (.slice (some ⟨gy, 0, none⟩) rs.length yc) tv s24 f ∧ f 51 = v51 ∧ f 53 = .int .i64 (k : Int) ∧ f 54 = .bool b ∧ f 55 = .int .i64 (j : Int)) (fun a' _ => n - (intOf (a'.tmps.getD 55 undef)).toNat) ?_ ?_
 ·exact ⟨0, false, by omega, by simp, Upd.refl _ _, hpF_eqP _ (by kernel_rfl) ⟨rfl, rfl, rfl, rfl⟩⟩
 ·rintro a w ⟨j, b, hj, hb, hu, f, rfl, h51, h53, h54, h55⟩
  have HU := Lib.hid hu
  have HBB := Lib.hid hb
  obtain ⟨_, y0, _, vb, n', hn', o1, _⟩ := (HR.out.upd hu) k hk
  obtain rfl : n' = n := by have := HN.out; omega
  clear hu hb hn'
  unfold hpF
  rw [h51, h53, h54, h55]
  clear h51 h53 h54 h55
  by_cases hlt : j < n'
  ·have d0 : decide ((j : Int) < (n' : Int)) = true := decide_eq_true (by omega)
   have d1 : decide (j < n') = true := decide_eq_true hlt
   cases hy : S.inY (rs.getD k 0) with
   | true =>
    rw [hy] at y0
    clear hy
    as_aux_lemma =>
     go_wp2_with fail
     exact HQ.out _ _ ⟨HU.out, b, HBB.out, hpF_eqP _ (by kernel_rfl) ⟨rfl, rfl, rfl⟩⟩
   | false =>
    rw [hy] at y0
    have HY := Lib.hid hy
    clear hy
    go_upto_block 13 with fail
    rename_i K1 hK1
    have HK1 := Lib.hid hK1
    clear hK1 y0 o1
    refine wp_hpFP (lim := lim) (nur := nur) (la := la) (nl := nl) (lc := lc) (ask := ask) (at_ := at_) (pb := pb) (hb := L.hb) (ub := ub) (half := half) (s19 := .slice (some ⟨g, 0, none⟩) rs.length oc) (s20 := .slice (some ⟨gr, 0, none⟩) rs.length rc) (s21 := .slice (some ⟨gy, 0, none⟩) rs.length yc) (s22 := tv) (s24 := s24) (fun f => f 51 = v51 ∧ f 53 = .int .i64 (k : Int) ∧ f 54 = .bool b ∧ f 55 = .int .i64 (j : Int) ∧ f 56 = .int .i64 0) (by kernel_rfl) ⟨rfl, rfl, rfl, rfl, rfl⟩ (fun f hf => ?_)
    refine hblk13 (P := P) (HM.out.same HU.out) HT.out hrl hk HN.out hlt HBB.out (fun q hq h1 h2 h3 => HCO.out HY.out j q hlt hq h1 h2 h3) hf.1 hf.2.1 hf.2.2.1 hf.2.2.2.1 hf.2.2.2.2 (fun a' w3 h => ?_)
    obtain ⟨hu3, b2, hb2, f, rfl, h51, h53, h54, h55⟩ := h
    refine HK1.out _ _ ?_
    have HU3 := Lib.hid hu3
    have HP2 := Lib.hid hb2
    clear HK1 hu3 hb2 hf
    unfold hpF
    rw [h51, h53, h54, h55]
    clear h51 h53 h54 h55 K1
    as_aux_lemma =>
     go_wp2_with fail
     refine ⟨⟨j + 1, b2, hlt, HP2.out, HU.out.trans HU3.out, hpF_eqP _ (by kernel_rfl) ⟨rfl, rfl, rfl, rfl⟩⟩, ?_⟩
     show n' - (j + 1) < n' - j
     omega
  ·have d0 : decide ((j : Int) < (n' : Int)) = false := decide_eq_false (by omega)
   have d1 : decide (j < n') = false := decide_eq_false hlt
   as_aux_lemma =>
    go_wp2_with fail
    exact HQ.out _ _ ⟨HU.out, b, HBB.out, hpF_eqP _ (by kernel_rfl) ⟨rfl, rfl, rfl⟩⟩

theorem marks_of {S : Hp} {rs ts : List Int} (hK : HpK S rs ts) {k : Nat} (hk : k < rs.length) (hy : S.inY (rs.getD k 0) = false) {j q : Nat} (hj : (j : Int) < S.num (rs.getD k 0)) (h1 : S.refB (rs.getD k 0) (j : Nat) = true) (h2 : S.inY (rs.getD q 0) = true) (h3 : S.get (rs.getD k 0) (j : Nat) = rs.getD q 0) : rs.getD k 0 ∈ plus1 (blist S.mr) := by
 have hi := hK.isk hk
 have hb := hK.bd ((hK.is _).1 hi)
 have hm := hK.tch _ hi hy j (by omega) hj h1 (by rw [h3]; exact h2)
 have h := (mem_blist _ _).2 hm
 unfold plus1
 refine List.mem_map.2 ⟨_, h, by omega⟩
set_option maxRecDepth 1000000 in
set_option maxHeartbeats 16000000 in
theorem hblk9 {w0 wx : World} {B ub pb nl lc i : Nat} {la : Option Addr} {L : HL} {hv hmv : Value} {cs : List ByteArray} {lim nur half ask at_ : Int} {S : Hp} {ov rv yv tv : Value} {ps : List OP} {rs : List Int} {ys : List Bool} {ts : List Int} {u0 u1 : Int} {s24 : Value} {uv : Value} {Bm : Nat} {f : Nat → Value} {Q : Exit → Act → World → Prop}
  (hM : HpW w0 wx B ub L hv hmv S ov rv yv tv ps rs ys ts u0 u1) (hT : HpT S ps rs ys ts u0 u1 nur half cs i) (hrl : rs.length ≤ 60) (hu : OwnI wx Bm 3 uv (plus1 (blist S.mr))) (hml : (plus1 (blist S.mr)).length ≤ 70000) (h51 : f 51 = uv) (h53 : f 53 = .int .i64 0)
  (hQ : ∀ a' w', (Upd [] wx w' ∧ ∃ f, a' = hpF lim nur la nl lc ask at_ pb L.hb ub half ov rv yv tv s24 f) → Q .normal a' w') :
  (hpB 9).wp Tryd.prog Q (hpF lim nur la nl lc ask at_ pb L.hb ub half ov rv yv tv s24 f) wx := by
 have HQ := Lib.hid hQ
 have HM := Lib.hid hM
 have HT := Lib.hid hT
 obtain ⟨pr, rc, rfl⟩ := own_shape hM.refs
 obtain ⟨ib, hiv, _⟩ := hu.ints
 have HIV := Lib.hid hiv
 clear hQ hM hT hiv hu
 unfold hpF
 rw [h51, h53]
 conv => arg 2; whnf
 clear h51 h53
 go_wp2_with fail
 refine wp_loop (fun a w => ∃ k : Nat, k ≤ rs.length ∧ Upd [] wx w ∧ ∃ f, a = hpF lim nur la nl lc ask at_ pb L.hb ub half ov (.slice pr rs.length rc) yv tv s24 f ∧ f 51 = uv ∧ f 53 = .int .i64 (k : Int)) (fun a' _ => rs.length - (intOf (a'.tmps.getD 53 undef)).toNat) ?_ ?_
 ·exact ⟨0, by omega, Upd.refl _ _, hpF_eqP _ (by kernel_rfl) ⟨rfl, rfl⟩⟩
 ·rintro a w ⟨k, hk, hu, f, rfl, h51, h53⟩
  have HU := Lib.hid hu
  clear hu
  unfold hpF
  rw [h51, h53]
  clear h51 h53
  by_cases hlt : k < rs.length
  ·obtain ⟨n, hn⟩ : ∃ n : Nat, S.num (rs.getD k 0) = (n : Int) := ⟨(S.num (rs.getD k 0)).toNat, by have := HT.out.k.ok.le (HT.out.isr hlt).1; omega⟩
   have HN := Lib.hid hn
   have hk1 : (k : Int) < (rs.length : Int) := by omega
   have hk0 : (0 : Int) ≤ (k : Int) := by omega
   clear hn
   go_upto_block 11 with fail
   rename_i K1 hK1
   have HK1 := Lib.hid hK1
   clear hK1
   refine wp_hpFP (lim := lim) (nur := nur) (la := la) (nl := nl) (lc := lc) (ask := ask) (at_ := at_) (pb := pb) (hb := L.hb) (ub := ub) (half := half) (s19 := ov) (s20 := .slice pr rs.length rc) (s21 := yv) (s22 := tv) (s24 := s24) (fun f => f 51 = uv ∧ f 53 = .int .i64 (k : Int) ∧ f 54 = .bool false ∧ f 55 = .int .i64 0) (by kernel_rfl) ⟨rfl, rfl, rfl, rfl⟩ (fun f hf => ?_)
   refine hblk11 (P := rs.getD k 0 ∈ plus1 (blist S.mr)) (HM.out.same HU.out) HT.out hrl hlt HN.out (fun hy j q hj hq h1 h2 h3 => marks_of HT.out.k hlt hy (by have := HN.out; omega) h1 h2 h3) hf.1 hf.2.1 hf.2.2.1 hf.2.2.2 (fun a' w3 h => ?_)
   obtain ⟨hu3, b, hb, f, rfl, h51, h53, h54⟩ := h
   refine HK1.out _ _ ?_
   have HU3 := Lib.hid (HU.out.trans hu3)
   have HBB := Lib.hid hb
   clear HK1 hu3 hb hf
   unfold hpF
   rw [h51, h53, h54]
   clear h51 h53 h54 K1
   cases b with
   | false =>
    as_aux_lemma =>
     go_wp2_with fail
     refine ⟨⟨k + 1, hlt, HU3.out, hpF_eqP _ (by kernel_rfl) ⟨rfl, rfl⟩⟩, ?_⟩
     show rs.length - (k + 1) < rs.length - k
     omega
   | true =>
    have hin := HBB.out rfl
    obtain ⟨gr, rc', e, r0⟩ := HM.out.refs.nth1 k hlt
    injection e with e1 _ e3
    subst e1 e3
    have r0 := HU3.out.cell r0 (by simp)
    have HA := Lib.hid (among_any uv ib (plus1 (blist S.mr)) (rs.getD k 0) w3 ⟨HIV.out.1, fun i hi => HU3.out.cell (HIV.out.2 i hi) (by simp)⟩ (by omega))
    rw [decide_eq_true hin] at HA
    clear hin
    generalize rs.getD k 0 = r at *
    as_aux_lemma =>
     go_wp2_with fail
     refine HA.out.mono ?_
     rintro e w4 ⟨rfl, rfl⟩
     go_wp2_with fail
     refine ⟨⟨k + 1, hlt, HU3.out, hpF_eqP _ (by kernel_rfl) ⟨rfl, rfl⟩⟩, ?_⟩
     show rs.length - (k + 1) < rs.length - k
     omega
  ·obtain rfl : k = rs.length := by omega
   as_aux_lemma =>
    go_wp2_with fail
    exact HQ.out _ _ ⟨HU.out, hpF_eq (by kernel_rfl)⟩
end Go.Proofs.YtbcoejmiihgfoaaDoor
