/- HeapPlays, kind 3: what is put. HeapPlays, kind 3: plain: what is put, and what it marks. HeapPlays: the rows as they are read behind the first loop. -/
import Derived.Test.YtbcoejmiihgfoaaDoorHpF
/-! HeapPlays, kind 3: what is put. -/
/-! HeapPlays, kind 3: what is put. -/
namespace Go.Proofs.YtbcoejmiihgfoaaDoor
open Go.RowKit

/-- What is put. -/
def putV (ref : Bool) (rs : List Int) (tt dv : Int) : Int := if ref = true then (if dv = 13 then -5 else if 0 ≤ tt then rs.getD tt.toNat 0 else 0) else dv
def putF (ref : Bool) (dv : Int) : Bool := !(ref && decide (dv = 13))
set_option maxRecDepth 1000000 in
set_option maxHeartbeats 16000000 in
theorem hif201 {ub pb nl lc i : Nat} {la : Option Addr} {L : HL} {lim nur half ask at_ : Int} {ov rv yv tv : Value} {wx : World} {xd B : Nat} {kd da dby dn dv tt : Int} {rs : List Int} {inn ref : Bool} {v33 : Value} {f : Nat → Value} {J K' : Act → World → Prop} {Q' : Exit → Act → World → Prop}
  (hr : OwnI wx B 3 rv rs) (hx : wx.heap[xd]? = some (.cells #[.int .i64 kd, .int .i64 da, .int .i64 dby, .int .i64 dn, .int .i64 dv] 45))
  (htt : tt < (rs.length : Int)) (h25 : f 25 = .pointer (some ⟨xd, 0, none⟩)) (h33 : f 33 = v33) (h35 : f 35 = .bool inn) (h36 : f 36 = .bool ref) (h37 : f 37 = .int .i64 dv) (h38 : f 38 = .int .i64 tt) (h39 : f 39 = .bool true) (h201 : f 201 = .bool ref)
  (hJ : ∀ a' w', (w' = wx ∧ ∃ f, a' = hpF lim nur la nl lc ask at_ pb L.hb ub half ov rv yv tv (.int .i64 i) f ∧ (f 25 = .pointer (some ⟨xd, 0, none⟩) ∧ f 33 = v33 ∧ f 35 = .bool inn ∧ f 36 = .bool ref ∧ f 37 = .int .i64 (putV ref rs tt dv) ∧ f 38 = .int .i64 tt ∧ f 39 = .bool (putF ref dv))) → J a' w') (hK : ∀ a' w', Go.Met J a' w' → K' a' w') :
  (hpC 201).wp Tryd.prog (Exit.then K' Q') (hpF lim nur la nl lc ask at_ pb L.hb ub half ov rv yv tv (.int .i64 i) f) wx := by
 have x4 : wx.cell? ⟨xd, 4, none⟩ = some (.int .i64 dv) := by rw [cell_of hx]; rfl
 have HJ := Lib.hid hJ
 unfold hpF
 rw [h25, h33, h35, h36, h37, h38, h39, h201]
 conv => arg 2; whnf
 clear h25 h33 h35 h36 h37 h38 h39 h201 hJ hx
 cases ref with
 | false =>
  clear hr
  as_aux_lemma =>
   go_wp2_with fail
   exact Go.Met.intro (HJ.out _ _ ⟨rfl, hpF_eqP _ (by kernel_rfl) ⟨rfl, rfl, rfl, rfl, rfl, rfl, rfl⟩⟩)
 | true =>
  have hpv : putV true rs tt dv = if dv = 13 then -5 else if 0 ≤ tt then rs.getD tt.toNat 0 else 0 := by unfold putV; rfl
  have hpf : putF true dv = !decide (dv = 13) := by unfold putF; rfl
  rw [hpv, hpf] at HJ
  clear hpv hpf
  have hb : (dv == 13) = decide (dv = 13) := rfl
  by_cases e0 : 0 ≤ tt
  ·obtain ⟨k, rfl⟩ := Int.eq_ofNat_of_zero_le e0
   have g0 : decide (0 ≤ (k : Int)) = true := decide_eq_true e0
   obtain ⟨g, rc, rfl, hg⟩ := hr.nth1 k (by omega)
   rw [if_pos e0, Int.toNat_natCast] at HJ
   generalize rs.getD k 0 = rk at HJ hg
   clear hr
   by_cases e1 : dv = 13
   ·subst e1
    rw [if_pos rfl, decide_eq_true rfl] at HJ
    clear hb
    as_aux_lemma =>
     go_wp2_with fail
     exact Go.Met.intro (HJ.out _ _ ⟨rfl, hpF_eqP _ (by kernel_rfl) ⟨rfl, rfl, rfl, rfl, rfl, rfl, rfl⟩⟩)
   ·rw [if_neg e1, decide_eq_false e1] at HJ
    rw [decide_eq_false e1] at hb
    as_aux_lemma =>
     go_wp2_with fail
     exact Go.Met.intro (HJ.out _ _ ⟨rfl, hpF_eqP _ (by kernel_rfl) ⟨rfl, rfl, rfl, rfl, rfl, rfl, rfl⟩⟩)
  ·have g0 : decide (0 ≤ tt) = false := decide_eq_false e0
   rw [if_neg e0] at HJ
   clear hr
   by_cases e1 : dv = 13
   ·subst e1
    rw [if_pos rfl, decide_eq_true rfl] at HJ
    clear hb
    as_aux_lemma =>
     go_wp2_with fail
     exact Go.Met.intro (HJ.out _ _ ⟨rfl, hpF_eqP _ (by kernel_rfl) ⟨rfl, rfl, rfl, rfl, rfl, rfl, rfl⟩⟩)
   ·rw [if_neg e1, decide_eq_false e1] at HJ
    rw [decide_eq_false e1] at hb
    as_aux_lemma =>
     go_wp2_with fail
     exact Go.Met.intro (HJ.out _ _ ⟨rfl, hpF_eqP _ (by kernel_rfl) ⟨rfl, rfl, rfl, rfl, rfl, rfl, rfl⟩⟩)
end Go.Proofs.YtbcoejmiihgfoaaDoor

/-! HeapPlays, kind 3: plain: what is put, and what it marks. -/
/-! HeapPlays, kind 3: plain: what is put, and what it marks. -/
namespace Go.Proofs.YtbcoejmiihgfoaaDoor
open Go.RowKit

theorem HpT.at_ {S : Hp} {ps : List OP} {rs : List Int} {ys : List Bool} {ts : List Int} {u0 u1 nur half : Int} {cs : List ByteArray} {i : Nat} (h : HpT S ps rs ys ts u0 u1 nur half cs i) {k : Nat} (hk : k < rs.length) (hkp : k < ps.length) : (ps[k]'hkp).c = S.cls (rs.getD k 0) ∧ (ps[k]'hkp).xs = S.valL (rs.getD k 0) ∧ ys.getD k false = S.inY (rs.getD k 0) := by
 have h1 : (ps.map OP.o)[k]? = (rs.map S.objL)[k]? := by rw [h.os]
 rw [List.getElem?_map, List.getElem?_map, List.getElem?_eq_getElem hk, List.getElem?_eq_getElem hkp] at h1
 simp only [Option.map_some, Option.some.injEq] at h1
 have hg : rs.getD k 0 = rs[k] := by rw [List.getD_eq_getElem?_getD, List.getElem?_eq_getElem hk]; rfl
 rw [hg]
 have e1 := congrArg Prod.fst h1
 have e2 := congrArg Prod.snd h1
 refine ⟨e1, e2, ?_⟩
 rw [h.ys, List.getD_eq_getElem?_getD, List.getElem?_map, List.getElem?_eq_getElem hk]; rfl
theorem HpT.put {S : Hp} {ps : List OP} {rs : List Int} {ys : List Bool} {ts : List Int} {u0 u1 nur half : Int} {cs : List ByteArray} {i : Nat} (h : HpT S ps rs ys ts u0 u1 nur half cs i) {k j : Nat} (hk : k < rs.length) (hkp : k < ps.length) {c v : Int} {xs : List Int} {vv : Value} {vb : Nat} (hps : ps[k]'hkp = ⟨c, xs, vv, vb⟩)
  (hm : S.mayRaw (rs.getD k 0) j v = true) (hv : -9223372036854775808 ≤ v ∧ v ≤ 9223372036854775807) {tc : Bool} (htc : S.marked (rs.getD k 0) j v = tc) :
  HpT (S.put (rs.getD k 0) j v) (ps.set k ⟨c, xs.set j v, vv, vb⟩) rs ys (if tc = true then ts ++ [rs.getD k 0] else ts) u0 u1 nur half cs (i + 1) := by
 obtain ⟨a1, a2, a3⟩ := h.k.put hk hm hv
 obtain ⟨b1, b2, _⟩ := h.at_ hk hkp
 rw [hps] at b1 b2
 simp only at b1 b2
 have hf := h.few
 refine ⟨by rw [← htc]; exact a1, ?_, by rw [a3]; exact h.ys, by rw [put_y]; exact h.u0, by rw [put_h0]; exact h.u1, by rw [put_cs]; exact h.cs, by omega, ?_⟩
 ·rw [a2, List.map_set, h.os]
  show (rs.map S.objL).set k (c, xs.set j v) = _
  rw [b1, b2]
 ·split
  ·simp; omega
  ·omega
theorem may_put {S : Hp} {rs ts : List Int} (hK : HpK S rs ts) {k : Nat} (hk : k < rs.length) {dby tt dv : Int} (htt : tt < (rs.length : Int)) {inn ref : Bool} (hinn : inn = decide (0 ≤ dby ∧ dby < S.num (rs.getD k 0))) (href : ref = (inn && letR S.cs (S.cls (rs.getD k 0)) dby)) :
  S.mayRaw (rs.getD k 0) dby (putV ref rs tt dv) = (inn && putF ref dv) ∧ S.refB (rs.getD k 0) dby = ref ∧ ((inn && putF ref dv) = true → S.marked (rs.getD k 0) dby (putV ref rs tt dv) = (ref && !(S.inY (rs.getD k 0)) && decide (0 ≤ tt) && S.inY (rs.getD tt.toNat 0))) := by
 have hi := hK.isk hk
 have hrb : S.refB (rs.getD k 0) dby = ref := by rw [refB_let hi, ← hinn, ← href]
 refine ⟨?_, hrb, fun hf => ?_⟩
 ·cases inn with
  | false =>
   rw [Bool.false_and]
   exact mayRaw_out _ _ _ _ (of_decide_eq_false hinn.symm)
  | true =>
   rw [Bool.true_and]
   cases ref with
   | false =>
    rw [mayRaw_val _ _ _ _ hrb, hi, ← hinn]; rfl
   | true =>
    unfold putV putF
    rw [if_pos rfl, Bool.true_and]
    by_cases e1 : dv = 13
    ·rw [if_pos e1, decide_eq_true e1]
     exact mayRaw_neg _ _ _ _ (by omega) hrb
    ·rw [if_neg e1, decide_eq_false e1]
     rw [mayRaw_ref, hi, ← hinn]
     ·rfl
     ·split
      ·rename_i e2
       have hq : tt.toNat < rs.length := by omega
       have h1 := hK.isk hq
       have h2 := hK.bd ((hK.is _).1 h1)
       exact .inr ⟨h2.1, h2.2, h1⟩
      ·exact .inl rfl
 ·unfold Hp.marked
  rw [hrb]
  cases ref with
  | false => rfl
  | true =>
   have e1 : ¬ dv = 13 := fun e => by
    have h2 : putF true dv = false := by unfold putF; rw [decide_eq_true e]; rfl
    rw [h2, Bool.and_false] at hf; cases hf
   have hv : putV true rs tt dv = if 0 ≤ tt then rs.getD tt.toNat 0 else 0 := by unfold putV; rw [if_pos rfl, if_neg e1]
   rw [hv]
   by_cases e2 : 0 ≤ tt
   ·rw [if_pos e2, decide_eq_true e2, Bool.and_true]
   ·rw [if_neg e2, decide_eq_false e2, Bool.and_false, Bool.false_and]
    have : S.inY 0 = false := by
     cases h0 : S.inY 0 with
     | false => rfl
     | true => have := inY_is h0; rw [is_zero] at this; cases this
    rw [this, Bool.and_false]
theorem putV_bd {S : Hp} {rs ts : List Int} (hK : HpK S rs ts) {tt dv : Int} {ref : Bool} (htt : tt < (rs.length : Int)) (hd : -9223372036854775808 ≤ dv ∧ dv ≤ 9223372036854775807) : -9223372036854775808 ≤ putV ref rs tt dv ∧ putV ref rs tt dv ≤ 9223372036854775807 := by
 unfold putV
 split
 ·split
  ·omega
  ·split
   ·have hq : tt.toNat < rs.length := by omega
    have h2 := hK.bd ((hK.is _).1 (hK.isk hq))
    omega
   ·omega
 ·exact hd
end Go.Proofs.YtbcoejmiihgfoaaDoor

/-! HeapPlays: the rows as they are read behind the first loop. -/
/-! HeapPlays: the rows as they are read behind the first loop. -/
namespace Go.Proofs.YtbcoejmiihgfoaaDoor
open Go.RowKit

/-- The rows, as they are read. -/
def RowsH (w : World) (g gr gy : Nat) (S : Hp) (rs : List Int) : Prop :=
 ∀ k, k < rs.length → w.cell? ⟨gr, k, none⟩ = some (.int .i64 (rs.getD k 0)) ∧ w.cell? ⟨gy, k, none⟩ = some (.bool (S.inY (rs.getD k 0))) ∧ w.cell? ⟨g, k * 2, none⟩ = some (.int .i64 (S.cls (rs.getD k 0))) ∧
  ∃ vb n, S.num (rs.getD k 0) = ((n : Nat) : Int) ∧ w.cell? ⟨g, k * 2 + 1, none⟩ = some (.slice (some ⟨vb, 0, none⟩) n n) ∧ ∀ j, j < n → w.cell? ⟨vb, j, none⟩ = some (.int .i64 (S.get (rs.getD k 0) (j : Nat)))
theorem RowsH.upd {w w' : World} {g gr gy : Nat} {S : Hp} {rs : List Int} (h : RowsH w g gr gy S rs) (hu : Upd [] w w') : RowsH w' g gr gy S rs := fun k hk => by
 obtain ⟨h1, h2, h3, vb, n, h4, h5, h6⟩ := h k hk
 exact ⟨hu.cell h1 (by simp), hu.cell h2 (by simp), hu.cell h3 (by simp), vb, n, h4, hu.cell h5 (by simp), fun j hj => hu.cell (h6 j hj) (by simp)⟩
section
variable {w0 w : World} {B ub : Nat} {L : HL} {hv hmv : Value} {S : Hp} {ov rv yv tv : Value} {ps : List OP} {rs : List Int} {ys : List Bool} {ts : List Int} {u0 u1 nur half : Int} {cs : List ByteArray} {i : Nat}
theorem HpW.rows (hM : HpW w0 w B ub L hv hmv S ov rv yv tv ps rs ys ts u0 u1) (hT : HpT S ps rs ys ts u0 u1 nur half cs i) (hl : 0 < rs.length) :
  ∃ g oc gr rc gy yc, ov = .slice (some ⟨g, 0, none⟩) rs.length oc ∧ rv = .slice (some ⟨gr, 0, none⟩) rs.length rc ∧ yv = .slice (some ⟨gy, 0, none⟩) rs.length yc ∧ RowsH w g gr gy S rs := by
 obtain ⟨e1, e2⟩ := hT.len
 obtain ⟨g, oc, hov, _⟩ := hM.mir.nth 0 (by omega)
 obtain ⟨gr, rc, hrv, _⟩ := hM.refs.nth1 0 hl
 obtain ⟨gy, yc, hyv, _⟩ := hM.yng.nth 0 (by omega)
 rw [e1] at hov
 rw [e2] at hyv
 refine ⟨g, oc, gr, rc, gy, yc, hov, hrv, hyv, fun k hk => ?_⟩
 obtain ⟨g', oc', hov', o0, o1, o2⟩ := hM.mir.nth k (by omega)
 obtain ⟨gr', rc', hrv', r0⟩ := hM.refs.nth1 k hk
 obtain ⟨gy', yc', hyv', y0⟩ := hM.yng.nth k (by omega)
 obtain rfl : g = g' := by
  have h := hov.symm.trans hov'
  injection h with h1
  injection h1 with h1
  injection h1
 obtain rfl : gr = gr' := by
  have h := hrv.symm.trans hrv'
  injection h with h1
  injection h1 with h1
  injection h1
 obtain rfl : gy = gy' := by
  have h := hyv.symm.trans hyv'
  injection h with h1
  injection h1 with h1
  injection h1
 obtain ⟨b1, b2, b3⟩ := hT.at_ hk (by omega)
 rw [b3] at y0
 rw [b1] at o0
 rw [Nat.mul_comm] at o0 o1
 have hn := valL_len S (rs.getD k 0)
 have hle := hT.k.ok.le (hT.k.isk hk)
 refine ⟨r0, y0, o0, _, _, ?_, o1, fun j hj => ?_⟩
 ·rw [b2, hn]; omega
 ·rw [cell_of o2, icells_get _ _ hj, b2, valL_get _ _ _ (by rw [b2, hn] at hj; exact hj)]
theorem HpT.isr (hT : HpT S ps rs ys ts u0 u1 nur half cs i) {k : Nat} (hk : k < rs.length) : S.is (rs.getD k 0) = true ∧ 1 ≤ rs.getD k 0 ∧ rs.getD k 0 ≤ 65536 := by
 have h1 := hT.k.isk hk
 have h2 := hT.k.bd ((hT.k.is _).1 h1)
 exact ⟨h1, h2⟩
end
end Go.Proofs.YtbcoejmiihgfoaaDoor
