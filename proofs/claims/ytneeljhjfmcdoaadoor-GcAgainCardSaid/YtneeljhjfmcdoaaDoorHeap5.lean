/- The heap: Young, Old, Room, Size, Raw, Put. The heap: Put, New. -/
import Derived.Test.YtneeljhjfmcdoaaDoorHeap3
import Derived.Deep.RegionHeld3
/-! The heap: Young, Old, Room, Size, Raw, Put. -/
namespace Go.Proofs.YtneeljhjfmcdoaaDoor
open Go.RowKit

/-- The number of the half that is used, as a space. -/
def Hp.oldK (S : Hp) : Nat := if S.now = 0 then 1 else 2
theorem oldK_lt (S : Hp) : S.oldK < 3 := by unfold Hp.oldK; split <;> omega
theorem oldO_eq (S : Hp) : S.oldO = 3 + 3 * S.oldK := by unfold Hp.oldO Hp.oldK; split <;> rfl
theorem sp_oldK {S : Hp} : S.sp S.oldK = S.old := by unfold Hp.oldK Hp.old; split <;> rfl

set_option maxHeartbeats 400000 in
theorem young_yes (L : HL) (cv mv : Value) (S : Hp) (c n wd : Int) (w : World) (h : HpAt w L cv mv S) (hwd : Hid (S.words c n = wd)) (hw1 : 1 ≤ wd) (hw2 : wd ≤ S.y.to - S.y.top) :
    Calls Tryd.prog 11 #[.pointer (some ⟨L.hb, 0, none⟩), .int .i64 c, .int .i64 n] w fun e w' => e = .returned (.tuple #[.int .i64 (S.y.top + 1), .bool true]) ∧ HpAt w' L cv mv (S.laid 0 c wd) ∧ Upd [L.hb, L.wb, L.bw] w w' := by
  go_enter Tryd.func11, Tryd.ntmps11
  go_wp2_with fail
  refine (lay_yes _ _ _ _ 0 (by omega) _ _ _ _ h hwd hw1 hw2).mono ?_
  rintro e w1 ⟨rfl, h1, hu⟩
  go_wp2_with fail
  go_ret2
  exact ⟨rfl, h1, hu⟩

set_option maxHeartbeats 400000 in
theorem young_no (L : HL) (cv mv : Value) (S : Hp) (c n : Int) (w : World) (h : HpAt w L cv mv S) (hno : S.words c n = 0 ∨ S.y.to - S.y.top < S.words c n) :
    Calls Tryd.prog 11 #[.pointer (some ⟨L.hb, 0, none⟩), .int .i64 c, .int .i64 n] w fun e w' => e = .returned (.tuple #[.int .i64 0, .bool false]) ∧ Upd [] w w' := by
  go_enter Tryd.func11, Tryd.ntmps11
  go_wp2_with fail
  refine (lay_no _ _ _ _ 0 (by omega) _ _ _ h hno).mono ?_
  rintro e w1 ⟨rfl, hu⟩
  go_wp2_with fail
  go_ret2
  exact ⟨rfl, hu⟩

set_option maxHeartbeats 400000 in
theorem old_yes (L : HL) (cv mv : Value) (S : Hp) (c n wd : Int) (w : World) (h : HpAt w L cv mv S) (hwd : Hid (S.words c n = wd)) (hw1 : 1 ≤ wd) (hw2 : wd ≤ S.old.to - S.old.top) :
    Calls Tryd.prog 20 #[.pointer (some ⟨L.hb, 0, none⟩), .int .i64 c, .int .i64 n] w fun e w' => e = .returned (.tuple #[.int .i64 (S.old.top + 1), .bool true]) ∧ HpAt w' L cv mv (S.laid S.oldK c wd) ∧ Upd [L.hb, L.wb, L.bw] w w' := by
  have H := Lib.hid (fun m => lay_yes L cv mv S S.oldK (oldK_lt S) c n wd (w.drewN m) (h.upd0 ((Upd.refl _ _).drewN m)) hwd hw1 (by rw [sp_oldK]; exact hw2))
  rw [sp_oldK, ← oldO_eq] at H
  go_enter Tryd.func20, Tryd.ntmps20
  go_wp2_with fail
  refine (old_any _ _ _ _ _ h).mono ?_
  rintro e w0 ⟨rfl, m, rfl⟩
  go_wp2_with fail
  refine (H.out m).mono ?_
  rintro e w1 ⟨rfl, h1, hu⟩
  go_wp2_with fail
  go_ret2
  exact ⟨rfl, h1, ((Upd.refl _ _).drewN m).trans hu⟩

set_option maxHeartbeats 400000 in
theorem old_no (L : HL) (cv mv : Value) (S : Hp) (c n : Int) (w : World) (h : HpAt w L cv mv S) (hno : S.words c n = 0 ∨ S.old.to - S.old.top < S.words c n) :
    Calls Tryd.prog 20 #[.pointer (some ⟨L.hb, 0, none⟩), .int .i64 c, .int .i64 n] w fun e w' => e = .returned (.tuple #[.int .i64 0, .bool false]) ∧ Upd [] w w' := by
  have H := Lib.hid (fun m => lay_no L cv mv S S.oldK (oldK_lt S) c n (w.drewN m) (h.upd0 ((Upd.refl _ _).drewN m)) (by rw [sp_oldK]; exact hno))
  rw [← oldO_eq] at H
  go_enter Tryd.func20, Tryd.ntmps20
  go_wp2_with fail
  refine (old_any _ _ _ _ _ h).mono ?_
  rintro e w0 ⟨rfl, m, rfl⟩
  go_wp2_with fail
  refine (H.out m).mono ?_
  rintro e w1 ⟨rfl, hu⟩
  go_wp2_with fail
  go_ret2
  exact ⟨rfl, ((Upd.refl _ _).drewN m).trans hu⟩

set_option maxHeartbeats 400000 in
theorem hroom_any (L : HL) (cv mv : Value) (S : Hp) (w : World) (h : HpAt w L cv mv S) :
    Calls Tryd.prog 24 #[.pointer (some ⟨L.hb, 0, none⟩)] w fun e w' => e = .returned (.tuple #[.int .i64 (S.y.to - S.y.top), .int .i64 (S.old.to - S.old.top)]) ∧ ∃ n, w' = w.drewN n := by
  have hok := h.ok
  obtain ⟨s0, s1, s2, s3⟩ := hok.sp0 0
  obtain ⟨r0, r1, r2, r3⟩ := hok.sp0 S.oldK
  obtain ⟨c0, c1, c2⟩ := sp_cells h.hb S.oldK (oldK_lt S)
  rw [sp_oldK] at c1 c2 r0 r1 r2 r3
  rw [← oldO_eq] at c1 c2
  have hl := hok.len
  have c4 := h.c4
  have c5 := h.c5
  go_enter Tryd.func24, Tryd.ntmps24
  go_wp2_with fail
  refine (room_any _ 3 _ _ _ (by simp only [Hp.sp] at *; omega) (by simp only [Hp.sp] at *; omega) (by simp only [Hp.sp] at *; omega) c4 c5).mono ?_
  rintro e w0 ⟨rfl, m, rfl⟩
  go_wp2_with fail
  refine (old_any L cv mv S _ (h.upd0 ((Upd.refl _ _).drewN m))).mono ?_
  rintro e w0 ⟨rfl, m2, rfl⟩
  go_wp2_with fail
  refine (room_any _ _ _ _ (w.drewN (m + m2)) (by omega) r2 (by omega) c1 c2).mono ?_
  rintro e w0 ⟨rfl, m3, rfl⟩
  go_wp2_with fail
  go_ret2
  exact ⟨rfl, _, rfl⟩

set_option maxHeartbeats 400000 in
theorem size_any (L : HL) (cv mv : Value) (S : Hp) (w : World) (h : HpAt w L cv mv S) :
    Calls Tryd.prog 25 #[.pointer (some ⟨L.hb, 0, none⟩)] w fun e w' => e = .returned (.tuple #[.int .i64 (S.y.to - S.y.fr), .int .i64 (S.h0.to - S.h0.fr)]) ∧ ∃ n, w' = w.drewN n := by
  obtain ⟨s0, s1, s2, s3⟩ := h.ok.sp0 0
  obtain ⟨r0, r1, r2, r3⟩ := h.ok.sp0 1
  simp only [Hp.sp] at s0 s1 s2 s3 r0 r1 r2 r3
  have hl := h.ok.len
  have c3 := h.c3
  have c4 := h.c4
  have c6 := h.c6
  have c7 := h.c7
  have q1 : IntKind.i64.wrap (S.y.to - S.y.fr) = S.y.to - S.y.fr := IntWalk.i64_in _ (by omega)
  have q2 : IntKind.i64.wrap (S.h0.to - S.h0.fr) = S.h0.to - S.h0.fr := IntWalk.i64_in _ (by omega)
  go_enter Tryd.func25, Tryd.ntmps25
  go_wp2_with fail
  go_quiet (fail)
  go_wp2_with fail
  go_ret2
  exact ⟨rfl, _, rfl⟩

/-- The heap behind a value that is laid. -/
def Hp.raw (S : Hp) (r i v : Int) : Hp := { S with A := S.A.set (r + 1 + i).toNat v }

section
variable (S : Hp) (r i v : Int)
@[simp] theorem raw_is (q : Int) : (S.raw r i v).is q = S.is q := rfl
@[simp] theorem raw_len : (S.raw r i v).A.length = S.A.length := by simp [Hp.raw]
theorem raw_sp (k : Nat) : (S.raw r i v).sp k = S.sp k := by unfold Hp.sp; match k with | 0 => rfl | 1 => rfl | _ + 2 => rfl
end

theorem raw_head {S : Hp} (hS : S.Ok) {r i v : Int} (hr : S.is r = true) (h0 : 0 ≤ i) (h1 : i < S.num r) (a : Nat) (ha : bhas S.bg a = true) : (S.raw r i v).A.getD a 0 = S.A.getD a 0 := by
  obtain ⟨g1, g2, g3, g4, _⟩ := hS.le hr
  have hb : bhas S.bg (r - 1).toNat = true := by simp only [Hp.is, Bool.and_eq_true] at hr; exact hr.2
  show (S.A.set (r + 1 + i).toNat v).getD a 0 = _
  rw [getD_set _ _ _ _ (by omega), if_neg]
  intro e
  have hn := h1
  unfold Hp.num at hn
  by_cases c : (r - 1).toNat < a
  · have := hS.disj _ _ hb ha c
    omega
  · omega

theorem raw_ok {S : Hp} (hS : S.Ok) {r i v : Int} (hr : S.is r = true) (h0 : 0 ≤ i) (h1 : i < S.num r) : (S.raw r i v).Ok := by
  have hh := fun a ha => raw_head hS hr h0 h1 (v := v) a ha
  refine ⟨by rw [raw_len]; exact hS.len, hS.few, hS.small, hS.now, hS.y0, hS.y1, hS.y2, hS.a0, hS.a1, hS.a2, hS.b0, hS.b1, hS.b2, by rw [raw_len]; exact hS.b3, ?_, ?_, ?_⟩
  · intro a ha
    unfold Hp.headAt
    rw [hh a ha, raw_len]
    exact hS.heads a ha
  · intro a ha
    rw [hh a ha]
    obtain ⟨k, hk, u⟩ := hS.used a ha
    exact ⟨k, hk, by rw [raw_sp]; exact u⟩
  · intro a b ha hb hab
    rw [hh a ha]
    exact hS.disj a b ha hb hab

theorem HpAt.raw {w w' : World} {L : HL} {cv mv : Value} {S : Hp} (h : HpAt w L cv mv S) {r i v : Int} (hr : S.is r = true) (h0 : 0 ≤ i) (h1 : i < S.num r) (ha : ArAt w' L.ab L.wb (S.A.set (r + 1 + i).toNat v)) (hu : Upd [L.wb] w w') : HpAt w' L cv mv (S.raw r i v) := by
  obtain ⟨⟨n1, n2, n3, n4, n5, n6, n7⟩, ⟨p1, p2, p3, p4, p5, p6⟩, _⟩ := HL.ne h.nd
  have m1 : ∀ b, b ≠ L.wb → b ∉ [L.wb] := fun b hb => by simpa using hb
  refine ⟨hu.heap h.hb (m1 _ n2), ha, ?_, ?_, h.cls.upd hu (m1 _ (Ne.symm p6)), h.nd, raw_ok h.ok hr h0 h1⟩
  · rw [raw_len]; exact h.bg.upd hu (m1 _ (Ne.symm p2)) (m1 _ (Ne.symm p3))
  · rw [raw_len]; exact h.mr.upd hu (m1 _ (Ne.symm p4)) (m1 _ (Ne.symm p5))

/-- May the value be laid there? -/
def Hp.mayRaw (S : Hp) (r i v : Int) : Bool :=
  S.is r && decide (0 ≤ i ∧ i < S.num r) && (!(S.refB r i) || decide (v = 0) || decide (1 ≤ v ∧ v ≤ 65536) && S.is v)

set_option maxRecDepth 100000 in
set_option maxHeartbeats 1000000 in
theorem raw_yes (L : HL) (cv mv : Value) (S : Hp) (r i v : Int) (w : World) (h : HpAt w L cv mv S) (hm : S.mayRaw r i v = true) :
    Calls Tryd.prog 38 #[.pointer (some ⟨L.hb, 0, none⟩), .int .i64 r, .int .i64 i, .int .i64 v] w fun e w' => e = .returned (.bool true) ∧ HpAt w' L cv mv (S.raw r i v) ∧ Upd [L.wb] w w' := by
  simp only [Hp.mayRaw, Bool.and_eq_true, Bool.or_eq_true, decide_eq_true_eq, Bool.not_eq_true'] at hm
  obtain ⟨⟨hr, h0, h1⟩, hor⟩ := hm
  obtain ⟨g1, g2, g3, g4, _⟩ := h.ok.le hr
  have hl := h.ok.len
  have c2 := h.c2
  have HR := Lib.hid hr
  clear hr
  have fin : Hid (Calls Tryd.prog 70 #[.pointer (some ⟨L.ab, 0, none⟩), .int .i64 (r + 1 + i), .int .i64 v] w fun e w' => e = .returned (.bool true) ∧ HpAt w' L cv mv (S.raw r i v) ∧ Upd [L.wb] w w') := by
    refine (store_in _ _ _ _ v _ h.ar (by omega) (by omega)).mono ?_
    rintro e w' ⟨rfl, ha, hu⟩
    exact ⟨rfl, h.raw HR.out h0 h1 ha hu, hu⟩
  by_cases hf : S.refB r i = true
  · have HF := Lib.hid hf
    have hor' : v = 0 ∨ (1 ≤ v ∧ v ≤ 65536) ∧ S.is v = true := by
      rcases hor with (h | h) | h
      · rw [hf] at h; cases h
      · exact .inl h
      · exact .inr h
    clear hor hf
    by_cases hv0 : v = 0
    · have e0 : (v != 0) = false := by rw [hv0]; rfl
      clear hor' hv0
      go_enter Tryd.func38, Tryd.ntmps38
      go_wp2_with fail
      refine (value_yes _ _ _ _ _ _ _ h HR.out h0 h1).mono ?_
      rintro e w' ⟨rfl, rfl⟩
      go_wp2_with fail
      refine (ref_some _ _ _ _ _ _ _ h HR.out h0 h1).mono ?_
      rintro e w' ⟨rfl, rfl⟩
      rw [HF.out]
      go_wp2_with fail
      refine fin.out.mono ?_
      rintro e w1 ⟨rfl, h1', hu⟩
      go_wp2_with fail
      go_ret
      exact ⟨rfl, h1', hu⟩
    · have e0 : (v != 0) = true := by rw [bne_iff_ne]; exact hv0
      obtain ⟨⟨v1, v2⟩, v3⟩ := hor'.resolve_left hv0
      have HV := Lib.hid v3
      clear hor' hv0 v3
      go_enter Tryd.func38, Tryd.ntmps38
      go_wp2_with fail
      refine (value_yes _ _ _ _ _ _ _ h HR.out h0 h1).mono ?_
      rintro e w' ⟨rfl, rfl⟩
      go_wp2_with fail
      refine (ref_some _ _ _ _ _ _ _ h HR.out h0 h1).mono ?_
      rintro e w' ⟨rfl, rfl⟩
      rw [HF.out]
      go_wp2_with fail
      refine (is_yes _ _ _ _ _ _ h HV.out).mono ?_
      rintro e w' ⟨rfl, rfl⟩
      go_wp2_with fail
      refine fin.out.mono ?_
      rintro e w1 ⟨rfl, h1', hu⟩
      go_wp2_with fail
      go_ret
      exact ⟨rfl, h1', hu⟩
  · have HF := Lib.hid (show S.refB r i = false by simpa using hf)
    clear hor hf
    go_enter Tryd.func38, Tryd.ntmps38
    go_wp2_with fail
    refine (value_yes _ _ _ _ _ _ _ h HR.out h0 h1).mono ?_
    rintro e w' ⟨rfl, rfl⟩
    go_wp2_with fail
    refine (ref_some _ _ _ _ _ _ _ h HR.out h0 h1).mono ?_
    rintro e w' ⟨rfl, rfl⟩
    rw [HF.out]
    go_wp2_with fail
    refine fin.out.mono ?_
    rintro e w1 ⟨rfl, h1', hu⟩
    go_wp2_with fail
    go_ret
    exact ⟨rfl, h1', hu⟩

set_option maxRecDepth 100000 in
set_option maxHeartbeats 1000000 in
theorem raw_no (L : HL) (cv mv : Value) (S : Hp) (r i v : Int) (w : World) (h : HpAt w L cv mv S) (hm : S.mayRaw r i v = false) (hb : r ≤ 9223372036854775807) :
    Calls Tryd.prog 38 #[.pointer (some ⟨L.hb, 0, none⟩), .int .i64 r, .int .i64 i, .int .i64 v] w fun e w' => e = .returned (.bool false) ∧ w = w' := by
  by_cases hno : S.is r = false ∨ i < 0 ∨ S.num r ≤ i
  · clear hm
    have HNO := Lib.hid hno
    clear hno
    go_enter Tryd.func38, Tryd.ntmps38
    go_wp2_with fail
    refine (value_no _ _ _ _ _ _ _ h HNO.out hb).mono ?_
    rintro e w' ⟨rfl, rfl⟩
    go_wp2_with fail
    go_ret
    exact ⟨rfl, rfl⟩
  · have hr : S.is r = true := by
      cases hh : S.is r with
      | true => rfl
      | false => exact absurd (.inl hh) hno
    have h0 : 0 ≤ i := by
      rcases Int.lt_or_le i 0 with h | h
      · exact absurd (.inr (.inl h)) hno
      · exact h
    have h1 : i < S.num r := by
      rcases Int.lt_or_le i (S.num r) with h | h
      · exact h
      · exact absurd (.inr (.inr h)) hno
    have hm2 : (!(S.refB r i) || decide (v = 0) || decide (1 ≤ v ∧ v ≤ 65536) && S.is v) = false := by
      unfold Hp.mayRaw at hm
      rw [hr, decide_eq_true (show 0 ≤ i ∧ i < S.num r from ⟨h0, h1⟩)] at hm
      simpa using hm
    have hf : S.refB r i = true := by
      cases hh : S.refB r i with
      | true => rfl
      | false => rw [hh] at hm2; simp at hm2
    rw [hf] at hm2
    simp only [Bool.not_true, Bool.false_or, Bool.or_eq_false_iff, decide_eq_false_iff_not, Bool.and_eq_false_iff] at hm2
    obtain ⟨hv0, hv⟩ := hm2
    have e0 : (v != 0) = true := by rw [bne_iff_ne]; exact hv0
    have HR := Lib.hid hr
    have HF := Lib.hid hf
    clear hr hf hno hm hv0
    by_cases hv1 : 1 ≤ v ∧ v ≤ 65536
    · have hv2 : S.is v = false := by
        rcases hv with h | h
        · exact absurd hv1 h
        · exact h
      have HV := Lib.hid hv2
      clear hv hv2
      go_enter Tryd.func38, Tryd.ntmps38
      go_wp2_with fail
      refine (value_yes _ _ _ _ _ _ _ h HR.out h0 h1).mono ?_
      rintro e w' ⟨rfl, rfl⟩
      go_wp2_with fail
      refine (ref_some _ _ _ _ _ _ _ h HR.out h0 h1).mono ?_
      rintro e w' ⟨rfl, rfl⟩
      rw [HF.out]
      go_wp2_with fail
      refine (is_no _ _ _ _ _ _ h HV.out (by omega)).mono ?_
      rintro e w' ⟨rfl, rfl⟩
      go_wp2_with fail
      go_ret
      exact ⟨rfl, rfl⟩
    · clear hv
      by_cases hv3 : v < 1
      · go_enter Tryd.func38, Tryd.ntmps38
        go_wp2_with fail
        refine (value_yes _ _ _ _ _ _ _ h HR.out h0 h1).mono ?_
        rintro e w' ⟨rfl, rfl⟩
        go_wp2_with fail
        refine (ref_some _ _ _ _ _ _ _ h HR.out h0 h1).mono ?_
        rintro e w' ⟨rfl, rfl⟩
        rw [HF.out]
        go_wp2_with fail
        go_ret
        exact ⟨rfl, rfl⟩
      · go_enter Tryd.func38, Tryd.ntmps38
        go_wp2_with fail
        refine (value_yes _ _ _ _ _ _ _ h HR.out h0 h1).mono ?_
        rintro e w' ⟨rfl, rfl⟩
        go_wp2_with fail
        refine (ref_some _ _ _ _ _ _ _ h HR.out h0 h1).mono ?_
        rintro e w' ⟨rfl, rfl⟩
        rw [HF.out]
        go_wp2_with fail
        go_ret
        exact ⟨rfl, rfl⟩

end Go.Proofs.YtneeljhjfmcdoaaDoor

/-! The heap: Put, New. -/
namespace Go.Proofs.YtneeljhjfmcdoaaDoor
open Go.RowKit

theorem raw_cls {S : Hp} (hS : S.Ok) {r i v : Int} (hr : S.is r = true) (h0 : 0 ≤ i) (h1 : i < S.num r) (q : Int) (hq : S.is q = true) : (S.raw r i v).cls q = S.cls q ∧ (S.raw r i v).num q = S.num q := by
  have hb : bhas S.bg (q - 1).toNat = true := by simp only [Hp.is, Bool.and_eq_true] at hq; exact hq.2
  unfold Hp.cls Hp.num
  rw [raw_head hS hr h0 h1 _ hb]
  exact ⟨rfl, rfl⟩

theorem raw_refB {S : Hp} (hS : S.Ok) {r i v : Int} (hr : S.is r = true) (h0 : 0 ≤ i) (h1 : i < S.num r) (q j : Int) : (S.raw r i v).refB q j = S.refB q j := by
  unfold Hp.refB
  rw [raw_is]
  by_cases hq : S.is q = true
  · obtain ⟨e1, e2⟩ := raw_cls hS hr h0 h1 (v := v) q hq
    rw [e1, e2]
    rfl
  · rw [show S.is q = false by simpa using hq]
    simp

theorem raw_inY (S : Hp) (r i v q : Int) : (S.raw r i v).inY q = S.inY q := rfl

/-- A value of one object, behind a value laid. -/
theorem raw_get {S : Hp} (hS : S.Ok) {r i v : Int} (hr : S.is r = true) (h0 : 0 ≤ i) (h1 : i < S.num r) (q j : Int) (hq : S.is q = true) (hj : 0 ≤ j) (hj2 : j < S.num q) :
    (S.raw r i v).get q j = if q = r ∧ j = i then v else S.get q j := by
  obtain ⟨g1, g2, g3, g4, _⟩ := hS.le hr
  obtain ⟨k1, k2, k3, k4, _⟩ := hS.le hq
  have hb : bhas S.bg (r - 1).toNat = true := by simp only [Hp.is, Bool.and_eq_true] at hr; exact hr.2
  have hbq : bhas S.bg (q - 1).toNat = true := by simp only [Hp.is, Bool.and_eq_true] at hq; exact hq.2
  show (S.A.set (r + 1 + i).toNat v).getD (q + 1 + j).toNat 0 = if q = r ∧ j = i then v else S.A.getD (q + 1 + j).toNat 0
  rw [getD_set _ _ _ _ (by omega)]
  unfold Hp.num at *
  by_cases c : q = r ∧ j = i
  · rw [if_pos c, if_pos (by omega)]
  · rw [if_neg c, if_neg]
    intro e
    by_cases hqr : (q - 1).toNat = (r - 1).toNat
    · exact c (by omega)
    · rcases Nat.lt_or_gt_of_ne hqr with h | h
      · have := hS.disj _ _ hbq hb h; omega
      · have := hS.disj _ _ hb hbq h; omega

theorem badd_same (ws : List Nat) (i : Nat) (h : bhas ws i = true) (_hl : i / 64 < ws.length) : badd ws i = ws := by
  unfold badd
  have e : ws.getD (i / 64) 0 ||| 2 ^ (i % 64) = ws.getD (i / 64) 0 := by
    apply Nat.eq_of_testBit_eq
    intro j
    rw [Nat.testBit_or, Nat.testBit_two_pow]
    unfold bhas at h
    by_cases c : i % 64 = j
    · subst c; rw [h]; rfl
    · simp [c]
  rw [e]
  apply List.ext_getElem?
  intro j
  rw [List.getElem?_set]
  by_cases c : i / 64 = j
  · subst c
    simp [_hl]
  · rw [if_neg c]

/-- The heap behind a value that is put. -/
def Hp.marked (S : Hp) (r i v : Int) : Bool := S.refB r i && !(S.inY r) && S.inY v
def Hp.put (S : Hp) (r i v : Int) : Hp := if S.marked r i v then { S.raw r i v with mr := badd S.mr (r - 1).toNat } else S.raw r i v

theorem Hp.Ok.mark {S : Hp} (h : S.Ok) (m : List Nat) : ({ S with mr := m } : Hp).Ok :=
  ⟨h.len, h.few, h.small, h.now, h.y0, h.y1, h.y2, h.a0, h.a1, h.a2, h.b0, h.b1, h.b2, h.b3, h.heads, h.used, h.disj⟩

theorem addAny (b g n : Nat) (x : Int) (ws : List Nat) (w : World) (h : SetAt w b g n ws) (h0 : 0 ≤ x) (h1 : x < n) :
    Calls Tryd.prog 39 #[.pointer (some ⟨b, 0, none⟩), .int .i64 x] w fun e w' => (∃ c, e = .returned (.bool c)) ∧ SetAt w' b g n (badd ws x.toNat) ∧ Upd [g] w w' := by
  by_cases c : bhas ws x.toNat = true
  · obtain ⟨k, rfl⟩ := Int.eq_ofNat_of_zero_le h0
    rw [Int.toNat_natCast] at *
    refine (add_old b g n k ws w h (by omega) c).mono ?_
    rintro e w' ⟨rfl, rfl⟩
    rw [badd_same ws k c (by have := h.2.2.2.1; omega)]
    exact ⟨⟨_, rfl⟩, h, Upd.refl _ _⟩
  · refine (add_newI b g n x ws w h h0 h1 (by simpa using c)).mono ?_
    rintro e w' ⟨rfl, h2, h3⟩
    exact ⟨⟨_, rfl⟩, h2, h3⟩

set_option maxRecDepth 100000 in
set_option maxHeartbeats 1000000 in
theorem put_yes (L : HL) (cv mv : Value) (S : Hp) (r i v : Int) (w : World) (h : HpAt w L cv mv S) (hm : S.mayRaw r i v = true) (hv : v ≤ 9223372036854775807) :
    Calls Tryd.prog 12 #[.pointer (some ⟨L.hb, 0, none⟩), .int .i64 r, .int .i64 i, .int .i64 v] w fun e w' => e = .returned (.bool true) ∧ HpAt w' L cv mv (S.put r i v) ∧ Upd [L.wb, L.mw] w w' := by
  have hm' := hm
  simp only [Hp.mayRaw, Bool.and_eq_true, decide_eq_true_eq] at hm'
  obtain ⟨⟨hr, h0, h1⟩, _⟩ := hm'
  obtain ⟨g1, g2, g3, g4, _⟩ := h.ok.le hr
  have hl := h.ok.len
  have HR := Lib.hid hr
  have HM := Lib.hid hm
  have HRB := Lib.hid (raw_refB h.ok hr h0 h1 (v := v))
  have HCN := Lib.hid (raw_cls h.ok hr h0 h1 (v := v) r hr)
  clear hr hm
  have hne := HL.ne h.nd
  have HNE := Lib.hid hne
  clear hne
  by_cases c1 : S.refB r i = true
  · by_cases c2 : S.inY r = true
    · have HE : Hid (S.put r i v = S.raw r i v) := by show _ = _; unfold Hp.put Hp.marked; rw [c1, c2]; rfl
      have C1 := Lib.hid c1
      have C2 := Lib.hid c2
      clear c1 c2
      go_enter Tryd.func12, Tryd.ntmps12
      go_wp2_with fail
      refine (raw_yes _ _ _ _ _ _ _ _ h HM.out).mono ?_
      rintro e w1 ⟨rfl, hh, hu⟩
      go_wp2_with fail
      refine (ref_some _ _ _ _ _ _ _ hh (by rw [raw_is]; exact HR.out) h0 (by rw [HCN.out.2]; exact h1)).mono ?_
      rintro e w' ⟨rfl, rfl⟩
      rw [HRB.out, C1.out]
      go_wp2_with fail
      refine (inYoung_any _ _ _ _ _ _ hh (by omega)).mono ?_
      rintro e w' ⟨rfl, rfl⟩
      rw [raw_inY, C2.out]
      go_wp2_with fail
      go_ret
      exact ⟨rfl, by rw [HE.out]; exact hh, hu.mono (by simp)⟩
    · have c2' : S.inY r = false := by simpa using c2
      by_cases c3 : S.inY v = true
      · have HE : Hid (S.put r i v = { S.raw r i v with mr := badd S.mr (r - 1).toNat }) := by show _ = _; unfold Hp.put Hp.marked; rw [c1, c2', c3]; rfl
        have C1 := Lib.hid c1
        have C2 := Lib.hid c2'
        have C3 := Lib.hid c3
        clear c1 c2 c2' c3
        go_enter Tryd.func12, Tryd.ntmps12
        go_wp2_with fail
        refine (raw_yes _ _ _ _ _ _ _ _ h HM.out).mono ?_
        rintro e w1 ⟨rfl, hh, hu⟩
        go_wp2_with fail
        refine (ref_some _ _ _ _ _ _ _ hh (by rw [raw_is]; exact HR.out) h0 (by rw [HCN.out.2]; exact h1)).mono ?_
        rintro e w' ⟨rfl, rfl⟩
        rw [HRB.out, C1.out]
        go_wp2_with fail
        refine (inYoung_any _ _ _ _ _ _ hh (by omega)).mono ?_
        rintro e w' ⟨rfl, rfl⟩
        rw [raw_inY, C2.out]
        go_wp2_with fail
        refine (inYoung_any _ _ _ _ _ _ hh hv).mono ?_
        rintro e w' ⟨rfl, rfl⟩
        rw [raw_inY, C3.out]
        have c14 := hh.c14
        go_wp2_with fail
        refine (addAny _ _ _ _ _ _ hh.mr (by omega) (by rw [raw_len]; omega)).mono ?_
        rintro e w2 ⟨⟨cc, rfl⟩, h2, hu2⟩
        have hfin : HpAt w2 L cv mv { S.raw r i v with mr := badd S.mr (r - 1).toNat } := by
          obtain ⟨⟨n1, n2, n3, n4, n5, n6, n7⟩, ⟨p1, p2, p3, p4, p5, p6⟩, ⟨r1, r2, r3, r4, r5⟩, ⟨q1, q2, q3, q4⟩⟩ := HNE.out
          have m1 : ∀ b, b ≠ L.mw → b ∉ [L.mw] := fun b hb => by simpa using hb
          exact ⟨hu2.heap hh.hb (m1 _ n6), hh.ar.upd hu2 (m1 _ (Ne.symm q1)) (m1 _ p5), hh.bg.upd hu2 (m1 _ (Ne.symm q2)) (m1 _ r4), h2, hh.cls.upd hu2 (m1 _ (Ne.symm q4)), hh.nd, hh.ok.mark _⟩
        clear h2 c14
        go_wp2_with fail
        go_ret
        exact ⟨rfl, by rw [HE.out]; exact hfin, (hu.mono (by simp)).trans (hu2.mono (by simp))⟩
      · have c3' : S.inY v = false := by simpa using c3
        have HE : Hid (S.put r i v = S.raw r i v) := by show _ = _; unfold Hp.put Hp.marked; rw [c1, c2', c3']; rfl
        have C1 := Lib.hid c1
        have C2 := Lib.hid c2'
        have C3 := Lib.hid c3'
        clear c1 c2 c2' c3 c3'
        go_enter Tryd.func12, Tryd.ntmps12
        go_wp2_with fail
        refine (raw_yes _ _ _ _ _ _ _ _ h HM.out).mono ?_
        rintro e w1 ⟨rfl, hh, hu⟩
        go_wp2_with fail
        refine (ref_some _ _ _ _ _ _ _ hh (by rw [raw_is]; exact HR.out) h0 (by rw [HCN.out.2]; exact h1)).mono ?_
        rintro e w' ⟨rfl, rfl⟩
        rw [HRB.out, C1.out]
        go_wp2_with fail
        refine (inYoung_any _ _ _ _ _ _ hh (by omega)).mono ?_
        rintro e w' ⟨rfl, rfl⟩
        rw [raw_inY, C2.out]
        go_wp2_with fail
        refine (inYoung_any _ _ _ _ _ _ hh hv).mono ?_
        rintro e w' ⟨rfl, rfl⟩
        rw [raw_inY, C3.out]
        go_wp2_with fail
        go_ret
        exact ⟨rfl, by rw [HE.out]; exact hh, hu.mono (by simp)⟩
  · have c1' : S.refB r i = false := by simpa using c1
    have HE : Hid (S.put r i v = S.raw r i v) := by show _ = _; unfold Hp.put Hp.marked; rw [c1']; rfl
    have C1 := Lib.hid c1'
    clear c1 c1'
    go_enter Tryd.func12, Tryd.ntmps12
    go_wp2_with fail
    refine (raw_yes _ _ _ _ _ _ _ _ h HM.out).mono ?_
    rintro e w1 ⟨rfl, hh, hu⟩
    go_wp2_with fail
    refine (ref_some _ _ _ _ _ _ _ hh (by rw [raw_is]; exact HR.out) h0 (by rw [HCN.out.2]; exact h1)).mono ?_
    rintro e w' ⟨rfl, rfl⟩
    rw [HRB.out, C1.out]
    go_wp2_with fail
    go_ret
    exact ⟨rfl, by rw [HE.out]; exact hh, hu.mono (by simp)⟩

set_option maxHeartbeats 400000 in
theorem put_no (L : HL) (cv mv : Value) (S : Hp) (r i v : Int) (w : World) (h : HpAt w L cv mv S) (hm : S.mayRaw r i v = false) (hb : r ≤ 9223372036854775807) :
    Calls Tryd.prog 12 #[.pointer (some ⟨L.hb, 0, none⟩), .int .i64 r, .int .i64 i, .int .i64 v] w fun e w' => e = .returned (.bool false) ∧ w = w' := by
  have HM := Lib.hid hm
  clear hm
  go_enter Tryd.func12, Tryd.ntmps12
  go_wp2_with fail
  refine (raw_no _ _ _ _ _ _ _ _ h HM.out hb).mono ?_
  rintro e w' ⟨rfl, rfl⟩
  go_wp2_with fail
  go_ret
  exact ⟨rfl, rfl⟩

end Go.Proofs.YtneeljhjfmcdoaaDoor
