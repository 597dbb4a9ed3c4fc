/- The heap: Young, Old, Room, Size, Raw, Put. -/
import Derived.Test.YtneeljhjfmcdoaaDoorHeap4
namespace Go.Proofs.YtneeljhjfmcdoaaDoor
open Go.RowKit

/-- The number of the half that is used, as a space. -/
def Hp.oldK (S : Hp) : Nat := if S.now = 0 then 1 else 2
theorem oldK_lt (S : Hp) : S.oldK < 3 := by unfold Hp.oldK; split <;> omega
theorem oldO_eq (S : Hp) : S.oldO = 3 + 3 * S.oldK := by unfold Hp.oldO Hp.oldK; split <;> rfl
theorem sp_oldK {S : Hp} : S.sp S.oldK = S.old := by unfold Hp.oldK Hp.old; split <;> rfl

set_option maxHeartbeats 400000 in
theorem young_yes (L : HL) (cv mv : Value) (S : Hp) (c n wd : Int) (w : World) (h : HpAt w L cv mv S) (hwd : Hid (S.words c n = wd)) (hw1 : 1 ≤ wd) (hw2 : wd ≤ S.y.to - S.y.top) :
    Calls Tryd.prog 11 #[.pointer (some ⟨L.hb, 0, none⟩), .int .i64 c, .int .i64 n] w fun e w' => e = .returned (.tuple #[.int .i64 (S.y.top + 1), .bool true]) ∧ HpAt w' L cv mv (S.laid 0 c wd) ∧ Upd [L.hb, L.wb, L.bw] w w' := by
  go_enter Tryd.func11, Tryd.ntmps11
  go_wp2_with fail
  refine (lay_yes _ _ _ _ 0 (by omega) _ _ _ _ h hwd hw1 hw2).mono ?_
  rintro e w1 ⟨rfl, h1, hu⟩
  go_wp2_with fail
  go_ret2
  exact ⟨rfl, h1, hu⟩

set_option maxHeartbeats 400000 in
theorem young_no (L : HL) (cv mv : Value) (S : Hp) (c n : Int) (w : World) (h : HpAt w L cv mv S) (hno : S.words c n = 0 ∨ S.y.to - S.y.top < S.words c n) :
    Calls Tryd.prog 11 #[.pointer (some ⟨L.hb, 0, none⟩), .int .i64 c, .int .i64 n] w fun e w' => e = .returned (.tuple #[.int .i64 0, .bool false]) ∧ Upd [] w w' := by
  go_enter Tryd.func11, Tryd.ntmps11
  go_wp2_with fail
  refine (lay_no _ _ _ _ 0 (by omega) _ _ _ h hno).mono ?_
  rintro e w1 ⟨rfl, hu⟩
  go_wp2_with fail
  go_ret2
  exact ⟨rfl, hu⟩

set_option maxHeartbeats 400000 in
theorem old_yes (L : HL) (cv mv : Value) (S : Hp) (c n wd : Int) (w : World) (h : HpAt w L cv mv S) (hwd : Hid (S.words c n = wd)) (hw1 : 1 ≤ wd) (hw2 : wd ≤ S.old.to - S.old.top) :
    Calls Tryd.prog 20 #[.pointer (some ⟨L.hb, 0, none⟩), .int .i64 c, .int .i64 n] w fun e w' => e = .returned (.tuple #[.int .i64 (S.old.top + 1), .bool true]) ∧ HpAt w' L cv mv (S.laid S.oldK c wd) ∧ Upd [L.hb, L.wb, L.bw] w w' := by
  have H := Lib.hid (fun m => lay_yes L cv mv S S.oldK (oldK_lt S) c n wd (w.drewN m) (h.upd0 ((Upd.refl _ _).drewN m)) hwd hw1 (by rw [sp_oldK]; exact hw2))
  rw [sp_oldK, ← oldO_eq] at H
  go_enter Tryd.func20, Tryd.ntmps20
  go_wp2_with fail
  refine (old_any _ _ _ _ _ h).mono ?_
  rintro e w0 ⟨rfl, m, rfl⟩
  go_wp2_with fail
  refine (H.out m).mono ?_
  rintro e w1 ⟨rfl, h1, hu⟩
  go_wp2_with fail
  go_ret2
  exact ⟨rfl, h1, ((Upd.refl _ _).drewN m).trans hu⟩

set_option maxHeartbeats 400000 in
theorem old_no (L : HL) (cv mv : Value) (S : Hp) (c n : Int) (w : World) (h : HpAt w L cv mv S) (hno : S.words c n = 0 ∨ S.old.to - S.old.top < S.words c n) :
    Calls Tryd.prog 20 #[.pointer (some ⟨L.hb, 0, none⟩), .int .i64 c, .int .i64 n] w fun e w' => e = .returned (.tuple #[.int .i64 0, .bool false]) ∧ Upd [] w w' := by
  have H := Lib.hid (fun m => lay_no L cv mv S S.oldK (oldK_lt S) c n (w.drewN m) (h.upd0 ((Upd.refl _ _).drewN m)) (by rw [sp_oldK]; exact hno))
  rw [← oldO_eq] at H
  go_enter Tryd.func20, Tryd.ntmps20
  go_wp2_with fail
  refine (old_any _ _ _ _ _ h).mono ?_
  rintro e w0 ⟨rfl, m, rfl⟩
  go_wp2_with fail
  refine (H.out m).mono ?_
  rintro e w1 ⟨rfl, hu⟩
  go_wp2_with fail
  go_ret2
  exact ⟨rfl, ((Upd.refl _ _).drewN m).trans hu⟩

set_option maxHeartbeats 400000 in
theorem hroom_any (L : HL) (cv mv : Value) (S : Hp) (w : World) (h : HpAt w L cv mv S) :
    Calls Tryd.prog 24 #[.pointer (some ⟨L.hb, 0, none⟩)] w fun e w' => e = .returned (.tuple #[.int .i64 (S.y.to - S.y.top), .int .i64 (S.old.to - S.old.top)]) ∧ ∃ n, w' = w.drewN n := by
  have hok := h.ok
  obtain ⟨s0, s1, s2, s3⟩ := hok.sp0 0
  obtain ⟨r0, r1, r2, r3⟩ := hok.sp0 S.oldK
  obtain ⟨c0, c1, c2⟩ := sp_cells h.hb S.oldK (oldK_lt S)
  rw [sp_oldK] at c1 c2 r0 r1 r2 r3
  rw [← oldO_eq] at c1 c2
  have hl := hok.len
  have c4 := h.c4
  have c5 := h.c5
  go_enter Tryd.func24, Tryd.ntmps24
  go_wp2_with fail
  refine (room_any _ 3 _ _ _ (by simp only [Hp.sp] at *; omega) (by simp only [Hp.sp] at *; omega) (by simp only [Hp.sp] at *; omega) c4 c5).mono ?_
  rintro e w0 ⟨rfl, m, rfl⟩
  go_wp2_with fail
  refine (old_any L cv mv S _ (h.upd0 ((Upd.refl _ _).drewN m))).mono ?_
  rintro e w0 ⟨rfl, m2, rfl⟩
  go_wp2_with fail
  refine (room_any _ _ _ _ (w.drewN (m + m2)) (by omega) r2 (by omega) c1 c2).mono ?_
  rintro e w0 ⟨rfl, m3, rfl⟩
  go_wp2_with fail
  go_ret2
  exact ⟨rfl, _, rfl⟩

set_option maxHeartbeats 400000 in
theorem size_any (L : HL) (cv mv : Value) (S : Hp) (w : World) (h : HpAt w L cv mv S) :
    Calls Tryd.prog 25 #[.pointer (some ⟨L.hb, 0, none⟩)] w fun e w' => e = .returned (.tuple #[.int .i64 (S.y.to - S.y.fr), .int .i64 (S.h0.to - S.h0.fr)]) ∧ ∃ n, w' = w.drewN n := by
  obtain ⟨s0, s1, s2, s3⟩ := h.ok.sp0 0
  obtain ⟨r0, r1, r2, r3⟩ := h.ok.sp0 1
  simp only [Hp.sp] at s0 s1 s2 s3 r0 r1 r2 r3
  have hl := h.ok.len
  have c3 := h.c3
  have c4 := h.c4
  have c6 := h.c6
  have c7 := h.c7
  have q1 : IntKind.i64.wrap (S.y.to - S.y.fr) = S.y.to - S.y.fr := IntWalk.i64_in _ (by omega)
  have q2 : IntKind.i64.wrap (S.h0.to - S.h0.fr) = S.h0.to - S.h0.fr := IntWalk.i64_in _ (by omega)
  go_enter Tryd.func25, Tryd.ntmps25
  go_wp2_with fail
  go_quiet (fail)
  go_wp2_with fail
  go_ret2
  exact ⟨rfl, _, rfl⟩

/-- The heap behind a value that is laid. -/
def Hp.raw (S : Hp) (r i v : Int) : Hp := { S with A := S.A.set (r + 1 + i).toNat v }

section
variable (S : Hp) (r i v : Int)
@[simp] theorem raw_is (q : Int) : (S.raw r i v).is q = S.is q := rfl
@[simp] theorem raw_len : (S.raw r i v).A.length = S.A.length := by simp [Hp.raw]
theorem raw_sp (k : Nat) : (S.raw r i v).sp k = S.sp k := by unfold Hp.sp; match k with | 0 => rfl | 1 => rfl | _ + 2 => rfl
end

theorem raw_head {S : Hp} (hS : S.Ok) {r i v : Int} (hr : S.is r = true) (h0 : 0 ≤ i) (h1 : i < S.num r) (a : Nat) (ha : bhas S.bg a = true) : (S.raw r i v).A.getD a 0 = S.A.getD a 0 := by
  obtain ⟨g1, g2, g3, g4, _⟩ := hS.le hr
  have hb : bhas S.bg (r - 1).toNat = true := by simp only [Hp.is, Bool.and_eq_true] at hr; exact hr.2
  show (S.A.set (r + 1 + i).toNat v).getD a 0 = _
  rw [getD_set _ _ _ _ (by omega), if_neg]
  intro e
  have hn := h1
  unfold Hp.num at hn
  by_cases c : (r - 1).toNat < a
  · have := hS.disj _ _ hb ha c
    omega
  · omega

theorem raw_ok {S : Hp} (hS : S.Ok) {r i v : Int} (hr : S.is r = true) (h0 : 0 ≤ i) (h1 : i < S.num r) : (S.raw r i v).Ok := by
  have hh := fun a ha => raw_head hS hr h0 h1 (v := v) a ha
  refine ⟨by rw [raw_len]; exact hS.len, hS.few, hS.small, hS.now, hS.y0, hS.y1, hS.y2, hS.a0, hS.a1, hS.a2, hS.b0, hS.b1, hS.b2, by rw [raw_len]; exact hS.b3, ?_, ?_, ?_⟩
  · intro a ha
    unfold Hp.headAt
    rw [hh a ha, raw_len]
    exact hS.heads a ha
  · intro a ha
    rw [hh a ha]
    obtain ⟨k, hk, u⟩ := hS.used a ha
    exact ⟨k, hk, by rw [raw_sp]; exact u⟩
  · intro a b ha hb hab
    rw [hh a ha]
    exact hS.disj a b ha hb hab

theorem HpAt.raw {w w' : World} {L : HL} {cv mv : Value} {S : Hp} (h : HpAt w L cv mv S) {r i v : Int} (hr : S.is r = true) (h0 : 0 ≤ i) (h1 : i < S.num r) (ha : ArAt w' L.ab L.wb (S.A.set (r + 1 + i).toNat v)) (hu : Upd [L.wb] w w') : HpAt w' L cv mv (S.raw r i v) := by
  obtain ⟨⟨n1, n2, n3, n4, n5, n6, n7⟩, ⟨p1, p2, p3, p4, p5, p6⟩, _⟩ := HL.ne h.nd
  have m1 : ∀ b, b ≠ L.wb → b ∉ [L.wb] := fun b hb => by simpa using hb
  refine ⟨hu.heap h.hb (m1 _ n2), ha, ?_, ?_, h.cls.upd hu (m1 _ (Ne.symm p6)), h.nd, raw_ok h.ok hr h0 h1⟩
  · rw [raw_len]; exact h.bg.upd hu (m1 _ (Ne.symm p2)) (m1 _ (Ne.symm p3))
  · rw [raw_len]; exact h.mr.upd hu (m1 _ (Ne.symm p4)) (m1 _ (Ne.symm p5))

/-- May the value be laid there? -/
def Hp.mayRaw (S : Hp) (r i v : Int) : Bool :=
  S.is r && decide (0 ≤ i ∧ i < S.num r) && (!(S.refB r i) || decide (v = 0) || decide (1 ≤ v ∧ v ≤ 65536) && S.is v)

set_option maxRecDepth 100000 in
set_option maxHeartbeats 1000000 in
theorem raw_yes (L : HL) (cv mv : Value) (S : Hp) (r i v : Int) (w : World) (h : HpAt w L cv mv S) (hm : S.mayRaw r i v = true) :
    Calls Tryd.prog 38 #[.pointer (some ⟨L.hb, 0, none⟩), .int .i64 r, .int .i64 i, .int .i64 v] w fun e w' => e = .returned (.bool true) ∧ HpAt w' L cv mv (S.raw r i v) ∧ Upd [L.wb] w w' := by
  simp only [Hp.mayRaw, Bool.and_eq_true, Bool.or_eq_true, decide_eq_true_eq, Bool.not_eq_true'] at hm
  obtain ⟨⟨hr, h0, h1⟩, hor⟩ := hm
  obtain ⟨g1, g2, g3, g4, _⟩ := h.ok.le hr
  have hl := h.ok.len
  have c2 := h.c2
  have HR := Lib.hid hr
  clear hr
  have fin : Hid (Calls Tryd.prog 70 #[.pointer (some ⟨L.ab, 0, none⟩), .int .i64 (r + 1 + i), .int .i64 v] w fun e w' => e = .returned (.bool true) ∧ HpAt w' L cv mv (S.raw r i v) ∧ Upd [L.wb] w w') := by
    refine (store_in _ _ _ _ v _ h.ar (by omega) (by omega)).mono ?_
    rintro e w' ⟨rfl, ha, hu⟩
    exact ⟨rfl, h.raw HR.out h0 h1 ha hu, hu⟩
  by_cases hf : S.refB r i = true
  · have HF := Lib.hid hf
    have hor' : v = 0 ∨ (1 ≤ v ∧ v ≤ 65536) ∧ S.is v = true := by
      rcases hor with (h | h) | h
      · rw [hf] at h; cases h
      · exact .inl h
      · exact .inr h
    clear hor hf
    by_cases hv0 : v = 0
    · have e0 : (v != 0) = false := by rw [hv0]; rfl
      clear hor' hv0
      go_enter Tryd.func38, Tryd.ntmps38
      go_wp2_with fail
      refine (value_yes _ _ _ _ _ _ _ h HR.out h0 h1).mono ?_
      rintro e w' ⟨rfl, rfl⟩
      go_wp2_with fail
      refine (ref_some _ _ _ _ _ _ _ h HR.out h0 h1).mono ?_
      rintro e w' ⟨rfl, rfl⟩
      rw [HF.out]
      go_wp2_with fail
      refine fin.out.mono ?_
      rintro e w1 ⟨rfl, h1', hu⟩
      go_wp2_with fail
      go_ret
      exact ⟨rfl, h1', hu⟩
    · have e0 : (v != 0) = true := by rw [bne_iff_ne]; exact hv0
      obtain ⟨⟨v1, v2⟩, v3⟩ := hor'.resolve_left hv0
      have HV := Lib.hid v3
      clear hor' hv0 v3
      go_enter Tryd.func38, Tryd.ntmps38
      go_wp2_with fail
      refine (value_yes _ _ _ _ _ _ _ h HR.out h0 h1).mono ?_
      rintro e w' ⟨rfl, rfl⟩
      go_wp2_with fail
      refine (ref_some _ _ _ _ _ _ _ h HR.out h0 h1).mono ?_
      rintro e w' ⟨rfl, rfl⟩
      rw [HF.out]
      go_wp2_with fail
      refine (is_yes _ _ _ _ _ _ h HV.out).mono ?_
      rintro e w' ⟨rfl, rfl⟩
      go_wp2_with fail
      refine fin.out.mono ?_
      rintro e w1 ⟨rfl, h1', hu⟩
      go_wp2_with fail
      go_ret
      exact ⟨rfl, h1', hu⟩
  · have HF := Lib.hid (show S.refB r i = false by simpa using hf)
    clear hor hf
    go_enter Tryd.func38, Tryd.ntmps38
    go_wp2_with fail
    refine (value_yes _ _ _ _ _ _ _ h HR.out h0 h1).mono ?_
    rintro e w' ⟨rfl, rfl⟩
    go_wp2_with fail
    refine (ref_some _ _ _ _ _ _ _ h HR.out h0 h1).mono ?_
    rintro e w' ⟨rfl, rfl⟩
    rw [HF.out]
    go_wp2_with fail
    refine fin.out.mono ?_
    rintro e w1 ⟨rfl, h1', hu⟩
    go_wp2_with fail
    go_ret
    exact ⟨rfl, h1', hu⟩

set_option maxRecDepth 100000 in
set_option maxHeartbeats 1000000 in
theorem raw_no (L : HL) (cv mv : Value) (S : Hp) (r i v : Int) (w : World) (h : HpAt w L cv mv S) (hm : S.mayRaw r i v = false) (hb : r ≤ 9223372036854775807) :
    Calls Tryd.prog 38 #[.pointer (some ⟨L.hb, 0, none⟩), .int .i64 r, .int .i64 i, .int .i64 v] w fun e w' => e = .returned (.bool false) ∧ w = w' := by
  by_cases hno : S.is r = false ∨ i < 0 ∨ S.num r ≤ i
  · clear hm
    have HNO := Lib.hid hno
    clear hno
    go_enter Tryd.func38, Tryd.ntmps38
    go_wp2_with fail
    refine (value_no _ _ _ _ _ _ _ h HNO.out hb).mono ?_
    rintro e w' ⟨rfl, rfl⟩
    go_wp2_with fail
    go_ret
    exact ⟨rfl, rfl⟩
  · have hr : S.is r = true := by
      cases hh : S.is r with
      | true => rfl
      | false => exact absurd (.inl hh) hno
    have h0 : 0 ≤ i := by
      rcases Int.lt_or_le i 0 with h | h
      · exact absurd (.inr (.inl h)) hno
      · exact h
    have h1 : i < S.num r := by
      rcases Int.lt_or_le i (S.num r) with h | h
      · exact h
      · exact absurd (.inr (.inr h)) hno
    have hm2 : (!(S.refB r i) || decide (v = 0) || decide (1 ≤ v ∧ v ≤ 65536) && S.is v) = false := by
      unfold Hp.mayRaw at hm
      rw [hr, decide_eq_true (show 0 ≤ i ∧ i < S.num r from ⟨h0, h1⟩)] at hm
      simpa using hm
    have hf : S.refB r i = true := by
      cases hh : S.refB r i with
      | true => rfl
      | false => rw [hh] at hm2; simp at hm2
    rw [hf] at hm2
    simp only [Bool.not_true, Bool.false_or, Bool.or_eq_false_iff, decide_eq_false_iff_not, Bool.and_eq_false_iff] at hm2
    obtain ⟨hv0, hv⟩ := hm2
    have e0 : (v != 0) = true := by rw [bne_iff_ne]; exact hv0
    have HR := Lib.hid hr
    have HF := Lib.hid hf
    clear hr hf hno hm hv0
    by_cases hv1 : 1 ≤ v ∧ v ≤ 65536
    · have hv2 : S.is v = false := by
        rcases hv with h | h
        · exact absurd hv1 h
        · exact h
      have HV := Lib.hid hv2
      clear hv hv2
      go_enter Tryd.func38, Tryd.ntmps38
      go_wp2_with fail
      refine (value_yes _ _ _ _ _ _ _ h HR.out h0 h1).mono ?_
      rintro e w' ⟨rfl, rfl⟩
      go_wp2_with fail
      refine (ref_some _ _ _ _ _ _ _ h HR.out h0 h1).mono ?_
      rintro e w' ⟨rfl, rfl⟩
      rw [HF.out]
      go_wp2_with fail
      refine (is_no _ _ _ _ _ _ h HV.out (by omega)).mono ?_
      rintro e w' ⟨rfl, rfl⟩
      go_wp2_with fail
      go_ret
      exact ⟨rfl, rfl⟩
    · clear hv
      by_cases hv3 : v < 1
      · go_enter Tryd.func38, Tryd.ntmps38
        go_wp2_with fail
        refine (value_yes _ _ _ _ _ _ _ h HR.out h0 h1).mono ?_
        rintro e w' ⟨rfl, rfl⟩
        go_wp2_with fail
        refine (ref_some _ _ _ _ _ _ _ h HR.out h0 h1).mono ?_
        rintro e w' ⟨rfl, rfl⟩
        rw [HF.out]
        go_wp2_with fail
        go_ret
        exact ⟨rfl, rfl⟩
      · go_enter Tryd.func38, Tryd.ntmps38
        go_wp2_with fail
        refine (value_yes _ _ _ _ _ _ _ h HR.out h0 h1).mono ?_
        rintro e w' ⟨rfl, rfl⟩
        go_wp2_with fail
        refine (ref_some _ _ _ _ _ _ _ h HR.out h0 h1).mono ?_
        rintro e w' ⟨rfl, rfl⟩
        rw [HF.out]
        go_wp2_with fail
        go_ret
        exact ⟨rfl, rfl⟩

end Go.Proofs.YtneeljhjfmcdoaaDoor
