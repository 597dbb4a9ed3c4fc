/- The heap: Put, New. -/
import Derived.Test.YtneeljhjfmcdoaaDoorHeap5
import Derived.Deep.RegionHeld3
namespace Go.Proofs.YtneeljhjfmcdoaaDoor
open Go.RowKit

theorem raw_cls {S : Hp} (hS : S.Ok) {r i v : Int} (hr : S.is r = true) (h0 : 0 ≤ i) (h1 : i < S.num r) (q : Int) (hq : S.is q = true) : (S.raw r i v).cls q = S.cls q ∧ (S.raw r i v).num q = S.num q := by
  have hb : bhas S.bg (q - 1).toNat = true := by simp only [Hp.is, Bool.and_eq_true] at hq; exact hq.2
  unfold Hp.cls Hp.num
  rw [raw_head hS hr h0 h1 _ hb]
  exact ⟨rfl, rfl⟩

theorem raw_refB {S : Hp} (hS : S.Ok) {r i v : Int} (hr : S.is r = true) (h0 : 0 ≤ i) (h1 : i < S.num r) (q j : Int) : (S.raw r i v).refB q j = S.refB q j := by
  unfold Hp.refB
  rw [raw_is]
  by_cases hq : S.is q = true
  · obtain ⟨e1, e2⟩ := raw_cls hS hr h0 h1 (v := v) q hq
    rw [e1, e2]
    rfl
  · rw [show S.is q = false by simpa using hq]
    simp

theorem raw_inY (S : Hp) (r i v q : Int) : (S.raw r i v).inY q = S.inY q := rfl

/-- A value of one object, behind a value laid. -/
theorem raw_get {S : Hp} (hS : S.Ok) {r i v : Int} (hr : S.is r = true) (h0 : 0 ≤ i) (h1 : i < S.num r) (q j : Int) (hq : S.is q = true) (hj : 0 ≤ j) (hj2 : j < S.num q) :
    (S.raw r i v).get q j = if q = r ∧ j = i then v else S.get q j := by
  obtain ⟨g1, g2, g3, g4, _⟩ := hS.le hr
  obtain ⟨k1, k2, k3, k4, _⟩ := hS.le hq
  have hb : bhas S.bg (r - 1).toNat = true := by simp only [Hp.is, Bool.and_eq_true] at hr; exact hr.2
  have hbq : bhas S.bg (q - 1).toNat = true := by simp only [Hp.is, Bool.and_eq_true] at hq; exact hq.2
  show (S.A.set (r + 1 + i).toNat v).getD (q + 1 + j).toNat 0 = if q = r ∧ j = i then v else S.A.getD (q + 1 + j).toNat 0
  rw [getD_set _ _ _ _ (by omega)]
  unfold Hp.num at *
  by_cases c : q = r ∧ j = i
  · rw [if_pos c, if_pos (by omega)]
  · rw [if_neg c, if_neg]
    intro e
    by_cases hqr : (q - 1).toNat = (r - 1).toNat
    · exact c (by omega)
    · rcases Nat.lt_or_gt_of_ne hqr with h | h
      · have := hS.disj _ _ hbq hb h; omega
      · have := hS.disj _ _ hb hbq h; omega

theorem badd_same (ws : List Nat) (i : Nat) (h : bhas ws i = true) (_hl : i / 64 < ws.length) : badd ws i = ws := by
  unfold badd
  have e : ws.getD (i / 64) 0 ||| 2 ^ (i % 64) = ws.getD (i / 64) 0 := by
    apply Nat.eq_of_testBit_eq
    intro j
    rw [Nat.testBit_or, Nat.testBit_two_pow]
    unfold bhas at h
    by_cases c : i % 64 = j
    · subst c; rw [h]; rfl
    · simp [c]
  rw [e]
  apply List.ext_getElem?
  intro j
  rw [List.getElem?_set]
  by_cases c : i / 64 = j
  · subst c
    simp [_hl]
  · rw [if_neg c]

/-- The heap behind a value that is put. -/
def Hp.marked (S : Hp) (r i v : Int) : Bool := S.refB r i && !(S.inY r) && S.inY v
def Hp.put (S : Hp) (r i v : Int) : Hp := if S.marked r i v then { S.raw r i v with mr := badd S.mr (r - 1).toNat } else S.raw r i v

theorem Hp.Ok.mark {S : Hp} (h : S.Ok) (m : List Nat) : ({ S with mr := m } : Hp).Ok :=
  ⟨h.len, h.few, h.small, h.now, h.y0, h.y1, h.y2, h.a0, h.a1, h.a2, h.b0, h.b1, h.b2, h.b3, h.heads, h.used, h.disj⟩

theorem addAny (b g n : Nat) (x : Int) (ws : List Nat) (w : World) (h : SetAt w b g n ws) (h0 : 0 ≤ x) (h1 : x < n) :
    Calls Tryd.prog 39 #[.pointer (some ⟨b, 0, none⟩), .int .i64 x] w fun e w' => (∃ c, e = .returned (.bool c)) ∧ SetAt w' b g n (badd ws x.toNat) ∧ Upd [g] w w' := by
  by_cases c : bhas ws x.toNat = true
  · obtain ⟨k, rfl⟩ := Int.eq_ofNat_of_zero_le h0
    rw [Int.toNat_natCast] at *
    refine (add_old b g n k ws w h (by omega) c).mono ?_
    rintro e w' ⟨rfl, rfl⟩
    rw [badd_same ws k c (by have := h.2.2.2.1; omega)]
    exact ⟨⟨_, rfl⟩, h, Upd.refl _ _⟩
  · refine (add_newI b g n x ws w h h0 h1 (by simpa using c)).mono ?_
    rintro e w' ⟨rfl, h2, h3⟩
    exact ⟨⟨_, rfl⟩, h2, h3⟩

set_option maxRecDepth 100000 in
set_option maxHeartbeats 1000000 in
theorem put_yes (L : HL) (cv mv : Value) (S : Hp) (r i v : Int) (w : World) (h : HpAt w L cv mv S) (hm : S.mayRaw r i v = true) (hv : v ≤ 9223372036854775807) :
    Calls Tryd.prog 12 #[.pointer (some ⟨L.hb, 0, none⟩), .int .i64 r, .int .i64 i, .int .i64 v] w fun e w' => e = .returned (.bool true) ∧ HpAt w' L cv mv (S.put r i v) ∧ Upd [L.wb, L.mw] w w' := by
  have hm' := hm
  simp only [Hp.mayRaw, Bool.and_eq_true, decide_eq_true_eq] at hm'
  obtain ⟨⟨hr, h0, h1⟩, _⟩ := hm'
  obtain ⟨g1, g2, g3, g4, _⟩ := h.ok.le hr
  have hl := h.ok.len
  have HR := Lib.hid hr
  have HM := Lib.hid hm
  have HRB := Lib.hid (raw_refB h.ok hr h0 h1 (v := v))
  have HCN := Lib.hid (raw_cls h.ok hr h0 h1 (v := v) r hr)
  clear hr hm
  have hne := HL.ne h.nd
  have HNE := Lib.hid hne
  clear hne
  by_cases c1 : S.refB r i = true
  · by_cases c2 : S.inY r = true
    · have HE : Hid (S.put r i v = S.raw r i v) := by show _ = _; unfold Hp.put Hp.marked; rw [c1, c2]; rfl
      have C1 := Lib.hid c1
      have C2 := Lib.hid c2
      clear c1 c2
      go_enter Tryd.func12, Tryd.ntmps12
      go_wp2_with fail
      refine (raw_yes _ _ _ _ _ _ _ _ h HM.out).mono ?_
      rintro e w1 ⟨rfl, hh, hu⟩
      go_wp2_with fail
      refine (ref_some _ _ _ _ _ _ _ hh (by rw [raw_is]; exact HR.out) h0 (by rw [HCN.out.2]; exact h1)).mono ?_
      rintro e w' ⟨rfl, rfl⟩
      rw [HRB.out, C1.out]
      go_wp2_with fail
      refine (inYoung_any _ _ _ _ _ _ hh (by omega)).mono ?_
      rintro e w' ⟨rfl, rfl⟩
      rw [raw_inY, C2.out]
      go_wp2_with fail
      go_ret
      exact ⟨rfl, by rw [HE.out]; exact hh, hu.mono (by simp)⟩
    · have c2' : S.inY r = false := by simpa using c2
      by_cases c3 : S.inY v = true
      · have HE : Hid (S.put r i v = { S.raw r i v with mr := badd S.mr (r - 1).toNat }) := by show _ = _; unfold Hp.put Hp.marked; rw [c1, c2', c3]; rfl
        have C1 := Lib.hid c1
        have C2 := Lib.hid c2'
        have C3 := Lib.hid c3
        clear c1 c2 c2' c3
        go_enter Tryd.func12, Tryd.ntmps12
        go_wp2_with fail
        refine (raw_yes _ _ _ _ _ _ _ _ h HM.out).mono ?_
        rintro e w1 ⟨rfl, hh, hu⟩
        go_wp2_with fail
        refine (ref_some _ _ _ _ _ _ _ hh (by rw [raw_is]; exact HR.out) h0 (by rw [HCN.out.2]; exact h1)).mono ?_
        rintro e w' ⟨rfl, rfl⟩
        rw [HRB.out, C1.out]
        go_wp2_with fail
        refine (inYoung_any _ _ _ _ _ _ hh (by omega)).mono ?_
        rintro e w' ⟨rfl, rfl⟩
        rw [raw_inY, C2.out]
        go_wp2_with fail
        refine (inYoung_any _ _ _ _ _ _ hh hv).mono ?_
        rintro e w' ⟨rfl, rfl⟩
        rw [raw_inY, C3.out]
        have c14 := hh.c14
        go_wp2_with fail
        refine (addAny _ _ _ _ _ _ hh.mr (by omega) (by rw [raw_len]; omega)).mono ?_
        rintro e w2 ⟨⟨cc, rfl⟩, h2, hu2⟩
        have hfin : HpAt w2 L cv mv { S.raw r i v with mr := badd S.mr (r - 1).toNat } := by
          obtain ⟨⟨n1, n2, n3, n4, n5, n6, n7⟩, ⟨p1, p2, p3, p4, p5, p6⟩, ⟨r1, r2, r3, r4, r5⟩, ⟨q1, q2, q3, q4⟩⟩ := HNE.out
          have m1 : ∀ b, b ≠ L.mw → b ∉ [L.mw] := fun b hb => by simpa using hb
          exact ⟨hu2.heap hh.hb (m1 _ n6), hh.ar.upd hu2 (m1 _ (Ne.symm q1)) (m1 _ p5), hh.bg.upd hu2 (m1 _ (Ne.symm q2)) (m1 _ r4), h2, hh.cls.upd hu2 (m1 _ (Ne.symm q4)), hh.nd, hh.ok.mark _⟩
        clear h2 c14
        go_wp2_with fail
        go_ret
        exact ⟨rfl, by rw [HE.out]; exact hfin, (hu.mono (by simp)).trans (hu2.mono (by simp))⟩
      · have c3' : S.inY v = false := by simpa using c3
        have HE : Hid (S.put r i v = S.raw r i v) := by show _ = _; unfold Hp.put Hp.marked; rw [c1, c2', c3']; rfl
        have C1 := Lib.hid c1
        have C2 := Lib.hid c2'
        have C3 := Lib.hid c3'
        clear c1 c2 c2' c3 c3'
        go_enter Tryd.func12, Tryd.ntmps12
        go_wp2_with fail
        refine (raw_yes _ _ _ _ _ _ _ _ h HM.out).mono ?_
        rintro e w1 ⟨rfl, hh, hu⟩
        go_wp2_with fail
        refine (ref_some _ _ _ _ _ _ _ hh (by rw [raw_is]; exact HR.out) h0 (by rw [HCN.out.2]; exact h1)).mono ?_
        rintro e w' ⟨rfl, rfl⟩
        rw [HRB.out, C1.out]
        go_wp2_with fail
        refine (inYoung_any _ _ _ _ _ _ hh (by omega)).mono ?_
        rintro e w' ⟨rfl, rfl⟩
        rw [raw_inY, C2.out]
        go_wp2_with fail
        refine (inYoung_any _ _ _ _ _ _ hh hv).mono ?_
        rintro e w' ⟨rfl, rfl⟩
        rw [raw_inY, C3.out]
        go_wp2_with fail
        go_ret
        exact ⟨rfl, by rw [HE.out]; exact hh, hu.mono (by simp)⟩
  · have c1' : S.refB r i = false := by simpa using c1
    have HE : Hid (S.put r i v = S.raw r i v) := by show _ = _; unfold Hp.put Hp.marked; rw [c1']; rfl
    have C1 := Lib.hid c1'
    clear c1 c1'
    go_enter Tryd.func12, Tryd.ntmps12
    go_wp2_with fail
    refine (raw_yes _ _ _ _ _ _ _ _ h HM.out).mono ?_
    rintro e w1 ⟨rfl, hh, hu⟩
    go_wp2_with fail
    refine (ref_some _ _ _ _ _ _ _ hh (by rw [raw_is]; exact HR.out) h0 (by rw [HCN.out.2]; exact h1)).mono ?_
    rintro e w' ⟨rfl, rfl⟩
    rw [HRB.out, C1.out]
    go_wp2_with fail
    go_ret
    exact ⟨rfl, by rw [HE.out]; exact hh, hu.mono (by simp)⟩

set_option maxHeartbeats 400000 in
theorem put_no (L : HL) (cv mv : Value) (S : Hp) (r i v : Int) (w : World) (h : HpAt w L cv mv S) (hm : S.mayRaw r i v = false) (hb : r ≤ 9223372036854775807) :
    Calls Tryd.prog 12 #[.pointer (some ⟨L.hb, 0, none⟩), .int .i64 r, .int .i64 i, .int .i64 v] w fun e w' => e = .returned (.bool false) ∧ w = w' := by
  have HM := Lib.hid hm
  clear hm
  go_enter Tryd.func12, Tryd.ntmps12
  go_wp2_with fail
  refine (raw_no _ _ _ _ _ _ _ _ h HM.out hb).mono ?_
  rintro e w' ⟨rfl, rfl⟩
  go_wp2_with fail
  go_ret
  exact ⟨rfl, rfl⟩

end Go.Proofs.YtneeljhjfmcdoaaDoor
