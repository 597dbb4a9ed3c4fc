/- The heap's questions, each whole: one contract whatever is asked. -/
import Derived.Test.YtbcoejmiihgfoaaDoorLaid
namespace Go.Proofs.YtbcoejmiihgfoaaDoor
open Go.RowKit

/-- What Is answers. -/
theorem is_any (L : HL) (cv mv : Value) (S : Hp) (r : Int) (w : World) (h : HpAt w L cv mv S) (hb : r ≤ 9223372036854775807) :
  Calls Tryd.prog 18 #[.pointer (some ⟨L.hb, 0, none⟩), .int .i64 r] w fun e w' => e = .returned (.tuple #[.int .i64 (if S.is r = true then S.cls r else 0), .int .i64 (if S.is r = true then S.num r else 0), .bool (S.is r)]) ∧ w = w' := by
 cases hr : S.is r with
 | true => simpa using is_yes L cv mv S r w h hr
 | false => simpa using is_no L cv mv S r w h hr hb

/-- Has an object a value there? -/
def Hp.hasV (S : Hp) (r i : Int) : Bool := S.is r && decide (0 ≤ i ∧ i < S.num r)
def Hp.getV (S : Hp) (r i : Int) : Int := if S.hasV r i = true then S.get r i else 0

theorem hasV_true {S : Hp} {r i : Int} (h : S.hasV r i = true) : S.is r = true ∧ 0 ≤ i ∧ i < S.num r := by
 simpa [Hp.hasV] using h
theorem hasV_false {S : Hp} {r i : Int} (h : S.hasV r i = false) : S.is r = false ∨ i < 0 ∨ S.num r ≤ i := by
 unfold Hp.hasV at h
 cases hr : S.is r with
 | false => exact .inl rfl
 | true => rw [hr, Bool.true_and, decide_eq_false_iff_not] at h; right; omega

theorem get_any (L : HL) (cv mv : Value) (S : Hp) (r i : Int) (w : World) (h : HpAt w L cv mv S) (hb : r ≤ 9223372036854775807) :
  Calls Tryd.prog 20 #[.pointer (some ⟨L.hb, 0, none⟩), .int .i64 r, .int .i64 i] w fun e w' => e = .returned (.tuple #[.int .i64 (S.getV r i), .bool (S.hasV r i)]) ∧ w = w' := by
 unfold Hp.getV
 cases hv : S.hasV r i with
 | true =>
  obtain ⟨h0, h1, h2⟩ := hasV_true hv
  simpa using get_yes L cv mv S r i w h h0 h1 h2
 | false => simpa using get_no L cv mv S r i w h (hasV_false hv) hb

theorem refB_has {S : Hp} {r i : Int} (h : S.hasV r i = false) : S.refB r i = false := by
 unfold Hp.refB
 unfold Hp.hasV at h
 rw [h]; rfl

theorem ref_any (L : HL) (cv mv : Value) (S : Hp) (r i : Int) (w : World) (h : HpAt w L cv mv S) (hb : r ≤ 9223372036854775807) :
  Calls Tryd.prog 16 #[.pointer (some ⟨L.hb, 0, none⟩), .int .i64 r, .int .i64 i] w fun e w' => e = .returned (.bool (S.refB r i)) ∧ w = w' := by
 cases hv : S.hasV r i with
 | true =>
  obtain ⟨h0, h1, h2⟩ := hasV_true hv
  exact ref_some L cv mv S r i w h h0 h1 h2
 | false =>
  rw [refB_has hv]
  exact ref_none L cv mv S r i w h (hasV_false hv) hb

theorem put_any (L : HL) (cv mv : Value) (S : Hp) (r i v : Int) (w : World) (h : HpAt w L cv mv S) (hb : r ≤ 9223372036854775807) (hv : v ≤ 9223372036854775807) :
  Calls Tryd.prog 15 #[.pointer (some ⟨L.hb, 0, none⟩), .int .i64 r, .int .i64 i, .int .i64 v] w fun e w' => e = .returned (.bool (S.mayRaw r i v)) ∧ HpAt w' L cv mv (if S.mayRaw r i v = true then S.put r i v else S) ∧ Upd [L.wb, L.mw] w w' := by
 cases hm : S.mayRaw r i v with
 | true =>
  refine (put_yes L cv mv S r i v w h hm hv).mono ?_
  rintro e w' ⟨rfl, h1, h2⟩
  exact ⟨rfl, by simpa using h1, h2⟩
 | false =>
  refine (put_no L cv mv S r i v w h hm hb).mono ?_
  rintro e w' ⟨rfl, rfl⟩
  exact ⟨rfl, by simpa using h, Upd.refl _ _⟩

/-- May an object be laid in space k? -/
def Hp.room (S : Hp) (k : Nat) (c n : Int) : Bool := decide (1 ≤ S.words c n ∧ S.words c n ≤ (S.sp k).to - (S.sp k).top)
/-- The heap behind it. -/
def Hp.layK (S : Hp) (k : Nat) (c n : Int) : Hp := if S.room k c n = true then S.laid k c (S.words c n) else S
def Hp.layR (S : Hp) (k : Nat) (c n : Int) : Int := if S.room k c n = true then (S.sp k).top + 1 else 0

theorem young_any (L : HL) (cv mv : Value) (S : Hp) (c n : Int) (w : World) (h : HpAt w L cv mv S) :
  Calls Tryd.prog 11 #[.pointer (some ⟨L.hb, 0, none⟩), .int .i64 c, .int .i64 n] w fun e w' => e = .returned (.tuple #[.int .i64 (S.layR 0 c n), .bool (S.room 0 c n)]) ∧ HpAt w' L cv mv (S.layK 0 c n) ∧ Upd [L.hb, L.wb, L.bw] w w' := by
 unfold Hp.layR Hp.layK
 cases hr : S.room 0 c n with
 | true =>
  simp only [Hp.room, decide_eq_true_eq, Hp.sp] at hr
  refine (young_yes L cv mv S c n (S.words c n) w h (Hid.mk rfl) hr.1 hr.2).mono ?_
  rintro e w' ⟨rfl, h1, h2⟩
  exact ⟨rfl, by simpa using h1, h2⟩
 | false =>
  simp only [Hp.room, decide_eq_false_iff_not, Hp.sp] at hr
  have hz := words_zero S c n
  refine (young_no L cv mv S c n w h (by omega)).mono ?_
  rintro e w' ⟨rfl, h1⟩
  exact ⟨rfl, by simpa using h.upd0 h1, h1.mono (by simp)⟩

theorem oldo_any (L : HL) (cv mv : Value) (S : Hp) (c n : Int) (w : World) (h : HpAt w L cv mv S) :
  Calls Tryd.prog 12 #[.pointer (some ⟨L.hb, 0, none⟩), .int .i64 c, .int .i64 n] w fun e w' => e = .returned (.tuple #[.int .i64 (S.layR S.oldK c n), .bool (S.room S.oldK c n)]) ∧ HpAt w' L cv mv (S.layK S.oldK c n) ∧ Upd [L.hb, L.wb, L.bw] w w' := by
 unfold Hp.layR Hp.layK
 cases hr : S.room S.oldK c n with
 | true =>
  simp only [Hp.room, decide_eq_true_eq, sp_oldK] at hr
  refine (old_yes L cv mv S c n (S.words c n) w h (Hid.mk rfl) hr.1 hr.2).mono ?_
  rintro e w' ⟨rfl, h1, h2⟩
  exact ⟨by simp [sp_oldK], by simpa using h1, h2⟩
 | false =>
  simp only [Hp.room, decide_eq_false_iff_not, sp_oldK] at hr
  have hz := words_zero S c n
  refine (old_no L cv mv S c n w h (by omega)).mono ?_
  rintro e w' ⟨rfl, h1⟩
  exact ⟨rfl, by simpa using h.upd0 h1, h1.mono (by simp)⟩

/-- How many values an object of class c has. -/
def wantN (cs : List ByteArray) (c n : Int) : Int := if 0 ≤ c then ((cs.getD c.toNat ByteArray.empty).size : Int) else n
/-- Is its i-th value a reference? -/
def letR (cs : List ByteArray) (c i : Int) : Bool := decide (c = -2) || decide (0 ≤ c) && decide ((cs.getD c.toNat ByteArray.empty).get! i.toNat = 82)

theorem words_want {S : Hp} {c n : Int} (h1 : -2 ≤ c) (h2 : c < S.cs.length) (h3 : 0 ≤ n) (h4 : n ≤ 50) : S.words c n = 2 + wantN S.cs c n := by
 unfold Hp.words wantN
 rw [if_neg (by omega)]
 split <;> rfl

theorem want_bd {S : Hp} (hS : S.Ok) {c n : Int} (h2 : c < S.cs.length) (h3 : 0 ≤ n) : 0 ≤ wantN S.cs c n ∧ (wantN S.cs c n ≤ n ∨ wantN S.cs c n ≤ 10) := by
 unfold wantN
 split
 ·rename_i h0
  have hl : c.toNat < S.cs.length := by omega
  have : (S.cs.getD c.toNat ByteArray.empty).size ≤ 10 := by
   rw [List.getD_eq_getElem?_getD, List.getElem?_eq_getElem hl]
   exact hS.small _ (List.getElem_mem hl)
  omega
 ·omega

/-- A new object, whole. -/
theorem new_facts {S : Hp} (hS : S.Ok) (hb : S.bg.length = (S.A.length + 63) / 64) {k : Nat} (hk : k < 3) {c n : Int} (h1 : -2 ≤ c) (h2 : c < S.cs.length) (h3 : 0 ≤ n) (h4 : n ≤ 50) (hr : 2 + wantN S.cs c n ≤ (S.sp k).to - (S.sp k).top) :
  S.room k c n = true ∧ S.layR k c n = (S.sp k).top + 1 ∧ S.layK k c n = S.laid k c (2 + wantN S.cs c n) ∧ Fits S k c (2 + wantN S.cs c n) ∧
   (S.layK k c n).is (S.layR k c n) = true ∧ (S.layK k c n).cls (S.layR k c n) = c ∧ (S.layK k c n).num (S.layR k c n) = wantN S.cs c n ∧ (∀ i, (S.layK k c n).hasV (S.layR k c n) i = decide (0 ≤ i ∧ i < wantN S.cs c n)) ∧
   (∀ i, (S.layK k c n).getV (S.layR k c n) i = 0) ∧ (∀ i, (S.layK k c n).refB (S.layR k c n) i = (decide (0 ≤ i ∧ i < wantN S.cs c n) && letR S.cs c i)) := by
 have hw := words_want h1 h2 h3 h4
 have hbd := want_bd hS h2 h3
 have hroom : S.room k c n = true := by
  unfold Hp.room
  rw [hw, decide_eq_true_eq]
  omega
 have hR : S.layR k c n = (S.sp k).top + 1 := by unfold Hp.layR; rw [if_pos hroom]
 have hK : S.layK k c n = S.laid k c (2 + wantN S.cs c n) := by unfold Hp.layK; rw [if_pos hroom, hw]
 have f : Fits S k c (2 + wantN S.cs c n) := by
  have := words_fits hS hk (c := c) (n := n) (by omega) (by omega)
  rwa [hw] at this
 obtain ⟨e1, e2⟩ := laid_cls_new hS f
 have e2' : 2 + wantN S.cs c n - 2 = wantN S.cs c n := by omega
 have hhas : ∀ i, (S.laid k c (2 + wantN S.cs c n)).hasV ((S.sp k).top + 1) i = decide (0 ≤ i ∧ i < wantN S.cs c n) := fun i => by
  unfold Hp.hasV
  rw [laid_is_new hS f hb, e2, e2', Bool.true_and]
 rw [hR, hK]
 refine ⟨hroom, rfl, rfl, f, laid_is_new hS f hb, e1, by rw [e2, e2'], hhas, fun i => ?_, fun i => ?_⟩
 ·unfold Hp.getV
  rw [hhas]
  split
  ·rename_i h
   rw [decide_eq_true_eq] at h
   exact laid_get_new hS f h.1 (by omega)
  ·rfl
 ·rw [laid_refB_new hS f hb, e2']; rfl

end Go.Proofs.YtbcoejmiihgfoaaDoor
