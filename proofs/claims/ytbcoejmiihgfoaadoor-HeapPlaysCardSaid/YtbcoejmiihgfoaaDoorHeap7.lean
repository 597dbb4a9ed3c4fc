/- The heap: what its blocks hold, and contracts of its small methods. The heap: objects are laid. The heap: an object is laid in a space. The heap: the walk of lay. The heap: Young, Old, Room, Size, Raw, Put. The heap: Put, New. The heap: slices.Clone of its classes; New. -/
import Derived.Test.YtbcoejmiihgfoaaDoorAr
import Derived.Test.YtbcoejmiihgfoaaDoorBits
import Derived.Test.YtbcoejmiihgfoaaDoorPrg
import Derived.RegionCalls
import Derived.Deep.RegionWith
import Derived.Deep.RegionHeld3
/-! The heap: what its blocks hold, and contracts of its small methods. The heap: objects are laid. -/
/-! The heap: what its blocks hold, and contracts of its small methods. -/
namespace Go.Proofs.YtbcoejmiihgfoaaDoor
open Go.RowKit

/-- A space as numbers. -/
structure Spc where
 fr : Int
 to : Int
 top : Int

/-- A heap as data. -/
structure Hp where
 cs : List ByteArray
 A : List Int
 y : Spc
 h0 : Spc
 h1 : Spc
 now : Nat
 bg : List Nat
 mr : List Nat

/-- Where a heap's parts lie. -/
structure HL where
 hb : Nat
 ab : Nat
 wb : Nat
 bb : Nat
 bw : Nat
 mb : Nat
 mw : Nat
 cb : Nat
 co : Nat

def HL.all (L : HL) : List Nat := [L.hb, L.ab, L.wb, L.bb, L.bw, L.mb, L.mw, L.cb]

def hcells (cv mv : Value) (L : HL) (S : Hp) : Array Value :=
 #[cv, mv, .pointer (some ⟨L.ab, 0, none⟩), .int .i64 S.y.fr, .int .i64 S.y.to, .int .i64 S.y.top, .int .i64 S.h0.fr, .int .i64 S.h0.to, .int .i64 S.h0.top, .int .i64 S.h1.fr, .int .i64 S.h1.to, .int .i64 S.h1.top,
  .int .i64 S.now, .pointer (some ⟨L.bb, 0, none⟩), .pointer (some ⟨L.mb, 0, none⟩)]

/-- An object begins at that word: its head says class and number; it lies among the words. -/
def Hp.headAt (S : Hp) (at_ : Nat) : Prop :=
 headOk (S.A.getD at_ 0) ∧ unC (S.A.getD at_ 0) < S.cs.length ∧ (0 ≤ unC (S.A.getD at_ 0) → unN (S.A.getD at_ 0) = (S.cs.getD (unC (S.A.getD at_ 0)).toNat ByteArray.empty).size) ∧ (at_ : Int) + 2 + unN (S.A.getD at_ 0) ≤ S.A.length

/-- Its three spaces, by number: the nursery, the halves. -/
def Hp.sp (S : Hp) : Nat → Spc
 | 0 => S.y
 | 1 => S.h0
 | _ => S.h1

/-- What always holds of a heap's numbers. -/
structure Hp.Ok (S : Hp) : Prop where
 len : S.A.length ≤ 65536
 few : S.cs.length ≤ 12
 small : ∀ c ∈ S.cs, c.size ≤ 10
 now : S.now = 0 ∨ S.now = 1
 y0 : 0 ≤ S.y.fr
 y1 : S.y.fr ≤ S.y.top
 y2 : S.y.top ≤ S.y.to
 a0 : S.y.to ≤ S.h0.fr
 a1 : S.h0.fr ≤ S.h0.top
 a2 : S.h0.top ≤ S.h0.to
 b0 : S.h0.to ≤ S.h1.fr
 b1 : S.h1.fr ≤ S.h1.top
 b2 : S.h1.top ≤ S.h1.to
 b3 : S.h1.to ≤ S.A.length
 heads : ∀ at_, bhas S.bg at_ = true → S.headAt at_
 used : ∀ at_, bhas S.bg at_ = true → ∃ k, k < 3 ∧ (S.sp k).fr ≤ (at_ : Int) ∧ (at_ : Int) + 2 + unN (S.A.getD at_ 0) ≤ (S.sp k).top
 disj : ∀ a b, bhas S.bg a = true → bhas S.bg b = true → a < b → (a : Int) + 2 + unN (S.A.getD a 0) ≤ (b : Int)

/-- The heap at L is S. -/
structure HpAt (w : World) (L : HL) (cv mv : Value) (S : Hp) : Prop where
 hb : w.heap[L.hb]? = some (.cells (hcells cv mv L S) 88)
 ar : ArAt w L.ab L.wb S.A
 bg : SetAt w L.bb L.bw S.A.length S.bg
 mr : SetAt w L.mb L.mw S.A.length S.mr
 cls : ClsAt w cv L.cb L.co S.cs
 nd : L.all.Nodup
 ok : S.Ok

theorem HpAt.upd {w w' : World} {L : HL} {cv mv : Value} {S : Hp} (h : HpAt w L cv mv S) {T : List Nat} (hu : Upd T w w') (hT : ∀ i ∈ L.all, i ∉ T) : HpAt w' L cv mv S :=
 ⟨hu.heap h.hb (hT _ (by simp [HL.all])), h.ar.upd hu (hT _ (by simp [HL.all])) (hT _ (by simp [HL.all])), h.bg.upd hu (hT _ (by simp [HL.all])) (hT _ (by simp [HL.all])),
  h.mr.upd hu (hT _ (by simp [HL.all])) (hT _ (by simp [HL.all])), h.cls.upd hu (hT _ (by simp [HL.all])), h.nd, h.ok⟩

theorem HpAt.upd0 {w w' : World} {L : HL} {cv mv : Value} {S : Hp} (h : HpAt w L cv mv S) (hu : Upd [] w w') : HpAt w' L cv mv S := h.upd hu (by simp)
theorem HpAt.lt {w : World} {L : HL} {cv mv : Value} {S : Hp} (h : HpAt w L cv mv S) : L.hb < w.heap.size ∧ L.ab < w.heap.size ∧ L.wb < w.heap.size ∧ L.bb < w.heap.size ∧ L.bw < w.heap.size ∧ L.mb < w.heap.size ∧ L.mw < w.heap.size :=
 ⟨lt_of_heap h.hb, lt_of_heap h.ar.1, lt_of_heap h.ar.2.1, lt_of_heap h.bg.1, lt_of_heap h.bg.2.1, lt_of_heap h.mr.1, lt_of_heap h.mr.2.1⟩

section
variable {w : World} {L : HL} {cv mv : Value} {S : Hp} (h : HpAt w L cv mv S)
include h
theorem HpAt.c0 : w.cell? ⟨L.hb, 0, none⟩ = some cv := by rw [cell_of h.hb]; rfl
theorem HpAt.c2 : w.cell? ⟨L.hb, 2, none⟩ = some (.pointer (some ⟨L.ab, 0, none⟩)) := by rw [cell_of h.hb]; rfl
theorem HpAt.c3 : w.cell? ⟨L.hb, 3, none⟩ = some (.int .i64 S.y.fr) := by rw [cell_of h.hb]; rfl
theorem HpAt.c4 : w.cell? ⟨L.hb, 4, none⟩ = some (.int .i64 S.y.to) := by rw [cell_of h.hb]; rfl
theorem HpAt.c5 : w.cell? ⟨L.hb, 5, none⟩ = some (.int .i64 S.y.top) := by rw [cell_of h.hb]; rfl
theorem HpAt.c6 : w.cell? ⟨L.hb, 6, none⟩ = some (.int .i64 S.h0.fr) := by rw [cell_of h.hb]; rfl
theorem HpAt.c7 : w.cell? ⟨L.hb, 7, none⟩ = some (.int .i64 S.h0.to) := by rw [cell_of h.hb]; rfl
theorem HpAt.c8 : w.cell? ⟨L.hb, 8, none⟩ = some (.int .i64 S.h0.top) := by rw [cell_of h.hb]; rfl
theorem HpAt.c9 : w.cell? ⟨L.hb, 9, none⟩ = some (.int .i64 S.h1.fr) := by rw [cell_of h.hb]; rfl
theorem HpAt.c10 : w.cell? ⟨L.hb, 10, none⟩ = some (.int .i64 S.h1.to) := by rw [cell_of h.hb]; rfl
theorem HpAt.c11 : w.cell? ⟨L.hb, 11, none⟩ = some (.int .i64 S.h1.top) := by rw [cell_of h.hb]; rfl
theorem HpAt.c12 : w.cell? ⟨L.hb, 12, none⟩ = some (.int .i64 S.now) := by rw [cell_of h.hb]; rfl
theorem HpAt.c13 : w.cell? ⟨L.hb, 13, none⟩ = some (.pointer (some ⟨L.bb, 0, none⟩)) := by rw [cell_of h.hb]; rfl
theorem HpAt.c14 : w.cell? ⟨L.hb, 14, none⟩ = some (.pointer (some ⟨L.mb, 0, none⟩)) := by rw [cell_of h.hb]; rfl
theorem HpAt.fz (i : Nat) : w.frozen? ⟨L.hb, i, none⟩ = false := froz_of h.hb i
end

/-- Is there an object of that number? -/
def Hp.is (S : Hp) (r : Int) : Bool := decide (1 ≤ r) && bhas S.bg (r - 1).toNat
def Hp.cls (S : Hp) (r : Int) : Int := unC (S.A.getD (r - 1).toNat 0)
def Hp.num (S : Hp) (r : Int) : Int := unN (S.A.getD (r - 1).toNat 0)

theorem Hp.Ok.le {S : Hp} (h : S.Ok) {r : Int} (hr : S.is r = true) : 1 ≤ r ∧ r + 1 + S.num r ≤ S.A.length ∧ 0 ≤ S.num r ∧ S.num r ≤ 1048576 ∧ -2 ≤ S.cls r ∧ S.cls r < S.cs.length := by
 simp only [Hp.is, Bool.and_eq_true, decide_eq_true_eq] at hr
 obtain ⟨h1, h2⟩ := hr
 obtain ⟨a, b, c, d⟩ := h.heads _ h2
 unfold Hp.num Hp.cls
 have hn := unN_nonneg (S.A.getD (r - 1).toNat 0)
 refine ⟨h1, by omega, hn, by unfold headOk at a; unfold unN; omega, by unfold headOk at a; unfold unC; omega, b⟩

set_option maxHeartbeats 400000 in
theorem is_yes (L : HL) (cv mv : Value) (S : Hp) (r : Int) (w : World) (h : HpAt w L cv mv S) (hr : S.is r = true) :
  Calls Tryd.prog 18 #[.pointer (some ⟨L.hb, 0, none⟩), .int .i64 r] w fun e w' => e = .returned (.tuple #[.int .i64 (S.cls r), .int .i64 (S.num r), .bool true]) ∧ w = w' := by
 obtain ⟨h1, h2, h3, _⟩ := h.ok.le hr
 have hl := h.ok.len
 have hb : bhas S.bg (r - 1).toNat = true := by simp only [Hp.is, Bool.and_eq_true] at hr; exact hr.2
 clear hr
 have h13 := h.c13
 have h2' := h.c2
 obtain ⟨k, rfl⟩ : ∃ k : Nat, r = (k : Int) + 1 := ⟨(r - 1).toNat, by omega⟩
 have ek : ((k : Int) + 1 - 1).toNat = k := by omega
 unfold Hp.cls Hp.num at *
 rw [ek] at hb
 simp only [ek] at h2 h3 ⊢
 have HD := Lib.hid (h.ok.heads _ hb).1
 have HB := Lib.hid hb
 clear hb ek
 have h5 : (k : Int) < S.A.length := by omega
 go_enter Tryd.func18, Tryd.ntmps18
 go_wp2_with fail
 refine (has_in _ _ _ k _ _ h.bg (by omega)).mono ?_
 rintro e w' ⟨rfl, rfl⟩
 rw [HB.out]
 go_wp2_with fail
 refine (load_in _ _ _ _ _ h.ar (by omega) (by omega)).mono ?_
 rintro e w' ⟨rfl, rfl⟩
 rw [Int.toNat_natCast]
 go_wp2_with fail
 refine (unpack_yes _ _ HD.out).mono ?_
 rintro e w' ⟨rfl, rfl⟩
 go_wp2_with fail
 go_ret3
 exact ⟨rfl, rfl⟩

set_option maxHeartbeats 400000 in
theorem is_no (L : HL) (cv mv : Value) (S : Hp) (r : Int) (w : World) (h : HpAt w L cv mv S) (hr : S.is r = false) (_hb : r ≤ 9223372036854775807) :
  Calls Tryd.prog 18 #[.pointer (some ⟨L.hb, 0, none⟩), .int .i64 r] w fun e w' => e = .returned (.tuple #[.int .i64 0, .int .i64 0, .bool false]) ∧ w = w' := by
 have hl := h.ok.len
 have h13 := h.c13
 by_cases h1 : r < 1
 ·go_enter Tryd.func18, Tryd.ntmps18
  go_wp2_with fail
  go_ret3
  exact ⟨rfl, rfl⟩
 ·obtain ⟨k, rfl⟩ : ∃ k : Nat, r = (k : Int) + 1 := ⟨(r - 1).toNat, by omega⟩
  have hb : bhas S.bg k = false := by
   have e1 : decide ((1 : Int) ≤ (k : Int) + 1) = true := by simp; omega
   have ek : ((k : Int) + 1 - 1).toNat = k := by omega
   simpa [Hp.is, e1, ek] using hr
  have HB := Lib.hid hb
  clear hb hr
  by_cases h2 : k < S.A.length
  ·go_enter Tryd.func18, Tryd.ntmps18
   go_wp2_with fail
   refine (has_in _ _ _ k _ _ h.bg (by omega)).mono ?_
   rintro e w' ⟨rfl, rfl⟩
   rw [HB.out]
   go_wp2_with fail
   go_ret3
   exact ⟨rfl, rfl⟩
  ·go_enter Tryd.func18, Tryd.ntmps18
   go_wp2_with fail
   refine (has_out _ _ _ _ _ _ h.bg (by omega)).mono ?_
   rintro e w' ⟨rfl, rfl⟩
   go_wp2_with fail
   go_ret3
   exact ⟨rfl, rfl⟩

/-- Has the object a value of that place? -/
def Hp.has (S : Hp) (r i : Int) : Bool := S.is r && decide (0 ≤ i ∧ i < S.num r)

set_option maxHeartbeats 400000 in
theorem value_yes (L : HL) (cv mv : Value) (S : Hp) (r i : Int) (w : World) (h : HpAt w L cv mv S) (hr : S.is r = true) (h0 : 0 ≤ i) (h1 : i < S.num r) :
  Calls Tryd.prog 43 #[.pointer (some ⟨L.hb, 0, none⟩), .int .i64 r, .int .i64 i] w fun e w' => e = .returned (.tuple #[.int .i64 (r + 1 + i), .bool true]) ∧ w = w' := by
 obtain ⟨g1, g2, g3, g4, _⟩ := h.ok.le hr
 have hl := h.ok.len
 have HR := Lib.hid hr
 clear hr
 go_enter Tryd.func43, Tryd.ntmps43
 go_wp2_with fail
 refine (is_yes _ _ _ _ _ _ h HR.out).mono ?_
 rintro e w' ⟨rfl, rfl⟩
 go_wp2_with fail
 go_ret2
 refine ⟨?_, rfl⟩
 have e : r + 1 + i = r - 1 + 2 + i := by omega
 rw [e]; rfl

set_option maxHeartbeats 400000 in
theorem value_no (L : HL) (cv mv : Value) (S : Hp) (r i : Int) (w : World) (h : HpAt w L cv mv S) (hr : S.is r = false ∨ i < 0 ∨ S.num r ≤ i) (hb : r ≤ 9223372036854775807) :
  Calls Tryd.prog 43 #[.pointer (some ⟨L.hb, 0, none⟩), .int .i64 r, .int .i64 i] w fun e w' => e = .returned (.tuple #[.int .i64 0, .bool false]) ∧ w = w' := by
 by_cases hr' : S.is r = true
 ·have hi : i < 0 ∨ S.num r ≤ i := by
   rcases hr with h | h
   ·rw [hr'] at h; cases h
   ·exact h
  have HR := Lib.hid hr'
  clear hr' hr
  by_cases h0 : i < 0
  ·go_enter Tryd.func43, Tryd.ntmps43
   go_wp2_with fail
   refine (is_yes _ _ _ _ _ _ h HR.out).mono ?_
   rintro e w' ⟨rfl, rfl⟩
   go_wp2_with fail
   go_ret2
   exact ⟨rfl, rfl⟩
  ·go_enter Tryd.func43, Tryd.ntmps43
   go_wp2_with fail
   refine (is_yes _ _ _ _ _ _ h HR.out).mono ?_
   rintro e w' ⟨rfl, rfl⟩
   go_wp2_with fail
   go_ret2
   exact ⟨rfl, rfl⟩
 ·have HR := Lib.hid (show S.is r = false by simpa using hr')
  clear hr' hr
  go_enter Tryd.func43, Tryd.ntmps43
  go_wp2_with fail
  refine (is_no _ _ _ _ _ _ h HR.out hb).mono ?_
  rintro e w' ⟨rfl, rfl⟩
  go_wp2_with fail
  go_ret2
  exact ⟨rfl, rfl⟩

/-- A value. -/
def Hp.get (S : Hp) (r i : Int) : Int := S.A.getD (r + 1 + i).toNat 0

set_option maxHeartbeats 400000 in
theorem get_yes (L : HL) (cv mv : Value) (S : Hp) (r i : Int) (w : World) (h : HpAt w L cv mv S) (hr : S.is r = true) (h0 : 0 ≤ i) (h1 : i < S.num r) :
  Calls Tryd.prog 20 #[.pointer (some ⟨L.hb, 0, none⟩), .int .i64 r, .int .i64 i] w fun e w' => e = .returned (.tuple #[.int .i64 (S.get r i), .bool true]) ∧ w = w' := by
 obtain ⟨g1, g2, g3, g4, _⟩ := h.ok.le hr
 have hl := h.ok.len
 have HR := Lib.hid hr
 clear hr
 have h2' := h.c2
 go_enter Tryd.func20, Tryd.ntmps20
 go_wp2_with fail
 refine (value_yes _ _ _ _ _ _ _ h HR.out h0 h1).mono ?_
 rintro e w' ⟨rfl, rfl⟩
 go_wp2_with fail
 refine (load_in _ _ _ _ _ h.ar (by omega) (by omega)).mono ?_
 rintro e w' ⟨rfl, rfl⟩
 go_wp2_with fail
 go_ret2
 exact ⟨rfl, rfl⟩

set_option maxHeartbeats 400000 in
theorem get_no (L : HL) (cv mv : Value) (S : Hp) (r i : Int) (w : World) (h : HpAt w L cv mv S) (hr : S.is r = false ∨ i < 0 ∨ S.num r ≤ i) (hb : r ≤ 9223372036854775807) :
  Calls Tryd.prog 20 #[.pointer (some ⟨L.hb, 0, none⟩), .int .i64 r, .int .i64 i] w fun e w' => e = .returned (.tuple #[.int .i64 0, .bool false]) ∧ w = w' := by
 have HR := Lib.hid hr
 clear hr
 go_enter Tryd.func20, Tryd.ntmps20
 go_wp2_with fail
 refine (value_no _ _ _ _ _ _ _ h HR.out hb).mono ?_
 rintro e w' ⟨rfl, rfl⟩
 go_wp2_with fail
 go_ret2
 exact ⟨rfl, rfl⟩

/-- Is a value a reference? -/
def Hp.refB (S : Hp) (r i : Int) : Bool := S.is r && decide (0 ≤ i ∧ i < S.num r) && (decide (S.cls r = -2) || decide (0 ≤ S.cls r) && decide (((S.cs.getD (S.cls r).toNat ByteArray.empty).get! i.toNat) = 82))

theorem Hp.Ok.fields {S : Hp} (h : S.Ok) {r : Int} (hr : S.is r = true) (hc : 0 ≤ S.cls r) : S.num r = (S.cs.getD (S.cls r).toNat ByteArray.empty).size := by
 simp only [Hp.is, Bool.and_eq_true, decide_eq_true_eq] at hr
 exact (h.heads _ hr.2).2.2.1 hc

theorem HpAt.cv {w : World} {L : HL} {cv mv : Value} {S : Hp} (h : HpAt w L cv mv S) (k : Nat) (hk : k < S.cs.length) : ∃ cap, cv = .slice (some ⟨L.cb, L.co, none⟩) S.cs.length cap ∧ w.cell? ⟨L.cb, L.co + k, none⟩ = some (.string (S.cs.getD k ByteArray.empty)) := by
 obtain ⟨hv, hc⟩ := h.cls
 rcases hv with ⟨_, ha⟩ | ⟨x, cap, hv, ha | rfl⟩
 ·rw [ha] at hk; simp at hk
 ·rw [ha] at hk; simp at hk
 ·exact ⟨cap, hv, hc k hk⟩

set_option maxHeartbeats 400000 in
theorem ref_none (L : HL) (cv mv : Value) (S : Hp) (r i : Int) (w : World) (h : HpAt w L cv mv S) (hr : S.is r = false ∨ i < 0 ∨ S.num r ≤ i) (hb : r ≤ 9223372036854775807) :
  Calls Tryd.prog 16 #[.pointer (some ⟨L.hb, 0, none⟩), .int .i64 r, .int .i64 i] w fun e w' => e = .returned (.bool false) ∧ w = w' := by
 by_cases hr' : S.is r = true
 ·have hi : i < 0 ∨ S.num r ≤ i := by
   rcases hr with h | h
   ·rw [hr'] at h; cases h
   ·exact h
  have HR := Lib.hid hr'
  clear hr' hr
  by_cases h0 : i < 0
  ·go_enter Tryd.func16, Tryd.ntmps16
   go_wp2_with fail
   refine (is_yes _ _ _ _ _ _ h HR.out).mono ?_
   rintro e w' ⟨rfl, rfl⟩
   go_wp2_with fail
   go_ret
   exact ⟨rfl, rfl⟩
  ·go_enter Tryd.func16, Tryd.ntmps16
   go_wp2_with fail
   refine (is_yes _ _ _ _ _ _ h HR.out).mono ?_
   rintro e w' ⟨rfl, rfl⟩
   go_wp2_with fail
   go_ret
   exact ⟨rfl, rfl⟩
 ·have HR := Lib.hid (show S.is r = false by simpa using hr')
  clear hr' hr
  go_enter Tryd.func16, Tryd.ntmps16
  go_wp2_with fail
  refine (is_no _ _ _ _ _ _ h HR.out hb).mono ?_
  rintro e w' ⟨rfl, rfl⟩
  go_wp2_with fail
  go_ret
  exact ⟨rfl, rfl⟩

set_option maxHeartbeats 400000 in
theorem ref_some (L : HL) (cv mv : Value) (S : Hp) (r i : Int) (w : World) (h : HpAt w L cv mv S) (hr : S.is r = true) (h0 : 0 ≤ i) (h1 : i < S.num r) :
  Calls Tryd.prog 16 #[.pointer (some ⟨L.hb, 0, none⟩), .int .i64 r, .int .i64 i] w fun e w' => e = .returned (.bool (S.refB r i)) ∧ w = w' := by
 obtain ⟨g1, g2, g3, g4, g5, g6⟩ := h.ok.le hr
 have hl := h.ok.len
 have hfl := h.ok.fields hr
 have h0c := h.c0
 have HRF : Hid (S.refB r i = (decide (S.cls r = -2) || decide (0 ≤ S.cls r) && decide (((S.cs.getD (S.cls r).toNat ByteArray.empty).get! i.toNat) = 82))) := by
  show _ = _
  unfold Hp.refB
  rw [hr, decide_eq_true (show 0 ≤ i ∧ i < S.num r from ⟨h0, h1⟩)]
  simp
 have HR := Lib.hid hr
 clear hr
 by_cases c2 : S.cls r = -2
 ·have e2 : (S.cls r == -2) = true := by rw [beq_iff_eq]; exact c2
  rw [c2] at HRF
  have HC := Lib.hid c2
  clear c2 hfl
  go_enter Tryd.func16, Tryd.ntmps16
  go_wp2_with fail
  refine (is_yes _ _ _ _ _ _ h HR.out).mono ?_
  rintro e w' ⟨rfl, rfl⟩
  go_wp2_with fail
  go_ret
  exact ⟨by rw [HRF.out]; simp, rfl⟩
 ·have e2 : (S.cls r == -2) = false := by rw [beq_eq_false_iff_ne]; exact c2
  by_cases c0 : 0 ≤ S.cls r
  ·have hsz := hfl c0
   obtain ⟨cap, hcv, hcc⟩ := h.cv (S.cls r).toNat (by omega)
   rw [hcv] at h0c
   obtain ⟨k, hk⟩ := Int.eq_ofNat_of_zero_le c0
   obtain ⟨j, rfl⟩ := Int.eq_ofNat_of_zero_le h0
   have HCC := hcc
   rw [hk] at HRF hsz HCC
   have hjs : j < (S.cs.getD (k : Int).toNat ByteArray.empty).size := by omega
   have hkl : k < S.cs.length := by omega
   have hkn : ((k : Int) == -2) = false := by rw [beq_eq_false_iff_ne]; omega
   have HK := Lib.hid hk
   have e0 : decide (0 ≤ S.cls r) = true := by simpa using c0
   clear hfl hcc hcv hk
   rw [Int.toNat_natCast] at *
   generalize S.cs.getD k ByteArray.empty = fs at *
   go_enter Tryd.func16, Tryd.ntmps16
   go_wp2_with fail
   refine (is_yes _ _ _ _ _ _ h HR.out).mono ?_
   rintro e w' ⟨rfl, rfl⟩
   rw [HK.out]
   go_wp2_with fail
   go_ret
   have hfin : ((((fs[j]'hjs).toNat : Nat) : Int) == 82) = S.refB r (j : Int) := by
    rw [HRF.out, Int.toNat_natCast, decide_eq_false (by omega : ¬ ((k : Int) = -2)), decide_eq_true (by omega : 0 ≤ (k : Int)), Bool.false_or, Bool.true_and]
    exact byte_eq fs j 82 hjs
   exact ⟨congrArg (fun x => Ending.returned (.bool x)) hfin, rfl⟩
  ·have e0 : decide (0 ≤ S.cls r) = false := by simpa using c0
   clear hfl
   go_enter Tryd.func16, Tryd.ntmps16
   go_wp2_with fail
   refine (is_yes _ _ _ _ _ _ h HR.out).mono ?_
   rintro e w' ⟨rfl, rfl⟩
   go_wp2_with fail
   go_ret
   exact ⟨by rw [HRF.out, decide_eq_false c2, e0]; rfl, rfl⟩

/-- Does the object lie in the nursery? -/
def Hp.inY (S : Hp) (r : Int) : Bool := S.is r && decide (S.y.fr ≤ r - 1 ∧ r - 1 < S.y.top)

set_option maxHeartbeats 400000 in
theorem inYoung_any (L : HL) (cv mv : Value) (S : Hp) (r : Int) (w : World) (h : HpAt w L cv mv S) (hb : r ≤ 9223372036854775807) :
  Calls Tryd.prog 19 #[.pointer (some ⟨L.hb, 0, none⟩), .int .i64 r] w fun e w' => e = .returned (.bool (S.inY r)) ∧ w = w' := by
 have h3 := h.c3
 have h5 := h.c5
 by_cases hr : S.is r = true
 ·obtain ⟨g1, g2, g3, g4, _⟩ := h.ok.le hr
  have hl := h.ok.len
  have HR := Lib.hid hr
  by_cases hc : S.y.fr ≤ r - 1 ∧ r - 1 < S.y.top
  ·have HE := Lib.hid (show S.inY r = true by unfold Hp.inY; rw [hr, decide_eq_true hc]; rfl)
   clear hr
   go_enter Tryd.func19, Tryd.ntmps19
   go_wp2_with fail
   refine (is_yes _ _ _ _ _ _ h HR.out).mono ?_
   rintro e w' ⟨rfl, rfl⟩
   go_wp2_with fail
   refine (has_yes _ _ _ _ _ _ hc.1 hc.2 h3 h5).mono ?_
   rintro e w' ⟨rfl, rfl⟩
   go_wp2_with fail
   go_ret
   exact ⟨by rw [HE.out]; rfl, rfl⟩
  ·have HE := Lib.hid (show S.inY r = false by unfold Hp.inY; rw [hr, decide_eq_false hc]; rfl)
   clear hr
   go_enter Tryd.func19, Tryd.ntmps19
   go_wp2_with fail
   refine (is_yes _ _ _ _ _ _ h HR.out).mono ?_
   rintro e w' ⟨rfl, rfl⟩
   go_wp2_with fail
   refine (has_no _ _ _ _ _ _ (by omega) h3 h5).mono ?_
   rintro e w' ⟨rfl, rfl⟩
   go_wp2_with fail
   go_ret
   exact ⟨by rw [HE.out]; rfl, rfl⟩
 ·have hr' : S.is r = false := by simpa using hr
  have HR := Lib.hid hr'
  have HE := Lib.hid (show S.inY r = false by unfold Hp.inY; rw [hr']; rfl)
  clear hr hr'
  go_enter Tryd.func19, Tryd.ntmps19
  go_wp2_with fail
  refine (is_no _ _ _ _ _ _ h HR.out hb).mono ?_
  rintro e w' ⟨rfl, rfl⟩
  go_wp2_with fail
  go_ret
  exact ⟨by rw [HE.out]; rfl, rfl⟩

/-- The half that is used, and where it lies in the heap. -/
def Hp.old (S : Hp) : Spc := if S.now = 0 then S.h0 else S.h1
def Hp.oldO (S : Hp) : Nat := if S.now = 0 then 6 else 9

set_option maxHeartbeats 400000 in
theorem old_any (L : HL) (cv mv : Value) (S : Hp) (w : World) (h : HpAt w L cv mv S) :
  Calls Tryd.prog 35 #[.pointer (some ⟨L.hb, 0, none⟩)] w fun e w' => e = .returned (.pointer (some ⟨L.hb, S.oldO, none⟩)) ∧ ∃ n, w' = w.drewN n := by
 have h12 := h.c12
 rcases h.ok.now with h0 | h0
 ·have HE := Lib.hid (show S.oldO = 6 by unfold Hp.oldO; rw [if_pos h0])
  rw [h0] at h12
  clear h0
  go_enter Tryd.func35, Tryd.ntmps35
  go_wp2_with fail
  go_quiet (fail)
  go_wp2_with fail
  go_ret
  exact ⟨by rw [HE.out]; rfl, _, rfl⟩
 ·have HE := Lib.hid (show S.oldO = 9 by unfold Hp.oldO; rw [if_neg (by omega)])
  rw [h0] at h12
  clear h0
  go_enter Tryd.func35, Tryd.ntmps35
  go_wp2_with fail
  go_quiet (fail)
  go_wp2_with fail
  go_ret
  exact ⟨by rw [HE.out]; rfl, _, rfl⟩

end Go.Proofs.YtbcoejmiihgfoaaDoor

/-! The heap: objects are laid. -/
namespace Go.Proofs.YtbcoejmiihgfoaaDoor
open Go.RowKit

theorem getD_splice (L cs : List Int) (o i : Nat) (h : o + cs.length ≤ L.length) :
  (splice L o cs).getD i 0 = if o ≤ i ∧ i < o + cs.length then cs.getD (i - o) 0 else L.getD i 0 := by
 unfold splice
 simp only [List.getD_eq_getElem?_getD]
 by_cases h1 : i < o
 ·rw [List.getElem?_append_left (by simp; omega), if_neg (by omega)]
  simp [h1]
 ·rw [List.getElem?_append_right (by simp; omega)]
  have e1 : (L.take o).length = o := by simp; omega
  rw [e1]
  by_cases h2 : i < o + cs.length
  ·rw [if_pos ⟨by omega, h2⟩, List.getElem?_append_left (by omega)]
  ·rw [if_neg (by omega), List.getElem?_append_right (by omega), List.getElem?_drop]
   congr 2; omega
theorem getD_set (L : List Int) (k i : Nat) (v : Int) (hk : k < L.length) : (L.set k v).getD i 0 = if i = k then v else L.getD i 0 := by
 simp only [List.getD_eq_getElem?_getD, List.getElem?_set]
 by_cases h : k = i
 ·subst h; simp [hk]
 ·rw [if_neg h, if_neg (fun e => h e.symm)]
theorem clearL_len (L : List Int) (fr to : Int) : (clearL L fr to).length = L.length := by
 unfold clearL
 by_cases c : ((min to (L.length : Int)) - (max fr 0)).toNat = 0
 ·rw [c]; simp [splice]
 ·exact length_splice _ _ _ (by rw [List.length_replicate]; omega)
theorem getD_rep (m i : Nat) : (List.replicate m (0 : Int)).getD i 0 = 0 := by
 simp only [List.getD_eq_getElem?_getD, List.getElem?_replicate]
 split <;> rfl
theorem getD_clear (L : List Int) (a b i : Nat) (hb : b ≤ L.length) (hab : a ≤ b) : (clearL L (a : Int) (b : Int)).getD i 0 = if a ≤ i ∧ i < b then 0 else L.getD i 0 := by
 unfold clearL
 have e : ((min (b : Int) (L.length : Int)) - (max (a : Int) 0)).toNat = b - a := by omega
 rw [e, Int.toNat_natCast, getD_splice _ _ _ _ (by simp; omega), List.length_replicate]
 by_cases h : a ≤ i ∧ i < b
 ·rw [if_pos (by omega), if_pos h, getD_rep]
 ·rw [if_neg (by omega), if_neg h]

/-- The words that an object of a class wants; 0: there is no such one. -/
def Hp.words (S : Hp) (c n : Int) : Int :=
 if c < -2 ∨ (S.cs.length : Int) ≤ c ∨ c < 0 ∧ (n < 0 ∨ 50 < n) then 0
 else if 0 ≤ c then 2 + (S.cs.getD c.toNat ByteArray.empty).size else 2 + n

set_option maxHeartbeats 400000 in
theorem pin_yes (i n : Int) (w : World) (h0 : 0 ≤ i) (h1 : i < n) : Calls Tryd.prog 61 #[.int .i64 i, .int .i64 n] w fun e w' => e = .returned (.bool true) ∧ w = w' := by
 have d0 : decide (0 ≤ i) = true := by simpa using h0
 have d1 : decide (i < n) = true := by simpa using h1
 go_enter Tryd.func61, Tryd.ntmps61
 go_wp2_with fail
 go_ret
 exact ⟨rfl, rfl⟩
set_option maxHeartbeats 400000 in
theorem pin_no (i n : Int) (w : World) (h0 : i < 0) : Calls Tryd.prog 61 #[.int .i64 i, .int .i64 n] w fun e w' => e = .returned (.bool false) ∧ w = w' := by
 have d0 : decide (0 ≤ i) = false := by simpa using h0
 go_enter Tryd.func61, Tryd.ntmps61
 go_wp2_with fail
 go_ret
 exact ⟨rfl, rfl⟩

set_option maxHeartbeats 400000 in
theorem pwords_class (cv mv : Value) (b o k : Nat) (n : Int) (cs : List ByteArray) (w : World) (h : ClsAt w cv b o cs) (hk : k < cs.length) (_hs : cs.length ≤ 1000) (hz : (cs.getD k ByteArray.empty).size ≤ 1000) :
  Calls Tryd.prog 59 #[.agg #[cv, mv], .int .i64 k, .int .i64 n] w fun e w' => e = .returned (.int .i64 (2 + (cs.getD k ByteArray.empty).size)) ∧ Upd [] w w' := by
 obtain ⟨hv, hc⟩ := h
 obtain ⟨cap, rfl⟩ : ∃ cap, cv = .slice (some ⟨b, o, none⟩) cs.length cap := by
  rcases hv with ⟨_, ha⟩ | ⟨x, cap, hv, ha | rfl⟩
  ·rw [ha] at hk; simp at hk
  ·rw [ha] at hk; simp at hk
  ·exact ⟨cap, hv⟩
 clear hv
 have hcell := ((Upd.refl [] w).alloc (.cells #[.slice (some ⟨b, o, none⟩) cs.length cap, mv] 25)).cell (hc k hk) (by simp)
 clear hc
 generalize cs.getD k ByteArray.empty = fs at *
 go_enter Tryd.func59, Tryd.ntmps59
 go_wp2_with fail
 refine (pin_yes _ _ _ (by omega) (by omega)).mono ?_
 rintro e w' ⟨rfl, rfl⟩
 go_wp2_with fail
 go_ret
 exact ⟨rfl, (Upd.refl _ _).alloc _⟩

set_option maxHeartbeats 400000 in
theorem pwords_array (cv mv : Value) (b o : Nat) (c n : Int) (cs : List ByteArray) (w : World) (h : ClsAt w cv b o cs) (hc0 : c < 0) (h0 : 0 ≤ n) (h1 : n ≤ 1000) :
  Calls Tryd.prog 59 #[.agg #[cv, mv], .int .i64 c, .int .i64 n] w fun e w' => e = .returned (.int .i64 (2 + n)) ∧ Upd [] w w' := by
 obtain ⟨a, cap, rfl⟩ := h.shape
 clear h
 go_enter Tryd.func59, Tryd.ntmps59
 go_wp2_with fail
 refine (pin_no _ _ _ (by omega)).mono ?_
 rintro e w' ⟨rfl, rfl⟩
 go_wp2_with fail
 go_ret
 exact ⟨rfl, (Upd.refl _ _).alloc _⟩

set_option maxHeartbeats 800000 in
theorem words_any (L : HL) (cv mv : Value) (S : Hp) (c n : Int) (w : World) (h : HpAt w L cv mv S) :
  Calls Tryd.prog 50 #[.pointer (some ⟨L.hb, 0, none⟩), .int .i64 c, .int .i64 n] w fun e w' => e = .returned (.int .i64 (S.words c n)) ∧ Upd [] w w' := by
 have hcl := h.cls
 have h0 := h.c0
 have h1 : w.cell? ⟨L.hb, 1, none⟩ = some mv := by rw [cell_of h.hb]; rfl
 have hfew := h.ok.few
 obtain ⟨a, cap, hcv⟩ := h.cls.shape
 rw [hcv] at h0
 by_cases c1 : c < -2
 ·have HE := Lib.hid (show S.words c n = 0 by unfold Hp.words; rw [if_pos (.inl c1)])
  go_enter Tryd.func50, Tryd.ntmps50
  go_wp2_with fail
  go_ret
  exact ⟨by rw [HE.out]; rfl, Upd.refl _ _⟩
 ·by_cases c2 : (S.cs.length : Int) ≤ c
  ·have HE := Lib.hid (show S.words c n = 0 by unfold Hp.words; rw [if_pos (.inr (.inl c2))])
   go_enter Tryd.func50, Tryd.ntmps50
   go_wp2_with fail
   go_ret
   exact ⟨by rw [HE.out]; rfl, Upd.refl _ _⟩
  ·by_cases c3 : c < 0
   ·have d3 : decide (c < 0) = true := by simpa using c3
    by_cases c4 : n < 0
    ·have HE := Lib.hid (show S.words c n = 0 by unfold Hp.words; rw [if_pos (.inr (.inr ⟨c3, .inl c4⟩))])
     have d4 : decide (n < 0) = true := by simpa using c4
     go_enter Tryd.func50, Tryd.ntmps50
     go_wp2_with fail
     go_ret
     exact ⟨by rw [HE.out]; rfl, Upd.refl _ _⟩
    ·by_cases c5 : 50 < n
     ·have HE := Lib.hid (show S.words c n = 0 by unfold Hp.words; rw [if_pos (.inr (.inr ⟨c3, .inr c5⟩))])
      have d4 : decide (n < 0) = false := by simpa using c4
      have d5 : decide (50 < n) = true := by simpa using c5
      go_enter Tryd.func50, Tryd.ntmps50
      go_wp2_with fail
      go_ret
      exact ⟨by rw [HE.out]; rfl, Upd.refl _ _⟩
     ·have HE := Lib.hid (show S.words c n = 2 + n by unfold Hp.words; rw [if_neg (by omega), if_neg (by omega)])
      have d4 : decide (n < 0) = false := by simpa using c4
      have d5 : decide (50 < n) = false := by simpa using c5
      rw [hcv] at hcl
      clear hcv
      go_enter Tryd.func50, Tryd.ntmps50
      go_wp2_with fail
      refine (pwords_array _ _ _ _ _ _ _ _ hcl c3 (by omega) (by omega)).mono ?_
      rintro e w' ⟨rfl, hu⟩
      go_wp2_with fail
      go_ret
      exact ⟨by rw [HE.out]; rfl, hu⟩
   ·have d3 : decide (c < 0) = false := by simpa using c3
    obtain ⟨k, rfl⟩ := Int.eq_ofNat_of_zero_le (show 0 ≤ c by omega)
    have HE := Lib.hid (show S.words k n = 2 + (S.cs.getD k ByteArray.empty).size by unfold Hp.words; rw [if_neg (by omega), if_pos (by omega), Int.toNat_natCast])
    have hsm : (S.cs.getD k ByteArray.empty).size ≤ 10 := by
     have hk : k < S.cs.length := by omega
     rw [List.getD_eq_getElem?_getD, List.getElem?_eq_getElem hk]
     exact h.ok.small _ (List.getElem_mem hk)
    rw [hcv] at hcl
    clear hcv
    go_enter Tryd.func50, Tryd.ntmps50
    go_wp2_with fail
    refine (pwords_class _ _ _ _ _ _ _ _ hcl (by omega) (by omega) (by omega)).mono ?_
    rintro e w' ⟨rfl, hu⟩
    go_wp2_with fail
    go_ret
    exact ⟨by rw [HE.out]; rfl, hu⟩

end Go.Proofs.YtbcoejmiihgfoaaDoor

/-! The heap: an object is laid in a space. The heap: the walk of lay. -/
/-! The heap: an object is laid in a space. -/
namespace Go.Proofs.YtbcoejmiihgfoaaDoor
open Go.RowKit

def Hp.setSp (S : Hp) (k : Nat) (s : Spc) : Hp :=
 match k with
 | 0 => { S with y := s }
 | 1 => { S with h0 := s }
 | _ => { S with h1 := s }

/-- The heap behind an object of class c and wd words that is laid in space k. -/
def Hp.laid (S : Hp) (k : Nat) (c wd : Int) : Hp :=
 { S.setSp k { S.sp k with top := (S.sp k).top + wd } with A := (clearL S.A (S.sp k).top ((S.sp k).top + wd)).set (S.sp k).top.toNat (packV c (wd - 2)), bg := badd S.bg (S.sp k).top.toNat }

section
variable (S : Hp) (k : Nat) (c wd : Int)
@[simp] theorem laid_cs : (S.laid k c wd).cs = S.cs := by unfold Hp.laid Hp.setSp; match k with | 0 => rfl | 1 => rfl | _ + 2 => rfl
@[simp] theorem laid_mr : (S.laid k c wd).mr = S.mr := by unfold Hp.laid Hp.setSp; match k with | 0 => rfl | 1 => rfl | _ + 2 => rfl
@[simp] theorem laid_now : (S.laid k c wd).now = S.now := by unfold Hp.laid Hp.setSp; match k with | 0 => rfl | 1 => rfl | _ + 2 => rfl
theorem laid_A : (S.laid k c wd).A = (clearL S.A (S.sp k).top ((S.sp k).top + wd)).set (S.sp k).top.toNat (packV c (wd - 2)) := rfl
theorem laid_bg : (S.laid k c wd).bg = badd S.bg (S.sp k).top.toNat := rfl
@[simp] theorem laid_len : (S.laid k c wd).A.length = S.A.length := by rw [laid_A, List.length_set, clearL_len]
end

/-- What is asked of an object that is laid. -/
structure Fits (S : Hp) (k : Nat) (c wd : Int) : Prop where
 k3 : k < 3
 c1 : -2 ≤ c
 c2 : c < S.cs.length
 w1 : 2 ≤ wd
 w2 : wd ≤ 52
 fld : 0 ≤ c → wd - 2 = (S.cs.getD c.toNat ByteArray.empty).size
 room : wd ≤ (S.sp k).to - (S.sp k).top

theorem Hp.Ok.sp0 {S : Hp} (h : S.Ok) (k : Nat) : 0 ≤ (S.sp k).fr ∧ (S.sp k).fr ≤ (S.sp k).top ∧ (S.sp k).top ≤ (S.sp k).to ∧ (S.sp k).to ≤ S.A.length := by
 have := h.y0; have := h.y1; have := h.y2; have := h.a0; have := h.a1; have := h.a2; have := h.b0; have := h.b1; have := h.b2; have := h.b3
 match k with
 | 0 => simp only [Hp.sp]; omega
 | 1 => simp only [Hp.sp]; omega
 | _ + 2 => simp only [Hp.sp]; omega

/-- Spaces lie apart. -/
theorem Hp.Ok.apart {S : Hp} (h : S.Ok) {j k : Nat} (hj : j < 3) (hk : k < 3) (hne : j ≠ k) : (S.sp j).to ≤ (S.sp k).fr ∨ (S.sp k).to ≤ (S.sp j).fr := by
 have := h.y0; have := h.y1; have := h.y2; have := h.a0; have := h.a1; have := h.a2; have := h.b0; have := h.b1; have := h.b2; have := h.b3
 have hj' : j = 0 ∨ j = 1 ∨ j = 2 := by omega
 have hk' : k = 0 ∨ k = 1 ∨ k = 2 := by omega
 rcases hj' with rfl | rfl | rfl <;> rcases hk' with rfl | rfl | rfl <;> simp only [Hp.sp] <;> first | omega | exact absurd rfl hne

theorem laid_get {S : Hp} (hS : S.Ok) {k : Nat} {c wd : Int} (f : Fits S k c wd) (i : Nat) :
  (S.laid k c wd).A.getD i 0 = if (i : Int) = (S.sp k).top then packV c (wd - 2) else if (S.sp k).top ≤ (i : Int) ∧ (i : Int) < (S.sp k).top + wd then 0 else S.A.getD i 0 := by
 obtain ⟨s0, s1, s2, s3⟩ := hS.sp0 k
 have hr := f.room
 have hw := f.w1
 obtain ⟨t, ht⟩ := Int.eq_ofNat_of_zero_le (show 0 ≤ (S.sp k).top by omega)
 obtain ⟨wn, rfl⟩ := Int.eq_ofNat_of_zero_le (show 0 ≤ wd by omega)
 have e1 : clearL S.A (S.sp k).top ((S.sp k).top + (wn : Int)) = clearL S.A ((t : Nat) : Int) ((t + wn : Nat) : Int) := by rw [ht]; congr 1
 rw [laid_A, e1, show (S.sp k).top.toNat = t by omega, getD_set _ _ _ _ (by rw [clearL_len]; omega), getD_clear S.A t (t + wn) i (by omega) (by omega)]
 by_cases h : i = t
 ·rw [if_pos h, if_pos (show (i : Int) = (S.sp k).top by omega)]
 ·rw [if_neg h, if_neg (show ¬ (i : Int) = (S.sp k).top by omega)]
  by_cases h2 : t ≤ i ∧ i < t + wn
  ·rw [if_pos h2, if_pos (show (S.sp k).top ≤ (i : Int) ∧ (i : Int) < (S.sp k).top + (wn : Int) by omega)]
  ·rw [if_neg h2, if_neg (show ¬ ((S.sp k).top ≤ (i : Int) ∧ (i : Int) < (S.sp k).top + (wn : Int)) by omega)]

/-- The words of an object that is there lie where nothing is laid. -/
theorem laid_old {S : Hp} (hS : S.Ok) {k : Nat} {c wd : Int} (f : Fits S k c wd) {a : Nat} (ha : bhas S.bg a = true) (i : Nat) (hi : a ≤ i) (hi2 : (i : Int) < (a : Int) + 2 + unN (S.A.getD a 0)) :
  (S.laid k c wd).A.getD i 0 = S.A.getD i 0 := by
 obtain ⟨j, hj, u1, u2⟩ := hS.used a ha
 obtain ⟨s0, s1, s2, s3⟩ := hS.sp0 j
 obtain ⟨t0, t1, t2, t3⟩ := hS.sp0 k
 have hr := f.room
 have hw := f.w1
 rw [laid_get hS f]
 by_cases hjk : j = k
 ·subst hjk
  rw [if_neg (by omega), if_neg (by omega)]
 ·have := hS.apart hj f.k3 hjk
  rw [if_neg (by omega), if_neg (by omega)]

theorem laid_has {S : Hp} (hS : S.Ok) {k : Nat} {c wd : Int} (f : Fits S k c wd) (hb : S.bg.length = (S.A.length + 63) / 64) (a : Nat) :
  bhas (S.laid k c wd).bg a = (bhas S.bg a || decide ((S.sp k).top.toNat = a)) := by
 obtain ⟨t0, t1, t2, t3⟩ := hS.sp0 k
 have hr := f.room
 have hw := f.w1
 rw [laid_bg, badd_get _ _ _ (by omega)]

theorem laid_new {S : Hp} (hS : S.Ok) {k : Nat} {c wd : Int} (f : Fits S k c wd) : bhas S.bg (S.sp k).top.toNat = false := by
 by_cases h : bhas S.bg (S.sp k).top.toNat = true
 ·exfalso
  obtain ⟨j, hj, u1, u2⟩ := hS.used _ h
  obtain ⟨s0, s1, s2, s3⟩ := hS.sp0 j
  obtain ⟨t0, t1, t2, t3⟩ := hS.sp0 k
  have hr := f.room
  have hw := f.w1
  have hn := unN_nonneg (S.A.getD (S.sp k).top.toNat 0)
  by_cases hjk : j = k
  ·subst hjk; omega
  ·have := hS.apart hj f.k3 hjk
   omega
 ·simpa using h

theorem setSp_sp (S : Hp) (k j : Nat) (s : Spc) (hk : k < 3) (hj : j < 3) : (S.setSp k s).sp j = if j = k then s else S.sp j := by
 have hj' : j = 0 ∨ j = 1 ∨ j = 2 := by omega
 have hk' : k = 0 ∨ k = 1 ∨ k = 2 := by omega
 rcases hj' with rfl | rfl | rfl <;> rcases hk' with rfl | rfl | rfl <;> rfl

theorem laid_sp (S : Hp) (k j : Nat) (c wd : Int) (hk : k < 3) (hj : j < 3) : (S.laid k c wd).sp j = if j = k then { S.sp k with top := (S.sp k).top + wd } else S.sp j := by
 have := setSp_sp S k j { S.sp k with top := (S.sp k).top + wd } hk hj
 have hj' : j = 0 ∨ j = 1 ∨ j = 2 := by omega
 rcases hj' with rfl | rfl | rfl <;> exact this

theorem laid_ok {S : Hp} (hS : S.Ok) {k : Nat} {c wd : Int} (f : Fits S k c wd) (hb : S.bg.length = (S.A.length + 63) / 64) : (S.laid k c wd).Ok := by
 have hr := f.room
 have hw := f.w1
 have hw2 := f.w2
 obtain ⟨t0, t1, t2, t3⟩ := hS.sp0 k
 have hk' : k = 0 ∨ k = 1 ∨ k = 2 := by have := f.k3; omega
 have hfew := hS.few
 have hc2 := f.c2
 have hpk : headOk (packV c (wd - 2)) := headOk_pack _ _ f.c1 (by omega) (by omega) (by omega)
 have hpc : unC (packV c (wd - 2)) = c := unC_pack _ _ (by omega) (by omega)
 have hpn : unN (packV c (wd - 2)) = wd - 2 := unN_pack _ _ (by omega) (by omega)
 have hold : ∀ a, bhas S.bg a = true → (S.laid k c wd).A.getD a 0 = S.A.getD a 0 := fun a ha => laid_old hS f ha a (Nat.le_refl _) (by have := unN_nonneg (S.A.getD a 0); omega)
 have hnew : (S.laid k c wd).A.getD (S.sp k).top.toNat 0 = packV c (wd - 2) := by rw [laid_get hS f, if_pos (by omega)]
 have y0 := hS.y0; have y1 := hS.y1; have y2 := hS.y2; have a0 := hS.a0; have a1 := hS.a1; have a2 := hS.a2; have b0 := hS.b0; have b1 := hS.b1; have b2 := hS.b2; have b3 := hS.b3
 have ord : 0 ≤ (S.laid k c wd).y.fr ∧ (S.laid k c wd).y.fr ≤ (S.laid k c wd).y.top ∧ (S.laid k c wd).y.top ≤ (S.laid k c wd).y.to ∧ (S.laid k c wd).y.to ≤ (S.laid k c wd).h0.fr ∧ (S.laid k c wd).h0.fr ≤ (S.laid k c wd).h0.top ∧ (S.laid k c wd).h0.top ≤ (S.laid k c wd).h0.to ∧
   (S.laid k c wd).h0.to ≤ (S.laid k c wd).h1.fr ∧ (S.laid k c wd).h1.fr ≤ (S.laid k c wd).h1.top ∧ (S.laid k c wd).h1.top ≤ (S.laid k c wd).h1.to ∧ (S.laid k c wd).h1.to ≤ S.A.length := by
  rcases hk' with rfl | rfl | rfl <;> simp only [Hp.laid, Hp.setSp, Hp.sp] at t0 t1 t2 t3 hr ⊢ <;> omega
 obtain ⟨o1, o2, o3, o4, o5, o6, o7, o8, o9, o10⟩ := ord
 refine ⟨by rw [laid_len]; exact hS.len, by rw [laid_cs]; exact hS.few, by rw [laid_cs]; exact hS.small, by rw [laid_now]; exact hS.now, o1, o2, o3, o4, o5, o6, o7, o8, o9, by rw [laid_len]; exact o10, ?_, ?_, ?_⟩
 ·intro a ha
  rw [laid_has hS f hb] at ha
  unfold Hp.headAt
  rw [laid_cs, laid_len]
  by_cases h : bhas S.bg a = true
  ·rw [hold a h]
   exact hS.heads a h
  ·have hat : (S.sp k).top.toNat = a := by simpa [h] using ha
   subst hat
   rw [hnew, hpc, hpn]
   exact ⟨hpk, f.c2, f.fld, by omega⟩
 ·intro a ha
  rw [laid_has hS f hb] at ha
  by_cases h : bhas S.bg a = true
  ·obtain ⟨j, hj, u1, u2⟩ := hS.used a h
   refine ⟨j, hj, ?_, ?_⟩
   ·rw [laid_sp S k j c wd f.k3 hj]
    split
    ·rename_i hjk; subst hjk; exact u1
    ·exact u1
   ·rw [hold a h, laid_sp S k j c wd f.k3 hj]
    split
    ·rename_i hjk; subst hjk; dsimp only; omega
    ·exact u2
  ·have hat : (S.sp k).top.toNat = a := by simpa [h] using ha
   subst hat
   refine ⟨k, f.k3, ?_, ?_⟩
   ·rw [laid_sp S k k c wd f.k3 f.k3, if_pos rfl]; dsimp only; omega
   ·rw [hnew, hpn, laid_sp S k k c wd f.k3 f.k3, if_pos rfl]; dsimp only; omega
 ·intro a b ha hb' hab
  rw [laid_has hS f hb] at ha hb'
  by_cases h1 : bhas S.bg a = true
  ·rw [hold a h1]
   by_cases h2 : bhas S.bg b = true
   ·exact hS.disj a b h1 h2 hab
   ·have hat : (S.sp k).top.toNat = b := by simpa [h2] using hb'
    obtain ⟨j, hj, u1, u2⟩ := hS.used a h1
    obtain ⟨q0, q1, q2, q3⟩ := hS.sp0 j
    by_cases hjk : j = k
    ·subst hjk; omega
    ·have := hS.apart hj f.k3 hjk
     omega
  ·have hat : (S.sp k).top.toNat = a := by simpa [h1] using ha
   by_cases h2 : bhas S.bg b = true
   ·subst hat
    rw [hnew, hpn]
    obtain ⟨j, hj, u1, u2⟩ := hS.used b h2
    obtain ⟨q0, q1, q2, q3⟩ := hS.sp0 j
    have hnn := unN_nonneg (S.A.getD b 0)
    by_cases hjk : j = k
    ·subst hjk; omega
    ·have := hS.apart hj f.k3 hjk
     omega
   ·have hbt : (S.sp k).top.toNat = b := by simpa [h2] using hb'
    omega

end Go.Proofs.YtbcoejmiihgfoaaDoor

/-! The heap: the walk of lay. -/
namespace Go.Proofs.YtbcoejmiihgfoaaDoor
open Go.RowKit

theorem words_fits {S : Hp} (hS : S.Ok) {k : Nat} {c n : Int} (hk : k < 3) (hw : 1 ≤ S.words c n) (hr : S.words c n ≤ (S.sp k).to - (S.sp k).top) : Fits S k c (S.words c n) := by
 unfold Hp.words at *
 by_cases h : c < -2 ∨ (S.cs.length : Int) ≤ c ∨ c < 0 ∧ (n < 0 ∨ 50 < n)
 ·rw [if_pos h] at hw; omega
 ·rw [if_neg h] at *
  by_cases h0 : 0 ≤ c
  ·rw [if_pos h0] at *
   have hl : c.toNat < S.cs.length := by omega
   have hsm : (S.cs.getD c.toNat ByteArray.empty).size ≤ 10 := by
    rw [List.getD_eq_getElem?_getD, List.getElem?_eq_getElem hl]
    exact hS.small _ (List.getElem_mem hl)
   exact ⟨hk, by omega, by omega, by omega, by omega, fun _ => by omega, hr⟩
  ·rw [if_neg h0] at *
   exact ⟨hk, by omega, by omega, by omega, by omega, fun h => absurd h h0, hr⟩

theorem words_zero (S : Hp) (c n : Int) : 0 ≤ S.words c n := by
 unfold Hp.words
 split
 ·omega
 ·split <;> omega

theorem hcells_laid (cv mv : Value) (L : HL) (S : Hp) (k : Nat) (c wd : Int) (hk : k < 3) : (hcells cv mv L S).setIfInBounds (3 + 3 * k + 2) (.int .i64 ((S.sp k).top + wd)) = hcells cv mv L (S.laid k c wd) := by
 have hk' : k = 0 ∨ k = 1 ∨ k = 2 := by omega
 rcases hk' with rfl | rfl | rfl <;> rfl

theorem sp_cells {w : World} {L : HL} {cv mv : Value} {S : Hp} (h : w.heap[L.hb]? = some (.cells (hcells cv mv L S) 88)) (k : Nat) (hk : k < 3) :
  w.cell? ⟨L.hb, 3 + 3 * k, none⟩ = some (.int .i64 (S.sp k).fr) ∧ w.cell? ⟨L.hb, 3 + 3 * k + 1, none⟩ = some (.int .i64 (S.sp k).to) ∧ w.cell? ⟨L.hb, 3 + 3 * k + 2, none⟩ = some (.int .i64 (S.sp k).top) := by
 rw [cell_of h, cell_of h, cell_of h]
 have hk' : k = 0 ∨ k = 1 ∨ k = 2 := by omega
 rcases hk' with rfl | rfl | rfl <;> exact ⟨rfl, rfl, rfl⟩

set_option maxRecDepth 100000 in
set_option maxHeartbeats 1000000 in
theorem lay_no (L : HL) (cv mv : Value) (S : Hp) (k : Nat) (hk : k < 3) (c n : Int) (w : World) (h : HpAt w L cv mv S) (hno : S.words c n = 0 ∨ (S.sp k).to - (S.sp k).top < S.words c n) :
  Calls Tryd.prog 34 #[.pointer (some ⟨L.hb, 0, none⟩), .pointer (some ⟨L.hb, 3 + 3 * k, none⟩), .int .i64 c, .int .i64 n] w fun e w' => e = .returned (.tuple #[.int .i64 0, .bool false]) ∧ Upd [] w w' := by
 obtain ⟨s0, s1, s2, s3⟩ := h.ok.sp0 k
 have hl := h.ok.len
 have hwz := words_zero S c n
 go_enter Tryd.func34, Tryd.ntmps34
 go_wp2_with fail
 refine (words_any _ _ _ _ _ _ _ h).mono ?_
 rintro e w1 ⟨rfl, hu⟩
 obtain ⟨c0, c1, c2⟩ := sp_cells (h.upd0 hu).hb k hk
 go_wp2_with fail
 refine (take_no _ _ _ _ _ _ (by omega) s2 (by omega) (by omega) c1 c2).mono ?_
 rintro e w2 ⟨rfl, m, rfl⟩
 go_wp2_with fail
 go_ret2
 exact ⟨rfl, hu.drewN _⟩

theorem HL.ne {L : HL} (h : L.all.Nodup) : (L.hb ≠ L.ab ∧ L.hb ≠ L.wb ∧ L.hb ≠ L.bb ∧ L.hb ≠ L.bw ∧ L.hb ≠ L.mb ∧ L.hb ≠ L.mw ∧ L.hb ≠ L.cb) ∧ (L.wb ≠ L.ab ∧ L.wb ≠ L.bb ∧ L.wb ≠ L.bw ∧ L.wb ≠ L.mb ∧ L.wb ≠ L.mw ∧ L.wb ≠ L.cb) ∧
  (L.bw ≠ L.ab ∧ L.bw ≠ L.bb ∧ L.bw ≠ L.mb ∧ L.bw ≠ L.mw ∧ L.bw ≠ L.cb) ∧ (L.mw ≠ L.ab ∧ L.mw ≠ L.bb ∧ L.mw ≠ L.mb ∧ L.mw ≠ L.cb) := by
 simp only [HL.all, List.nodup_cons, List.mem_cons, List.not_mem_nil, or_false, not_or] at h
 obtain ⟨⟨a1, a2, a3, a4, a5, a6, a7⟩, ⟨b1, b2, b3, b4, b5, b6⟩, ⟨c1, c2, c3, c4, c5⟩, ⟨d1, d2, d3, d4⟩, ⟨e1, e2, e3⟩, ⟨f1, f2⟩, g1, _⟩ := h
 exact ⟨⟨a1, a2, a3, a4, a5, a6, a7⟩, ⟨Ne.symm b1, c1, c2, c3, c4, c5⟩, ⟨Ne.symm b3, Ne.symm d1, e1, e2, e3⟩, ⟨Ne.symm b5, Ne.symm d3, Ne.symm f1, g1⟩⟩

theorem add_newI (b g n : Nat) (x : Int) (ws : List Nat) (w : World) (h : SetAt w b g n ws) (h0 : 0 ≤ x) (h1 : x < n) (hno : bhas ws x.toNat = false) :
  Calls Tryd.prog 37 #[.pointer (some ⟨b, 0, none⟩), .int .i64 x] w fun e w' => e = .returned (.bool true) ∧ SetAt w' b g n (badd ws x.toNat) ∧ Upd [g] w w' := by
 obtain ⟨k, rfl⟩ := Int.eq_ofNat_of_zero_le h0
 rw [Int.toNat_natCast] at *
 exact add_new b g n k ws w h (by omega) hno

/-- Half way of laying: the space has been taken from. -/
structure Half (w : World) (L : HL) (cv mv : Value) (S S' : Hp) : Prop where
 hb : w.heap[L.hb]? = some (.cells (hcells cv mv L S') 88)
 ar : ArAt w L.ab L.wb S.A
 bg : SetAt w L.bb L.bw S.A.length S.bg
 mr : SetAt w L.mb L.mw S.A.length S.mr
 cls : ClsAt w cv L.cb L.co S.cs

theorem takeH (L : HL) (cv mv : Value) (S : Hp) (k : Nat) (hk : k < 3) (c wd : Int) (w : World) (h : HpAt w L cv mv S) (h1 : 1 ≤ wd) (h2 : wd ≤ (S.sp k).to - (S.sp k).top) :
  Calls Tryd.prog 51 #[.pointer (some ⟨L.hb, 3 + 3 * k, none⟩), .int .i64 wd] w fun e w' => e = .returned (.tuple #[.int .i64 (S.sp k).top, .bool true]) ∧ Half w' L cv mv S (S.laid k c wd) ∧ Upd [L.hb] w w' := by
 obtain ⟨s0, s1, s2, s3⟩ := h.ok.sp0 k
 have hl := h.ok.len
 obtain ⟨c0, c1, c2⟩ := sp_cells h.hb k hk
 obtain ⟨⟨n1, n2, n3, n4, n5, n6, n7⟩, _⟩ := HL.ne h.nd
 refine (take_yes _ _ _ _ _ _ (by omega) s2 (by omega) h1 h2 c1 c2 (h.fz _)).mono ?_
 rintro e w2 ⟨rfl, m, rfl⟩
 have hu : Upd [L.hb] w ((w.setCell ⟨L.hb, 3 + 3 * k + 2, none⟩ (.int .i64 ((S.sp k).top + wd))).drewN m) := ((Upd.refl _ _).setCell (by simp) _).drewN _
 have hb2 : ((w.setCell ⟨L.hb, 3 + 3 * k + 2, none⟩ (.int .i64 ((S.sp k).top + wd))).drewN m).heap[L.hb]? = some (.cells (hcells cv mv L (S.laid k c wd)) 88) := by
  have := heap_setCell h.hb (3 + 3 * k + 2) (.int .i64 ((S.sp k).top + wd))
  rw [hcells_laid _ _ _ _ _ c _ hk] at this
  exact this
 have m1 : ∀ b, b ≠ L.hb → b ∉ [L.hb] := fun b hb => by simpa using hb
 exact ⟨rfl, ⟨hb2, h.ar.upd hu (m1 _ n1.symm) (m1 _ n2.symm), h.bg.upd hu (m1 _ n3.symm) (m1 _ n4.symm), h.mr.upd hu (m1 _ n5.symm) (m1 _ n6.symm), h.cls.upd hu (m1 _ n7.symm)⟩, hu⟩

set_option maxRecDepth 100000 in
set_option maxHeartbeats 1000000 in
theorem lay_yes (L : HL) (cv mv : Value) (S : Hp) (k : Nat) (hk : k < 3) (c n wd : Int) (w : World) (h : HpAt w L cv mv S) (hwd : Hid (S.words c n = wd)) (hw1 : 1 ≤ wd) (hw2 : wd ≤ (S.sp k).to - (S.sp k).top) :
  Calls Tryd.prog 34 #[.pointer (some ⟨L.hb, 0, none⟩), .pointer (some ⟨L.hb, 3 + 3 * k, none⟩), .int .i64 c, .int .i64 n] w fun e w' => e = .returned (.tuple #[.int .i64 ((S.sp k).top + 1), .bool true]) ∧ HpAt w' L cv mv (S.laid k c wd) ∧ Upd [L.hb, L.wb, L.bw] w w' := by
 obtain ⟨s0, s1, s2, s3⟩ := h.ok.sp0 k
 have hl := h.ok.len
 have hfit : Fits S k c wd := by
  have := words_fits h.ok hk (c := c) (n := n) (by rw [hwd.out]; exact hw1) (by rw [hwd.out]; exact hw2)
  rwa [hwd.out] at this
 have hf1 := hfit.c1
 have hf2 := hfit.c2
 have hf3 := hfit.w1
 have hf4 := hfit.w2
 have hfew := h.ok.few
 have HNE := Lib.hid (HL.ne h.nd)
 go_enter Tryd.func34, Tryd.ntmps34
 go_wp2_with fail
 refine (words_any _ _ _ _ _ _ _ h).mono ?_
 rintro e w1 ⟨rfl, hu⟩
 rw [hwd.out]
 have h1 := h.upd0 hu
 go_wp2_with fail
 refine (takeH _ _ _ _ _ hk c _ _ h1 hw1 hw2).mono ?_
 rintro e w2 ⟨rfl, hH, hu2⟩
 have d2 : w2.cell? ⟨L.hb, 2, none⟩ = some (.pointer (some ⟨L.ab, 0, none⟩)) := by rw [cell_of hH.hb]; rfl
 go_wp2_with fail
 refine (clear_any _ _ _ _ _ _ hH.ar).mono ?_
 rintro e w3 ⟨rfl, hA3, hu3⟩
 have hb3 : w3.heap[L.hb]? = some (.cells (hcells cv mv L (S.laid k c wd)) 88) := hu3.heap hH.hb (by simp; exact HNE.out.1.2.1)
 have d3 : w3.cell? ⟨L.hb, 2, none⟩ = some (.pointer (some ⟨L.ab, 0, none⟩)) := by rw [cell_of hb3]; rfl
 have HB3 := Lib.hid hb3
 clear hb3 d2
 have HP := Lib.hid (fun w => pack_yes c (wd - 2) w hf1 (by omega) (by omega) (by omega))
 have HST := Lib.hid (fun v => store_in _ _ _ (S.sp k).top v w3.drew (hA3.upd ((Upd.refl [] w3).drew) (by simp) (by simp)) (by omega) (by rw [clearL_len]; omega))
 go_wp2_with fail
 have q1 : IntKind.i64.wrap (wd - 2) = wd - 2 := IntWalk.i64_in _ (by omega)
 have q2 : IntKind.i64.wrap (S.sp k).top = (S.sp k).top := IntWalk.i64_in _ (by omega)
 go_region_with (first | (go_at_call 54; refine (HP.out _).mono ?_; rintro e w' ⟨rfl, rfl⟩) | (go_at_call 53; refine (HST.out _).mono ?_; rintro e w4 ⟨rfl, hA4, hu4⟩))
 all_goals
  have hu24 : Upd [L.wb] w2 w4 := hu3.trans (((Upd.refl [L.wb] w3).drew).trans hu4)
  have hb4 : w4.heap[L.hb]? = some (.cells (hcells cv mv L (S.laid k c wd)) 88) := hu24.heap hH.hb (by simp; exact HNE.out.1.2.1)
  have d4 : w4.cell? ⟨L.hb, 13, none⟩ = some (.pointer (some ⟨L.bb, 0, none⟩)) := by rw [cell_of hb4]; rfl
  have HB4 := Lib.hid hb4
  have hS4 : SetAt w4 L.bb L.bw S.A.length S.bg := hH.bg.upd hu24 (by simp; exact Ne.symm HNE.out.2.1.2.1) (by simp; exact Ne.symm HNE.out.2.1.2.2.1)
  have hM4 : SetAt w4 L.mb L.mw S.A.length S.mr := hH.mr.upd hu24 (by simp; exact Ne.symm HNE.out.2.1.2.2.2.1) (by simp; exact Ne.symm HNE.out.2.1.2.2.2.2.1)
  have hC4 : ClsAt w4 cv L.cb L.co S.cs := hH.cls.upd hu24 (by simp; exact Ne.symm HNE.out.2.1.2.2.2.2.2)
  have hu14 : Upd [L.hb, L.wb, L.bw] w w4 := ((hu.mono (T := [L.hb, L.wb, L.bw]) (by simp)).trans (hu2.mono (by simp))).trans (hu24.mono (by simp))
  clear hb4 d3 q1 q2
  go_wp2_with fail
  refine (add_newI _ _ _ _ _ _ hS4 (by omega) (by omega) (laid_new h.ok hfit)).mono ?_
  rintro e w5 ⟨rfl, hS5, hu5⟩
  have h5 : HpAt w5 L cv mv (S.laid k c wd) := by
   obtain ⟨⟨n1, n2, n3, n4, n5, n6, n7⟩, ⟨p1, p2, p3, p4, p5, p6⟩, ⟨r1, r2, r3, r4, r5⟩, _⟩ := HNE.out
   have m1 : ∀ b, b ≠ L.bw → b ∉ [L.bw] := fun b hb => by simpa using hb
   refine ⟨hu5.heap HB4.out (m1 _ n4), ?_, ?_, ?_, ?_, h.nd, laid_ok h.ok hfit h.bg.2.2.2.1⟩
   ·exact hA4.upd hu5 (m1 _ (Ne.symm r1)) (m1 _ p3)
   ·rw [laid_len]; exact hS5
   ·rw [laid_len, laid_mr]; exact hM4.upd hu5 (m1 _ (Ne.symm r3)) (m1 _ (Ne.symm r4))
   ·rw [laid_cs]; exact hC4.upd hu5 (m1 _ (Ne.symm r5))
  have hu15 : Upd [L.hb, L.wb, L.bw] w w5 := hu14.trans (hu5.mono (by simp))
  clear hS5 hu5 hS4 hM4 hC4 hu14 hu24 hA4 hA3 hu4 hu3
  go_wp2_with fail
  go_ret2
  exact ⟨rfl, h5, hu15⟩

end Go.Proofs.YtbcoejmiihgfoaaDoor

/-! The heap: Young, Old, Room, Size, Raw, Put. The heap: Put, New. -/
/-! The heap: Young, Old, Room, Size, Raw, Put. -/
namespace Go.Proofs.YtbcoejmiihgfoaaDoor
open Go.RowKit

/-- The number of the half that is used, as a space. -/
def Hp.oldK (S : Hp) : Nat := if S.now = 0 then 1 else 2
theorem oldK_lt (S : Hp) : S.oldK < 3 := by unfold Hp.oldK; split <;> omega
theorem oldO_eq (S : Hp) : S.oldO = 3 + 3 * S.oldK := by unfold Hp.oldO Hp.oldK; split <;> rfl
theorem sp_oldK {S : Hp} : S.sp S.oldK = S.old := by unfold Hp.oldK Hp.old; split <;> rfl

set_option maxHeartbeats 400000 in
theorem young_yes (L : HL) (cv mv : Value) (S : Hp) (c n wd : Int) (w : World) (h : HpAt w L cv mv S) (hwd : Hid (S.words c n = wd)) (hw1 : 1 ≤ wd) (hw2 : wd ≤ S.y.to - S.y.top) :
  Calls Tryd.prog 11 #[.pointer (some ⟨L.hb, 0, none⟩), .int .i64 c, .int .i64 n] w fun e w' => e = .returned (.tuple #[.int .i64 (S.y.top + 1), .bool true]) ∧ HpAt w' L cv mv (S.laid 0 c wd) ∧ Upd [L.hb, L.wb, L.bw] w w' := by
 go_enter Tryd.func11, Tryd.ntmps11
 go_wp2_with fail
 refine (lay_yes _ _ _ _ 0 (by omega) _ _ _ _ h hwd hw1 hw2).mono ?_
 rintro e w1 ⟨rfl, h1, hu⟩
 go_wp2_with fail
 go_ret2
 exact ⟨rfl, h1, hu⟩

set_option maxHeartbeats 400000 in
theorem young_no (L : HL) (cv mv : Value) (S : Hp) (c n : Int) (w : World) (h : HpAt w L cv mv S) (hno : S.words c n = 0 ∨ S.y.to - S.y.top < S.words c n) :
  Calls Tryd.prog 11 #[.pointer (some ⟨L.hb, 0, none⟩), .int .i64 c, .int .i64 n] w fun e w' => e = .returned (.tuple #[.int .i64 0, .bool false]) ∧ Upd [] w w' := by
 go_enter Tryd.func11, Tryd.ntmps11
 go_wp2_with fail
 refine (lay_no _ _ _ _ 0 (by omega) _ _ _ h hno).mono ?_
 rintro e w1 ⟨rfl, hu⟩
 go_wp2_with fail
 go_ret2
 exact ⟨rfl, hu⟩

set_option maxHeartbeats 400000 in
theorem old_yes (L : HL) (cv mv : Value) (S : Hp) (c n wd : Int) (w : World) (h : HpAt w L cv mv S) (hwd : Hid (S.words c n = wd)) (hw1 : 1 ≤ wd) (hw2 : wd ≤ S.old.to - S.old.top) :
  Calls Tryd.prog 12 #[.pointer (some ⟨L.hb, 0, none⟩), .int .i64 c, .int .i64 n] w fun e w' => e = .returned (.tuple #[.int .i64 (S.old.top + 1), .bool true]) ∧ HpAt w' L cv mv (S.laid S.oldK c wd) ∧ Upd [L.hb, L.wb, L.bw] w w' := by
 have H := Lib.hid (fun m => lay_yes L cv mv S S.oldK (oldK_lt S) c n wd (w.drewN m) (h.upd0 ((Upd.refl _ _).drewN m)) hwd hw1 (by rw [sp_oldK]; exact hw2))
 rw [sp_oldK, ← oldO_eq] at H
 go_enter Tryd.func12, Tryd.ntmps12
 go_wp2_with fail
 refine (old_any _ _ _ _ _ h).mono ?_
 rintro e w0 ⟨rfl, m, rfl⟩
 go_wp2_with fail
 refine (H.out m).mono ?_
 rintro e w1 ⟨rfl, h1, hu⟩
 go_wp2_with fail
 go_ret2
 exact ⟨rfl, h1, ((Upd.refl _ _).drewN m).trans hu⟩

set_option maxHeartbeats 400000 in
theorem old_no (L : HL) (cv mv : Value) (S : Hp) (c n : Int) (w : World) (h : HpAt w L cv mv S) (hno : S.words c n = 0 ∨ S.old.to - S.old.top < S.words c n) :
  Calls Tryd.prog 12 #[.pointer (some ⟨L.hb, 0, none⟩), .int .i64 c, .int .i64 n] w fun e w' => e = .returned (.tuple #[.int .i64 0, .bool false]) ∧ Upd [] w w' := by
 have H := Lib.hid (fun m => lay_no L cv mv S S.oldK (oldK_lt S) c n (w.drewN m) (h.upd0 ((Upd.refl _ _).drewN m)) (by rw [sp_oldK]; exact hno))
 rw [← oldO_eq] at H
 go_enter Tryd.func12, Tryd.ntmps12
 go_wp2_with fail
 refine (old_any _ _ _ _ _ h).mono ?_
 rintro e w0 ⟨rfl, m, rfl⟩
 go_wp2_with fail
 refine (H.out m).mono ?_
 rintro e w1 ⟨rfl, hu⟩
 go_wp2_with fail
 go_ret2
 exact ⟨rfl, ((Upd.refl _ _).drewN m).trans hu⟩

set_option maxHeartbeats 400000 in
theorem hroom_any (L : HL) (cv mv : Value) (S : Hp) (w : World) (h : HpAt w L cv mv S) :
  Calls Tryd.prog 17 #[.pointer (some ⟨L.hb, 0, none⟩)] w fun e w' => e = .returned (.tuple #[.int .i64 (S.y.to - S.y.top), .int .i64 (S.old.to - S.old.top)]) ∧ ∃ n, w' = w.drewN n := by
 have hok := h.ok
 obtain ⟨s0, s1, s2, s3⟩ := hok.sp0 0
 obtain ⟨r0, r1, r2, r3⟩ := hok.sp0 S.oldK
 obtain ⟨c0, c1, c2⟩ := sp_cells h.hb S.oldK (oldK_lt S)
 rw [sp_oldK] at c1 c2 r0 r1 r2 r3
 rw [← oldO_eq] at c1 c2
 have hl := hok.len
 have c4 := h.c4
 have c5 := h.c5
 go_enter Tryd.func17, Tryd.ntmps17
 go_wp2_with fail
 refine (room_any _ 3 _ _ _ (by simp only [Hp.sp] at *; omega) (by simp only [Hp.sp] at *; omega) (by simp only [Hp.sp] at *; omega) c4 c5).mono ?_
 rintro e w0 ⟨rfl, m, rfl⟩
 go_wp2_with fail
 refine (old_any L cv mv S _ (h.upd0 ((Upd.refl _ _).drewN m))).mono ?_
 rintro e w0 ⟨rfl, m2, rfl⟩
 go_wp2_with fail
 refine (room_any _ _ _ _ (w.drewN (m + m2)) (by omega) r2 (by omega) c1 c2).mono ?_
 rintro e w0 ⟨rfl, m3, rfl⟩
 go_wp2_with fail
 go_ret2
 exact ⟨rfl, _, rfl⟩

set_option maxHeartbeats 400000 in
theorem size_any (L : HL) (cv mv : Value) (S : Hp) (w : World) (h : HpAt w L cv mv S) :
  Calls Tryd.prog 9 #[.pointer (some ⟨L.hb, 0, none⟩)] w fun e w' => e = .returned (.tuple #[.int .i64 (S.y.to - S.y.fr), .int .i64 (S.h0.to - S.h0.fr)]) ∧ ∃ n, w' = w.drewN n := by
 obtain ⟨s0, s1, s2, s3⟩ := h.ok.sp0 0
 obtain ⟨r0, r1, r2, r3⟩ := h.ok.sp0 1
 simp only [Hp.sp] at s0 s1 s2 s3 r0 r1 r2 r3
 have hl := h.ok.len
 have c3 := h.c3
 have c4 := h.c4
 have c6 := h.c6
 have c7 := h.c7
 have q1 : IntKind.i64.wrap (S.y.to - S.y.fr) = S.y.to - S.y.fr := IntWalk.i64_in _ (by omega)
 have q2 : IntKind.i64.wrap (S.h0.to - S.h0.fr) = S.h0.to - S.h0.fr := IntWalk.i64_in _ (by omega)
 go_enter Tryd.func9, Tryd.ntmps9
 go_wp2_with fail
 go_quiet (fail)
 go_wp2_with fail
 go_ret2
 exact ⟨rfl, _, rfl⟩

/-- The heap behind a value that is laid. -/
def Hp.raw (S : Hp) (r i v : Int) : Hp := { S with A := S.A.set (r + 1 + i).toNat v }

section
variable (S : Hp) (r i v : Int)
@[simp] theorem raw_is (q : Int) : (S.raw r i v).is q = S.is q := rfl
@[simp] theorem raw_len : (S.raw r i v).A.length = S.A.length := by simp [Hp.raw]
theorem raw_sp (k : Nat) : (S.raw r i v).sp k = S.sp k := by unfold Hp.sp; match k with | 0 => rfl | 1 => rfl | _ + 2 => rfl
end

theorem raw_head {S : Hp} (hS : S.Ok) {r i v : Int} (hr : S.is r = true) (h0 : 0 ≤ i) (h1 : i < S.num r) (a : Nat) (ha : bhas S.bg a = true) : (S.raw r i v).A.getD a 0 = S.A.getD a 0 := by
 obtain ⟨g1, g2, g3, g4, _⟩ := hS.le hr
 have hb : bhas S.bg (r - 1).toNat = true := by simp only [Hp.is, Bool.and_eq_true] at hr; exact hr.2
 show (S.A.set (r + 1 + i).toNat v).getD a 0 = _
 rw [getD_set _ _ _ _ (by omega), if_neg]
 intro e
 have hn := h1
 unfold Hp.num at hn
 by_cases c : (r - 1).toNat < a
 ·have := hS.disj _ _ hb ha c
  omega
 ·omega

theorem raw_ok {S : Hp} (hS : S.Ok) {r i v : Int} (hr : S.is r = true) (h0 : 0 ≤ i) (h1 : i < S.num r) : (S.raw r i v).Ok := by
 have hh := fun a ha => raw_head hS hr h0 h1 (v := v) a ha
 refine ⟨by rw [raw_len]; exact hS.len, hS.few, hS.small, hS.now, hS.y0, hS.y1, hS.y2, hS.a0, hS.a1, hS.a2, hS.b0, hS.b1, hS.b2, by rw [raw_len]; exact hS.b3, ?_, ?_, ?_⟩
 ·intro a ha
  unfold Hp.headAt
  rw [hh a ha, raw_len]
  exact hS.heads a ha
 ·intro a ha
  rw [hh a ha]
  obtain ⟨k, hk, u⟩ := hS.used a ha
  exact ⟨k, hk, by rw [raw_sp]; exact u⟩
 ·intro a b ha hb hab
  rw [hh a ha]
  exact hS.disj a b ha hb hab

theorem HpAt.raw {w w' : World} {L : HL} {cv mv : Value} {S : Hp} (h : HpAt w L cv mv S) {r i v : Int} (hr : S.is r = true) (h0 : 0 ≤ i) (h1 : i < S.num r) (ha : ArAt w' L.ab L.wb (S.A.set (r + 1 + i).toNat v)) (hu : Upd [L.wb] w w') : HpAt w' L cv mv (S.raw r i v) := by
 obtain ⟨⟨n1, n2, n3, n4, n5, n6, n7⟩, ⟨p1, p2, p3, p4, p5, p6⟩, _⟩ := HL.ne h.nd
 have m1 : ∀ b, b ≠ L.wb → b ∉ [L.wb] := fun b hb => by simpa using hb
 refine ⟨hu.heap h.hb (m1 _ n2), ha, ?_, ?_, h.cls.upd hu (m1 _ (Ne.symm p6)), h.nd, raw_ok h.ok hr h0 h1⟩
 ·rw [raw_len]; exact h.bg.upd hu (m1 _ (Ne.symm p2)) (m1 _ (Ne.symm p3))
 ·rw [raw_len]; exact h.mr.upd hu (m1 _ (Ne.symm p4)) (m1 _ (Ne.symm p5))

/-- May the value be laid there? -/
def Hp.mayRaw (S : Hp) (r i v : Int) : Bool :=
 S.is r && decide (0 ≤ i ∧ i < S.num r) && (!(S.refB r i) || decide (v = 0) || decide (1 ≤ v ∧ v ≤ 65536) && S.is v)

set_option maxRecDepth 100000 in
set_option maxHeartbeats 1000000 in
theorem raw_yes (L : HL) (cv mv : Value) (S : Hp) (r i v : Int) (w : World) (h : HpAt w L cv mv S) (hm : S.mayRaw r i v = true) :
  Calls Tryd.prog 36 #[.pointer (some ⟨L.hb, 0, none⟩), .int .i64 r, .int .i64 i, .int .i64 v] w fun e w' => e = .returned (.bool true) ∧ HpAt w' L cv mv (S.raw r i v) ∧ Upd [L.wb] w w' := by
 simp only [Hp.mayRaw, Bool.and_eq_true, Bool.or_eq_true, decide_eq_true_eq, Bool.not_eq_true'] at hm
 obtain ⟨⟨hr, h0, h1⟩, hor⟩ := hm
 obtain ⟨g1, g2, g3, g4, _⟩ := h.ok.le hr
 have hl := h.ok.len
 have c2 := h.c2
 have HR := Lib.hid hr
 clear hr
 have fin : Hid (Calls Tryd.prog 53 #[.pointer (some ⟨L.ab, 0, none⟩), .int .i64 (r + 1 + i), .int .i64 v] w fun e w' => e = .returned (.bool true) ∧ HpAt w' L cv mv (S.raw r i v) ∧ Upd [L.wb] w w') := by
  refine (store_in _ _ _ _ v _ h.ar (by omega) (by omega)).mono ?_
  rintro e w' ⟨rfl, ha, hu⟩
  exact ⟨rfl, h.raw HR.out h0 h1 ha hu, hu⟩
 by_cases hf : S.refB r i = true
 ·have HF := Lib.hid hf
  have hor' : v = 0 ∨ (1 ≤ v ∧ v ≤ 65536) ∧ S.is v = true := by
   rcases hor with (h | h) | h
   ·rw [hf] at h; cases h
   ·exact .inl h
   ·exact .inr h
  clear hor hf
  by_cases hv0 : v = 0
  ·have e0 : (v != 0) = false := by rw [hv0]; rfl
   clear hor' hv0
   go_enter Tryd.func36, Tryd.ntmps36
   go_wp2_with fail
   refine (value_yes _ _ _ _ _ _ _ h HR.out h0 h1).mono ?_
   rintro e w' ⟨rfl, rfl⟩
   go_wp2_with fail
   refine (ref_some _ _ _ _ _ _ _ h HR.out h0 h1).mono ?_
   rintro e w' ⟨rfl, rfl⟩
   rw [HF.out]
   go_wp2_with fail
   refine fin.out.mono ?_
   rintro e w1 ⟨rfl, h1', hu⟩
   go_wp2_with fail
   go_ret
   exact ⟨rfl, h1', hu⟩
  ·have e0 : (v != 0) = true := by rw [bne_iff_ne]; exact hv0
   obtain ⟨⟨v1, v2⟩, v3⟩ := hor'.resolve_left hv0
   have HV := Lib.hid v3
   clear hor' hv0 v3
   go_enter Tryd.func36, Tryd.ntmps36
   go_wp2_with fail
   refine (value_yes _ _ _ _ _ _ _ h HR.out h0 h1).mono ?_
   rintro e w' ⟨rfl, rfl⟩
   go_wp2_with fail
   refine (ref_some _ _ _ _ _ _ _ h HR.out h0 h1).mono ?_
   rintro e w' ⟨rfl, rfl⟩
   rw [HF.out]
   go_wp2_with fail
   refine (is_yes _ _ _ _ _ _ h HV.out).mono ?_
   rintro e w' ⟨rfl, rfl⟩
   go_wp2_with fail
   refine fin.out.mono ?_
   rintro e w1 ⟨rfl, h1', hu⟩
   go_wp2_with fail
   go_ret
   exact ⟨rfl, h1', hu⟩
 ·have HF := Lib.hid (show S.refB r i = false by simpa using hf)
  clear hor hf
  go_enter Tryd.func36, Tryd.ntmps36
  go_wp2_with fail
  refine (value_yes _ _ _ _ _ _ _ h HR.out h0 h1).mono ?_
  rintro e w' ⟨rfl, rfl⟩
  go_wp2_with fail
  refine (ref_some _ _ _ _ _ _ _ h HR.out h0 h1).mono ?_
  rintro e w' ⟨rfl, rfl⟩
  rw [HF.out]
  go_wp2_with fail
  refine fin.out.mono ?_
  rintro e w1 ⟨rfl, h1', hu⟩
  go_wp2_with fail
  go_ret
  exact ⟨rfl, h1', hu⟩

set_option maxRecDepth 100000 in
set_option maxHeartbeats 1000000 in
theorem raw_no (L : HL) (cv mv : Value) (S : Hp) (r i v : Int) (w : World) (h : HpAt w L cv mv S) (hm : S.mayRaw r i v = false) (hb : r ≤ 9223372036854775807) :
  Calls Tryd.prog 36 #[.pointer (some ⟨L.hb, 0, none⟩), .int .i64 r, .int .i64 i, .int .i64 v] w fun e w' => e = .returned (.bool false) ∧ w = w' := by
 by_cases hno : S.is r = false ∨ i < 0 ∨ S.num r ≤ i
 ·clear hm
  have HNO := Lib.hid hno
  clear hno
  go_enter Tryd.func36, Tryd.ntmps36
  go_wp2_with fail
  refine (value_no _ _ _ _ _ _ _ h HNO.out hb).mono ?_
  rintro e w' ⟨rfl, rfl⟩
  go_wp2_with fail
  go_ret
  exact ⟨rfl, rfl⟩
 ·have hr : S.is r = true := by
   cases hh : S.is r with
   | true => rfl
   | false => exact absurd (.inl hh) hno
  have h0 : 0 ≤ i := by
   rcases Int.lt_or_le i 0 with h | h
   ·exact absurd (.inr (.inl h)) hno
   ·exact h
  have h1 : i < S.num r := by
   rcases Int.lt_or_le i (S.num r) with h | h
   ·exact h
   ·exact absurd (.inr (.inr h)) hno
  have hm2 : (!(S.refB r i) || decide (v = 0) || decide (1 ≤ v ∧ v ≤ 65536) && S.is v) = false := by
   unfold Hp.mayRaw at hm
   rw [hr, decide_eq_true (show 0 ≤ i ∧ i < S.num r from ⟨h0, h1⟩)] at hm
   simpa using hm
  have hf : S.refB r i = true := by
   cases hh : S.refB r i with
   | true => rfl
   | false => rw [hh] at hm2; simp at hm2
  rw [hf] at hm2
  simp only [Bool.not_true, Bool.false_or, Bool.or_eq_false_iff, decide_eq_false_iff_not, Bool.and_eq_false_iff] at hm2
  obtain ⟨hv0, hv⟩ := hm2
  have e0 : (v != 0) = true := by rw [bne_iff_ne]; exact hv0
  have HR := Lib.hid hr
  have HF := Lib.hid hf
  clear hr hf hno hm hv0
  by_cases hv1 : 1 ≤ v ∧ v ≤ 65536
  ·have hv2 : S.is v = false := by
    rcases hv with h | h
    ·exact absurd hv1 h
    ·exact h
   have HV := Lib.hid hv2
   clear hv hv2
   go_enter Tryd.func36, Tryd.ntmps36
   go_wp2_with fail
   refine (value_yes _ _ _ _ _ _ _ h HR.out h0 h1).mono ?_
   rintro e w' ⟨rfl, rfl⟩
   go_wp2_with fail
   refine (ref_some _ _ _ _ _ _ _ h HR.out h0 h1).mono ?_
   rintro e w' ⟨rfl, rfl⟩
   rw [HF.out]
   go_wp2_with fail
   refine (is_no _ _ _ _ _ _ h HV.out (by omega)).mono ?_
   rintro e w' ⟨rfl, rfl⟩
   go_wp2_with fail
   go_ret
   exact ⟨rfl, rfl⟩
  ·clear hv
   by_cases hv3 : v < 1
   ·go_enter Tryd.func36, Tryd.ntmps36
    go_wp2_with fail
    refine (value_yes _ _ _ _ _ _ _ h HR.out h0 h1).mono ?_
    rintro e w' ⟨rfl, rfl⟩
    go_wp2_with fail
    refine (ref_some _ _ _ _ _ _ _ h HR.out h0 h1).mono ?_
    rintro e w' ⟨rfl, rfl⟩
    rw [HF.out]
    go_wp2_with fail
    go_ret
    exact ⟨rfl, rfl⟩
   ·go_enter Tryd.func36, Tryd.ntmps36
    go_wp2_with fail
    refine (value_yes _ _ _ _ _ _ _ h HR.out h0 h1).mono ?_
    rintro e w' ⟨rfl, rfl⟩
    go_wp2_with fail
    refine (ref_some _ _ _ _ _ _ _ h HR.out h0 h1).mono ?_
    rintro e w' ⟨rfl, rfl⟩
    rw [HF.out]
    go_wp2_with fail
    go_ret
    exact ⟨rfl, rfl⟩

end Go.Proofs.YtbcoejmiihgfoaaDoor

/-! The heap: Put, New. -/
namespace Go.Proofs.YtbcoejmiihgfoaaDoor
open Go.RowKit

theorem raw_cls {S : Hp} (hS : S.Ok) {r i v : Int} (hr : S.is r = true) (h0 : 0 ≤ i) (h1 : i < S.num r) (q : Int) (hq : S.is q = true) : (S.raw r i v).cls q = S.cls q ∧ (S.raw r i v).num q = S.num q := by
 have hb : bhas S.bg (q - 1).toNat = true := by simp only [Hp.is, Bool.and_eq_true] at hq; exact hq.2
 unfold Hp.cls Hp.num
 rw [raw_head hS hr h0 h1 _ hb]
 exact ⟨rfl, rfl⟩

theorem raw_refB {S : Hp} (hS : S.Ok) {r i v : Int} (hr : S.is r = true) (h0 : 0 ≤ i) (h1 : i < S.num r) (q j : Int) : (S.raw r i v).refB q j = S.refB q j := by
 unfold Hp.refB
 rw [raw_is]
 by_cases hq : S.is q = true
 ·obtain ⟨e1, e2⟩ := raw_cls hS hr h0 h1 (v := v) q hq
  rw [e1, e2]
  rfl
 ·rw [show S.is q = false by simpa using hq]
  simp

theorem raw_inY (S : Hp) (r i v q : Int) : (S.raw r i v).inY q = S.inY q := rfl

/-- A value of one object, behind a value laid. -/
theorem raw_get {S : Hp} (hS : S.Ok) {r i v : Int} (hr : S.is r = true) (h0 : 0 ≤ i) (h1 : i < S.num r) (q j : Int) (hq : S.is q = true) (hj : 0 ≤ j) (hj2 : j < S.num q) :
  (S.raw r i v).get q j = if q = r ∧ j = i then v else S.get q j := by
 obtain ⟨g1, g2, g3, g4, _⟩ := hS.le hr
 obtain ⟨k1, k2, k3, k4, _⟩ := hS.le hq
 have hb : bhas S.bg (r - 1).toNat = true := by simp only [Hp.is, Bool.and_eq_true] at hr; exact hr.2
 have hbq : bhas S.bg (q - 1).toNat = true := by simp only [Hp.is, Bool.and_eq_true] at hq; exact hq.2
 show (S.A.set (r + 1 + i).toNat v).getD (q + 1 + j).toNat 0 = if q = r ∧ j = i then v else S.A.getD (q + 1 + j).toNat 0
 rw [getD_set _ _ _ _ (by omega)]
 unfold Hp.num at *
 by_cases c : q = r ∧ j = i
 ·rw [if_pos c, if_pos (by omega)]
 ·rw [if_neg c, if_neg]
  intro e
  by_cases hqr : (q - 1).toNat = (r - 1).toNat
  ·exact c (by omega)
  ·rcases Nat.lt_or_gt_of_ne hqr with h | h
   ·have := hS.disj _ _ hbq hb h; omega
   ·have := hS.disj _ _ hb hbq h; omega

theorem badd_same (ws : List Nat) (i : Nat) (h : bhas ws i = true) (_hl : i / 64 < ws.length) : badd ws i = ws := by
 unfold badd
 have e : ws.getD (i / 64) 0 ||| 2 ^ (i % 64) = ws.getD (i / 64) 0 := by
  apply Nat.eq_of_testBit_eq
  intro j
  rw [Nat.testBit_or, Nat.testBit_two_pow]
  unfold bhas at h
  by_cases c : i % 64 = j
  ·subst c; rw [h]; rfl
  ·simp [c]
 rw [e]
 apply List.ext_getElem?
 intro j
 rw [List.getElem?_set]
 by_cases c : i / 64 = j
 ·subst c
  simp [_hl]
 ·rw [if_neg c]

/-- The heap behind a value that is put. -/
def Hp.marked (S : Hp) (r i v : Int) : Bool := S.refB r i && !(S.inY r) && S.inY v
def Hp.put (S : Hp) (r i v : Int) : Hp := if S.marked r i v then { S.raw r i v with mr := badd S.mr (r - 1).toNat } else S.raw r i v

theorem Hp.Ok.mark {S : Hp} (h : S.Ok) (m : List Nat) : ({ S with mr := m } : Hp).Ok :=
 ⟨h.len, h.few, h.small, h.now, h.y0, h.y1, h.y2, h.a0, h.a1, h.a2, h.b0, h.b1, h.b2, h.b3, h.heads, h.used, h.disj⟩

theorem addAny (b g n : Nat) (x : Int) (ws : List Nat) (w : World) (h : SetAt w b g n ws) (h0 : 0 ≤ x) (h1 : x < n) :
  Calls Tryd.prog 37 #[.pointer (some ⟨b, 0, none⟩), .int .i64 x] w fun e w' => (∃ c, e = .returned (.bool c)) ∧ SetAt w' b g n (badd ws x.toNat) ∧ Upd [g] w w' := by
 by_cases c : bhas ws x.toNat = true
 ·obtain ⟨k, rfl⟩ := Int.eq_ofNat_of_zero_le h0
  rw [Int.toNat_natCast] at *
  refine (add_old b g n k ws w h (by omega) c).mono ?_
  rintro e w' ⟨rfl, rfl⟩
  rw [badd_same ws k c (by have := h.2.2.2.1; omega)]
  exact ⟨⟨_, rfl⟩, h, Upd.refl _ _⟩
 ·refine (add_newI b g n x ws w h h0 h1 (by simpa using c)).mono ?_
  rintro e w' ⟨rfl, h2, h3⟩
  exact ⟨⟨_, rfl⟩, h2, h3⟩

set_option maxRecDepth 100000 in
set_option maxHeartbeats 1000000 in
theorem put_yes (L : HL) (cv mv : Value) (S : Hp) (r i v : Int) (w : World) (h : HpAt w L cv mv S) (hm : S.mayRaw r i v = true) (hv : v ≤ 9223372036854775807) :
  Calls Tryd.prog 15 #[.pointer (some ⟨L.hb, 0, none⟩), .int .i64 r, .int .i64 i, .int .i64 v] w fun e w' => e = .returned (.bool true) ∧ HpAt w' L cv mv (S.put r i v) ∧ Upd [L.wb, L.mw] w w' := by
 have hm' := hm
 simp only [Hp.mayRaw, Bool.and_eq_true, decide_eq_true_eq] at hm'
 obtain ⟨⟨hr, h0, h1⟩, _⟩ := hm'
 obtain ⟨g1, g2, g3, g4, _⟩ := h.ok.le hr
 have hl := h.ok.len
 have HR := Lib.hid hr
 have HM := Lib.hid hm
 have HRB := Lib.hid (raw_refB h.ok hr h0 h1 (v := v))
 have HCN := Lib.hid (raw_cls h.ok hr h0 h1 (v := v) r hr)
 clear hr hm
 have hne := HL.ne h.nd
 have HNE := Lib.hid hne
 clear hne
 by_cases c1 : S.refB r i = true
 ·by_cases c2 : S.inY r = true
  ·have HE : Hid (S.put r i v = S.raw r i v) := by show _ = _; unfold Hp.put Hp.marked; rw [c1, c2]; rfl
   have C1 := Lib.hid c1
   have C2 := Lib.hid c2
   clear c1 c2
   go_enter Tryd.func15, Tryd.ntmps15
   go_wp2_with fail
   refine (raw_yes _ _ _ _ _ _ _ _ h HM.out).mono ?_
   rintro e w1 ⟨rfl, hh, hu⟩
   go_wp2_with fail
   refine (ref_some _ _ _ _ _ _ _ hh (by rw [raw_is]; exact HR.out) h0 (by rw [HCN.out.2]; exact h1)).mono ?_
   rintro e w' ⟨rfl, rfl⟩
   rw [HRB.out, C1.out]
   go_wp2_with fail
   refine (inYoung_any _ _ _ _ _ _ hh (by omega)).mono ?_
   rintro e w' ⟨rfl, rfl⟩
   rw [raw_inY, C2.out]
   go_wp2_with fail
   go_ret
   exact ⟨rfl, by rw [HE.out]; exact hh, hu.mono (by simp)⟩
  ·have c2' : S.inY r = false := by simpa using c2
   by_cases c3 : S.inY v = true
   ·have HE : Hid (S.put r i v = { S.raw r i v with mr := badd S.mr (r - 1).toNat }) := by show _ = _; unfold Hp.put Hp.marked; rw [c1, c2', c3]; rfl
    have C1 := Lib.hid c1
    have C2 := Lib.hid c2'
    have C3 := Lib.hid c3
    clear c1 c2 c2' c3
    go_enter Tryd.func15, Tryd.ntmps15
    go_wp2_with fail
    refine (raw_yes _ _ _ _ _ _ _ _ h HM.out).mono ?_
    rintro e w1 ⟨rfl, hh, hu⟩
    go_wp2_with fail
    refine (ref_some _ _ _ _ _ _ _ hh (by rw [raw_is]; exact HR.out) h0 (by rw [HCN.out.2]; exact h1)).mono ?_
    rintro e w' ⟨rfl, rfl⟩
    rw [HRB.out, C1.out]
    go_wp2_with fail
    refine (inYoung_any _ _ _ _ _ _ hh (by omega)).mono ?_
    rintro e w' ⟨rfl, rfl⟩
    rw [raw_inY, C2.out]
    go_wp2_with fail
    refine (inYoung_any _ _ _ _ _ _ hh hv).mono ?_
    rintro e w' ⟨rfl, rfl⟩
    rw [raw_inY, C3.out]
    have c14 := hh.c14
    go_wp2_with fail
    refine (addAny _ _ _ _ _ _ hh.mr (by omega) (by rw [raw_len]; omega)).mono ?_
    rintro e w2 ⟨⟨cc, rfl⟩, h2, hu2⟩
    have hfin : HpAt w2 L cv mv { S.raw r i v with mr := badd S.mr (r - 1).toNat } := by
     obtain ⟨⟨n1, n2, n3, n4, n5, n6, n7⟩, ⟨p1, p2, p3, p4, p5, p6⟩, ⟨r1, r2, r3, r4, r5⟩, ⟨q1, q2, q3, q4⟩⟩ := HNE.out
     have m1 : ∀ b, b ≠ L.mw → b ∉ [L.mw] := fun b hb => by simpa using hb
     exact ⟨hu2.heap hh.hb (m1 _ n6), hh.ar.upd hu2 (m1 _ (Ne.symm q1)) (m1 _ p5), hh.bg.upd hu2 (m1 _ (Ne.symm q2)) (m1 _ r4), h2, hh.cls.upd hu2 (m1 _ (Ne.symm q4)), hh.nd, hh.ok.mark _⟩
    clear h2 c14
    go_wp2_with fail
    go_ret
    exact ⟨rfl, by rw [HE.out]; exact hfin, (hu.mono (by simp)).trans (hu2.mono (by simp))⟩
   ·have c3' : S.inY v = false := by simpa using c3
    have HE : Hid (S.put r i v = S.raw r i v) := by show _ = _; unfold Hp.put Hp.marked; rw [c1, c2', c3']; rfl
    have C1 := Lib.hid c1
    have C2 := Lib.hid c2'
    have C3 := Lib.hid c3'
    clear c1 c2 c2' c3 c3'
    go_enter Tryd.func15, Tryd.ntmps15
    go_wp2_with fail
    refine (raw_yes _ _ _ _ _ _ _ _ h HM.out).mono ?_
    rintro e w1 ⟨rfl, hh, hu⟩
    go_wp2_with fail
    refine (ref_some _ _ _ _ _ _ _ hh (by rw [raw_is]; exact HR.out) h0 (by rw [HCN.out.2]; exact h1)).mono ?_
    rintro e w' ⟨rfl, rfl⟩
    rw [HRB.out, C1.out]
    go_wp2_with fail
    refine (inYoung_any _ _ _ _ _ _ hh (by omega)).mono ?_
    rintro e w' ⟨rfl, rfl⟩
    rw [raw_inY, C2.out]
    go_wp2_with fail
    refine (inYoung_any _ _ _ _ _ _ hh hv).mono ?_
    rintro e w' ⟨rfl, rfl⟩
    rw [raw_inY, C3.out]
    go_wp2_with fail
    go_ret
    exact ⟨rfl, by rw [HE.out]; exact hh, hu.mono (by simp)⟩
 ·have c1' : S.refB r i = false := by simpa using c1
  have HE : Hid (S.put r i v = S.raw r i v) := by show _ = _; unfold Hp.put Hp.marked; rw [c1']; rfl
  have C1 := Lib.hid c1'
  clear c1 c1'
  go_enter Tryd.func15, Tryd.ntmps15
  go_wp2_with fail
  refine (raw_yes _ _ _ _ _ _ _ _ h HM.out).mono ?_
  rintro e w1 ⟨rfl, hh, hu⟩
  go_wp2_with fail
  refine (ref_some _ _ _ _ _ _ _ hh (by rw [raw_is]; exact HR.out) h0 (by rw [HCN.out.2]; exact h1)).mono ?_
  rintro e w' ⟨rfl, rfl⟩
  rw [HRB.out, C1.out]
  go_wp2_with fail
  go_ret
  exact ⟨rfl, by rw [HE.out]; exact hh, hu.mono (by simp)⟩

set_option maxHeartbeats 400000 in
theorem put_no (L : HL) (cv mv : Value) (S : Hp) (r i v : Int) (w : World) (h : HpAt w L cv mv S) (hm : S.mayRaw r i v = false) (hb : r ≤ 9223372036854775807) :
  Calls Tryd.prog 15 #[.pointer (some ⟨L.hb, 0, none⟩), .int .i64 r, .int .i64 i, .int .i64 v] w fun e w' => e = .returned (.bool false) ∧ w = w' := by
 have HM := Lib.hid hm
 clear hm
 go_enter Tryd.func15, Tryd.ntmps15
 go_wp2_with fail
 refine (raw_no _ _ _ _ _ _ _ _ h HM.out hb).mono ?_
 rintro e w' ⟨rfl, rfl⟩
 go_wp2_with fail
 go_ret
 exact ⟨rfl, rfl⟩

end Go.Proofs.YtbcoejmiihgfoaaDoor

/-! The heap: slices.Clone of its classes; New. -/
namespace Go.Proofs.YtbcoejmiihgfoaaDoor
open Go.RowKit

theorem Tryd.infoClass : (Tryd.prog.info? 55).map (fun i => (i.zero, i.size, i.bytes)) = some (some (.agg #[.string ByteArray.empty]), 1, 16) := by kernel_rfl

set_option maxHeartbeats 800000 in
theorem clone_any (v : Value) (b o : Nat) (cs : List ByteArray) (w : World) (h : ClsAt w v b o cs) (hn : cs.length ≤ 1000) :
  Calls Tryd.prog 32 #[v] w fun e w' => ∃ v' b', e = .returned v' ∧ ClsAt w' v' b' 0 cs ∧ Upd [] w w' ∧ (b' = 0 ∨ w.heap.size ≤ b' ∧ b' < w'.heap.size) := by
 obtain ⟨hv, hc⟩ := h
 rcases hv with ⟨rfl, rfl⟩ | ⟨x, cap, rfl, ha⟩
 ·have heq := Lib.run_eql_slice_nil (P := Tryd.prog) w 22 55 none 0 0 0 0 Tryd.underlying22
  go_enter Tryd.func32, Tryd.ntmps32
  go_wp2_with fail
  go_ret
  exact ⟨_, 0, rfl, ⟨.inl ⟨rfl, rfl⟩, by simp⟩, Upd.refl _ _, .inl rfl⟩
 ·have heq := Lib.run_eql_slice_nil (P := Tryd.prog) w 22 55 (some x) cs.length cap 0 0 Tryd.underlying22
  obtain ⟨i0, hi, hz0, hz1, hz2⟩ := info_parts Tryd.infoClass
  have HI := Lib.hid hi
  have HZ0 := Lib.hid hz0
  have HZ1 := Lib.hid hz1
  have HZ2 := Lib.hid hz2
  clear hi hz0 hz1 hz2
  have HC := Lib.hid hc
  clear hc
  go_enter Tryd.func32, Tryd.ntmps32
  go_wp2_with (at_builtin; refine stop_here ?_)
  refine Hid.mk ?_
  have hmade := World.ownsRow_made (base := w.heap.size) (e := 55) (size := 1) w #[] 0 (Nat.le_refl _) (by unfold maxLen; omega) rfl
  refine (wpList_append_own _ rfl _ _ 22 rfl w.heap.size 55 i0 (.agg #[.string ByteArray.empty]) 1 16 Tryd.underlying22 HI.out HZ0.out HZ1.out HZ2.out rfl (by decide) _ _ _ rfl hmade x cs.length cap (cs.map Value.string) rfl (by simp) ?c1 ?c2 ?c3 ?c4 ?c5 ?c6)
  case c1 =>
   intro j u hu
   rw [List.getElem?_map] at hu
   rcases ha with rfl | rfl
   ·simp at hu
   ·obtain ⟨q, hq, rfl⟩ := Option.map_eq_some_iff.1 hu
    have hj : j < cs.length := (List.getElem?_eq_some_iff.1 hq).1
    have h1 := ((Upd.refl [] w).alloc (.cells #[] 55)).cell (HC.out j hj) (by simp)
    rw [Addr.add_lit, h1, List.getD_eq_getElem?_getD, hq]
    rfl
  case c2 =>
   intro u hu
   obtain ⟨q, _, rfl⟩ := List.mem_map.1 hu
   rfl
  case c3 => unfold maxLen; omega
  case c4 => omega
  case c5 => simp
  case c6 =>
   intro v' w6 hown' hgrow hnil
   have hu : Upd [] w w6 := ((Upd.refl [] w).alloc _).grown hgrow (fun q hq => Or.inr (by cases hq; exact Nat.le_refl _))
   have hfin : Hid (∃ g c, v' = .slice (some ⟨g, 0, none⟩) cs.length c ∧ w.heap.size ≤ g ∧ g < w6.heap.size ∧ ClsAt w6 v' g 0 cs) := by
    rcases hown'.2 with ⟨hv, _⟩ | ⟨g, c, cur, hv, hbg, hgg, _⟩
    ·have := (hnil.1 hv).1
     cases this
    ·rw [Nat.zero_add] at hv
     refine ⟨g, c, hv, hbg, lt_of_heap hgg, .inr ⟨_, _, hv, .inr rfl⟩, fun i hi => ?_⟩
     have h1 := hown'.cells (g := g) (by rw [hv]; rfl) i (.string (cs.getD i ByteArray.empty)) (by
      rw [List.nil_append, List.getElem?_map, List.getElem?_eq_getElem hi, List.getD_eq_getElem?_getD, List.getElem?_eq_getElem hi]
      rfl)
     rwa [Addr.add_lit] at h1
   clear hown' hgrow hnil
   go_wp2_with fail
   go_ret
   obtain ⟨g, c, hv, h1, h2, h3⟩ := hfin.out
   exact ⟨_, g, rfl, h3, hu, .inr ⟨h1, h2⟩⟩

/-- The numbers of a new heap. -/
def Hp.new (cs : List ByteArray) (lim nur : Int) : Hp :=
 { cs := cs, A := List.replicate lim.toNat 0, y := ⟨0, nur, 0⟩, h0 := ⟨nur, nur + (lim - nur) / 2, nur⟩, h1 := ⟨nur + (lim - nur) / 2, nur + 2 * ((lim - nur) / 2), nur + (lim - nur) / 2⟩, now := 0,
   bg := List.replicate ((lim.toNat + 63) / 64) 0, mr := List.replicate ((lim.toNat + 63) / 64) 0 }

theorem Hp.new_ok (cs : List ByteArray) (lim nur : Int) (h0 : 0 ≤ nur) (h1 : nur ≤ lim) (h2 : lim ≤ 65536) (hc : cs.length ≤ 12) (hs : ∀ c ∈ cs, c.size ≤ 10) : (Hp.new cs lim nur).Ok := by
 have hz : ∀ a, bhas (Hp.new cs lim nur).bg a = true → False := by
  intro a ha
  have := bhas_zero ((lim.toNat + 63) / 64) a
  simp only [Hp.new] at ha
  rw [this] at ha
  cases ha
 refine ⟨by simp [Hp.new]; omega, hc, hs, .inl rfl, ?_, ?_, ?_, ?_, ?_, ?_, ?_, ?_, ?_, ?_, fun a ha => (hz a ha).elim, fun a ha => (hz a ha).elim, fun a b ha => (hz a ha).elim⟩
 all_goals simp only [Hp.new, List.length_replicate]
 all_goals omega

/-- The stores that fill a new heap's struct. -/
def fillH (w : World) (q : Nat) (cv : Value) (nur half : Int) : World :=
 ((((((((((w.setCell ⟨q, 0, none⟩ cv).setCell ⟨q, 3, none⟩ (.int .i64 0)).setCell ⟨q, 4, none⟩ (.int .i64 nur)).setCell ⟨q, 5, none⟩ (.int .i64 0)).setCell ⟨q, 6, none⟩ (.int .i64 nur)).setCell ⟨q, 7, none⟩ (.int .i64 (nur + half))).setCell ⟨q, 8, none⟩ (.int .i64 nur)).setCell
  ⟨q, 9, none⟩ (.int .i64 (nur + half))).setCell ⟨q, 10, none⟩ (.int .i64 (nur + 2 * half))).setCell ⟨q, 11, none⟩ (.int .i64 (nur + half)))

theorem fillH_heap {w : World} {q : Nat} {cv cv0 mv0 x2 x13 x14 : Value} {nur half : Int} {T : TypeId} (h : w.heap[q]? = some (.cells #[cv0, mv0, x2, .int .i64 0, .int .i64 0, .int .i64 0, .int .i64 0, .int .i64 0, .int .i64 0, .int .i64 0, .int .i64 0, .int .i64 0, .int .i64 0, x13, x14] T)) :
  (fillH w q cv nur half).heap[q]? = some (.cells #[cv, mv0, x2, .int .i64 0, .int .i64 nur, .int .i64 0, .int .i64 nur, .int .i64 (nur + half), .int .i64 nur, .int .i64 (nur + half), .int .i64 (nur + 2 * half), .int .i64 (nur + half), .int .i64 0, x13, x14] T) := by
 have k0 := heap_setCell h 0 cv
 simp only [List.setIfInBounds_toArray, List.set_cons_zero] at k0
 have k1 := heap_setCell k0 3 (.int .i64 0)
 simp only [List.setIfInBounds_toArray, List.set_cons_zero, List.set_cons_succ] at k1
 have k2 := heap_setCell k1 4 (.int .i64 nur)
 simp only [List.setIfInBounds_toArray, List.set_cons_zero, List.set_cons_succ] at k2
 have k3 := heap_setCell k2 5 (.int .i64 0)
 simp only [List.setIfInBounds_toArray, List.set_cons_zero, List.set_cons_succ] at k3
 have k4 := heap_setCell k3 6 (.int .i64 nur)
 simp only [List.setIfInBounds_toArray, List.set_cons_zero, List.set_cons_succ] at k4
 have k5 := heap_setCell k4 7 (.int .i64 (nur + half))
 simp only [List.setIfInBounds_toArray, List.set_cons_zero, List.set_cons_succ] at k5
 have k6 := heap_setCell k5 8 (.int .i64 nur)
 simp only [List.setIfInBounds_toArray, List.set_cons_zero, List.set_cons_succ] at k6
 have k7 := heap_setCell k6 9 (.int .i64 (nur + half))
 simp only [List.setIfInBounds_toArray, List.set_cons_zero, List.set_cons_succ] at k7
 have k8 := heap_setCell k7 10 (.int .i64 (nur + 2 * half))
 simp only [List.setIfInBounds_toArray, List.set_cons_zero, List.set_cons_succ] at k8
 have k9 := heap_setCell k8 11 (.int .i64 (nur + half))
 simp only [List.setIfInBounds_toArray, List.set_cons_zero, List.set_cons_succ] at k9
 exact k9

theorem fillH_upd {a w : World} {q : Nat} {cv : Value} {nur half : Int} (h : Upd [] a w) (hq : a.heap.size ≤ q) : Upd [] a (fillH w q cv nur half) := by
 exact ((((((((((h).setCell (Or.inr hq) _).setCell (Or.inr hq) _).setCell (Or.inr hq) _).setCell (Or.inr hq) _).setCell (Or.inr hq) _).setCell (Or.inr hq) _).setCell (Or.inr hq) _).setCell (Or.inr hq) _).setCell (Or.inr hq) _).setCell (Or.inr hq) _

theorem new_fin {cv0 mv0 : Value} {cs : List ByteArray} {nur : Int} {w w1 wA wB wC : World} {ln cb : Nat} {cv : Value} (h0 : 0 ≤ nur) (h1 : nur ≤ ln) (h2 : (ln : Int) ≤ 65536) (hc : cs.length ≤ 12) (hs : ∀ c ∈ cs, c.size ≤ 10) (hw : 0 < w.heap.size)
  (HA : ArAt w1 ((w.alloc (.cells #[cv0, mv0] 25)).heap.size + 1) (w.alloc (.cells #[cv0, mv0] 25)).heap.size (List.replicate (ln : Int).toNat 0)) (HU1 : Upd [] (w.alloc (.cells #[cv0, mv0] 25)) w1) (HZ1 : w1.heap.size = (w.alloc (.cells #[cv0, mv0] 25)).heap.size + 2)
  (HSA : SetAt wA (w1.drew.heap.size + 1) w1.drew.heap.size ln (List.replicate ((ln + 63) / 64) 0)) (HUA : Upd [] w1.drew wA) (HZA : wA.heap.size = w1.drew.heap.size + 2)
  (HSB : SetAt wB (wA.heap.size + 1) wA.heap.size ln (List.replicate ((ln + 63) / 64) 0)) (HUB : Upd [] wA wB) (HZB : wB.heap.size = wA.heap.size + 2)
  (hbk : wC.heap[wB.heap.size]? = some (.cells #[cv0, mv0, .pointer (some ⟨w.heap.size + 1 + 1, 0, none⟩), .int .i64 0, .int .i64 0, .int .i64 0, .int .i64 0, .int .i64 0, .int .i64 0, .int .i64 0, .int .i64 0, .int .i64 0, .int .i64 0, .pointer (some ⟨w1.heap.size + 1, 0, none⟩), .pointer (some ⟨wA.heap.size + 1, 0, none⟩)] 88))
  (hCC : ClsAt wC cv cb 0 cs) (huC : Upd [] wB wC) (hsz : wB.heap.size < wC.heap.size) (hcb : cb = 0 ∨ wB.heap.size + 1 ≤ cb ∧ cb < wC.heap.size) :
  ∃ (L : HL) (cv1 mv : Value), Ending.returned (.tuple #[.pointer (some ⟨wB.heap.size, 0, none⟩), .nilIface]) = .returned (.tuple #[.pointer (some ⟨L.hb, 0, none⟩), .nilIface]) ∧ HpAt (fillH wC wB.heap.size cv nur (((ln : Int) - nur) / 2)) L cv1 mv (Hp.new cs ln nur) ∧ Upd [] w (fillH wC wB.heap.size cv nur (((ln : Int) - nur) / 2)) ∧ ∀ i ∈ L.all, (i = 0 ∧ L.cb = 0 ∨ w.heap.size ≤ i) ∧ i < (fillH wC wB.heap.size cv nur (((ln : Int) - nur) / 2)).heap.size := by
 have hfs : (fillH wC wB.heap.size cv nur (((ln : Int) - nur) / 2)).heap.size = wC.heap.size := by simp [fillH, World.setCell]
 rw [hfs]
 simp only [World.size_alloc, World.size_drew, Int.toNat_natCast] at *
 have u3 : Upd [] wB (fillH wC wB.heap.size cv nur (((ln : Int) - nur) / 2)) := fillH_upd huC (Nat.le_refl _)
 have u2 : Upd [] wA (fillH wC wB.heap.size cv nur (((ln : Int) - nur) / 2)) := HUB.trans u3
 have u1 : Upd [] w1 (fillH wC wB.heap.size cv nur (((ln : Int) - nur) / 2)) := (((Upd.refl [] w1).drew).trans HUA).trans u2
 have uC : Upd [wB.heap.size] wC (fillH wC wB.heap.size cv nur (((ln : Int) - nur) / 2)) := by
  exact ((((((((((Upd.refl [wB.heap.size] wC).setCell (Or.inl (List.mem_singleton.2 rfl)) _).setCell (Or.inl (List.mem_singleton.2 rfl)) _).setCell (Or.inl (List.mem_singleton.2 rfl)) _).setCell (Or.inl (List.mem_singleton.2 rfl)) _).setCell (Or.inl (List.mem_singleton.2 rfl)) _).setCell (Or.inl (List.mem_singleton.2 rfl)) _).setCell (Or.inl (List.mem_singleton.2 rfl)) _).setCell (Or.inl (List.mem_singleton.2 rfl)) _).setCell (Or.inl (List.mem_singleton.2 rfl)) _).setCell (Or.inl (List.mem_singleton.2 rfl)) _
 refine ⟨⟨wB.heap.size, w.heap.size + 1 + 1, w.heap.size + 1, w1.heap.size + 1, w1.heap.size, wA.heap.size + 1, wA.heap.size, cb, 0⟩, cv, mv0, rfl, ⟨fillH_heap hbk, HA.upd u1 (by simp) (by simp), ?_, ?_, hCC.upd uC (by simp; omega), ?_, Hp.new_ok cs ln nur h0 h1 h2 hc hs⟩, (((Upd.refl [] w).alloc _).trans HU1).trans u1, ?_⟩
 ·have : (Hp.new cs ln nur).A.length = ln := by simp [Hp.new]
  rw [this]
  have hb : (Hp.new cs ln nur).bg = List.replicate ((ln + 63) / 64) 0 := by simp [Hp.new]
  rw [hb]
  exact HSA.upd u2 (by simp) (by simp)
 ·have : (Hp.new cs ln nur).A.length = ln := by simp [Hp.new]
  rw [this]
  have hb : (Hp.new cs ln nur).mr = List.replicate ((ln + 63) / 64) 0 := by simp [Hp.new]
  rw [hb]
  exact HSB.upd u3 (by simp) (by simp)
 ·simp only [HL.all, List.nodup_cons, List.mem_cons, List.not_mem_nil, or_false, not_or, List.nodup_nil, not_false_eq_true, and_true]
  refine ⟨⟨?_, ?_, ?_, ?_, ?_, ?_, ?_⟩, ⟨?_, ?_, ?_, ?_, ?_, ?_⟩, ⟨?_, ?_, ?_, ?_, ?_⟩, ⟨?_, ?_, ?_, ?_⟩, ⟨?_, ?_, ?_⟩, ⟨?_, ?_⟩, ?_⟩ <;> omega
 ·intro i hi
  simp only [HL.all, List.mem_cons, List.not_mem_nil, or_false] at hi
  rcases hi with rfl | rfl | rfl | rfl | rfl | rfl | rfl | rfl <;> dsimp only <;> omega

set_option maxRecDepth 100000 in
set_option maxHeartbeats 2000000 in
theorem hnew_ok (cv0 mv0 : Value) (b o : Nat) (cs : List ByteArray) (lim nur : Int) (w : World) (h : ClsAt w cv0 b o cs) (h0 : 0 ≤ nur) (h1 : nur ≤ lim) (h2 : lim ≤ 65536) (hc : cs.length ≤ 12) (hs : ∀ c ∈ cs, c.size ≤ 10) (hw : 0 < w.heap.size) :
  Calls Tryd.prog 7 #[.agg #[cv0, mv0], .int .i64 lim, .int .i64 nur] w fun e w' => ∃ L cv mv, e = .returned (.tuple #[.pointer (some ⟨L.hb, 0, none⟩), .nilIface]) ∧ HpAt w' L cv mv (Hp.new cs lim nur) ∧ Upd [] w w' ∧ ∀ i ∈ L.all, (i = 0 ∧ L.cb = 0 ∨ w.heap.size ≤ i) ∧ i < w'.heap.size := by
 have HS := Lib.hid hs
 clear hs
 go_enter Tryd.func7, Tryd.ntmps7
 go_wp2_with fail
 refine (new_ok _ _ (by omega) h2).mono ?_
 rintro e w1 ⟨rfl, hA, hu1, hz1⟩
 go_wp2_with fail
 have hp0 : w1.cell? ⟨w.heap.size, 0, none⟩ = some cv0 := by
  have h0 := heap_alloc_new w (.cells #[cv0, mv0] 25)
  exact hu1.cell (by rw [cell_of h0]; rfl) (by simp)
 have hp1 : w1.cell? ⟨w.heap.size, 1, none⟩ = some mv0 := by
  have h0 := heap_alloc_new w (.cells #[cv0, mv0] 25)
  exact hu1.cell (by rw [cell_of h0]; rfl) (by simp)
 have HA := Lib.hid hA
 have HU1 := Lib.hid hu1
 have HZ1 := Lib.hid hz1
 clear hA hu1 hz1
 obtain ⟨ln, rfl⟩ := Int.eq_ofNat_of_zero_le (show 0 ≤ lim by omega)
 have HB := Lib.hid (fun w => bnew ln w (by omega))
 have tokA : True := trivial
 go_region_with (go_at_call 31; (first | (clear tokA; refine (HB.out _).mono ?_; rintro e wA ⟨rfl, hSA, huA, hzA⟩; have hp0A := huA.cell hp0 (by simp); have hp1A := huA.cell hp1 (by simp); have HSA := Lib.hid hSA; have HUA := Lib.hid huA; have HZA := Lib.hid hzA; clear hSA huA hzA) | (refine (HB.out _).mono ?_; rintro e wB ⟨rfl, hSB, huB, hzB⟩; have hp0B := huB.cell hp0A (by simp); have hp1B := huB.cell hp1A (by simp); have HSB := Lib.hid hSB; have HUB := Lib.hid huB; have HZB := Lib.hid hzB; clear hSB huB hzB)))
 all_goals
  have HCB : Hid (ClsAt (wB.alloc (.cells (#[cv0, mv0, .pointer (some ⟨w.heap.size + 1 + 1, 0, none⟩), .int .i64 0, .int .i64 0, .int .i64 0, .int .i64 0, .int .i64 0, .int .i64 0, .int .i64 0, .int .i64 0, .int .i64 0, .int .i64 0, .pointer (some ⟨w1.heap.size + 1, 0, none⟩), .pointer (some ⟨wA.heap.size + 1, 0, none⟩)]) 88)) cv0 b o cs) :=
   h.upd (((((((Upd.refl [] w).alloc _).trans HU1.out).trans ((Upd.refl [] w1).drew)).trans HUA.out).trans HUB.out).alloc _) (by simp)
  have hp0C := ((Upd.refl [] wB).alloc (.cells (#[cv0, mv0, .pointer (some ⟨w.heap.size + 1 + 1, 0, none⟩), .int .i64 0, .int .i64 0, .int .i64 0, .int .i64 0, .int .i64 0, .int .i64 0, .int .i64 0, .int .i64 0, .int .i64 0, .int .i64 0, .pointer (some ⟨w1.heap.size + 1, 0, none⟩), .pointer (some ⟨wA.heap.size + 1, 0, none⟩)]) 88)).cell hp0B (by simp)
  clear hp0 hp1 hp0A hp1A hp0B hp1B
  go_wp2_with fail
  refine (clone_any _ _ _ _ _ HCB.out (by omega)).mono ?_
  rintro e wC ⟨cv, cb, rfl, hCC, huC, hcb⟩
  obtain ⟨xa, xc, rfl⟩ := hCC.shape
  have HCC := Lib.hid hCC
  have HUC := Lib.hid huC
  have HCBB := Lib.hid hcb
  have hbk := huC.heap (heap_alloc_new wB (.cells (#[cv0, mv0, .pointer (some ⟨w.heap.size + 1 + 1, 0, none⟩), .int .i64 0, .int .i64 0, .int .i64 0, .int .i64 0, .int .i64 0, .int .i64 0, .int .i64 0, .int .i64 0, .int .i64 0, .int .i64 0, .pointer (some ⟨w1.heap.size + 1, 0, none⟩), .pointer (some ⟨wA.heap.size + 1, 0, none⟩)]) 88)) (by simp)
  have HBK := Lib.hid hbk
  have e0 : wC.cell? ⟨wB.heap.size, 0, none⟩ = some cv0 := by rw [cell_of hbk]; rfl
  have e3 : wC.cell? ⟨wB.heap.size, 3, none⟩ = some (.int .i64 0) := by rw [cell_of hbk]; rfl
  have e4 : wC.cell? ⟨wB.heap.size, 4, none⟩ = some (.int .i64 0) := by rw [cell_of hbk]; rfl
  have e5 : wC.cell? ⟨wB.heap.size, 5, none⟩ = some (.int .i64 0) := by rw [cell_of hbk]; rfl
  have e6 : wC.cell? ⟨wB.heap.size, 6, none⟩ = some (.int .i64 0) := by rw [cell_of hbk]; rfl
  have e7 : wC.cell? ⟨wB.heap.size, 7, none⟩ = some (.int .i64 0) := by rw [cell_of hbk]; rfl
  have e8 : wC.cell? ⟨wB.heap.size, 8, none⟩ = some (.int .i64 0) := by rw [cell_of hbk]; rfl
  have e9 : wC.cell? ⟨wB.heap.size, 9, none⟩ = some (.int .i64 0) := by rw [cell_of hbk]; rfl
  have e10 : wC.cell? ⟨wB.heap.size, 10, none⟩ = some (.int .i64 0) := by rw [cell_of hbk]; rfl
  have e11 : wC.cell? ⟨wB.heap.size, 11, none⟩ = some (.int .i64 0) := by rw [cell_of hbk]; rfl
  have f0 := froz_of hbk 0
  have f3 := froz_of hbk 3
  have f4 := froz_of hbk 4
  have f5 := froz_of hbk 5
  have f6 := froz_of hbk 6
  have f7 := froz_of hbk 7
  have f8 := froz_of hbk 8
  have f9 := froz_of hbk 9
  have f10 := froz_of hbk 10
  have f11 := froz_of hbk 11
  clear hCC huC hcb hbk hp0C
  go_wp2_with fail
  refine bodyPost_ret (v := .tuple #[.pointer (some ⟨wB.heap.size, 0, none⟩), .nilIface]) (by simp [results, Tryd.results7, go_sem]) rfl ?_
  have hfin := new_fin (cv := .slice xa cs.length xc) h0 h1 h2 hc HS.out hw HA.out HU1.out HZ1.out HSA.out HUA.out HZA.out HSB.out HUB.out HZB.out HBK.out HCC.out (((Upd.refl [] wB).alloc _).trans HUC.out) (lt_of_heap HBK.out) (by have := HCBB.out; simpa using this)
  exact hfin

/-- Where its parts lie, but for the classes' block. -/
theorem HL.above {L : HL} {W : Nat} (hnd : L.all.Nodup) (hlo : ∀ i ∈ L.all, i = 0 ∧ L.cb = 0 ∨ W ≤ i) : ∀ i ∈ [L.hb, L.ab, L.wb, L.bb, L.bw, L.mb, L.mw], W ≤ i := by
 intro i hi
 have hne : i ≠ L.cb := by
  intro e
  simp only [HL.all, List.nodup_cons, List.mem_cons, List.not_mem_nil, or_false, not_or] at hnd hi
  obtain ⟨h1, h2, h3, h4, h5, h6, h7, _⟩ := hnd
  rcases hi with h | h | h | h | h | h | h
  ·exact h1.2.2.2.2.2.2 (h ▸ e)
  ·exact h2.2.2.2.2.2 (h ▸ e)
  ·exact h3.2.2.2.2 (h ▸ e)
  ·exact h4.2.2.2 (h ▸ e)
  ·exact h5.2.2 (h ▸ e)
  ·exact h6.2 (h ▸ e)
  ·exact h7 (h ▸ e)
 rcases hlo i (by simp only [HL.all, List.mem_cons, List.not_mem_nil, or_false] at hi ⊢; rcases hi with h | h | h | h | h | h | h <;> simp [h]) with ⟨h1, h2⟩ | h
 ·exact absurd (h1.trans h2.symm) hne
 ·exact h

end Go.Proofs.YtbcoejmiihgfoaaDoor
