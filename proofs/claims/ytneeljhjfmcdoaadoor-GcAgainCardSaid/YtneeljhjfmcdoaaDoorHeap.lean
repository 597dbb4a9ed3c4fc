/- The heap: what its blocks hold, and contracts of its small methods. The heap: objects are laid. -/
import Derived.Test.YtneeljhjfmcdoaaDoorAr
import Derived.Test.YtneeljhjfmcdoaaDoorBits
import Derived.Test.YtneeljhjfmcdoaaDoorPrg
import Derived.RegionCalls
/-! The heap: what its blocks hold, and contracts of its small methods. -/
namespace Go.Proofs.YtneeljhjfmcdoaaDoor
open Go.RowKit

/-- A space as numbers. -/
structure Spc where
  fr : Int
  to : Int
  top : Int

/-- A heap as data. -/
structure Hp where
  cs : List ByteArray
  A : List Int
  y : Spc
  h0 : Spc
  h1 : Spc
  now : Nat
  bg : List Nat
  mr : List Nat

/-- Where a heap's parts lie. -/
structure HL where
  hb : Nat
  ab : Nat
  wb : Nat
  bb : Nat
  bw : Nat
  mb : Nat
  mw : Nat
  cb : Nat
  co : Nat

def HL.all (L : HL) : List Nat := [L.hb, L.ab, L.wb, L.bb, L.bw, L.mb, L.mw, L.cb]

def hcells (cv mv : Value) (L : HL) (S : Hp) : Array Value :=
  #[cv, mv, .pointer (some ⟨L.ab, 0, none⟩), .int .i64 S.y.fr, .int .i64 S.y.to, .int .i64 S.y.top, .int .i64 S.h0.fr, .int .i64 S.h0.to, .int .i64 S.h0.top, .int .i64 S.h1.fr, .int .i64 S.h1.to, .int .i64 S.h1.top,
    .int .i64 S.now, .pointer (some ⟨L.bb, 0, none⟩), .pointer (some ⟨L.mb, 0, none⟩)]

/-- An object begins at that word: its head says class and number; it lies among the words. -/
def Hp.headAt (S : Hp) (at_ : Nat) : Prop :=
  headOk (S.A.getD at_ 0) ∧ unC (S.A.getD at_ 0) < S.cs.length ∧ (0 ≤ unC (S.A.getD at_ 0) → unN (S.A.getD at_ 0) = (S.cs.getD (unC (S.A.getD at_ 0)).toNat ByteArray.empty).size) ∧ (at_ : Int) + 2 + unN (S.A.getD at_ 0) ≤ S.A.length

/-- Its three spaces, by number: the nursery, the halves. -/
def Hp.sp (S : Hp) : Nat → Spc
  | 0 => S.y
  | 1 => S.h0
  | _ => S.h1

/-- What always holds of a heap's numbers. -/
structure Hp.Ok (S : Hp) : Prop where
  len : S.A.length ≤ 65536
  few : S.cs.length ≤ 12
  small : ∀ c ∈ S.cs, c.size ≤ 10
  now : S.now = 0 ∨ S.now = 1
  y0 : 0 ≤ S.y.fr
  y1 : S.y.fr ≤ S.y.top
  y2 : S.y.top ≤ S.y.to
  a0 : S.y.to ≤ S.h0.fr
  a1 : S.h0.fr ≤ S.h0.top
  a2 : S.h0.top ≤ S.h0.to
  b0 : S.h0.to ≤ S.h1.fr
  b1 : S.h1.fr ≤ S.h1.top
  b2 : S.h1.top ≤ S.h1.to
  b3 : S.h1.to ≤ S.A.length
  heads : ∀ at_, bhas S.bg at_ = true → S.headAt at_
  used : ∀ at_, bhas S.bg at_ = true → ∃ k, k < 3 ∧ (S.sp k).fr ≤ (at_ : Int) ∧ (at_ : Int) + 2 + unN (S.A.getD at_ 0) ≤ (S.sp k).top
  disj : ∀ a b, bhas S.bg a = true → bhas S.bg b = true → a < b → (a : Int) + 2 + unN (S.A.getD a 0) ≤ (b : Int)

/-- The heap at L is S. -/
structure HpAt (w : World) (L : HL) (cv mv : Value) (S : Hp) : Prop where
  hb : w.heap[L.hb]? = some (.cells (hcells cv mv L S) 94)
  ar : ArAt w L.ab L.wb S.A
  bg : SetAt w L.bb L.bw S.A.length S.bg
  mr : SetAt w L.mb L.mw S.A.length S.mr
  cls : ClsAt w cv L.cb L.co S.cs
  nd : L.all.Nodup
  ok : S.Ok

theorem HpAt.upd {w w' : World} {L : HL} {cv mv : Value} {S : Hp} (h : HpAt w L cv mv S) {T : List Nat} (hu : Upd T w w') (hT : ∀ i ∈ L.all, i ∉ T) : HpAt w' L cv mv S :=
  ⟨hu.heap h.hb (hT _ (by simp [HL.all])), h.ar.upd hu (hT _ (by simp [HL.all])) (hT _ (by simp [HL.all])), h.bg.upd hu (hT _ (by simp [HL.all])) (hT _ (by simp [HL.all])),
    h.mr.upd hu (hT _ (by simp [HL.all])) (hT _ (by simp [HL.all])), h.cls.upd hu (hT _ (by simp [HL.all])), h.nd, h.ok⟩

theorem HpAt.upd0 {w w' : World} {L : HL} {cv mv : Value} {S : Hp} (h : HpAt w L cv mv S) (hu : Upd [] w w') : HpAt w' L cv mv S := h.upd hu (by simp)
theorem HpAt.lt {w : World} {L : HL} {cv mv : Value} {S : Hp} (h : HpAt w L cv mv S) : L.hb < w.heap.size ∧ L.ab < w.heap.size ∧ L.wb < w.heap.size ∧ L.bb < w.heap.size ∧ L.bw < w.heap.size ∧ L.mb < w.heap.size ∧ L.mw < w.heap.size :=
  ⟨lt_of_heap h.hb, lt_of_heap h.ar.1, lt_of_heap h.ar.2.1, lt_of_heap h.bg.1, lt_of_heap h.bg.2.1, lt_of_heap h.mr.1, lt_of_heap h.mr.2.1⟩

section
variable {w : World} {L : HL} {cv mv : Value} {S : Hp} (h : HpAt w L cv mv S)
include h
theorem HpAt.c0 : w.cell? ⟨L.hb, 0, none⟩ = some cv := by rw [cell_of h.hb]; rfl
theorem HpAt.c2 : w.cell? ⟨L.hb, 2, none⟩ = some (.pointer (some ⟨L.ab, 0, none⟩)) := by rw [cell_of h.hb]; rfl
theorem HpAt.c3 : w.cell? ⟨L.hb, 3, none⟩ = some (.int .i64 S.y.fr) := by rw [cell_of h.hb]; rfl
theorem HpAt.c4 : w.cell? ⟨L.hb, 4, none⟩ = some (.int .i64 S.y.to) := by rw [cell_of h.hb]; rfl
theorem HpAt.c5 : w.cell? ⟨L.hb, 5, none⟩ = some (.int .i64 S.y.top) := by rw [cell_of h.hb]; rfl
theorem HpAt.c6 : w.cell? ⟨L.hb, 6, none⟩ = some (.int .i64 S.h0.fr) := by rw [cell_of h.hb]; rfl
theorem HpAt.c7 : w.cell? ⟨L.hb, 7, none⟩ = some (.int .i64 S.h0.to) := by rw [cell_of h.hb]; rfl
theorem HpAt.c8 : w.cell? ⟨L.hb, 8, none⟩ = some (.int .i64 S.h0.top) := by rw [cell_of h.hb]; rfl
theorem HpAt.c9 : w.cell? ⟨L.hb, 9, none⟩ = some (.int .i64 S.h1.fr) := by rw [cell_of h.hb]; rfl
theorem HpAt.c10 : w.cell? ⟨L.hb, 10, none⟩ = some (.int .i64 S.h1.to) := by rw [cell_of h.hb]; rfl
theorem HpAt.c11 : w.cell? ⟨L.hb, 11, none⟩ = some (.int .i64 S.h1.top) := by rw [cell_of h.hb]; rfl
theorem HpAt.c12 : w.cell? ⟨L.hb, 12, none⟩ = some (.int .i64 S.now) := by rw [cell_of h.hb]; rfl
theorem HpAt.c13 : w.cell? ⟨L.hb, 13, none⟩ = some (.pointer (some ⟨L.bb, 0, none⟩)) := by rw [cell_of h.hb]; rfl
theorem HpAt.c14 : w.cell? ⟨L.hb, 14, none⟩ = some (.pointer (some ⟨L.mb, 0, none⟩)) := by rw [cell_of h.hb]; rfl
theorem HpAt.fz (i : Nat) : w.frozen? ⟨L.hb, i, none⟩ = false := froz_of h.hb i
end

/-- Is there an object of that number? -/
def Hp.is (S : Hp) (r : Int) : Bool := decide (1 ≤ r) && bhas S.bg (r - 1).toNat
def Hp.cls (S : Hp) (r : Int) : Int := unC (S.A.getD (r - 1).toNat 0)
def Hp.num (S : Hp) (r : Int) : Int := unN (S.A.getD (r - 1).toNat 0)

theorem Hp.Ok.le {S : Hp} (h : S.Ok) {r : Int} (hr : S.is r = true) : 1 ≤ r ∧ r + 1 + S.num r ≤ S.A.length ∧ 0 ≤ S.num r ∧ S.num r ≤ 1048576 ∧ -2 ≤ S.cls r ∧ S.cls r < S.cs.length := by
  simp only [Hp.is, Bool.and_eq_true, decide_eq_true_eq] at hr
  obtain ⟨h1, h2⟩ := hr
  obtain ⟨a, b, c, d⟩ := h.heads _ h2
  unfold Hp.num Hp.cls
  have hn := unN_nonneg (S.A.getD (r - 1).toNat 0)
  refine ⟨h1, by omega, hn, by unfold headOk at a; unfold unN; omega, by unfold headOk at a; unfold unC; omega, b⟩

set_option maxHeartbeats 400000 in
theorem is_yes (L : HL) (cv mv : Value) (S : Hp) (r : Int) (w : World) (h : HpAt w L cv mv S) (hr : S.is r = true) :
    Calls Tryd.prog 18 #[.pointer (some ⟨L.hb, 0, none⟩), .int .i64 r] w fun e w' => e = .returned (.tuple #[.int .i64 (S.cls r), .int .i64 (S.num r), .bool true]) ∧ w = w' := by
  obtain ⟨h1, h2, h3, _⟩ := h.ok.le hr
  have hl := h.ok.len
  have hb : bhas S.bg (r - 1).toNat = true := by simp only [Hp.is, Bool.and_eq_true] at hr; exact hr.2
  clear hr
  have h13 := h.c13
  have h2' := h.c2
  obtain ⟨k, rfl⟩ : ∃ k : Nat, r = (k : Int) + 1 := ⟨(r - 1).toNat, by omega⟩
  have ek : ((k : Int) + 1 - 1).toNat = k := by omega
  unfold Hp.cls Hp.num at *
  rw [ek] at hb
  simp only [ek] at h2 h3 ⊢
  have HD := Lib.hid (h.ok.heads _ hb).1
  have HB := Lib.hid hb
  clear hb ek
  have h5 : (k : Int) < S.A.length := by omega
  go_enter Tryd.func18, Tryd.ntmps18
  go_wp2_with fail
  refine (has_in _ _ _ k _ _ h.bg (by omega)).mono ?_
  rintro e w' ⟨rfl, rfl⟩
  rw [HB.out]
  go_wp2_with fail
  refine (load_in _ _ _ _ _ h.ar (by omega) (by omega)).mono ?_
  rintro e w' ⟨rfl, rfl⟩
  rw [Int.toNat_natCast]
  go_wp2_with fail
  refine (unpack_yes _ _ HD.out).mono ?_
  rintro e w' ⟨rfl, rfl⟩
  go_wp2_with fail
  go_ret3
  exact ⟨rfl, rfl⟩

set_option maxHeartbeats 400000 in
theorem is_no (L : HL) (cv mv : Value) (S : Hp) (r : Int) (w : World) (h : HpAt w L cv mv S) (hr : S.is r = false) (_hb : r ≤ 9223372036854775807) :
    Calls Tryd.prog 18 #[.pointer (some ⟨L.hb, 0, none⟩), .int .i64 r] w fun e w' => e = .returned (.tuple #[.int .i64 0, .int .i64 0, .bool false]) ∧ w = w' := by
  have hl := h.ok.len
  have h13 := h.c13
  by_cases h1 : r < 1
  · go_enter Tryd.func18, Tryd.ntmps18
    go_wp2_with fail
    go_ret3
    exact ⟨rfl, rfl⟩
  · obtain ⟨k, rfl⟩ : ∃ k : Nat, r = (k : Int) + 1 := ⟨(r - 1).toNat, by omega⟩
    have hb : bhas S.bg k = false := by
      have e1 : decide ((1 : Int) ≤ (k : Int) + 1) = true := by simp; omega
      have ek : ((k : Int) + 1 - 1).toNat = k := by omega
      simpa [Hp.is, e1, ek] using hr
    have HB := Lib.hid hb
    clear hb hr
    by_cases h2 : k < S.A.length
    · go_enter Tryd.func18, Tryd.ntmps18
      go_wp2_with fail
      refine (has_in _ _ _ k _ _ h.bg (by omega)).mono ?_
      rintro e w' ⟨rfl, rfl⟩
      rw [HB.out]
      go_wp2_with fail
      go_ret3
      exact ⟨rfl, rfl⟩
    · go_enter Tryd.func18, Tryd.ntmps18
      go_wp2_with fail
      refine (has_out _ _ _ _ _ _ h.bg (by omega)).mono ?_
      rintro e w' ⟨rfl, rfl⟩
      go_wp2_with fail
      go_ret3
      exact ⟨rfl, rfl⟩

/-- Has the object a value of that place? -/
def Hp.has (S : Hp) (r i : Int) : Bool := S.is r && decide (0 ≤ i ∧ i < S.num r)

set_option maxHeartbeats 400000 in
theorem value_yes (L : HL) (cv mv : Value) (S : Hp) (r i : Int) (w : World) (h : HpAt w L cv mv S) (hr : S.is r = true) (h0 : 0 ≤ i) (h1 : i < S.num r) :
    Calls Tryd.prog 41 #[.pointer (some ⟨L.hb, 0, none⟩), .int .i64 r, .int .i64 i] w fun e w' => e = .returned (.tuple #[.int .i64 (r + 1 + i), .bool true]) ∧ w = w' := by
  obtain ⟨g1, g2, g3, g4, _⟩ := h.ok.le hr
  have hl := h.ok.len
  have HR := Lib.hid hr
  clear hr
  go_enter Tryd.func41, Tryd.ntmps41
  go_wp2_with fail
  refine (is_yes _ _ _ _ _ _ h HR.out).mono ?_
  rintro e w' ⟨rfl, rfl⟩
  go_wp2_with fail
  go_ret2
  refine ⟨?_, rfl⟩
  have e : r + 1 + i = r - 1 + 2 + i := by omega
  rw [e]; rfl

set_option maxHeartbeats 400000 in
theorem value_no (L : HL) (cv mv : Value) (S : Hp) (r i : Int) (w : World) (h : HpAt w L cv mv S) (hr : S.is r = false ∨ i < 0 ∨ S.num r ≤ i) (hb : r ≤ 9223372036854775807) :
    Calls Tryd.prog 41 #[.pointer (some ⟨L.hb, 0, none⟩), .int .i64 r, .int .i64 i] w fun e w' => e = .returned (.tuple #[.int .i64 0, .bool false]) ∧ w = w' := by
  by_cases hr' : S.is r = true
  · have hi : i < 0 ∨ S.num r ≤ i := by
      rcases hr with h | h
      · rw [hr'] at h; cases h
      · exact h
    have HR := Lib.hid hr'
    clear hr' hr
    by_cases h0 : i < 0
    · go_enter Tryd.func41, Tryd.ntmps41
      go_wp2_with fail
      refine (is_yes _ _ _ _ _ _ h HR.out).mono ?_
      rintro e w' ⟨rfl, rfl⟩
      go_wp2_with fail
      go_ret2
      exact ⟨rfl, rfl⟩
    · go_enter Tryd.func41, Tryd.ntmps41
      go_wp2_with fail
      refine (is_yes _ _ _ _ _ _ h HR.out).mono ?_
      rintro e w' ⟨rfl, rfl⟩
      go_wp2_with fail
      go_ret2
      exact ⟨rfl, rfl⟩
  · have HR := Lib.hid (show S.is r = false by simpa using hr')
    clear hr' hr
    go_enter Tryd.func41, Tryd.ntmps41
    go_wp2_with fail
    refine (is_no _ _ _ _ _ _ h HR.out hb).mono ?_
    rintro e w' ⟨rfl, rfl⟩
    go_wp2_with fail
    go_ret2
    exact ⟨rfl, rfl⟩

/-- A value. -/
def Hp.get (S : Hp) (r i : Int) : Int := S.A.getD (r + 1 + i).toNat 0

set_option maxHeartbeats 400000 in
theorem get_yes (L : HL) (cv mv : Value) (S : Hp) (r i : Int) (w : World) (h : HpAt w L cv mv S) (hr : S.is r = true) (h0 : 0 ≤ i) (h1 : i < S.num r) :
    Calls Tryd.prog 17 #[.pointer (some ⟨L.hb, 0, none⟩), .int .i64 r, .int .i64 i] w fun e w' => e = .returned (.tuple #[.int .i64 (S.get r i), .bool true]) ∧ w = w' := by
  obtain ⟨g1, g2, g3, g4, _⟩ := h.ok.le hr
  have hl := h.ok.len
  have HR := Lib.hid hr
  clear hr
  have h2' := h.c2
  go_enter Tryd.func17, Tryd.ntmps17
  go_wp2_with fail
  refine (value_yes _ _ _ _ _ _ _ h HR.out h0 h1).mono ?_
  rintro e w' ⟨rfl, rfl⟩
  go_wp2_with fail
  refine (load_in _ _ _ _ _ h.ar (by omega) (by omega)).mono ?_
  rintro e w' ⟨rfl, rfl⟩
  go_wp2_with fail
  go_ret2
  exact ⟨rfl, rfl⟩

set_option maxHeartbeats 400000 in
theorem get_no (L : HL) (cv mv : Value) (S : Hp) (r i : Int) (w : World) (h : HpAt w L cv mv S) (hr : S.is r = false ∨ i < 0 ∨ S.num r ≤ i) (hb : r ≤ 9223372036854775807) :
    Calls Tryd.prog 17 #[.pointer (some ⟨L.hb, 0, none⟩), .int .i64 r, .int .i64 i] w fun e w' => e = .returned (.tuple #[.int .i64 0, .bool false]) ∧ w = w' := by
  have HR := Lib.hid hr
  clear hr
  go_enter Tryd.func17, Tryd.ntmps17
  go_wp2_with fail
  refine (value_no _ _ _ _ _ _ _ h HR.out hb).mono ?_
  rintro e w' ⟨rfl, rfl⟩
  go_wp2_with fail
  go_ret2
  exact ⟨rfl, rfl⟩

/-- Is a value a reference? -/
def Hp.refB (S : Hp) (r i : Int) : Bool := S.is r && decide (0 ≤ i ∧ i < S.num r) && (decide (S.cls r = -2) || decide (0 ≤ S.cls r) && decide (((S.cs.getD (S.cls r).toNat ByteArray.empty).get! i.toNat) = 82))

theorem Hp.Ok.fields {S : Hp} (h : S.Ok) {r : Int} (hr : S.is r = true) (hc : 0 ≤ S.cls r) : S.num r = (S.cs.getD (S.cls r).toNat ByteArray.empty).size := by
  simp only [Hp.is, Bool.and_eq_true, decide_eq_true_eq] at hr
  exact (h.heads _ hr.2).2.2.1 hc

theorem HpAt.cv {w : World} {L : HL} {cv mv : Value} {S : Hp} (h : HpAt w L cv mv S) (k : Nat) (hk : k < S.cs.length) : ∃ cap, cv = .slice (some ⟨L.cb, L.co, none⟩) S.cs.length cap ∧ w.cell? ⟨L.cb, L.co + k, none⟩ = some (.string (S.cs.getD k ByteArray.empty)) := by
  obtain ⟨hv, hc⟩ := h.cls
  rcases hv with ⟨_, ha⟩ | ⟨x, cap, hv, ha | rfl⟩
  · rw [ha] at hk; simp at hk
  · rw [ha] at hk; simp at hk
  · exact ⟨cap, hv, hc k hk⟩

set_option maxHeartbeats 400000 in
theorem ref_none (L : HL) (cv mv : Value) (S : Hp) (r i : Int) (w : World) (h : HpAt w L cv mv S) (hr : S.is r = false ∨ i < 0 ∨ S.num r ≤ i) (hb : r ≤ 9223372036854775807) :
    Calls Tryd.prog 36 #[.pointer (some ⟨L.hb, 0, none⟩), .int .i64 r, .int .i64 i] w fun e w' => e = .returned (.bool false) ∧ w = w' := by
  by_cases hr' : S.is r = true
  · have hi : i < 0 ∨ S.num r ≤ i := by
      rcases hr with h | h
      · rw [hr'] at h; cases h
      · exact h
    have HR := Lib.hid hr'
    clear hr' hr
    by_cases h0 : i < 0
    · go_enter Tryd.func36, Tryd.ntmps36
      go_wp2_with fail
      refine (is_yes _ _ _ _ _ _ h HR.out).mono ?_
      rintro e w' ⟨rfl, rfl⟩
      go_wp2_with fail
      go_ret
      exact ⟨rfl, rfl⟩
    · go_enter Tryd.func36, Tryd.ntmps36
      go_wp2_with fail
      refine (is_yes _ _ _ _ _ _ h HR.out).mono ?_
      rintro e w' ⟨rfl, rfl⟩
      go_wp2_with fail
      go_ret
      exact ⟨rfl, rfl⟩
  · have HR := Lib.hid (show S.is r = false by simpa using hr')
    clear hr' hr
    go_enter Tryd.func36, Tryd.ntmps36
    go_wp2_with fail
    refine (is_no _ _ _ _ _ _ h HR.out hb).mono ?_
    rintro e w' ⟨rfl, rfl⟩
    go_wp2_with fail
    go_ret
    exact ⟨rfl, rfl⟩

set_option maxHeartbeats 400000 in
theorem ref_some (L : HL) (cv mv : Value) (S : Hp) (r i : Int) (w : World) (h : HpAt w L cv mv S) (hr : S.is r = true) (h0 : 0 ≤ i) (h1 : i < S.num r) :
    Calls Tryd.prog 36 #[.pointer (some ⟨L.hb, 0, none⟩), .int .i64 r, .int .i64 i] w fun e w' => e = .returned (.bool (S.refB r i)) ∧ w = w' := by
  obtain ⟨g1, g2, g3, g4, g5, g6⟩ := h.ok.le hr
  have hl := h.ok.len
  have hfl := h.ok.fields hr
  have h0c := h.c0
  have HRF : Hid (S.refB r i = (decide (S.cls r = -2) || decide (0 ≤ S.cls r) && decide (((S.cs.getD (S.cls r).toNat ByteArray.empty).get! i.toNat) = 82))) := by
    show _ = _
    unfold Hp.refB
    rw [hr, decide_eq_true (show 0 ≤ i ∧ i < S.num r from ⟨h0, h1⟩)]
    simp
  have HR := Lib.hid hr
  clear hr
  by_cases c2 : S.cls r = -2
  · have e2 : (S.cls r == -2) = true := by rw [beq_iff_eq]; exact c2
    rw [c2] at HRF
    have HC := Lib.hid c2
    clear c2 hfl
    go_enter Tryd.func36, Tryd.ntmps36
    go_wp2_with fail
    refine (is_yes _ _ _ _ _ _ h HR.out).mono ?_
    rintro e w' ⟨rfl, rfl⟩
    go_wp2_with fail
    go_ret
    exact ⟨by rw [HRF.out]; simp, rfl⟩
  · have e2 : (S.cls r == -2) = false := by rw [beq_eq_false_iff_ne]; exact c2
    by_cases c0 : 0 ≤ S.cls r
    · have hsz := hfl c0
      obtain ⟨cap, hcv, hcc⟩ := h.cv (S.cls r).toNat (by omega)
      rw [hcv] at h0c
      obtain ⟨k, hk⟩ := Int.eq_ofNat_of_zero_le c0
      obtain ⟨j, rfl⟩ := Int.eq_ofNat_of_zero_le h0
      have HCC := hcc
      rw [hk] at HRF hsz HCC
      have hjs : j < (S.cs.getD (k : Int).toNat ByteArray.empty).size := by omega
      have hkl : k < S.cs.length := by omega
      have hkn : ((k : Int) == -2) = false := by rw [beq_eq_false_iff_ne]; omega
      have HK := Lib.hid hk
      have e0 : decide (0 ≤ S.cls r) = true := by simpa using c0
      clear hfl hcc hcv hk
      rw [Int.toNat_natCast] at *
      generalize S.cs.getD k ByteArray.empty = fs at *
      go_enter Tryd.func36, Tryd.ntmps36
      go_wp2_with fail
      refine (is_yes _ _ _ _ _ _ h HR.out).mono ?_
      rintro e w' ⟨rfl, rfl⟩
      rw [HK.out]
      go_wp2_with fail
      go_ret
      have hfin : ((((fs[j]'hjs).toNat : Nat) : Int) == 82) = S.refB r (j : Int) := by
        rw [HRF.out, Int.toNat_natCast, decide_eq_false (by omega : ¬ ((k : Int) = -2)), decide_eq_true (by omega : 0 ≤ (k : Int)), Bool.false_or, Bool.true_and]
        exact byte_eq fs j 82 hjs
      exact ⟨congrArg (fun x => Ending.returned (.bool x)) hfin, rfl⟩
    · have e0 : decide (0 ≤ S.cls r) = false := by simpa using c0
      clear hfl
      go_enter Tryd.func36, Tryd.ntmps36
      go_wp2_with fail
      refine (is_yes _ _ _ _ _ _ h HR.out).mono ?_
      rintro e w' ⟨rfl, rfl⟩
      go_wp2_with fail
      go_ret
      exact ⟨by rw [HRF.out, decide_eq_false c2, e0]; rfl, rfl⟩

/-- Does the object lie in the nursery? -/
def Hp.inY (S : Hp) (r : Int) : Bool := S.is r && decide (S.y.fr ≤ r - 1 ∧ r - 1 < S.y.top)

set_option maxHeartbeats 400000 in
theorem inYoung_any (L : HL) (cv mv : Value) (S : Hp) (r : Int) (w : World) (h : HpAt w L cv mv S) (hb : r ≤ 9223372036854775807) :
    Calls Tryd.prog 33 #[.pointer (some ⟨L.hb, 0, none⟩), .int .i64 r] w fun e w' => e = .returned (.bool (S.inY r)) ∧ w = w' := by
  have h3 := h.c3
  have h5 := h.c5
  by_cases hr : S.is r = true
  · obtain ⟨g1, g2, g3, g4, _⟩ := h.ok.le hr
    have hl := h.ok.len
    have HR := Lib.hid hr
    by_cases hc : S.y.fr ≤ r - 1 ∧ r - 1 < S.y.top
    · have HE := Lib.hid (show S.inY r = true by unfold Hp.inY; rw [hr, decide_eq_true hc]; rfl)
      clear hr
      go_enter Tryd.func33, Tryd.ntmps33
      go_wp2_with fail
      refine (is_yes _ _ _ _ _ _ h HR.out).mono ?_
      rintro e w' ⟨rfl, rfl⟩
      go_wp2_with fail
      refine (has_yes _ _ _ _ _ _ hc.1 hc.2 h3 h5).mono ?_
      rintro e w' ⟨rfl, rfl⟩
      go_wp2_with fail
      go_ret
      exact ⟨by rw [HE.out]; rfl, rfl⟩
    · have HE := Lib.hid (show S.inY r = false by unfold Hp.inY; rw [hr, decide_eq_false hc]; rfl)
      clear hr
      go_enter Tryd.func33, Tryd.ntmps33
      go_wp2_with fail
      refine (is_yes _ _ _ _ _ _ h HR.out).mono ?_
      rintro e w' ⟨rfl, rfl⟩
      go_wp2_with fail
      refine (has_no _ _ _ _ _ _ (by omega) h3 h5).mono ?_
      rintro e w' ⟨rfl, rfl⟩
      go_wp2_with fail
      go_ret
      exact ⟨by rw [HE.out]; rfl, rfl⟩
  · have hr' : S.is r = false := by simpa using hr
    have HR := Lib.hid hr'
    have HE := Lib.hid (show S.inY r = false by unfold Hp.inY; rw [hr']; rfl)
    clear hr hr'
    go_enter Tryd.func33, Tryd.ntmps33
    go_wp2_with fail
    refine (is_no _ _ _ _ _ _ h HR.out hb).mono ?_
    rintro e w' ⟨rfl, rfl⟩
    go_wp2_with fail
    go_ret
    exact ⟨by rw [HE.out]; rfl, rfl⟩

/-- The half that is used, and where it lies in the heap. -/
def Hp.old (S : Hp) : Spc := if S.now = 0 then S.h0 else S.h1
def Hp.oldO (S : Hp) : Nat := if S.now = 0 then 6 else 9

set_option maxHeartbeats 400000 in
theorem old_any (L : HL) (cv mv : Value) (S : Hp) (w : World) (h : HpAt w L cv mv S) :
    Calls Tryd.prog 48 #[.pointer (some ⟨L.hb, 0, none⟩)] w fun e w' => e = .returned (.pointer (some ⟨L.hb, S.oldO, none⟩)) ∧ ∃ n, w' = w.drewN n := by
  have h12 := h.c12
  rcases h.ok.now with h0 | h0
  · have HE := Lib.hid (show S.oldO = 6 by unfold Hp.oldO; rw [if_pos h0])
    rw [h0] at h12
    clear h0
    go_enter Tryd.func48, Tryd.ntmps48
    go_wp2_with fail
    go_quiet (fail)
    go_wp2_with fail
    go_ret
    exact ⟨by rw [HE.out]; rfl, _, rfl⟩
  · have HE := Lib.hid (show S.oldO = 9 by unfold Hp.oldO; rw [if_neg (by omega)])
    rw [h0] at h12
    clear h0
    go_enter Tryd.func48, Tryd.ntmps48
    go_wp2_with fail
    go_quiet (fail)
    go_wp2_with fail
    go_ret
    exact ⟨by rw [HE.out]; rfl, _, rfl⟩

end Go.Proofs.YtneeljhjfmcdoaaDoor

/-! The heap: objects are laid. -/
namespace Go.Proofs.YtneeljhjfmcdoaaDoor
open Go.RowKit

theorem getD_splice (L cs : List Int) (o i : Nat) (h : o + cs.length ≤ L.length) :
    (splice L o cs).getD i 0 = if o ≤ i ∧ i < o + cs.length then cs.getD (i - o) 0 else L.getD i 0 := by
  unfold splice
  simp only [List.getD_eq_getElem?_getD]
  by_cases h1 : i < o
  · rw [List.getElem?_append_left (by simp; omega), if_neg (by omega)]
    simp [h1]
  · rw [List.getElem?_append_right (by simp; omega)]
    have e1 : (L.take o).length = o := by simp; omega
    rw [e1]
    by_cases h2 : i < o + cs.length
    · rw [if_pos ⟨by omega, h2⟩, List.getElem?_append_left (by omega)]
    · rw [if_neg (by omega), List.getElem?_append_right (by omega), List.getElem?_drop]
      congr 2; omega
theorem getD_set (L : List Int) (k i : Nat) (v : Int) (hk : k < L.length) : (L.set k v).getD i 0 = if i = k then v else L.getD i 0 := by
  simp only [List.getD_eq_getElem?_getD, List.getElem?_set]
  by_cases h : k = i
  · subst h; simp [hk]
  · rw [if_neg h, if_neg (fun e => h e.symm)]
theorem clearL_len (L : List Int) (fr to : Int) : (clearL L fr to).length = L.length := by
  unfold clearL
  by_cases c : ((min to (L.length : Int)) - (max fr 0)).toNat = 0
  · rw [c]; simp [splice]
  · exact length_splice _ _ _ (by rw [List.length_replicate]; omega)
theorem getD_rep (m i : Nat) : (List.replicate m (0 : Int)).getD i 0 = 0 := by
  simp only [List.getD_eq_getElem?_getD, List.getElem?_replicate]
  split <;> rfl
theorem getD_clear (L : List Int) (a b i : Nat) (hb : b ≤ L.length) (hab : a ≤ b) : (clearL L (a : Int) (b : Int)).getD i 0 = if a ≤ i ∧ i < b then 0 else L.getD i 0 := by
  unfold clearL
  have e : ((min (b : Int) (L.length : Int)) - (max (a : Int) 0)).toNat = b - a := by omega
  rw [e, Int.toNat_natCast, getD_splice _ _ _ _ (by simp; omega), List.length_replicate]
  by_cases h : a ≤ i ∧ i < b
  · rw [if_pos (by omega), if_pos h, getD_rep]
  · rw [if_neg (by omega), if_neg h]

/-- The words that an object of a class wants; 0: there is no such one. -/
def Hp.words (S : Hp) (c n : Int) : Int :=
  if c < -2 ∨ (S.cs.length : Int) ≤ c ∨ c < 0 ∧ (n < 0 ∨ 50 < n) then 0
  else if 0 ≤ c then 2 + (S.cs.getD c.toNat ByteArray.empty).size else 2 + n

set_option maxHeartbeats 400000 in
theorem pin_yes (i n : Int) (w : World) (h0 : 0 ≤ i) (h1 : i < n) : Calls Tryd.prog 91 #[.int .i64 i, .int .i64 n] w fun e w' => e = .returned (.bool true) ∧ w = w' := by
  have d0 : decide (0 ≤ i) = true := by simpa using h0
  have d1 : decide (i < n) = true := by simpa using h1
  go_enter Tryd.func91, Tryd.ntmps91
  go_wp2_with fail
  go_ret
  exact ⟨rfl, rfl⟩
set_option maxHeartbeats 400000 in
theorem pin_no (i n : Int) (w : World) (h0 : i < 0) : Calls Tryd.prog 91 #[.int .i64 i, .int .i64 n] w fun e w' => e = .returned (.bool false) ∧ w = w' := by
  have d0 : decide (0 ≤ i) = false := by simpa using h0
  go_enter Tryd.func91, Tryd.ntmps91
  go_wp2_with fail
  go_ret
  exact ⟨rfl, rfl⟩

set_option maxHeartbeats 400000 in
theorem pwords_class (cv mv : Value) (b o k : Nat) (n : Int) (cs : List ByteArray) (w : World) (h : ClsAt w cv b o cs) (hk : k < cs.length) (_hs : cs.length ≤ 1000) (hz : (cs.getD k ByteArray.empty).size ≤ 1000) :
    Calls Tryd.prog 86 #[.agg #[cv, mv], .int .i64 k, .int .i64 n] w fun e w' => e = .returned (.int .i64 (2 + (cs.getD k ByteArray.empty).size)) ∧ Upd [] w w' := by
  obtain ⟨hv, hc⟩ := h
  obtain ⟨cap, rfl⟩ : ∃ cap, cv = .slice (some ⟨b, o, none⟩) cs.length cap := by
    rcases hv with ⟨_, ha⟩ | ⟨x, cap, hv, ha | rfl⟩
    · rw [ha] at hk; simp at hk
    · rw [ha] at hk; simp at hk
    · exact ⟨cap, hv⟩
  clear hv
  have hcell := ((Upd.refl [] w).alloc (.cells #[.slice (some ⟨b, o, none⟩) cs.length cap, mv] 28)).cell (hc k hk) (by simp)
  clear hc
  generalize cs.getD k ByteArray.empty = fs at *
  go_enter Tryd.func86, Tryd.ntmps86
  go_wp2_with fail
  refine (pin_yes _ _ _ (by omega) (by omega)).mono ?_
  rintro e w' ⟨rfl, rfl⟩
  go_wp2_with fail
  go_ret
  exact ⟨rfl, (Upd.refl _ _).alloc _⟩

set_option maxHeartbeats 400000 in
theorem pwords_array (cv mv : Value) (b o : Nat) (c n : Int) (cs : List ByteArray) (w : World) (h : ClsAt w cv b o cs) (hc0 : c < 0) (h0 : 0 ≤ n) (h1 : n ≤ 1000) :
    Calls Tryd.prog 86 #[.agg #[cv, mv], .int .i64 c, .int .i64 n] w fun e w' => e = .returned (.int .i64 (2 + n)) ∧ Upd [] w w' := by
  obtain ⟨a, cap, rfl⟩ := h.shape
  clear h
  go_enter Tryd.func86, Tryd.ntmps86
  go_wp2_with fail
  refine (pin_no _ _ _ (by omega)).mono ?_
  rintro e w' ⟨rfl, rfl⟩
  go_wp2_with fail
  go_ret
  exact ⟨rfl, (Upd.refl _ _).alloc _⟩

set_option maxHeartbeats 800000 in
theorem words_any (L : HL) (cv mv : Value) (S : Hp) (c n : Int) (w : World) (h : HpAt w L cv mv S) :
    Calls Tryd.prog 66 #[.pointer (some ⟨L.hb, 0, none⟩), .int .i64 c, .int .i64 n] w fun e w' => e = .returned (.int .i64 (S.words c n)) ∧ Upd [] w w' := by
  have hcl := h.cls
  have h0 := h.c0
  have h1 : w.cell? ⟨L.hb, 1, none⟩ = some mv := by rw [cell_of h.hb]; rfl
  have hfew := h.ok.few
  obtain ⟨a, cap, hcv⟩ := h.cls.shape
  rw [hcv] at h0
  by_cases c1 : c < -2
  · have HE := Lib.hid (show S.words c n = 0 by unfold Hp.words; rw [if_pos (.inl c1)])
    go_enter Tryd.func66, Tryd.ntmps66
    go_wp2_with fail
    go_ret
    exact ⟨by rw [HE.out]; rfl, Upd.refl _ _⟩
  · by_cases c2 : (S.cs.length : Int) ≤ c
    · have HE := Lib.hid (show S.words c n = 0 by unfold Hp.words; rw [if_pos (.inr (.inl c2))])
      go_enter Tryd.func66, Tryd.ntmps66
      go_wp2_with fail
      go_ret
      exact ⟨by rw [HE.out]; rfl, Upd.refl _ _⟩
    · by_cases c3 : c < 0
      · have d3 : decide (c < 0) = true := by simpa using c3
        by_cases c4 : n < 0
        · have HE := Lib.hid (show S.words c n = 0 by unfold Hp.words; rw [if_pos (.inr (.inr ⟨c3, .inl c4⟩))])
          have d4 : decide (n < 0) = true := by simpa using c4
          go_enter Tryd.func66, Tryd.ntmps66
          go_wp2_with fail
          go_ret
          exact ⟨by rw [HE.out]; rfl, Upd.refl _ _⟩
        · by_cases c5 : 50 < n
          · have HE := Lib.hid (show S.words c n = 0 by unfold Hp.words; rw [if_pos (.inr (.inr ⟨c3, .inr c5⟩))])
            have d4 : decide (n < 0) = false := by simpa using c4
            have d5 : decide (50 < n) = true := by simpa using c5
            go_enter Tryd.func66, Tryd.ntmps66
            go_wp2_with fail
            go_ret
            exact ⟨by rw [HE.out]; rfl, Upd.refl _ _⟩
          · have HE := Lib.hid (show S.words c n = 2 + n by unfold Hp.words; rw [if_neg (by omega), if_neg (by omega)])
            have d4 : decide (n < 0) = false := by simpa using c4
            have d5 : decide (50 < n) = false := by simpa using c5
            rw [hcv] at hcl
            clear hcv
            go_enter Tryd.func66, Tryd.ntmps66
            go_wp2_with fail
            refine (pwords_array _ _ _ _ _ _ _ _ hcl c3 (by omega) (by omega)).mono ?_
            rintro e w' ⟨rfl, hu⟩
            go_wp2_with fail
            go_ret
            exact ⟨by rw [HE.out]; rfl, hu⟩
      · have d3 : decide (c < 0) = false := by simpa using c3
        obtain ⟨k, rfl⟩ := Int.eq_ofNat_of_zero_le (show 0 ≤ c by omega)
        have HE := Lib.hid (show S.words k n = 2 + (S.cs.getD k ByteArray.empty).size by unfold Hp.words; rw [if_neg (by omega), if_pos (by omega), Int.toNat_natCast])
        have hsm : (S.cs.getD k ByteArray.empty).size ≤ 10 := by
          have hk : k < S.cs.length := by omega
          rw [List.getD_eq_getElem?_getD, List.getElem?_eq_getElem hk]
          exact h.ok.small _ (List.getElem_mem hk)
        rw [hcv] at hcl
        clear hcv
        go_enter Tryd.func66, Tryd.ntmps66
        go_wp2_with fail
        refine (pwords_class _ _ _ _ _ _ _ _ hcl (by omega) (by omega) (by omega)).mono ?_
        rintro e w' ⟨rfl, hu⟩
        go_wp2_with fail
        go_ret
        exact ⟨by rw [HE.out]; rfl, hu⟩

end Go.Proofs.YtneeljhjfmcdoaaDoor
