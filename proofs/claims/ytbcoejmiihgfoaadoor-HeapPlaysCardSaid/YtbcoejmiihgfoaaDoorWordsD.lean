/- overdriveref3.Words: the document's words of an object. A row of int64s that is made. -/
import Derived.Test.YtbcoejmiihgfoaaDoorAny
import Derived.Test.YtbcoejmiihgfoaaDoorRows
import Derived.Test.YtbcoejmiihgfoaaDoorLib
import Derived.Test.YtbcoejmiihgfoaaDoorNumA
/-! overdriveref3.Words: the document's words of an object. A row of int64s that is made. -/
namespace Go.Proofs.YtbcoejmiihgfoaaDoor
open Go.RowKit

set_option maxHeartbeats 400000 in
theorem words3_class (cv mv : Value) (b o k : Nat) (n : Int) (cs : List ByteArray) (w : World) (h : ClsAt w cv b o cs) (hk : k < cs.length) (_hs : cs.length ≤ 1000) (hz : (cs.getD k ByteArray.empty).size ≤ 1000) :
  Calls Tryd.prog 10 #[.agg #[cv, mv], .int .i64 k, .int .i64 n] w fun e w' => e = .returned (.int .i64 (2 + (cs.getD k ByteArray.empty).size)) ∧ Upd [] w w' := by
 obtain ⟨hv, hc⟩ := h
 obtain ⟨cap, rfl⟩ : ∃ cap, cv = .slice (some ⟨b, o, none⟩) cs.length cap := by
  rcases hv with ⟨_, ha⟩ | ⟨x, cap, hv, ha | rfl⟩
  ·rw [ha] at hk; simp at hk
  ·rw [ha] at hk; simp at hk
  ·exact ⟨cap, hv⟩
 clear hv
 have hcell := ((Upd.refl [] w).alloc (.cells #[.slice (some ⟨b, o, none⟩) cs.length cap, mv] 25)).cell (hc k hk) (by simp)
 clear hc
 generalize cs.getD k ByteArray.empty = fs at *
 go_enter Tryd.func10, Tryd.ntmps10
 go_wp2_with fail
 go_ret
 exact ⟨rfl, (Upd.refl _ _).alloc _⟩

set_option maxHeartbeats 400000 in
theorem words3_array (cv mv : Value) (c n : Int) (w : World) (hc0 : c < 0) (h0 : 0 ≤ n) (h1 : n ≤ 1000000) :
  Calls Tryd.prog 10 #[.agg #[cv, mv], .int .i64 c, .int .i64 n] w fun e w' => e = .returned (.int .i64 (2 + n)) ∧ Upd [] w w' := by
 go_enter Tryd.func10, Tryd.ntmps10
 go_wp2_with fail
 go_ret
 exact ⟨rfl, (Upd.refl _ _).alloc _⟩

theorem words3_any (cv mv : Value) (b o : Nat) (c n : Int) (cs : List ByteArray) (w : World) (h : ClsAt w cv b o cs) (h1 : c < cs.length) (hcs : cs.length ≤ 1000) (hz : ∀ c ∈ cs, c.size ≤ 10) (h2 : 0 ≤ n) (h3 : n ≤ 1000000) :
  Calls Tryd.prog 10 #[.agg #[cv, mv], .int .i64 c, .int .i64 n] w fun e w' => e = .returned (.int .i64 (2 + wantN cs c n)) ∧ Upd [] w w' := by
 unfold wantN
 by_cases h0 : 0 ≤ c
 ·rw [if_pos h0]
  obtain ⟨k, rfl⟩ := Int.eq_ofNat_of_zero_le h0
  have hk : k < cs.length := by omega
  exact words3_class cv mv b o k n cs w h hk hcs (by
   have := hz (cs.getD k ByteArray.empty) (by rw [List.getD_eq_getElem?_getD, List.getElem?_eq_getElem hk]; exact List.getElem_mem hk)
   omega)
 ·rw [if_neg h0]
  exact words3_array cv mv c n w (by omega) h2 (by omega)

theorem make_longs (w : World) (m : Nat) (h : m ≤ 1000000) : (Instr.makeSlice 49 (.int .i64 (m : Int)) (.int .i64 (m : Int))).run Tryd.prog w = .ok (.slice (some ⟨w.heap.size, 0, none⟩) m m) (w.alloc (.cells (icells (List.replicate m 0)) 2)) := by
 obtain ⟨i0, hi, hz0, hz1, hz2⟩ := info_parts Tryd.infoLong
 have hmk := run_make (P := Tryd.prog) w 49 2 i0 (.int .i64 0) Tryd.underlying49 hi hz0 .i64 .i64 (m : Int) (m : Int) (by omega) (by omega) (by rw [hz2]; omega) (by omega)
 rw [hz1, Nat.mul_one] at hmk
 simpa [madeCells_zero] using hmk
end Go.Proofs.YtbcoejmiihgfoaaDoor
