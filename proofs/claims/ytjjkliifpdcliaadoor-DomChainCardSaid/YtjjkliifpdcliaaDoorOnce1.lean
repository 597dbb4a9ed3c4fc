/- sync.Once.Do with the lock free: not yet done (whatever the function does, as its contract says), and done. sync.Once.doSlow, Do: not yet done, the lock free: whatever the function does, as its contract says. -/
import Derived.Test.YtjjkliifpdcliaaDoorRows
import Derived.Test.YtjjkliifpdcliaaDoorLib
import Derived.Defers
import Derived.Laws.Pointers
import Derived.Laws.LoneSync
import Derived.RegionCalls
import Derived.ChangeAlike
/-! sync.Once.Do with the lock free: not yet done (whatever the function does, as its contract says), and done. -/
namespace Go.Proofs.YtjjkliifpdcliaaDoor
open Go.RowKit

theorem raceDisable (w : World) : (callFunc 76 #[]).run Tryd.prog w = .ok (.value (.tuple #[])) w := run_call_mark0 Tryd.func76 (by kernel_rfl) (by kernel_rfl) (by kernel_rfl) .disable (by kernel_rfl) w
theorem raceEnable (w : World) : (callFunc 78 #[]).run Tryd.prog w = .ok (.value (.tuple #[])) w := run_call_mark0 Tryd.func78 (by kernel_rfl) (by kernel_rfl) (by kernel_rfl) .enable (by kernel_rfl) w
theorem raceAcquire (a : Addr) (w : World) : (callFunc 79 #[.pointer (some a)]).run Tryd.prog w = .ok (.value (.tuple #[])) w := run_call_marked Tryd.func79 (by kernel_rfl) (by kernel_rfl) (by kernel_rfl) .acquire (by kernel_rfl) a w
theorem raceReleaseMerge (a : Addr) (w : World) : (callFunc 81 #[.pointer (some a)]).run Tryd.prog w = .ok (.value (.tuple #[])) w := run_call_marked Tryd.func81 (by kernel_rfl) (by kernel_rfl) (by kernel_rfl) .releaseMerge (by kernel_rfl) a w

theorem store_deferred (a : Addr) (x : Value) (u : FrameMode) (w : World) (hc : w.cell? a = some x) (hz : w.frozen? a = false) :
    CallsD Tryd.prog 59 #[.pointer (some a), .bool true] u w fun e u' w' => u' = u ∧ (e = .returned (.tuple #[]) ∧ w' = w.drew.setCell a (.int .u32 1)) := by
  have hc' : w.drew.cell? a = some x := by go_simp
  have hz' : w.drew.frozen? a = false := by go_simp
  have hst := run_call_store (P := Tryd.prog) Tryd.func71 (by kernel_rfl) (by kernel_rfl) (by kernel_rfl) (by kernel_rfl) (k := .u32) (y := 1) hc' hz'
  go_enter_d Tryd.func59, Tryd.ntmps59
  go_wp2
  go_region_calls
  all_goals (go_end0; exact ⟨rfl, rfl⟩)

set_option maxRecDepth 100000 in
theorem unlock_deferred (a : Addr) (u : FrameMode) (w : World) (hc : w.cell? a = some (.int .i32 1)) (hz : w.frozen? a = false) :
    CallsD Tryd.prog 58 #[.pointer (some a)] u w fun e u' w' => u' = u ∧ (e = .returned (.tuple #[]) ∧ w' = w.setCell a (.int .i32 0)) := by
  have hd := raceDisable
  have he := raceEnable
  have hr := raceReleaseMerge
  have hadd := run_call_add (P := Tryd.prog) Tryd.func82 (by kernel_rfl) (by kernel_rfl) (by kernel_rfl) .i32 (by kernel_rfl) (y := -1) (s := 0) hc hz (by simp [go_sem]; rfl)
  have hcv := run_convert_to_unsafe (P := Tryd.prog) (src := 106) (dst := 110) Tryd.underlying106 Tryd.underlying110 (by kernel_rfl) hc
  go_enter_d Tryd.func58, Tryd.ntmps58
  go_wp2
  go_end0
  go_wp2
  go_end0
  exact ⟨rfl, rfl⟩

set_option maxRecDepth 100000 in
theorem lock_free (a : Addr) (w : World) (hc : w.cell? a = some (.int .i32 0)) (hz : w.frozen? a = false) :
    Calls Tryd.prog 57 #[.pointer (some a)] w fun e w' => e = .returned (.tuple #[]) ∧ w' = w.setCell a (.int .i32 1) := by
  have hd := raceDisable
  have he := raceEnable
  have ha := raceAcquire
  have hcas := run_call_cas_hit (P := Tryd.prog) Tryd.func77 (by kernel_rfl) (by kernel_rfl) (by kernel_rfl) .i32 (by kernel_rfl) (y := 1) hc hz
  have hc' : (w.setCell a (.int .i32 1)).cell? a = some (.int .i32 1) := World.cell?_setCell_same w a _ hc
  have hcv := run_convert_to_unsafe (P := Tryd.prog) (src := 106) (dst := 110) Tryd.underlying106 Tryd.underlying110 (by kernel_rfl) hc'
  go_enter Tryd.func57, Tryd.ntmps57
  go_wp2
  first | go_end0 | (simp only [Exit.inBlock, Exit.then]; refine bodyPost_ret (results_none rfl _ _ _) rfl ?_) | refine bodyPost_ret (results_none rfl _ _ _) rfl ?_
  go_wp2
  go_end0
  exact ⟨rfl, rfl⟩

set_option maxRecDepth 100000 in
set_option maxHeartbeats 1600000 in
/-- '(*sync.Once).Do', done already: the function is not called. -/
theorem do_done (a : Addr) (d : Int) (hd : ¬ d = 0) (fv : Value) (w : World) (h0 : w.cell? a = some (.int .u32 d)) :
    Calls Tryd.prog 29 #[.pointer (some a), fv] w fun e w' => e = .returned (.tuple #[]) ∧ w' = w := by
  have hl := run_call_load (P := Tryd.prog) Tryd.func56 (by kernel_rfl) (by kernel_rfl) (by kernel_rfl) .u32 (by kernel_rfl) h0
  have hnot : ∀ (x : Bool) (w : World), (Op.unary .not (.bool x)).run Tryd.prog w = .ok (.bool (!x)) w := fun _ _ => rfl
  have hd' : (d != 0) = true := by simp [hd]
  go_enter Tryd.func29, Tryd.ntmps29
  go_wp2
  go_end0
  exact ⟨rfl, rfl⟩

theorem loadB_any (a : Addr) (d : Int) (w : World) (h0 : w.cell? a = some (.int .u32 d)) :
    Calls Tryd.prog 40 #[.pointer (some a)] w fun e w' => e = .returned (.bool (d != 0)) ∧ w' = w := by
  have hl := run_call_load (P := Tryd.prog) Tryd.func56 (by kernel_rfl) (by kernel_rfl) (by kernel_rfl) .u32 (by kernel_rfl) h0
  go_enter Tryd.func40, Tryd.ntmps40
  go_wp2
  go_ret
  exact ⟨rfl, rfl⟩

end Go.Proofs.YtjjkliifpdcliaaDoor

/-! sync.Once.doSlow, Do: not yet done, the lock free: whatever the function does, as its contract says. -/
namespace Go.Proofs.YtjjkliifpdcliaaDoor
open Go.RowKit

set_option maxRecDepth 100000 in
set_option maxHeartbeats 1600000 in
/-- The slow road: the lock is taken, the function called, 'done' stored, the lock let go. -/
theorem slow_first (tb : Nat) (w : World) (h0 : w.cell? ⟨tb, 4, none⟩ = some (.int .u32 0)) (h1 : w.cell? ⟨tb, 5, none⟩ = some (.int .i32 0)) (f1 : w.frozen? ⟨tb, 5, none⟩ = false) (Post : World → Prop)
    (hF : Calls Tryd.prog 30 #[.pointer (some ⟨tb, 0, none⟩)] (w.setCell ⟨tb, 5, none⟩ (.int .i32 1)) fun e w1 => e = .returned (.tuple #[]) ∧ Post w1)
    (hP : ∀ w1, Post w1 → w1.cell? ⟨tb, 4, none⟩ = some (.int .u32 0) ∧ w1.cell? ⟨tb, 5, none⟩ = some (.int .i32 1) ∧ w1.frozen? ⟨tb, 4, none⟩ = false ∧ w1.frozen? ⟨tb, 5, none⟩ = false) :
    Calls Tryd.prog 41 #[.pointer (some ⟨tb, 4, none⟩), .func (.func 30) #[.pointer (some ⟨tb, 0, none⟩)] #[]] w fun e w' => e = .returned (.tuple #[]) ∧ ∃ w1, Post w1 ∧ w' = (w1.drew.setCell ⟨tb, 4, none⟩ (.int .u32 1)).setCell ⟨tb, 5, none⟩ (.int .i32 0) := by
  have hl := run_call_load (P := Tryd.prog) Tryd.func56 (by kernel_rfl) (by kernel_rfl) (by kernel_rfl) .u32 (by kernel_rfl) (w := w.setCell ⟨tb, 5, none⟩ (.int .i32 1)) (a := ⟨tb, 4, none⟩) (x := 0) ((World.cell?_setCell_other _ ⟨tb, 5, none⟩ ⟨tb, 4, none⟩ _ (by simp)).trans h0)
  have hnot : ∀ (x : Bool) (w : World), (Op.unary .not (.bool x)).run Tryd.prog w = .ok (.bool (!x)) w := fun _ _ => rfl
  have HF := Lib.hid hF
  clear hF
  go_enter_defers Tryd.func41, Tryd.ntmps41
  go_wp2_with (go_at_call 57; refine (lock_free ⟨tb, 5, none⟩ _ h1 f1).mono ?_; rintro e w' ⟨rfl, rfl⟩)
  refine (loadB_any ⟨tb, 4, none⟩ 0 _ ((World.cell?_setCell_other _ ⟨tb, 5, none⟩ ⟨tb, 4, none⟩ _ (by simp)).trans h0)).mono ?_
  rintro e w' ⟨rfl, rfl⟩
  go_wp2_with fail
  refine HF.out.mono ?_
  rintro e w1 ⟨rfl, hp1⟩
  obtain ⟨p1, p2, p3, p4⟩ := hP w1 hp1
  go_wp2_with fail
  -- the door: two deferred calls, the last laid first
  refine leaves_cons (f := 59) (args := #[.pointer (some ⟨tb, 4, none⟩), .bool true]) (by simp) (by simp [go_sem]) ?_
  refine (store_deferred ⟨tb, 4, none⟩ (.int .u32 0) .returning _ p1 p3).mono ?_
  rintro e u' w'' ⟨rfl, rfl, rfl⟩
  refine leaves_cons (f := 58) (args := #[.pointer (some ⟨tb, 5, none⟩)]) (by simp [settle]) (by simp [go_sem]) ?_
  refine (unlock_deferred ⟨tb, 5, none⟩ _ _ ?_ (by simpa using p4)).mono ?_
  · refine (World.cell?_setCell_other _ ⟨tb, 4, none⟩ ⟨tb, 5, none⟩ _ (by simp)).trans ?_
    rw [World.cell?_drew]
    exact p2
  rintro e u' w'' ⟨rfl, rfl, rfl⟩
  simp [Leaves, settle, results, Tryd.results41]
  exact ⟨w1, hp1, rfl⟩

set_option maxRecDepth 100000 in
set_option maxHeartbeats 1600000 in
theorem do_first (tb : Nat) (w : World) (h0 : w.cell? ⟨tb, 4, none⟩ = some (.int .u32 0)) (h1 : w.cell? ⟨tb, 5, none⟩ = some (.int .i32 0)) (f1 : w.frozen? ⟨tb, 5, none⟩ = false) (Post : World → Prop)
    (hF : Calls Tryd.prog 30 #[.pointer (some ⟨tb, 0, none⟩)] (w.setCell ⟨tb, 5, none⟩ (.int .i32 1)) fun e w1 => e = .returned (.tuple #[]) ∧ Post w1)
    (hP : ∀ w1, Post w1 → w1.cell? ⟨tb, 4, none⟩ = some (.int .u32 0) ∧ w1.cell? ⟨tb, 5, none⟩ = some (.int .i32 1) ∧ w1.frozen? ⟨tb, 4, none⟩ = false ∧ w1.frozen? ⟨tb, 5, none⟩ = false) :
    Calls Tryd.prog 29 #[.pointer (some ⟨tb, 4, none⟩), .func (.func 30) #[.pointer (some ⟨tb, 0, none⟩)] #[]] w fun e w' => e = .returned (.tuple #[]) ∧ ∃ w1, Post w1 ∧ w' = (w1.drew.setCell ⟨tb, 4, none⟩ (.int .u32 1)).setCell ⟨tb, 5, none⟩ (.int .i32 0) := by
  have HSL := Lib.hid (slow_first tb w h0 h1 f1 Post hF hP)
  have HLD := Lib.hid (loadB_any ⟨tb, 4, none⟩ 0 w h0)
  have hnot : ∀ (x : Bool) (w : World), (Op.unary .not (.bool x)).run Tryd.prog w = .ok (.bool (!x)) w := fun _ _ => rfl
  clear hF hP h0 h1 f1
  go_enter Tryd.func29, Tryd.ntmps29
  go_wp2_with fail
  refine HLD.out.mono ?_
  rintro e w' ⟨rfl, rfl⟩
  go_wp2_with fail
  refine HSL.out.mono ?_
  rintro e w' ⟨rfl, w1, hp1, rfl⟩
  go_wp2_with fail
  go_end0
  exact ⟨rfl, w1, hp1, rfl⟩

end Go.Proofs.YtjjkliifpdcliaaDoor
