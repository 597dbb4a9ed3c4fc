/- (Of a live map; turned from XOnce1; the two literal type numbers are *internal/sync.Mutex and unsafe.Pointer of the seat ZD of round 7.) sync.Once.Do with the lock free: not yet done (whatever the function does, as its contract says), and done. sync.Once.doSlow, Do: not yet done, the lock free: whatever the function does, as its contract says. live.Map.at: what is live ahead of an instruction, worked out once. live.Map.Locals, Has, Behind. -/
import Derived.Test.YtpmfbhoochogoaaGreatDoorRows
import Derived.Test.YtpmfbhoochogoaaGreatDoorLib
import Derived.Defers
import Derived.Laws.Pointers
import Derived.Laws.LoneSync
import Derived.RegionCalls
import Derived.ChangeAlike
import Derived.Test.YtpmfbhoochogoaaGreatDoorLivK
import Derived.Test.YtpmfbhoochogoaaGreatDoorListA
/-! (Of a live map; turned from XOnce1; the two literal type numbers are *internal/sync.Mutex and unsafe.Pointer of the seat ZD of round 7.) sync.Once.Do with the lock free: not yet done (whatever the function does, as its contract says), and done. sync.Once.doSlow, Do: not yet done, the lock free: whatever the function does, as its contract says. -/
/-! sync.Once.Do with the lock free: not yet done (whatever the function does, as its contract says), and done. -/
namespace Go.Proofs.YtpmfbhoochogoaaGreatDoor
open Go.RowKit

theorem raceDisable (w : World) : (callFunc 173 #[]).run Tryz.prog w = .ok (.value (.tuple #[])) w := run_call_mark0 Tryz.func173 (by kernel_rfl) (by kernel_rfl) (by kernel_rfl) .disable (by kernel_rfl) w
theorem raceEnable (w : World) : (callFunc 175 #[]).run Tryz.prog w = .ok (.value (.tuple #[])) w := run_call_mark0 Tryz.func175 (by kernel_rfl) (by kernel_rfl) (by kernel_rfl) .enable (by kernel_rfl) w
theorem raceAcquire (a : Addr) (w : World) : (callFunc 176 #[.pointer (some a)]).run Tryz.prog w = .ok (.value (.tuple #[])) w := run_call_marked Tryz.func176 (by kernel_rfl) (by kernel_rfl) (by kernel_rfl) .acquire (by kernel_rfl) a w
theorem raceReleaseMerge (a : Addr) (w : World) : (callFunc 178 #[.pointer (some a)]).run Tryz.prog w = .ok (.value (.tuple #[])) w := run_call_marked Tryz.func178 (by kernel_rfl) (by kernel_rfl) (by kernel_rfl) .releaseMerge (by kernel_rfl) a w

theorem store_deferred (a : Addr) (x : Value) (u : FrameMode) (w : World) (hc : w.cell? a = some x) (hz : w.frozen? a = false) :
    CallsD Tryz.prog 138 #[.pointer (some a), .bool true] u w fun e u' w' => u' = u ∧ (e = .returned (.tuple #[]) ∧ w' = w.drew.setCell a (.int .u32 1)) := by
  have hc' : w.drew.cell? a = some x := by go_simp
  have hz' : w.drew.frozen? a = false := by go_simp
  have hst := run_call_store (P := Tryz.prog) Tryz.func162 (by kernel_rfl) (by kernel_rfl) (by kernel_rfl) (by kernel_rfl) (k := .u32) (y := 1) hc' hz'
  go_enter_d Tryz.func138, Tryz.ntmps138
  go_wp2
  go_region_calls
  all_goals (go_end0; exact ⟨rfl, rfl⟩)

set_option maxRecDepth 100000 in
theorem unlock_deferred (a : Addr) (u : FrameMode) (w : World) (hc : w.cell? a = some (.int .i32 1)) (hz : w.frozen? a = false) :
    CallsD Tryz.prog 137 #[.pointer (some a)] u w fun e u' w' => u' = u ∧ (e = .returned (.tuple #[]) ∧ w' = w.setCell a (.int .i32 0)) := by
  have hd := raceDisable
  have he := raceEnable
  have hr := raceReleaseMerge
  have hadd := run_call_add (P := Tryz.prog) Tryz.func179 (by kernel_rfl) (by kernel_rfl) (by kernel_rfl) .i32 (by kernel_rfl) (y := -1) (s := 0) hc hz (by simp [go_sem]; rfl)
  have hcv := run_convert_to_unsafe (P := Tryz.prog) (src := 251) (dst := 255) Tryz.underlying251 Tryz.underlying255 (by kernel_rfl) hc
  go_enter_d Tryz.func137, Tryz.ntmps137
  go_wp2
  go_end0
  go_wp2
  go_end0
  exact ⟨rfl, rfl⟩

set_option maxRecDepth 100000 in
theorem lock_free (a : Addr) (w : World) (hc : w.cell? a = some (.int .i32 0)) (hz : w.frozen? a = false) :
    Calls Tryz.prog 136 #[.pointer (some a)] w fun e w' => e = .returned (.tuple #[]) ∧ w' = w.setCell a (.int .i32 1) := by
  have hd := raceDisable
  have he := raceEnable
  have ha := raceAcquire
  have hcas := run_call_cas_hit (P := Tryz.prog) Tryz.func174 (by kernel_rfl) (by kernel_rfl) (by kernel_rfl) .i32 (by kernel_rfl) (y := 1) hc hz
  have hc' : (w.setCell a (.int .i32 1)).cell? a = some (.int .i32 1) := World.cell?_setCell_same w a _ hc
  have hcv := run_convert_to_unsafe (P := Tryz.prog) (src := 251) (dst := 255) Tryz.underlying251 Tryz.underlying255 (by kernel_rfl) hc'
  go_enter Tryz.func136, Tryz.ntmps136
  go_wp2
  first | go_end0 | (simp only [Exit.inBlock, Exit.then]; refine bodyPost_ret (results_none rfl _ _ _) rfl ?_) | refine bodyPost_ret (results_none rfl _ _ _) rfl ?_
  go_wp2
  go_end0
  exact ⟨rfl, rfl⟩

set_option maxRecDepth 100000 in
set_option maxHeartbeats 1600000 in
/-- '(*sync.Once).Do', done already: the function is not called. -/
theorem do_done (a : Addr) (d : Int) (hd : ¬ d = 0) (fv : Value) (w : World) (h0 : w.cell? a = some (.int .u32 d)) :
    Calls Tryz.prog 87 #[.pointer (some a), fv] w fun e w' => e = .returned (.tuple #[]) ∧ w' = w := by
  have hl := run_call_load (P := Tryz.prog) Tryz.func135 (by kernel_rfl) (by kernel_rfl) (by kernel_rfl) .u32 (by kernel_rfl) h0
  have hnot : ∀ (x : Bool) (w : World), (Op.unary .not (.bool x)).run Tryz.prog w = .ok (.bool (!x)) w := fun _ _ => rfl
  have hd' : (d != 0) = true := by simp [hd]
  go_enter Tryz.func87, Tryz.ntmps87
  go_wp2
  go_end0
  exact ⟨rfl, rfl⟩

theorem loadB_any (a : Addr) (d : Int) (w : World) (h0 : w.cell? a = some (.int .u32 d)) :
    Calls Tryz.prog 108 #[.pointer (some a)] w fun e w' => e = .returned (.bool (d != 0)) ∧ w' = w := by
  have hl := run_call_load (P := Tryz.prog) Tryz.func135 (by kernel_rfl) (by kernel_rfl) (by kernel_rfl) .u32 (by kernel_rfl) h0
  go_enter Tryz.func108, Tryz.ntmps108
  go_wp2
  go_ret
  exact ⟨rfl, rfl⟩

end Go.Proofs.YtpmfbhoochogoaaGreatDoor

/-! sync.Once.doSlow, Do: not yet done, the lock free: whatever the function does, as its contract says. -/
namespace Go.Proofs.YtpmfbhoochogoaaGreatDoor
open Go.RowKit

set_option maxRecDepth 100000 in
set_option maxHeartbeats 1600000 in
/-- The slow road: the lock is taken, the function called, 'done' stored, the lock let go. -/
theorem slow_first (tb : Nat) (w : World) (h0 : w.cell? ⟨tb, 2, none⟩ = some (.int .u32 0)) (h1 : w.cell? ⟨tb, 3, none⟩ = some (.int .i32 0)) (f1 : w.frozen? ⟨tb, 3, none⟩ = false) (Post : World → Prop)
    (hF : Calls Tryz.prog 88 #[.pointer (some ⟨tb, 0, none⟩)] (w.setCell ⟨tb, 3, none⟩ (.int .i32 1)) fun e w1 => e = .returned (.tuple #[]) ∧ Post w1)
    (hP : ∀ w1, Post w1 → w1.cell? ⟨tb, 2, none⟩ = some (.int .u32 0) ∧ w1.cell? ⟨tb, 3, none⟩ = some (.int .i32 1) ∧ w1.frozen? ⟨tb, 2, none⟩ = false ∧ w1.frozen? ⟨tb, 3, none⟩ = false) :
    Calls Tryz.prog 109 #[.pointer (some ⟨tb, 2, none⟩), .func (.func 88) #[.pointer (some ⟨tb, 0, none⟩)] #[]] w fun e w' => e = .returned (.tuple #[]) ∧ ∃ w1, Post w1 ∧ w' = (w1.drew.setCell ⟨tb, 2, none⟩ (.int .u32 1)).setCell ⟨tb, 3, none⟩ (.int .i32 0) := by
  have hl := run_call_load (P := Tryz.prog) Tryz.func135 (by kernel_rfl) (by kernel_rfl) (by kernel_rfl) .u32 (by kernel_rfl) (w := w.setCell ⟨tb, 3, none⟩ (.int .i32 1)) (a := ⟨tb, 2, none⟩) (x := 0) ((World.cell?_setCell_other _ ⟨tb, 3, none⟩ ⟨tb, 2, none⟩ _ (by simp)).trans h0)
  have hnot : ∀ (x : Bool) (w : World), (Op.unary .not (.bool x)).run Tryz.prog w = .ok (.bool (!x)) w := fun _ _ => rfl
  have HF := Lib.hid hF
  clear hF
  go_enter_defers Tryz.func109, Tryz.ntmps109
  go_wp2_with (go_at_call 136; refine (lock_free ⟨tb, 3, none⟩ _ h1 f1).mono ?_; rintro e w' ⟨rfl, rfl⟩)
  refine (loadB_any ⟨tb, 2, none⟩ 0 _ ((World.cell?_setCell_other _ ⟨tb, 3, none⟩ ⟨tb, 2, none⟩ _ (by simp)).trans h0)).mono ?_
  rintro e w' ⟨rfl, rfl⟩
  go_wp2_with fail
  refine HF.out.mono ?_
  rintro e w1 ⟨rfl, hp1⟩
  obtain ⟨p1, p2, p3, p4⟩ := hP w1 hp1
  go_wp2_with fail
  -- the door: two deferred calls, the last laid first
  refine leaves_cons (f := 138) (args := #[.pointer (some ⟨tb, 2, none⟩), .bool true]) (by simp) (by simp [go_sem]) ?_
  refine (store_deferred ⟨tb, 2, none⟩ (.int .u32 0) .returning _ p1 p3).mono ?_
  rintro e u' w'' ⟨rfl, rfl, rfl⟩
  refine leaves_cons (f := 137) (args := #[.pointer (some ⟨tb, 3, none⟩)]) (by simp [settle]) (by simp [go_sem]) ?_
  refine (unlock_deferred ⟨tb, 3, none⟩ _ _ ?_ (by simpa using p4)).mono ?_
  · refine (World.cell?_setCell_other _ ⟨tb, 2, none⟩ ⟨tb, 3, none⟩ _ (by simp)).trans ?_
    rw [World.cell?_drew]
    exact p2
  rintro e u' w'' ⟨rfl, rfl, rfl⟩
  simp [Leaves, settle, results, Tryz.results109]
  exact ⟨w1, hp1, rfl⟩

set_option maxRecDepth 100000 in
set_option maxHeartbeats 1600000 in
theorem do_first (tb : Nat) (w : World) (h0 : w.cell? ⟨tb, 2, none⟩ = some (.int .u32 0)) (h1 : w.cell? ⟨tb, 3, none⟩ = some (.int .i32 0)) (f1 : w.frozen? ⟨tb, 3, none⟩ = false) (Post : World → Prop)
    (hF : Calls Tryz.prog 88 #[.pointer (some ⟨tb, 0, none⟩)] (w.setCell ⟨tb, 3, none⟩ (.int .i32 1)) fun e w1 => e = .returned (.tuple #[]) ∧ Post w1)
    (hP : ∀ w1, Post w1 → w1.cell? ⟨tb, 2, none⟩ = some (.int .u32 0) ∧ w1.cell? ⟨tb, 3, none⟩ = some (.int .i32 1) ∧ w1.frozen? ⟨tb, 2, none⟩ = false ∧ w1.frozen? ⟨tb, 3, none⟩ = false) :
    Calls Tryz.prog 87 #[.pointer (some ⟨tb, 2, none⟩), .func (.func 88) #[.pointer (some ⟨tb, 0, none⟩)] #[]] w fun e w' => e = .returned (.tuple #[]) ∧ ∃ w1, Post w1 ∧ w' = (w1.drew.setCell ⟨tb, 2, none⟩ (.int .u32 1)).setCell ⟨tb, 3, none⟩ (.int .i32 0) := by
  have HSL := Lib.hid (slow_first tb w h0 h1 f1 Post hF hP)
  have HLD := Lib.hid (loadB_any ⟨tb, 2, none⟩ 0 w h0)
  have hnot : ∀ (x : Bool) (w : World), (Op.unary .not (.bool x)).run Tryz.prog w = .ok (.bool (!x)) w := fun _ _ => rfl
  clear hF hP h0 h1 f1
  go_enter Tryz.func87, Tryz.ntmps87
  go_wp2_with fail
  refine HLD.out.mono ?_
  rintro e w' ⟨rfl, rfl⟩
  go_wp2_with fail
  refine HSL.out.mono ?_
  rintro e w' ⟨rfl, w1, hp1, rfl⟩
  go_wp2_with fail
  go_end0
  exact ⟨rfl, w1, hp1, rfl⟩

end Go.Proofs.YtpmfbhoochogoaaGreatDoor

/-! live.Map.at: what is live ahead of an instruction, worked out once. -/
/-! live.Map.at. -/
namespace Go.Proofs.YtpmfbhoochogoaaGreatDoor
open Go.RowKit

/-- The box alone is turned. -/
theorem MapIn.reb {w w' : World} {B mb lb ib nk : Nat} {k d st d' st' : Int} {m : Meth} {kv : Value} {seen : Nat → Bool} {F : Nat → Nat → Bool} {bk gk : Nat → Nat} (h : MapIn w B mb lb ib nk k d st m kv seen F bk gk) (hu : Upd [mb] w w') (hb : w'.heap[mb]? = some (.cells (mapCells ib k d' st' m kv (.slice (some ⟨lb, 0, none⟩) m.code.length m.code.length)) 147)) (hmb : mb < B) (htm : 10 ≠ mb) :
    MapIn w' B mb lb ib nk k d' st' m kv seen F bk gk := by
  obtain ⟨ka, kc, hkv, hx⟩ := id h.code
  exact ⟨hb, h.code.off hu (map_no_ins h.box (by rw [hkv]; simp) (by simp)), h.sets.upd hu (by simp; exact heap_ne h.sets.tab h.box (by decide)) (fun i hi hs => by have := h.sets.far i hi hs; simp; omega), h.tz.upd hu (by simp; exact htm), h.kinds, h.par, h.loc, h.few, h.next⟩

/-- A map that has been worked out. -/
structure LvD (W0 w : World) (mb ib : Nat) (p : Prg) (ss : List Lk) (n0 n : Int) (k : Nat) (m : Meth) (s : Lk) (B lb : Nat) (kv : Value) (F : Nat → Nat → Bool) (bk gk : Nat → Nat) : Prop where
  inn : MapIn w B mb lb ib (kindsL m).length k 1 0 m kv (seenF s) F bk gk
  live : ∀ pc q, F pc q = true ↔ LiveR m.code (fun i => seenF s i = true) pc q
  info : InfoK W0 w ib p ss n0 n
/-- A map that has not. -/
structure LvNew (W0 w : World) (mb ib : Nat) (p : Prg) (ss : List Lk) (n0 n : Int) (k : Int) : Prop where
  box : w.heap[mb]? = some (.cells (mapCells ib k 0 0 nilM (.slice none 0 0) (.slice none 0 0)) 147)
  info : InfoK W0 w ib p ss n0 n
  tz : TzAt w
theorem LvD.upd {W0 w w' : World} {mb ib : Nat} {p : Prg} {ss : List Lk} {n0 n : Int} {k : Nat} {m : Meth} {s : Lk} {B lb : Nat} {kv : Value} {F : Nat → Nat → Bool} {bk gk : Nat → Nat} (h : LvD W0 w mb ib p ss n0 n k m s B lb kv F bk gk) (hu : Upd [] w w') : LvD W0 w' mb ib p ss n0 n k m s B lb kv F bk gk :=
  ⟨h.inn.upd hu, h.live, h.info.keep hu (by simp)⟩
theorem LvNew.upd {W0 w w' : World} {mb ib : Nat} {p : Prg} {ss : List Lk} {n0 n : Int} {k : Int} (h : LvNew W0 w mb ib p ss n0 n k) (hu : Upd [] w w') : LvNew W0 w' mb ib p ss n0 n k :=
  ⟨hu.heap h.box (by simp), h.info.keep hu (by simp), h.tz.upd hu (by simp)⟩
/-- What holds of the program that the map is of. -/
structure LvP (p : Prg) (ss : List Lk) (k : Nat) (m : Meth) (s : Lk) : Prop where
  len : ss.length = p.ms.length
  lt : k < p.ms.length
  ok : p.Ok
  look : ∀ j, j < p.ms.length → lookM p (p.ms.getD j default) = .ok (ss.getD j default)
  meth : m = p.ms.getD k default
  lk : s = ss.getD k default
theorem LvP.seen_lt {p : Prg} {ss : List Lk} {k : Nat} {m : Meth} {s : Lk} (h : LvP p ss k m s) {i : Nat} (hi : seenF s i = true) : i < m.code.length := by
  have h1 := h.look k h.lt
  rw [← h.meth, ← h.lk] at h1
  have h2 := h.ok.code1 k h.lt
  rw [← h.meth] at h2
  have h3 := (look_good (by omega) h1).2.1.seen
  refine Decidable.byContradiction fun hc => ?_
  unfold seenF at hi
  rw [List.getD_eq_getElem?_getD, List.getElem?_eq_none (by omega)] at hi
  cases hi
/-- A place's set. -/
def atP (n : Nat) (seen : Nat → Bool) (bk : Nat → Nat) (pc : Int) : Value := if 0 ≤ pc ∧ pc < (n : Int) then ptrV seen bk pc.toNat else .pointer none

theorem once_any (W0 : World) (mb ib : Nat) (p : Prg) (ss : List Lk) (n0 n : Int) (k : Nat) (m : Meth) (s : Lk) (w : World) (hP : LvP p ss k m s) (hw0 : W0.heap.size ≤ mb) (h0 : 0 ≤ n) (h1 : n ≤ 900000000)
    (h : LvNew W0 w mb ib p ss n0 n k ∨ ∃ B lb kv F bk gk, LvD W0 w mb ib p ss n0 n k m s B lb kv F bk gk) :
    Calls Tryz.prog 87 #[.pointer (some ⟨mb, 2, none⟩), .func (.func 88) #[.pointer (some ⟨mb, 0, none⟩)] #[]] w fun e w' => e = .returned (.tuple #[]) ∧ ∃ n', n ≤ n' ∧ n' ≤ n + 120 ∧ (∃ B lb kv F bk gk, LvD W0 w' mb ib p ss n0 n' k m s B lb kv F bk gk) ∧ Upd [mb, ib] w w' := by
  rcases h with h | ⟨B, lb, kv, F, bk, gk, h⟩
  · have hb := h.box
    have c2 : w.cell? ⟨mb, 2, none⟩ = some (.int .u32 0) := by rw [cell_of hb]; rfl
    have c3 : w.cell? ⟨mb, 3, none⟩ = some (.int .i32 0) := by rw [cell_of hb]; rfl
    have hmt : mb ≠ 10 := by
      rintro rfl
      have h2 := h.tz 0 (by decide)
      rw [cell_of hb] at h2
      cases h2
    have hst := (Upd.refl [mb] w).setCell (p := ⟨mb, 3, none⟩) (.inl (by simp)) (.int .i32 1)
    have hsz : (w.setCell ⟨mb, 3, none⟩ (.int .i32 1)).heap.size = w.heap.size := by simp [World.setCell]
    have hlt := lt_of_heap hb
    have hwk := work_any mb ib p ss n0 n k m s W0 (w.setCell ⟨mb, 3, none⟩ (.int .i32 1)) hP.meth hP.lk (h.info.keep hst (by simp; omega)) hw0 hP.len hP.lt hP.ok hP.look h0 h1 (heap_setCell hb 3 _) (h.tz.upd hst (by simp; exact fun e => hmt e.symm))
    rw [hsz] at hwk
    refine (do_first mb w c2 c3 (froz_of hb 3) (fun w1 => ∃ lb kv F, (∃ bk gk, MapIn w1 w.heap.size mb lb ib (kindsL m).length k 0 1 m kv (seenF s) F bk gk) ∧ (∀ pc q, F pc q = true ↔ LiveR m.code (fun i => seenF s i = true) pc q) ∧ InfoK W0 w1 ib p ss n0 (n + m.code.length) ∧ Upd [mb, ib] (w.setCell ⟨mb, 3, none⟩ (.int .i32 1)) w1) (hwk.mono (fun e w1 ⟨h1, lb, kv, F, bk, gk, h2, h3, h4, h5⟩ => ⟨h1, lb, kv, F, ⟨bk, gk, h2⟩, h3, h4, h5⟩)) ?_).mono ?_
    · rintro w1 ⟨lb, kv, F, ⟨bk, gk, h2⟩, _⟩
      have hb2 := h2.box
      exact ⟨by rw [cell_of hb2]; rfl, by rw [cell_of hb2]; rfl, froz_of hb2 2, froz_of hb2 3⟩
    · rintro e w' ⟨h1, w1, ⟨lb, kv, F, ⟨bk, gk, h2⟩, h3, h4, h5⟩, rfl⟩
      have hc := hP.ok.code1 k hP.lt
      rw [← hP.meth] at hc
      have hs2 := ((Upd.refl [mb] w1).drew.setCell (p := ⟨mb, 2, none⟩) (.inl (by simp)) (.int .u32 1)).setCell (p := ⟨mb, 3, none⟩) (.inl (by simp)) (.int .i32 0)
      have hbn := heap_setCell (heap_setCell (w := w1.drew) h2.box 2 (.int .u32 1)) 3 (.int .i32 0)
      refine ⟨h1, n + m.code.length, by omega, by omega, ⟨w.heap.size, lb, kv, F, bk, gk, h2.reb hs2 hbn (lt_of_heap hb) (fun e => hmt e.symm), h3, h4.keep hs2 (by simp; omega)⟩, ?_⟩
      exact ((hst.mono (T := [mb, ib]) (by simp)).trans h5).trans (hs2.mono (T := [mb, ib]) (by simp))
  · have c2 : w.cell? ⟨mb, 2, none⟩ = some (.int .u32 1) := by rw [cell_of h.inn.box]; rfl
    refine (do_done ⟨mb, 2, none⟩ 1 (by decide) _ w c2).mono ?_
    rintro e w' ⟨h1, rfl⟩
    exact ⟨h1, n, by omega, by omega, ⟨B, lb, kv, F, bk, gk, h⟩, Upd.refl _ _⟩

set_option maxRecDepth 100000 in
set_option maxHeartbeats 2000000 in
theorem at_any2 (W0 : World) (mb ib : Nat) (p : Prg) (ss : List Lk) (n0 n : Int) (k : Nat) (m : Meth) (s : Lk) (pc : Int) (w : World) (hP : LvP p ss k m s) (hw0 : W0.heap.size ≤ mb) (h0 : 0 ≤ n) (h1 : n ≤ 900000000)
    (h : LvNew W0 w mb ib p ss n0 n k ∨ ∃ B lb kv F bk gk, LvD W0 w mb ib p ss n0 n k m s B lb kv F bk gk) :
    Calls Tryz.prog 68 #[.pointer (some ⟨mb, 0, none⟩), .int .i64 pc] w fun e w' => ∃ n' B lb kv F bk gk, e = .returned (atP m.code.length (seenF s) bk pc) ∧ n ≤ n' ∧ n' ≤ n + 120 ∧ LvD W0 w' mb ib p ss n0 n' k m s B lb kv F bk gk ∧ Upd [mb, ib] w w' := by
  have HON := Lib.hid (once_any W0 mb ib p ss n0 n k m s w hP hw0 h0 h1 h)
  have hc := hP.ok.code1 k hP.lt
  rw [← hP.meth] at hc
  clear h hP
  go_enter Tryz.func68, Tryz.ntmps68
  go_wp2_with fail
  refine HON.out.mono ?_
  rintro e w1 ⟨rfl, n', hn1, hn2, ⟨B, lb, kv, F, bk, gk, hD⟩, hu⟩
  have HD := Lib.hid hD
  have HU := Lib.hid hu
  have m9 : w1.cell? ⟨mb, 9, none⟩ = some (.slice (some ⟨lb, 0, none⟩) m.code.length m.code.length) := by rw [cell_of hD.inn.box]; rfl
  clear hD hu HON
  by_cases hpc : 0 ≤ pc ∧ pc < (m.code.length : Int)
  · obtain ⟨q, rfl⟩ := Int.eq_ofNat_of_zero_le hpc.1
    have hq : q < m.code.length := by omega
    have hcq := HD.out.inn.sets.cell q hq
    have HV : Hid (atP m.code.length (seenF s) bk (q : Int) = ptrV (seenF s) bk q) := by
      show _ = _
      unfold atP
      rw [if_pos hpc, Int.toNat_natCast]
    have hpt : ∃ a, ptrV (seenF s) bk q = .pointer a := by
      unfold ptrV
      split
      · exact ⟨_, rfl⟩
      · exact ⟨_, rfl⟩
    obtain ⟨a, ha⟩ := hpt
    rw [ha] at hcq
    have HA := Lib.hid ha
    clear ha hpc
    go_wp2_with fail
    go_ret
    exact ⟨n', B, lb, kv, F, bk, gk, by rw [HV.out, HA.out]; rfl, hn1, hn2, HD.out, HU.out⟩
  · have HV : Hid (atP m.code.length (seenF s) bk pc = .pointer none) := by
      show _ = _
      unfold atP
      rw [if_neg hpc]
    by_cases hl : pc < 0
    · clear hpc
      go_wp2_with fail
      go_ret
      exact ⟨n', B, lb, kv, F, bk, gk, by rw [HV.out]; rfl, hn1, hn2, HD.out, HU.out⟩
    · have hge : (m.code.length : Int) ≤ pc := by omega
      clear hpc
      go_wp2_with fail
      go_ret
      exact ⟨n', B, lb, kv, F, bk, gk, by rw [HV.out]; rfl, hn1, hn2, HD.out, HU.out⟩
end Go.Proofs.YtpmfbhoochogoaaGreatDoor

/-! live.Map.Locals, Has, Behind. -/
/-! live.Map.Locals, Has, Behind. -/
namespace Go.Proofs.YtpmfbhoochogoaaGreatDoor
open Go.RowKit

theorem blist_is (ws : List Nat) (n : Nat) (f : Nat → Bool) (h : ∀ p, bhas ws p = f p) (hf : ∀ p, f p = true → p < n) (hw : ws.length = (n + 63) / 64) : blist ws = (List.range n).filter f := by
  have e : bhas ws = f := funext h
  unfold blist bupto
  rw [e]
  obtain ⟨d, hd⟩ : ∃ d, 64 * ws.length = n + d := ⟨64 * ws.length - n, by omega⟩
  rw [hd]
  clear hd
  induction d with
  | zero => rfl
  | succ d ih =>
    rw [← Nat.add_assoc, List.range_succ, List.filter_append, ih]
    have : f (n + d) = false := by
      cases hx : f (n + d) with
      | false => rfl
      | true => have := hf _ hx; omega
    simp [this]

theorem OwnI.base {w : World} {B B' : Nat} {e : TypeId} {v : Value} {xs : List Int} (h : OwnI w B e v xs) (hB : B' ≤ B) : OwnI w B' e v xs :=
  ⟨h.1, h.2.imp (fun x => x) (fun ⟨g, c, cur, h1, h2, h3⟩ => ⟨g, c, cur, h1, by omega, h3⟩)⟩

/-- What is asked for. -/
noncomputable def liveG (xs : List Ins) (seen : Nat → Bool) : Nat → Nat → Bool := fun pc k => @decide (LiveR xs (fun i => seen i = true) pc k) (Classical.propDecidable _)
theorem liveG_iff (xs : List Ins) (seen : Nat → Bool) (pc k : Nat) : liveG xs seen pc k = true ↔ LiveR xs (fun i => seen i = true) pc k := by
  unfold liveG
  exact @decide_eq_true_iff _ (Classical.propDecidable _)
theorem LvD.is {W0 w : World} {mb ib : Nat} {p : Prg} {ss : List Lk} {n0 n : Int} {k : Nat} {m : Meth} {s : Lk} {B lb : Nat} {kv : Value} {F : Nat → Nat → Bool} {bk gk : Nat → Nat} (h : LvD W0 w mb ib p ss n0 n k m s B lb kv F bk gk) : F = liveG m.code (seenF s) := by
  funext pc q
  have h1 := h.live pc q
  rw [← liveG_iff] at h1
  exact Bool.eq_iff_iff.2 h1

/-- The live ones ahead of a place. -/
noncomputable def locG (m : Meth) (s : Lk) (pc : Int) : List Int := if 0 ≤ pc ∧ pc < (m.code.length : Int) then ints ((List.range (kindsL m).length).filter (liveG m.code (seenF s) pc.toNat)) else []
theorem locG_unseen {W0 w : World} {mb ib : Nat} {p : Prg} {ss : List Lk} {n0 n : Int} {k : Nat} {m : Meth} {s : Lk} {B lb : Nat} {kv : Value} {F : Nat → Nat → Bool} {bk gk : Nat → Nat} (h : LvD W0 w mb ib p ss n0 n k m s B lb kv F bk gk) {pc : Int} (hs : ¬ (0 ≤ pc ∧ pc < (m.code.length : Int) ∧ seenF s pc.toNat = true)) : locG m s pc = [] := by
  unfold locG
  split
  · rename_i hp
    have h1 : seenF s pc.toNat = false := by simpa using fun e => hs ⟨hp.1, hp.2, e⟩
    have h2 := h.inn.sets.zero _ h1
    rw [← h.is]
    have e : (List.range (kindsL m).length).filter (F pc.toNat) = [] := by
      rw [List.filter_eq_nil_iff]
      intro a _
      rw [h2]
      simp
    rw [e]
    rfl
  · rfl

set_option maxRecDepth 100000 in
set_option maxHeartbeats 2000000 in
theorem locals_any (W0 : World) (mb ib : Nat) (p : Prg) (ss : List Lk) (n0 n : Int) (k : Nat) (m : Meth) (s : Lk) (pc : Int) (w : World) (hP : LvP p ss k m s) (hw0 : W0.heap.size ≤ mb) (h0 : 0 ≤ n) (h1 : n ≤ 900000000)
    (h : LvNew W0 w mb ib p ss n0 n k ∨ ∃ B lb kv F bk gk, LvD W0 w mb ib p ss n0 n k m s B lb kv F bk gk) :
    Calls Tryz.prog 36 #[.pointer (some ⟨mb, 0, none⟩), .int .i64 pc] w fun e w' => ∃ n' w1 u, n ≤ n' ∧ n' ≤ n + 120 ∧ (∃ B lb kv F bk gk, LvD W0 w1 mb ib p ss n0 n' k m s B lb kv F bk gk) ∧ Upd [mb, ib] w w1 ∧ e = .returned u ∧ OwnI w' w1.heap.size 3 u (locG m s pc) ∧ Upd [] w1 w' := by
  have HAT := Lib.hid (at_any2 W0 mb ib p ss n0 n k m s pc w hP hw0 h0 h1 h)
  clear h
  go_enter Tryz.func36, Tryz.ntmps36
  go_wp2_with fail
  refine HAT.out.mono ?_
  rintro e w1 ⟨n', B, lb, kv, F, bk, gk, rfl, hn1, hn2, hD, hu⟩
  have HU := Lib.hid hu
  have HD := Lib.hid hD
  clear hu hD HAT
  by_cases hs : 0 ≤ pc ∧ pc < (m.code.length : Int) ∧ seenF s pc.toNat = true
  · obtain ⟨q, rfl⟩ := Int.eq_ofNat_of_zero_le hs.1
    have hq : q < m.code.length := by omega
    have hs2 := hs.2.2
    rw [Int.toNat_natCast] at hs2
    have hv : atP m.code.length (seenF s) bk (q : Int) = .pointer (some ⟨bk q, 0, none⟩) := by
      unfold atP ptrV
      rw [if_pos ⟨hs.1, hs.2.1⟩, Int.toNat_natCast, if_pos hs2]
    rw [hv]
    obtain ⟨ws, hw1, hw2⟩ := HD.out.inn.sets.set q hq hs2
    have hbl := blist_is ws (kindsL m).length (F q) hw2 (fun x hx => hw1.2.2.2.2.2 x (by rw [hw2]; exact hx)) hw1.2.2.2.1
    have hnk := HD.out.inn.nk_le
    have HLI := Lib.hid (list_any (bk q) (gk q) (kindsL m).length ws w1 hw1 HD.out.inn.tz (by omega))
    have HLO : Hid (ints (blist ws) = locG m s (q : Int)) := by
      show _ = _
      rw [hbl, HD.out.is]
      unfold locG
      rw [if_pos ⟨by omega, by omega⟩, Int.toNat_natCast]
    clear hv hw1 hw2 hbl hs hs2
    go_wp2_with fail
    refine HLI.out.mono ?_
    rintro e w2 ⟨u, rfl, hun, hu2⟩
    rw [HLO.out] at hun
    have HUN := Lib.hid hun
    have HU2 := Lib.hid hu2
    clear hun hu2 HLI
    obtain ⟨up, uc, rfl⟩ := HUN.out.shape
    go_wp2_with fail
    go_ret
    exact ⟨n', w1, _, hn1, hn2, ⟨B, lb, kv, F, bk, gk, HD.out⟩, HU.out, rfl, HUN.out, HU2.out⟩
  · have hv : atP m.code.length (seenF s) bk pc = .pointer none := by
      unfold atP ptrV
      split
      · rename_i hp
        rw [if_neg (fun e => hs ⟨hp.1, hp.2, e⟩)]
      · rfl
    rw [hv]
    have HLO := Lib.hid (locG_unseen HD.out hs)
    clear hv hs
    go_wp2_with fail
    go_ret
    exact ⟨n', w1, _, hn1, hn2, ⟨B, lb, kv, F, bk, gk, HD.out⟩, HU.out, rfl, by rw [HLO.out]; exact OwnI.nil _ _ _, Upd.refl _ _⟩

/-- Is a local live ahead of a place? -/
noncomputable def hasG (m : Meth) (s : Lk) (pc j : Int) : Bool := decide (0 ≤ pc ∧ pc < (m.code.length : Int) ∧ 0 ≤ j) && liveG m.code (seenF s) pc.toNat j.toNat

set_option maxRecDepth 100000 in
set_option maxHeartbeats 2000000 in
theorem lhas_any (W0 : World) (mb ib : Nat) (p : Prg) (ss : List Lk) (n0 n : Int) (k : Nat) (m : Meth) (s : Lk) (pc j : Int) (w : World) (hP : LvP p ss k m s) (hw0 : W0.heap.size ≤ mb) (h0 : 0 ≤ n) (h1 : n ≤ 900000000)
    (h : LvNew W0 w mb ib p ss n0 n k ∨ ∃ B lb kv F bk gk, LvD W0 w mb ib p ss n0 n k m s B lb kv F bk gk) :
    Calls Tryz.prog 39 #[.pointer (some ⟨mb, 0, none⟩), .int .i64 pc, .int .i64 j] w fun e w' => ∃ n', n ≤ n' ∧ n' ≤ n + 120 ∧ (∃ B lb kv F bk gk, LvD W0 w' mb ib p ss n0 n' k m s B lb kv F bk gk) ∧ Upd [mb, ib] w w' ∧ e = .returned (.bool (hasG m s pc j)) := by
  have HAT := Lib.hid (at_any2 W0 mb ib p ss n0 n k m s pc w hP hw0 h0 h1 h)
  clear h
  go_enter Tryz.func39, Tryz.ntmps39
  go_wp2_with fail
  refine HAT.out.mono ?_
  rintro e w1 ⟨n', B, lb, kv, F, bk, gk, rfl, hn1, hn2, hD, hu⟩
  have HU := Lib.hid hu
  have HD := Lib.hid hD
  clear hu hD HAT
  by_cases hs : 0 ≤ pc ∧ pc < (m.code.length : Int) ∧ seenF s pc.toNat = true
  · obtain ⟨q, rfl⟩ := Int.eq_ofNat_of_zero_le hs.1
    have hq : q < m.code.length := by omega
    have hs2 := hs.2.2
    rw [Int.toNat_natCast] at hs2
    have hv : atP m.code.length (seenF s) bk (q : Int) = .pointer (some ⟨bk q, 0, none⟩) := by
      unfold atP ptrV
      rw [if_pos ⟨hs.1, hs.2.1⟩, Int.toNat_natCast, if_pos hs2]
    rw [hv]
    obtain ⟨ws, hw1, hw2⟩ := HD.out.inn.sets.set q hq hs2
    have HHA : Hid (Calls Tryz.prog 70 #[.pointer (some ⟨bk q, 0, none⟩), .int .i64 j] w1 fun e w' => e = .returned (.bool (hasG m s (q : Int) j)) ∧ w1 = w') := by
      show Calls _ _ _ _ _
      have his := HD.out.is
      by_cases hj : j < 0 ∨ ((kindsL m).length : Int) ≤ j
      · have e : hasG m s (q : Int) j = false := by
          unfold hasG
          by_cases hj0 : 0 ≤ j
          · rw [Int.toNat_natCast, ← his, ← hw2]
            have : bhas ws j.toNat = false := by
              cases hx : bhas ws j.toNat with
              | false => rfl
              | true => have := hw1.2.2.2.2.2 _ hx; omega
            rw [this, Bool.and_false]
          · rw [decide_eq_false (by omega), Bool.false_and]
        rw [e]
        exact has_out (bk q) (gk q) (kindsL m).length j ws w1 hw1 hj
      · obtain ⟨x, rfl⟩ := Int.eq_ofNat_of_zero_le (show 0 ≤ j by omega)
        have e : hasG m s (q : Int) (x : Int) = bhas ws x := by
          unfold hasG
          rw [decide_eq_true ⟨by omega, by omega, by omega⟩, Bool.true_and, Int.toNat_natCast, Int.toNat_natCast, ← his, hw2]
        rw [e]
        exact has_in (bk q) (gk q) (kindsL m).length x ws w1 hw1 (by omega)
    clear hv hw1 hw2 hs hs2
    go_wp2_with fail
    refine HHA.out.mono ?_
    rintro e w2 ⟨rfl, rfl⟩
    go_wp2_with fail
    go_ret
    exact ⟨n', hn1, hn2, ⟨B, lb, kv, F, bk, gk, HD.out⟩, HU.out, rfl⟩
  · have hv : atP m.code.length (seenF s) bk pc = .pointer none := by
      unfold atP ptrV
      split
      · rename_i hp
        rw [if_neg (fun e => hs ⟨hp.1, hp.2, e⟩)]
      · rfl
    rw [hv]
    have HLO : Hid (hasG m s pc j = false) := by
      show _ = _
      unfold hasG
      by_cases hp : 0 ≤ pc ∧ pc < (m.code.length : Int) ∧ 0 ≤ j
      · have h9 : seenF s pc.toNat = false := by simpa using fun e => hs ⟨hp.1, hp.2.1, e⟩
        rw [← HD.out.is, HD.out.inn.sets.zero _ h9, Bool.and_false]
      · rw [decide_eq_false hp, Bool.false_and]
    clear hv hs
    go_wp2_with fail
    go_ret
    exact ⟨n', hn1, hn2, ⟨B, lb, kv, F, bk, gk, HD.out⟩, HU.out, by rw [HLO.out]; rfl⟩

/-- The live ones behind a place that is reached. -/
noncomputable def behG (m : Meth) (s : Lk) (pc : Int) : List Int := if 0 ≤ pc ∧ pc < (m.code.length : Int) ∧ seenF s pc.toNat = true then ints ((List.range (kindsL m).length).filter (behF m.code (seenF s) (liveG m.code (seenF s)) pc.toNat)) else []

set_option maxRecDepth 100000 in
set_option maxHeartbeats 2000000 in
theorem lbehind_any (W0 : World) (mb ib : Nat) (p : Prg) (ss : List Lk) (n0 n : Int) (k : Nat) (m : Meth) (s : Lk) (pc : Int) (w : World) (hP : LvP p ss k m s) (hw0 : W0.heap.size ≤ mb) (h0 : 0 ≤ n) (h1 : n ≤ 900000000)
    (h : LvNew W0 w mb ib p ss n0 n k ∨ ∃ B lb kv F bk gk, LvD W0 w mb ib p ss n0 n k m s B lb kv F bk gk) :
    Calls Tryz.prog 47 #[.pointer (some ⟨mb, 0, none⟩), .int .i64 pc] w fun e w' => ∃ n' w1 u, n ≤ n' ∧ n' ≤ n + 120 ∧ (∃ B lb kv F bk gk, LvD W0 w1 mb ib p ss n0 n' k m s B lb kv F bk gk) ∧ Upd [mb, ib] w w1 ∧ e = .returned u ∧ OwnI w' w1.heap.size 3 u (behG m s pc) ∧ Upd [] w1 w' := by
  have HAT := Lib.hid (at_any2 W0 mb ib p ss n0 n k m s pc w hP hw0 h0 h1 h)
  clear h
  go_enter Tryz.func47, Tryz.ntmps47
  go_wp2_with fail
  refine HAT.out.mono ?_
  rintro e w1 ⟨n', B, lb, kv, F, bk, gk, rfl, hn1, hn2, hD, hu⟩
  have HU := Lib.hid hu
  have HD := Lib.hid hD
  clear hu hD HAT
  by_cases hs : 0 ≤ pc ∧ pc < (m.code.length : Int) ∧ seenF s pc.toNat = true
  · obtain ⟨q, rfl⟩ := Int.eq_ofNat_of_zero_le hs.1
    have hq : q < m.code.length := by omega
    have hs2 := hs.2.2
    rw [Int.toNat_natCast] at hs2
    have hv : atP m.code.length (seenF s) bk (q : Int) = .pointer (some ⟨bk q, 0, none⟩) := by
      unfold atP ptrV
      rw [if_pos ⟨hs.1, hs.2.1⟩, Int.toNat_natCast, if_pos hs2]
    rw [hv]
    have HBH := Lib.hid (behind_any B mb lb ib (kindsL m).length k 1 0 m kv (seenF s) F bk gk (q : Int) w1 HD.out.inn)
    have hnk := HD.out.inn.nk_le
    have HSQ := Lib.hid hs
    clear hv hs hs2
    go_wp2_with fail
    refine HBH.out.mono ?_
    rintro e w2 ⟨b, g, ws, rfl, hset, hget, hb, hg, hu2⟩
    have hbl := blist_is ws (kindsL m).length (behF m.code (seenF s) F q) hget (fun x hx => hset.2.2.2.2.2 x (by rw [hget]; exact hx)) hset.2.2.2.1
    have HLI := Lib.hid (list_any b g (kindsL m).length ws w2 hset (HD.out.inn.tz.upd hu2 (by simp)) (by omega))
    have HU2 := Lib.hid hu2
    have HBL := Lib.hid hbl
    clear hset hget hb hg hu2 hbl HBH
    go_wp2_with fail
    refine HLI.out.mono ?_
    rintro e w3 ⟨u, rfl, hun, hu3⟩
    obtain ⟨up, uc, rfl⟩ := hun.shape
    have HUN := Lib.hid hun
    have HU3 := Lib.hid hu3
    clear hun hu3 HLI
    go_wp2_with fail
    go_ret
    refine ⟨n', w1, _, hn1, hn2, ⟨B, lb, kv, F, bk, gk, HD.out⟩, HU.out, rfl, ?_, HU2.out.trans HU3.out⟩
    have h9 : behG m s (q : Int) = ints (blist ws) := by
      unfold behG
      rw [if_pos HSQ.out, HBL.out, HD.out.is, Int.toNat_natCast]
    rw [h9]
    exact HUN.out.base HU2.out.size
  · have hv : atP m.code.length (seenF s) bk pc = .pointer none := by
      unfold atP ptrV
      split
      · rename_i hp
        rw [if_neg (fun e => hs ⟨hp.1, hp.2, e⟩)]
      · rfl
    rw [hv]
    have HLO : Hid (behG m s pc = []) := by
      show _ = _
      unfold behG
      rw [if_neg hs]
    clear hv hs
    go_wp2_with fail
    go_ret
    exact ⟨n', w1, _, hn1, hn2, ⟨B, lb, kv, F, bk, gk, HD.out⟩, HU.out, rfl, by rw [HLO.out]; exact OwnI.nil _ _ _, Upd.refl _ _⟩
end Go.Proofs.YtpmfbhoochogoaaGreatDoor
