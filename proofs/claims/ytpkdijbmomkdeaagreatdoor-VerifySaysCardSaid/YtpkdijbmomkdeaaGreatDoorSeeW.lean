/- overdrivesee: errors with a method and a place. -/
import Derived.Test.YtpkdijbmomkdeaaGreatDoorSee
import Derived.Test.YtpkdijbmomkdeaaGreatDoorPMayW
import Derived.Test.YtpkdijbmomkdeaaGreatDoorSameI
import Derived.Test.YtpkdijbmomkdeaaGreatDoorOwnI
import Derived.Test.YtpkdijbmomkdeaaGreatDoorInts
import Derived.Test.YtpkdijbmomkdeaaGreatDoorOwnNe
namespace Go.Proofs.YtpkdijbmomkdeaaGreatDoor
open Go.RowKit Go.ChangeShapes

theorem assertAtW_no (v : Value) (w : World) : (Instr.typeAssert (.iface 78 v) 30 122 true).run Tryz.prog w = .ok (.tuple #[.pointer none, .bool false]) w := by kernel_rfl
theorem assertWhere_yes (a : Option Addr) (w : World) : (Instr.typeAssert (.iface 78 (.pointer a)) 30 78 true).run Tryz.prog w = .ok (.tuple #[.pointer a, .bool true]) w := by kernel_rfl

theorem append_nil (W : World) (g n c : Nat) (hn : n ≤ c) : (Builtin.append_ #[36, 36] 36 #[.slice (some ⟨g, 0, none⟩) n c, .slice none 0 0]).run Tryz.prog W = .ok (.slice (some ⟨g, 0, none⟩) n c) W := by
  obtain ⟨i0, hi, hz0, hz1, hz2⟩ := info_parts Tryz.infoInt
  have h := run_append_room_src (P := Tryz.prog) W 36 36 36 3 i0 Tryz.underlying36 hi g 0 n c _ 0 [] (Src.ofNil W (size := i0.size) Tryz.underlying36 0) (by omega) (by simp) (by simp)
  rw [h]
  simp [World.setCells]

set_option maxRecDepth 100000 in
set_option maxHeartbeats 2000000 in
theorem fault_where (E : Nat → Addr) (c x y : Int) (b : Nat) (hc : 101 ≤ c ∧ c ≤ 114) (w : World) (h : SentAll w E) (hb : w.heap[b]? = some (.cells #[.int .i64 x, .int .i64 y, errC E c] 80)) :
    Calls Tryz.prog 49 #[.iface 78 (.pointer (some ⟨b, 0, none⟩)), .int .i64 9] w fun e w' => ∃ g cp, e = .returned (.agg #[.int .i64 c, .slice (some ⟨g, 0, none⟩) 2 cp]) ∧ IntsV w' (.slice (some ⟨g, 0, none⟩) 2 cp) g [x, y] ∧ Upd [] w w' := by
  obtain ⟨kk, hk, rfl⟩ : ∃ kk : Nat, kk < 14 ∧ c = 101 + (kk : Int) := ⟨(c - 101).toNat, by omega, by omega⟩
  rw [errC_at] at hb
  have ha1 := assertAtW_no
  have ha2 := assertWhere_yes
  have hu0 := (Upd.refl [] w).alloc (.cells #[.int .i64 0, .slice none 0 0] 38)
  have H := Lib.hid (h.upd hu0)
  have hr := heap_alloc_new w (.cells #[.int .i64 0, .slice none 0 0] 38)
  have hb0 := hu0.heap hb (by simp)
  have HU := Lib.hid hu0
  clear h hu0 hb
  go_enter Tryz.func49, Tryz.ntmps49
  go_upto_region 1 with fail
  generalize w.alloc (.cells #[.int .i64 0, .slice none 0 0] 38) = w0 at H HU hr hb0 ⊢
  have p0 : w0.cell? ⟨b, 0, none⟩ = some (.int .i64 x) := by rw [cell_of hb0]; rfl
  have p1 : w0.cell? ⟨b, 1, none⟩ = some (.int .i64 y) := by rw [cell_of hb0]; rfl
  have p2 : w0.cell? ⟨b, 2, none⟩ = some (.iface 181 (.pointer (some (E kk)))) := by rw [cell_of hb0]; rfl
  go_wp2_with fail
  have h2 := fault_at E kk hk 8 (by omega) _ H.out
  unfold sErr at h2
  refine h2.mono ?_
  clear h2
  rintro e w1 ⟨rfl, hu1⟩
  have hau := (Upd.refl [] w1).alloc (.cells #[.int .i64 (101 + (kk : Int)), .slice none 0 0] 38)
  have hf := heap_alloc_new w1 (.cells #[.int .i64 (101 + (kk : Int)), .slice none 0 0] 38)
  have hr1 := (hu1.trans hau).heap hr (by simp)
  have hb1 := (hu1.trans hau).heap hb0 (by simp)
  have HU2 := Lib.hid (HU.out.trans (hu1.trans hau))
  clear hr hb0 p0 p1 p2 hu1 hau
  go_upto_region 15 with fail
  generalize hww : w1.alloc (.cells #[.int .i64 (101 + (kk : Int)), .slice none 0 0] 38) = w2 at hf hr1 hb1 HU2 ⊢
  generalize w1.heap.size = fb at hf ⊢
  have p0 : w2.cell? ⟨b, 0, none⟩ = some (.int .i64 x) := by rw [cell_of hb1]; rfl
  have p1 : w2.cell? ⟨b, 1, none⟩ = some (.int .i64 y) := by rw [cell_of hb1]; rfl
  have q0 : w2.cell? ⟨fb, 0, none⟩ = some (.int .i64 (101 + (kk : Int))) := by rw [cell_of hf]; rfl
  have q1 : w2.cell? ⟨fb, 1, none⟩ = some (.slice none 0 0) := by rw [cell_of hf]; rfl
  have HF : Hid (w2.heap[fb]? = some (.cells #[.int .i64 (101 + (kk : Int)), .slice none 0 0] 38)) := hf
  clear hww hf
  have hap := fun W g => append_nil W g 2 2 (Nat.le_refl _)
  have r0 : w2.cell? ⟨w.heap.size, 0, none⟩ = some (.int .i64 0) := by rw [cell_of hr1]; rfl
  have r1 : w2.cell? ⟨w.heap.size, 1, none⟩ = some (.slice none 0 0) := by rw [cell_of hr1]; rfl
  have f0 := froz_of hr1 0
  have f1 := froz_of hr1 1
  have q0a := fun o => ((Upd.refl [] w2).alloc o).cell q0 (by simp)
  have q1a := fun o => ((Upd.refl [] w2).alloc o).cell q1 (by simp)
  have r0a := fun o => ((Upd.refl [] w2).alloc o).cell r0 (by simp)
  have r1a := fun o => ((Upd.refl [] w2).alloc o).cell r1 (by simp)
  have f0a := fun o => froz_of (((Upd.refl [] w2).alloc o).heap hr1 (by simp)) 0
  have f1a := fun o => froz_of (((Upd.refl [] w2).alloc o).heap hr1 (by simp)) 1
  have HR1 := Lib.hid hr1
  have hw2 := lt_of_heap hr1
  have HW2 := Lib.hid hw2
  clear hr1 hw2
  go_region
  go_wp2_with fail
  have ha3 := (Upd.refl [] w2).alloc (.cells #[.int .i64 x, .int .i64 y] 3)
  have hn3 := heap_alloc_new w2 (.cells #[.int .i64 x, .int .i64 y] 3)
  have hr3 := ha3.heap HR1.out (by simp)
  have k1 := heap_setCell hr3 0 (.int .i64 (101 + (kk : Int)))
  have k2 := heap_setCell k1 1 (.slice (some ⟨w2.heap.size, 0, none⟩) 2 2)
  have d0 := cell_of k2 0
  have d1 := cell_of k2 1
  simp at d0 d1
  have hst : Upd [w.heap.size] (w2.alloc (.cells #[.int .i64 x, .int .i64 y] 3)) (((w2.alloc (.cells #[.int .i64 x, .int .i64 y] 3)).setCell ⟨w.heap.size, 0, none⟩ (.int .i64 (101 + (kk : Int)))).setCell ⟨w.heap.size, 1, none⟩ (.slice (some ⟨w2.heap.size, 0, none⟩) 2 2)) :=
    ((Upd.refl _ _).setCell (.inl (by simp)) _).setCell (.inl (by simp)) _
  refine bodyPost_ret (v := .agg #[.int .i64 (101 + (kk : Int)), .slice (some ⟨w2.heap.size, 0, none⟩) 2 2]) (by simp [results, Tryz.results49, go_sem, d0, d1]) rfl ?_
  have hn4 := (hst.heap hn3 (by simp; have := HW2.out; omega))
  refine ⟨w2.heap.size, 2, rfl, ⟨.inr ⟨2, rfl⟩, fun i hi => ?_⟩, (HU2.out.trans ha3).trans' hst.drew (fun q hq hl => by simp at hq; omega)⟩
  have h5 := cell_of hn4 i
  simp only [List.length_cons, List.length_nil] at hi
  have hi2 : i = 0 ∨ i = 1 := by omega
  rcases hi2 with rfl | rfl
  · exact h5.trans rfl
  · exact h5.trans rfl

set_option maxRecDepth 100000 in
set_option maxHeartbeats 2000000 in
theorem Fault_where (E : Nat → Addr) (c x y : Int) (b : Nat) (hc : 101 ≤ c ∧ c ≤ 114) (w : World) (h : SentAll w E) (hb : w.heap[b]? = some (.cells #[.int .i64 x, .int .i64 y, errC E c] 80)) :
    Calls Tryz.prog 26 #[.iface 78 (.pointer (some ⟨b, 0, none⟩))] w fun e w' => ∃ g cp, e = .returned (.agg #[.int .i64 c, .slice (some ⟨g, 0, none⟩) 2 cp]) ∧ IntsV w' (.slice (some ⟨g, 0, none⟩) 2 cp) g [x, y] ∧ Upd [] w w' := by
  have hu0 := (Upd.refl [] w).alloc (.cells #[.int .i64 0, .slice none 0 0] 38)
  have hr := heap_alloc_new w (.cells #[.int .i64 0, .slice none 0 0] 38)
  have hb0 := hu0.heap hb (by simp)
  have h0 := h.upd hu0
  clear h hb
  go_enter Tryz.func26, Tryz.ntmps26
  go_wp2_with fail
  generalize w.alloc (.cells #[.int .i64 0, .slice none 0 0] 38) = w0 at h0 hu0 hr hb0 ⊢
  refine (fault_where E c x y b hc w0 h0 hb0).mono ?_
  rintro e w1 ⟨g, cp, rfl, hi, hu1⟩
  have hr1 := hu1.heap hr (by simp)
  have r0 : w1.cell? ⟨w.heap.size, 0, none⟩ = some (.int .i64 0) := by rw [cell_of hr1]; rfl
  have r1 : w1.cell? ⟨w.heap.size, 1, none⟩ = some (.slice none 0 0) := by rw [cell_of hr1]; rfl
  have f0 := froz_of hr1 0
  have f1 := froz_of hr1 1
  have HR1 := Lib.hid hr1
  have hg : g ≠ w.heap.size := by
    rintro rfl
    have := hi.2 0 (by simp)
    rw [r0] at this
    have h2 := hi.2 1 (by simp)
    rw [r1] at h2
    simp at h2
  have HG := Lib.hid hg
  have HI := Lib.hid hi
  have HU := Lib.hid (hu0.trans hu1)
  clear hr hb0 h0 hu0 hu1 hr1 hg hi
  go_wp2_with fail
  have k1 := heap_setCell HR1.out 0 (.int .i64 c)
  have k2 := heap_setCell k1 1 (.slice (some ⟨g, 0, none⟩) 2 cp)
  have d0 := cell_of k2 0
  have d1 := cell_of k2 1
  simp at d0 d1
  have hst : Upd [w.heap.size] w1 ((w1.setCell ⟨w.heap.size, 0, none⟩ (.int .i64 c)).setCell ⟨w.heap.size, 1, none⟩ (.slice (some ⟨g, 0, none⟩) 2 cp)) := ((Upd.refl _ _).setCell (.inl (by simp)) _).setCell (.inl (by simp)) _
  refine bodyPost_ret (v := .agg #[.int .i64 c, .slice (some ⟨g, 0, none⟩) 2 cp]) (by simp [results, Tryz.results26, go_sem, d0, d1]) rfl ?_
  exact ⟨g, cp, rfl, HI.out.upd hst (.inr (by simp; exact HG.out)), HU.out.trans' hst (fun q hq hl => by simp at hq; omega)⟩

set_option maxRecDepth 100000 in
set_option maxHeartbeats 2000000 in
theorem Fault_nil (w : World) :
    Calls Tryz.prog 26 #[.nilIface] w fun e w' => e = .returned (.agg #[.int .i64 0, .slice none 0 0]) ∧ Upd [] w w' := by
  have hu0 := (Upd.refl [] w).alloc (.cells #[.int .i64 0, .slice none 0 0] 38)
  have hr := heap_alloc_new w (.cells #[.int .i64 0, .slice none 0 0] 38)
  go_enter Tryz.func26, Tryz.ntmps26
  go_wp2_with fail
  generalize w.alloc (.cells #[.int .i64 0, .slice none 0 0] 38) = w0 at hu0 hr ⊢
  refine (none_any w0).mono ?_
  rintro e w1 ⟨rfl, hu1⟩
  have hr1 := hu1.heap hr (by simp)
  have r0 : w1.cell? ⟨w.heap.size, 0, none⟩ = some (.int .i64 0) := by rw [cell_of hr1]; rfl
  have r1 : w1.cell? ⟨w.heap.size, 1, none⟩ = some (.slice none 0 0) := by rw [cell_of hr1]; rfl
  have f0 := froz_of hr1 0
  have f1 := froz_of hr1 1
  have HR1 := Lib.hid hr1
  have HU := Lib.hid (hu0.trans hu1)
  clear hr hu0 hu1 hr1
  go_wp2_with fail
  have k1 := heap_setCell HR1.out 0 (.int .i64 0)
  have k2 := heap_setCell k1 1 (.slice none 0 0)
  have d0 := cell_of k2 0
  have d1 := cell_of k2 1
  simp at d0 d1
  have hst : Upd [w.heap.size] w1 ((w1.setCell ⟨w.heap.size, 0, none⟩ (.int .i64 0)).setCell ⟨w.heap.size, 1, none⟩ (.slice none 0 0)) := ((Upd.refl _ _).setCell (.inl (by simp)) _).setCell (.inl (by simp)) _
  refine bodyPost_ret (v := .agg #[.int .i64 0, .slice none 0 0]) (by simp [results, Tryz.results26, go_sem, d0, d1]) rfl ?_
  exact ⟨rfl, HU.out.trans' hst (fun q hq hl => by simp at hq; omega)⟩

/-- overdrivesee.Fault, whatever error it is. -/
theorem Fault_any (E : Nat → Addr) (v : Value) (c : Int) (at_ : List Int) (w : World) (h : SentAll w E) (he : ErrV w E v c at_) :
    Calls Tryz.prog 26 #[v] w fun e w' => ∃ s b, e = .returned (.agg #[.int .i64 c, s]) ∧ IntsV w' s b at_ ∧ Upd [] w w' := by
  obtain ⟨hc, ⟨rfl, rfl⟩ | ⟨b, x, y, rfl, h0, rfl, hb⟩⟩ := he
  · rcases hc with rfl | hc
    · exact (Fault_nil w).mono fun e w' ⟨h1, h2⟩ => ⟨_, 0, h1, ⟨.inl ⟨rfl, rfl⟩, by simp⟩, h2⟩
    · obtain ⟨kk, hk, rfl⟩ : ∃ kk : Nat, kk < 14 ∧ c = 101 + (kk : Int) := ⟨(c - 101).toNat, by omega, by omega⟩
      rw [errC_at]
      exact (Fault_at E kk hk w h).mono fun e w' ⟨h1, h2⟩ => ⟨_, 0, h1, ⟨.inl ⟨rfl, rfl⟩, by simp⟩, h2⟩
  · exact (Fault_where E c x y b (by omega) w h hb).mono fun e w' ⟨g, cp, h1, h2, h3⟩ => ⟨_, g, h1, h2, h3⟩

set_option maxRecDepth 100000 in
set_option maxHeartbeats 2000000 in
theorem sameFault_any (c1 c2 : Int) (s1 s2 : Value) (b1 b2 : Nat) (x1 x2 : List Int) (w : World) (h1 : IntsV w s1 b1 x1) (h2 : IntsV w s2 b2 x2) (hl : x1.length ≤ 1000) (_hl2 : x2.length ≤ 1000) :
    Calls Tryz.prog 27 #[.agg #[.int .i64 c1, s1], .agg #[.int .i64 c2, s2]] w fun e w' => e = .returned (.bool (decide (c1 = c2 ∧ x1 = x2))) ∧ Upd [] w w' := by
  have hu0 := ((Upd.refl [] w).alloc (.cells #[.int .i64 c1, s1] 38)).alloc (.cells #[.int .i64 c2, s2] 38)
  obtain ⟨p1, q1, rfl⟩ := h1.form
  obtain ⟨p2, q2, rfl⟩ := h2.form
  have hi1 := h1.upd hu0 (.inr (by simp))
  have hi2 := h2.upd hu0 (.inr (by simp))
  have HI1 := Lib.hid hi1
  have HI2 := Lib.hid hi2
  have HU0 := Lib.hid hu0
  clear h1 h2 hi1 hi2 hu0
  go_enter Tryz.func27, Tryz.ntmps27
  go_wp2_with fail
  have hA := ((Upd.refl [] _).alloc (.cells #[.int .i64 c2, .slice p2 x2.length q2] 38)).heap (heap_alloc_new w (.cells #[.int .i64 c1, .slice p1 x1.length q1] 38)) (by simp)
  have hB := heap_alloc_new (w.alloc (.cells #[.int .i64 c1, .slice p1 x1.length q1] 38)) (.cells #[.int .i64 c2, .slice p2 x2.length q2] 38)
  rw [show (w.alloc (.cells #[.int .i64 c1, .slice p1 x1.length q1] 38)).heap.size = w.heap.size + 1 by simp] at hB
  refine (sints _ _ b1 b2 x1 x2 _ HI1.out HI2.out (by omega)).mono ?_
  rintro e w1 ⟨rfl, hu1⟩
  have hA1 := hu1.heap hA (by simp)
  have hB1 := hu1.heap hB (by simp)
  have r0 : w1.cell? ⟨w.heap.size, 0, none⟩ = some (.int .i64 c1) := by rw [cell_of hA1]; rfl
  have r1 : w1.cell? ⟨w.heap.size + 1, 0, none⟩ = some (.int .i64 c2) := by rw [cell_of hB1]; rfl
  have HU1 := Lib.hid (HU0.out.trans hu1)
  clear hA hB hA1 hB1 hu1 HI1 HI2 HU0
  by_cases hx : x1 = x2
  · have HX := Lib.hid hx
    rw [decide_eq_true hx]
    clear hx
    by_cases hcc : c1 = c2
    · have hb : (c1 == c2) = true := by simpa using hcc
      have HR : Hid (decide (c1 = c2 ∧ x1 = x2) = true) := decide_eq_true ⟨hcc, HX.out⟩
      clear hcc
      go_wp2_with fail
      all_goals
        go_ret
        exact ⟨by rw [HR.out]; rfl, HU1.out⟩
    · have hb : (c1 == c2) = false := by rw [beq_eq_false_iff_ne]; exact hcc
      have HR : Hid (decide (c1 = c2 ∧ x1 = x2) = false) := decide_eq_false (fun h => hcc h.1)
      clear hcc
      go_wp2_with fail
      all_goals
        go_ret
        exact ⟨by rw [HR.out]; rfl, HU1.out⟩
  · have HR : Hid (decide (c1 = c2 ∧ x1 = x2) = false) := decide_eq_false (fun h => hx h.2)
    rw [decide_eq_false hx]
    clear hx
    by_cases hcc : c1 = c2
    · have hb : (c1 == c2) = true := by simpa using hcc
      clear hcc
      go_wp2_with fail
      all_goals
        go_ret
        exact ⟨by rw [HR.out]; rfl, HU1.out⟩
    · have hb : (c1 == c2) = false := by rw [beq_eq_false_iff_ne]; exact hcc
      clear hcc
      go_wp2_with fail
      all_goals
        go_ret
        exact ⟨by rw [HR.out]; rfl, HU1.out⟩

set_option maxRecDepth 100000 in
set_option maxHeartbeats 2000000 in
theorem same_any (E : Nat → Addr) (v : Value) (c c2 : Int) (at_ a2 : List Int) (s2 : Value) (b2 : Nat) (w : World) (h : SentAll w E) (he : ErrV w E v c at_) (h2 : IntsV w s2 b2 a2) (hl : at_.length ≤ 1000) (hl2 : a2.length ≤ 1000) :
    Calls Tryz.prog 8 #[v, .agg #[.int .i64 c2, s2]] w fun e w' => e = .returned (.bool (decide (c = c2 ∧ at_ = a2))) ∧ Upd [] w w' := by
  obtain ⟨p2, q2, rfl⟩ := h2.form
  have hu0 := (Upd.refl [] w).alloc (.cells #[.int .i64 c2, .slice p2 a2.length q2] 38)
  have hr := heap_alloc_new w (.cells #[.int .i64 c2, .slice p2 a2.length q2] 38)
  have HF := Lib.hid (Fault_any E v c at_ _ (h.upd hu0) (he.upd hu0))
  have HI2 := Lib.hid (h2.upd hu0 (.inr (by simp)))
  have HU0 := Lib.hid hu0
  clear h h2 hu0 he
  go_enter Tryz.func8, Tryz.ntmps8
  go_wp2_with fail
  refine HF.out.mono ?_
  rintro e w1 ⟨s, b, rfl, hi, hu1⟩
  obtain ⟨p1, q1, rfl⟩ := hi.form
  have hau := (Upd.refl [] w1).alloc (.cells #[.int .i64 c, .slice p1 at_.length q1] 38)
  have hr1 := (hu1.trans hau).heap hr (by simp)
  have hn1 := heap_alloc_new w1 (.cells #[.int .i64 c, .slice p1 at_.length q1] 38)
  have hi1 := hi.upd hau (.inr (by simp))
  have hi2 := HI2.out.upd (hu1.trans hau) (.inr (by simp))
  have HU1 := Lib.hid (HU0.out.trans (hu1.trans hau))
  clear hr hi hu1 hau HF HI2 HU0
  go_upto_region 2 with fail
  generalize w1.alloc (.cells #[.int .i64 c, .slice p1 at_.length q1] 38) = w2 at hr1 hn1 hi1 hi2 HU1 ⊢
  generalize w1.heap.size = B at hn1 ⊢
  have a0 : w2.cell? ⟨w.heap.size, 0, none⟩ = some (.int .i64 c2) := by rw [cell_of hr1]; rfl
  have a1 : w2.cell? ⟨w.heap.size, 1, none⟩ = some (.slice p2 a2.length q2) := by rw [cell_of hr1]; rfl
  have b0 : w2.cell? ⟨B, 0, none⟩ = some (.int .i64 c) := by rw [cell_of hn1]; rfl
  have b1 : w2.cell? ⟨B, 1, none⟩ = some (.slice p1 at_.length q1) := by rw [cell_of hn1]; rfl
  have HSF := Lib.hid (sameFault_any c c2 _ _ b b2 at_ a2 w2 hi1 hi2 hl hl2)
  clear hr1 hn1 hi1 hi2
  go_wp2_with fail
  refine HSF.out.mono ?_
  rintro e w3 ⟨rfl, hu3⟩
  have HU3 := Lib.hid (HU1.out.trans hu3)
  clear hu3
  generalize hd : decide (c = c2 ∧ at_ = a2) = d
  have HD := Lib.hid hd
  clear hd
  go_wp2_with fail
  go_ret
  exact ⟨by rw [HD.out]; rfl, HU3.out⟩
end Go.Proofs.YtpkdijbmomkdeaaGreatDoor
