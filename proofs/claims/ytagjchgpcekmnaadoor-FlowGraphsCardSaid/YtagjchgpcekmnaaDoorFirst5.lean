/- The chapter's examples of flow: 'first' answers true. -/
import Derived.Test.YtagjchgpcekmnaaDoorOfW
import Derived.Test.YtagjchgpcekmnaaDoorOrder
import Derived.Test.YtagjchgpcekmnaaDoorSameI
namespace Go.Proofs.YtagjchgpcekmnaaDoor
open Go.RowKit Go.Shelf

attribute [local go_sem] Oper.semAt_some

def exCode : List Ins := [⟨3, 0, 0, 0⟩, ⟨23, 3, 0, 0⟩, ⟨1, 0, 0, 1⟩, ⟨33, 0, 0, 0⟩]
theorem exBeg : begL exCode = [0, 2, 3] := by decide
def exG : List (List Int) := [[1, 2], [3], [3], [0]]
theorem exPost : ints (dfs (cleanG exG)).post.reverse = [0, 2, 1, 3] := by decide
theorem exBack : (dfs (cleanG exG)).back = [(3, 0)] := by decide
theorem exA : ∀ j, j < exCode.length → ((exCode.getD j default).op = 22 ∨ (exCode.getD j default).op = 23) → 0 ≤ (exCode.getD j default).a := by decide

theorem ex_code (w : World) (T : TypeId) : CodeAt (w.alloc (.cells #[.int .i64 3, .int .i64 0, .int .i64 0, .int .i64 0, .int .i64 23, .int .i64 3, .int .i64 0, .int .i64 0, .int .i64 1, .int .i64 0, .int .i64 0, .int .i64 1, .int .i64 33, .int .i64 0, .int .i64 0, .int .i64 0] T)) (.slice (some ⟨w.heap.size, 0, none⟩) 4 4) exCode := by
  refine ⟨_, 4, rfl, by decide, by decide, fun i hi => ⟨w.heap.size, 0, rfl, ?_, ?_⟩⟩
  · have : ∀ i, i < exCode.length → (exCode.getD i default).bd := by unfold Ins.bd; decide
    exact this i hi
  · have hb := heap_alloc_new w (.cells #[.int .i64 3, .int .i64 0, .int .i64 0, .int .i64 0, .int .i64 23, .int .i64 3, .int .i64 0, .int .i64 0, .int .i64 1, .int .i64 0, .int .i64 0, .int .i64 1, .int .i64 33, .int .i64 0, .int .i64 0, .int .i64 0] T)
    have hc := cell_of hb
    unfold InsAt
    rw [hc, hc, hc, hc]
    have : i = 0 ∨ i = 1 ∨ i = 2 ∨ i = 3 := by simp only [exCode, List.length_cons, List.length_nil] at hi; omega
    rcases this with rfl | rfl | rfl | rfl <;> exact ⟨rfl, rfl, rfl, rfl⟩

theorem row_lit (w : World) (xs : List Int) (T : TypeId) {cs : Array Value} (hcs : cs = icells xs) (hl : xs.length ≤ 1000) (hx : ∀ j, j < xs.length → -9223372036854775808 ≤ xs.getD j 0 ∧ xs.getD j 0 ≤ 9223372036854775807) :
    RowIn (w.alloc (.cells cs T)) (.slice (some ⟨w.heap.size, 0, none⟩) xs.length xs.length) xs := by
  subst hcs
  refine ⟨_, _, rfl, by omega, fun j hj => ⟨_, 0, rfl, hx j hj, ?_⟩⟩
  rw [Nat.zero_add, cell_of (heap_alloc_new w _), icells_get xs j hj]

theorem ex_rows (w : World) (T U : TypeId) : RowsAt (((((w.alloc (.cells #[.int .i64 1, .int .i64 2] T)).alloc (.cells #[.int .i64 3] T)).alloc (.cells #[.int .i64 3] T)).alloc (.cells #[.int .i64 0] T)).alloc
      (.cells #[.slice (some ⟨w.heap.size, 0, none⟩) 2 2, .slice (some ⟨w.heap.size + 1, 0, none⟩) 1 1, .slice (some ⟨w.heap.size + 1 + 1, 0, none⟩) 1 1, .slice (some ⟨w.heap.size + 1 + 1 + 1, 0, none⟩) 1 1] U))
    (.slice (some ⟨w.heap.size + 1 + 1 + 1 + 1, 0, none⟩) 4 4) exG := by
  refine ⟨_, 4, rfl, by decide, fun i hi => ⟨w.heap.size + 1 + 1 + 1 + 1, 0, ?_⟩⟩
  have r0 := row_lit w [1, 2] T (cs := #[.int .i64 1, .int .i64 2]) rfl (by decide) (by decide)
  have r1 := row_lit (w.alloc (.cells #[.int .i64 1, .int .i64 2] T)) [3] T (cs := #[.int .i64 3]) rfl (by decide) (by decide)
  have r2 := row_lit ((w.alloc (.cells #[.int .i64 1, .int .i64 2] T)).alloc (.cells #[.int .i64 3] T)) [3] T (cs := #[.int .i64 3]) rfl (by decide) (by decide)
  have r3 := row_lit (((w.alloc (.cells #[.int .i64 1, .int .i64 2] T)).alloc (.cells #[.int .i64 3] T)).alloc (.cells #[.int .i64 3] T)) [0] T (cs := #[.int .i64 0]) rfl (by decide) (by decide)
  have ha : ∀ (w : World) (o : Obj), Upd [] w (w.alloc o) := fun w o => (Upd.refl [] w).alloc o
  have hb := heap_alloc_new ((((w.alloc (.cells #[.int .i64 1, .int .i64 2] T)).alloc (.cells #[.int .i64 3] T)).alloc (.cells #[.int .i64 3] T)).alloc (.cells #[.int .i64 0] T))
      (.cells #[.slice (some ⟨w.heap.size, 0, none⟩) 2 2, .slice (some ⟨w.heap.size + 1, 0, none⟩) 1 1, .slice (some ⟨w.heap.size + 1 + 1, 0, none⟩) 1 1, .slice (some ⟨w.heap.size + 1 + 1 + 1, 0, none⟩) 1 1] U)
  simp only [World.size_alloc] at hb r1 r2 r3
  have : i = 0 ∨ i = 1 ∨ i = 2 ∨ i = 3 := by simp only [exG, List.length_cons, List.length_nil] at hi; omega
  rcases this with rfl | rfl | rfl | rfl
  · exact ⟨_, rfl, by rw [cell_of hb]; rfl, (((r0.upd (ha _ _)).upd (ha _ _)).upd (ha _ _)).upd (ha _ _)⟩
  · exact ⟨_, rfl, by rw [cell_of hb]; rfl, ((r1.upd (ha _ _)).upd (ha _ _)).upd (ha _ _)⟩
  · exact ⟨_, rfl, by rw [cell_of hb]; rfl, (r2.upd (ha _ _)).upd (ha _ _)⟩
  · exact ⟨_, rfl, by rw [cell_of hb]; rfl, r3.upd (ha _ _)⟩

set_option maxRecDepth 100000 in
set_option maxHeartbeats 4000000 in
theorem first5_any (w : World) (hT : TzAt w) :
    Calls Tryd.prog 9 #[] w fun e w' => e = .returned (.bool true) ∧ Upd [] w w' := by
  have HT := Lib.hid hT
  clear hT
  go_enter Tryd.func9, Tryd.ntmps9
  go_wp2_with fail
  refine (of_any _ _ _ _ exCode _ (ex_code w _) (by decide) (by decide) (HT.out.upd ((Upd.refl [] w).alloc _) (by simp)) exA).mono ?_
  rintro e w1 ⟨G, B, gb, vs, cap, rfl, hC, hG, hU⟩
  rw [exBeg] at hC
  rw [exBeg]
  have hf : w1.cell? ⟨gb, 4, none⟩ = some (.int .i64 2) := hC.fr 1 (by decide)
  have hto : w1.cell? ⟨gb, 9, none⟩ = some (.int .i64 4) := hC.to 2 (by decide)
  have hU1 : Upd [] w w1 := ((Upd.refl [] w).alloc _).trans hU
  have HU1 := Lib.hid hU1
  have hz := hU1.size
  clear hC hU hU1 hG
  go_wp2_with fail
  have HRW := Lib.hid (ex_rows w1 3 28)
  refine (loops_any _ exG _ HRW.out (by decide) (by decide)).mono ?_
  rintro e w2 ⟨sb, pv, bv, bs, rfl, hE, hU2⟩
  have hln := hE.bln
  have hpr := hE.pair
  rw [exBack] at hln hpr
  obtain ⟨b0, rfl⟩ : ∃ b0, bs = [b0] := by
    match bs, hln with
    | [b0], _ => exact ⟨b0, rfl⟩
  have hbk := hE.back
  obtain ⟨gk, ck, curk, rfl, hk1, hk2, hk3, hk4, hk5, hk6⟩ := hbk.2.resolve_left (fun h => by simp at h)
  have hck : w2.cell? ⟨gk, 0, none⟩ = some (pairV b0) := by
    rw [cell_of hk2]
    simpa using take_get (q := 0) hk6 (by simp)
  have hp0 : w2.heap[b0]? = some (.cells (icells [3, 0]) 3) := (hpr 0 (by simp)).1
  have hi2 : IntsV w2 (.slice (some ⟨b0, 0, none⟩) 2 2) b0 [3, 0] := by
    refine ⟨.inr ⟨2, rfl⟩, fun i hi => ?_⟩
    rw [cell_of hp0, icells_get _ _ hi]
  have HI2 := Lib.hid hi2
  have hbs : b0 < w2.heap.size := lt_of_heap hp0
  have hUx : Upd [] w1 (((((w1.alloc (.cells #[.int .i64 1, .int .i64 2] 3)).alloc (.cells #[.int .i64 3] 3)).alloc (.cells #[.int .i64 3] 3)).alloc (.cells #[.int .i64 0] 3)).alloc
      (.cells #[.slice (some ⟨w1.heap.size, 0, none⟩) 2 2, .slice (some ⟨w1.heap.size + 1, 0, none⟩) 1 1, .slice (some ⟨w1.heap.size + 1 + 1, 0, none⟩) 1 1, .slice (some ⟨w1.heap.size + 1 + 1 + 1, 0, none⟩) 1 1] 28)) := ((((Upd.refl [] w1).alloc _).alloc _).alloc _).alloc _ |>.alloc _
  have hU3 := hUx.trans hU2
  have hf2 := hU3.cell hf (by simp)
  have hto2 := hU3.cell hto (by simp)
  have HU3 := Lib.hid (HU1.out.trans hU3)
  have HRW2 := Lib.hid (HRW.out.upd hU2)
  clear hE hln hpr hbk hk2 hk6 hp0 hi2 hUx hU2 hU3 hf hto HRW
  unfold pairV at hck
  go_wp2_with fail
  refine (order_any _ exG _ HRW2.out (by decide) (by decide)).mono ?_
  rintro e w3 ⟨u, rfl, hO, hU3⟩
  rw [exPost] at hO
  obtain ⟨bo, hO, _⟩ := hO.ints
  have hck3 := hU3.cell hck (by simp)
  have HI3 := Lib.hid (HI2.out.upd hU3 (by simp))
  have HO := Lib.hid hO
  have HU4 := Lib.hid (HU3.out.trans hU3)
  have hs3 := hU3.size
  clear hO hck hf2 hto2 HI2 HRW2 HU3 hU3
  go_wp2_with fail
  have hlit := ints_lit w3 [0, 2, 1, 3] 3 (cs := #[.int .i64 0, .int .i64 2, .int .i64 1, .int .i64 3]) rfl
  refine (sints _ _ bo _ [0, 2, 1, 3] [0, 2, 1, 3] _ (HO.out.upd ((Upd.refl [] w3).alloc _) (by simp)) hlit (by decide)).mono ?_
  rintro e w4 ⟨rfl, hU5⟩
  have hU6 := ((Upd.refl [] w3).alloc (.cells #[.int .i64 0, .int .i64 2, .int .i64 1, .int .i64 3] 3)).trans hU5
  have hck4 := hU6.cell hck3 (by simp)
  have HI4 := Lib.hid (HI3.out.upd hU6 (by simp))
  have HU6 := Lib.hid (HU4.out.trans hU6)
  clear hlit hck3 HI3 HU4 hU5 hU6 HO
  simp only [decide_true]
  go_wp2_with fail
  have hlit := ints_lit w4 [3, 0] 3 (cs := #[.int .i64 3, .int .i64 0]) rfl
  refine (sints _ _ b0 _ [3, 0] [3, 0] _ (HI4.out.upd ((Upd.refl [] w4).alloc _) (by simp)) hlit (by decide)).mono ?_
  rintro e w5 ⟨rfl, hU7⟩
  simp only [decide_true]
  go_wp2_with fail
  go_ret
  exact ⟨rfl, HU6.out.trans (((Upd.refl [] w4).alloc _).trans hU7)⟩

end Go.Proofs.YtagjchgpcekmnaaDoor
