/- A stack of frames: Take where there is nothing; Lay where there is no room. -/
import Derived.Test.YtpmfbhoochogoaaDoorFrT
/-! A stack of frames: Take where there is nothing; Lay where there is no room. -/
namespace Go.Proofs.YtpmfbhoochogoaaDoor
open Go.RowKit

set_option maxRecDepth 100000 in
set_option maxHeartbeats 4000000 in
theorem stake_empty (W0 w : World) (sb ib : Nat) (p : Prg) (ss : List Lk) (n0 n : Int) (cv mv : Value) (limit words : Int) (lv : Value) (fs : List Fr) (vs : List FrV) (f : Fr) (v : FrV) (h : StkAt W0 w sb ib p ss n0 n cv mv limit words lv (fs ++ [f]) (vs ++ [v])) (hf : f.stk = []) :
    Calls Tryd.prog 20 #[.pointer (some ⟨sb, 0, none⟩)] w fun e w' => e = .returned (.tuple #[.agg #[.bool false, .int .i64 0], .bool false]) ∧ Upd [] w w' := by
  have hl : vs.length = fs.length := by have := h.frs.len; simpa using this
  have hu0 := (Upd.refl [] w).alloc (.cells #[.bool false, .int .i64 0] 58)
  have hb0 := heap_alloc_new w (.cells #[.bool false, .int .i64 0] 58)
  have h2 := h.same hu0
  have HTP := Lib.hid (stop_any W0 _ sb ib p ss n0 n cv mv limit words lv _ _ h2)
  obtain ⟨g, c, rfl, ht, hg, g0, g1, g2, g3⟩ := top_at h2.frs hl
  rw [ht] at HTP
  have hos : OwnSl (w.alloc (.cells #[.bool false, .int .i64 0] 58)) (sb + 1) v.sv [] := by
    have h3 := h2.frs.stk fs.length (by simp)
    rw [getD_snoc_eq] at h3
    rw [show (vs ++ [v]).getD fs.length default = v by rw [← hl]; exact getD_snoc_eq _ _ _] at h3
    rwa [hf] at h3
  obtain ⟨lvv, svv⟩ := v
  simp only at g2 g3 hos
  obtain ⟨q, sc, rfl⟩ := hos.shape
  have g3 : (w.alloc (.cells #[.bool false, .int .i64 0] 58)).cell? ⟨g, fs.length * 4 + 3, none⟩ = some (.slice q 0 sc) := g3
  have HU0 := Lib.hid hu0
  have HB0 := Lib.hid hb0
  clear h h2 hu0 hb0 ht hl g0 g1 g2 hos hf
  go_enter Tryd.func20, Tryd.ntmps20
  go_upto_region 1 with fail
  generalize w.alloc (.cells #[.bool false, .int .i64 0] 58) = w0 at HU0 HB0 HTP g3 ⊢
  go_wp2_with fail
  refine HTP.out.mono ?_
  rintro e w1 ⟨rfl, hu⟩
  have hb1 := hu.heap HB0.out (by simp)
  have g3 := hu.cell g3 (by simp)
  have HU := Lib.hid (HU0.out.trans hu)
  have c0 : w1.cell? ⟨w.heap.size, 0, none⟩ = some (.bool false) := by rw [cell_of hb1]; rfl
  have c1 : w1.cell? ⟨w.heap.size, 1, none⟩ = some (.int .i64 0) := by rw [cell_of hb1]; rfl
  have f0 := froz_of hb1 0
  have f1 := froz_of hb1 1
  have k2 := heap_setCell (heap_setCell hb1 0 (.bool false)) 1 (.int .i64 0)
  have d0 := cell_of k2 0
  have d1 := cell_of k2 1
  simp at d0 d1
  have HUE : Hid (Upd [] w ((w1.setCell ⟨w.heap.size, 0, none⟩ (.bool false)).setCell ⟨w.heap.size, 1, none⟩ (.int .i64 0))) := (HU.out.setCell (.inr (Nat.le_refl _)) _).setCell (.inr (Nat.le_refl _)) _
  clear hu HTP hb1 HB0 HU0 k2
  go_wp2_with fail
  refine bodyPost_ret (v := .tuple #[.agg #[.bool false, .int .i64 0], .bool false]) (by simp [results, Tryd.results20, go_sem, d0, d1]) rfl ?_
  exact ⟨rfl, HUE.out⟩

set_option maxRecDepth 100000 in
set_option maxHeartbeats 4000000 in
theorem slay_full (W0 w : World) (sb ib : Nat) (p : Prg) (ss : List Lk) (n0 n : Int) (cv mv : Value) (limit words : Int) (lv : Value) (fs : List Fr) (vs : List FrV) (f : Fr) (v : FrV) (x : Slt) (h : StkAt W0 w sb ib p ss n0 n cv mv limit words lv (fs ++ [f]) (vs ++ [v])) (hs : 12 ≤ f.stk.length) :
    Calls Tryd.prog 19 #[.pointer (some ⟨sb, 0, none⟩), .agg #[.bool x.ref, .int .i64 x.n]] w fun e w' => e = .returned (.bool false) ∧ Upd [] w w' := by
  have hl : vs.length = fs.length := by have := h.frs.len; simpa using this
  have hu0 := (Upd.refl [] w).alloc (.cells #[.bool x.ref, .int .i64 x.n] 58)
  have h2 := h.same hu0
  have HTP := Lib.hid (stop_any W0 _ sb ib p ss n0 n cv mv limit words lv _ _ h2)
  obtain ⟨g, c, rfl, ht, hg, g0, g1, g2, g3⟩ := top_at h2.frs hl
  rw [ht] at HTP
  have hos : OwnSl (w.alloc (.cells #[.bool x.ref, .int .i64 x.n] 58)) (sb + 1) v.sv f.stk := by
    have h3 := h2.frs.stk fs.length (by simp)
    rw [getD_snoc_eq] at h3
    rw [show (vs ++ [v]).getD fs.length default = v by rw [← hl]; exact getD_snoc_eq _ _ _] at h3
    exact h3
  obtain ⟨lvv, svv⟩ := v
  simp only at g2 g3 hos
  obtain ⟨sp, sc, rfl⟩ := hos.shape
  have HU0 := Lib.hid hu0
  clear h h2 hu0 ht hl g0 g1 g2 hos
  have e1 : decide (12 ≤ f.stk.length) = true := decide_eq_true hs
  go_enter Tryd.func19, Tryd.ntmps19
  go_upto_region 1 with fail
  generalize w.alloc (.cells #[.bool x.ref, .int .i64 x.n] 58) = w0 at HU0 HTP g3 ⊢
  go_wp2_with fail
  refine HTP.out.mono ?_
  rintro e w1 ⟨rfl, hu⟩
  have g3 := hu.cell g3 (by simp)
  have HU := Lib.hid (HU0.out.trans hu)
  clear hu HTP HU0
  go_wp2_with fail
  go_ret
  exact ⟨rfl, HU.out⟩
end Go.Proofs.YtpmfbhoochogoaaDoor
