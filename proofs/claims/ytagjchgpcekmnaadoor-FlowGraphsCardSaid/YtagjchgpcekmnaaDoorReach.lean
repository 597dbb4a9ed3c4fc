/- flow.Reach: which places can be reached. -/
import Derived.Test.YtagjchgpcekmnaaDoorWalkW
import Derived.Test.YtagjchgpcekmnaaDoorBools
namespace Go.Proofs.YtagjchgpcekmnaaDoor
open Go.RowKit

theorem dfs_st_len (g : List (List Int)) : (dfs (cleanG g)).st.length = g.length := by
  by_cases h : cleanG g = []
  · rw [h]
    have : g.length = 0 := by rw [← cleanG_len, h]; rfl
    rw [this]; rfl
  · rw [(dfs_inv (cleanG_clean g) h).1.lst, cleanG_len]

set_option maxRecDepth 100000 in
set_option maxHeartbeats 4000000 in
theorem reach_any (v : Value) (g : List (List Int)) (w : World) (h : RowsAt w v g) (hn : g.length ≤ 1000) (hr : ∀ l ∈ g, l.length ≤ 100000) :
    Calls Tryd.prog 19 #[v] w fun e w' => ∃ rb, e = .returned (.slice (some ⟨rb, 0, none⟩) g.length g.length) ∧ w'.heap[rb]? = some (.cells (bcells (fillB (fun k => decide ((dfs (cleanG g)).st.getD k 0 = 2)) g.length g.length)) 4) ∧ w.heap.size ≤ rb ∧ Upd [] w w' := by
  have HWK := Lib.hid (walk_any v g w h hn hr)
  have hsl := dfs_st_len g
  have hmk := fun w => make_bools w g.length (by omega)
  go_enter Tryd.func19, Tryd.ntmps19
  go_wp2_with fail
  refine HWK.out.mono ?_
  rintro e w1 ⟨sb, pv, bv, bs, rfl, hE, hu⟩
  generalize hds : (dfs (cleanG g)) = s at hE hsl
  have HDS := Lib.hid hds
  clear hds
  have hst := hE.st
  have hbx := heap_alloc_new w1 (.cells (bcells (List.replicate g.length false)) 4)
  have hst2 := (((Upd.refl [] w1).alloc (.cells (bcells (List.replicate g.length false)) 4))).heap hst (by simp)
  have HST := Lib.hid hst2
  have HBX := Lib.hid hbx
  have HU1 := Lib.hid (hu.alloc (.cells (bcells (List.replicate g.length false)) 4))
  have hsz := hu.size
  have hsb := lt_of_heap hst
  clear hE hst hst2 hbx HWK hu
  go_wp2_with fail
  generalize hw2 : w1.alloc (.cells (bcells (List.replicate g.length false)) 4) = w2 at HST HBX HU1 ⊢
  clear hw2
  go_loopw [20] (fun iv wr => ∃ i : Nat, i ≤ g.length ∧ iv = .int .i64 i ∧ Hid (wr.heap[w1.heap.size]? = some (.cells (bcells (fillB (fun k => decide (s.st.getD k 0 = 2)) g.length i)) 4)) ∧ Upd [w1.heap.size] w2 wr) (fun iv _ => g.length - (intOf iv).toNat)
  case atStart => exact ⟨0, by omega, rfl, by rw [fillB_zero]; exact HBX, Upd.refl _ _⟩
  case round =>
    obtain ⟨i, hi, rfl, hb, hU⟩ := hrel
    obtain ⟨wo, rfl⟩ : ∃ wo : World, wo = wr := ⟨_, rfl⟩
    by_cases hlt : i < g.length
    · have hso := hU.heap HST.out (by simp; omega)
      have hx : wo.cell? ⟨sb, i, none⟩ = some (.int .i64 ((s.st.getD i 0 : Nat) : Int)) := by
        rw [cell_of hso, icells_get _ _ (by rw [ints_len, hsl]; exact hlt), ints_get _ _ (by rw [hsl]; exact hlt)]
      have hbo := hb.out
      have hc : wo.cell? ⟨w1.heap.size, i, none⟩ = some (.bool ((fillB (fun k => decide (s.st.getD k 0 = 2)) g.length i).getD i false)) := by
        rw [cell_of hbo, bcells_get _ _ (by rw [fillB_len]; exact hlt)]
      have hf := froz_of hbo i
      have HSET := Lib.hid (fillB_step (fun k => decide (s.st.getD k 0 = 2)) g.length i hlt)
      have hd : (((s.st.getD i 0 : Nat) : Int) == 2) = decide (s.st.getD i 0 = 2) := by
        rw [Bool.eq_iff_iff]; simp; omega
      clear hso hbo
      generalize s.st.getD i 0 = x at hx HSET hd
      go_wp2_with fail
      go_roundw
      case rel =>
        refine ⟨i + 1, by omega, by go_num, ?_, ?_⟩
        · rw [← HSET.out]
          show _ = _
          rw [heap_setCell hb.out, bcells_set]
        · exact hU.setCell (.inl (by simp)) _
      case measure => simp [intOf]; omega
    · obtain rfl : i = g.length := by omega
      go_wp2_with fail
      go_ret
      exact ⟨w1.heap.size, rfl, by rw [HDS.out]; exact hb.out, by omega, HU1.out.trans' hU (fun q hq hlt2 => by simp at hq; omega)⟩

end Go.Proofs.YtagjchgpcekmnaaDoor
