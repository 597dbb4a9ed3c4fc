/- overdriveref.Method: a copy of a method. -/
import Derived.Test.YtpmfbhoochogoaaDoorInsW
import Derived.Test.YtpmfbhoochogoaaDoorClsW
/-! overdriveref.Method: a copy of a method. -/
namespace Go.Proofs.YtpmfbhoochogoaaDoor
open Go.RowKit

set_option maxRecDepth 100000 in
set_option maxHeartbeats 4000000 in
theorem method_any (m : Meth) (kv : Value) (w : World) (h : CodeAt w kv m.code) (hn : m.code.length ≤ 1000) :
    Calls Tryd.prog 54 #[.agg #[.string m.params, .string m.locals, .string m.ret, kv]] w fun e w' => ∃ u, e = .returned (.agg #[.string m.params, .string m.locals, .string m.ret, u]) ∧ OwnX w' (w.heap.size + 2) u m.code ∧ Upd [] w w' := by
  obtain ⟨a, cap, hv, hl, hm, hx⟩ := h
  have h : CodeAt w kv m.code := ⟨a, cap, hv, hl, hm, hx⟩
  subst hv
  have H := Lib.hid h
  clear hx hm hl h
  go_enter Tryd.func54, Tryd.ntmps54
  go_upto_region 1 with fail
  have hA := ((Upd.refl [] _).alloc (.cells #[.string ⟨#[]⟩, .string ⟨#[]⟩, .string ⟨#[]⟩, .slice none 0 0] 39)).heap (heap_alloc_new w (.cells #[.string m.params, .string m.locals, .string m.ret, .slice a m.code.length cap] 39)) (by simp)
  have hu := ((Upd.refl [] w).alloc (.cells #[.string m.params, .string m.locals, .string m.ret, .slice a m.code.length cap] 39)).alloc (.cells #[.string ⟨#[]⟩, .string ⟨#[]⟩, .string ⟨#[]⟩, .slice none 0 0] 39)
  have hB := heap_alloc_new (w.alloc (.cells #[.string m.params, .string m.locals, .string m.ret, .slice a m.code.length cap] 39)) (.cells #[.string ⟨#[]⟩, .string ⟨#[]⟩, .string ⟨#[]⟩, .slice none 0 0] 39)
  rw [show (w.alloc (.cells #[.string m.params, .string m.locals, .string m.ret, .slice a m.code.length cap] 39)).heap.size = w.heap.size + 1 by simp] at hB
  have HC := Lib.hid (H.out.upd hu)
  have HU := Lib.hid hu
  have hsz : ((w.alloc (.cells #[.string m.params, .string m.locals, .string m.ret, .slice a m.code.length cap] 39)).alloc (.cells #[.string ⟨#[]⟩, .string ⟨#[]⟩, .string ⟨#[]⟩, .slice none 0 0] 39)).heap.size = w.heap.size + 2 := by simp
  have HSZ := Lib.hid hsz
  clear hu hsz
  generalize (w.alloc (.cells #[.string m.params, .string m.locals, .string m.ret, .slice a m.code.length cap] 39)).alloc (.cells #[.string ⟨#[]⟩, .string ⟨#[]⟩, .string ⟨#[]⟩, .slice none 0 0] 39) = w2 at hA hB HC HU HSZ ⊢
  obtain ⟨B, hBe⟩ : ∃ B, B = w.heap.size := ⟨_, rfl⟩
  rw [← hBe] at hA hB HSZ ⊢
  have HBE := Lib.hid hBe
  clear hBe
  have b0 : w2.cell? ⟨B, 0, none⟩ = some (.string m.params) := by rw [cell_of hA]; rfl
  have b1 : w2.cell? ⟨B, 1, none⟩ = some (.string m.locals) := by rw [cell_of hA]; rfl
  have b2 : w2.cell? ⟨B, 2, none⟩ = some (.string m.ret) := by rw [cell_of hA]; rfl
  have b3 : w2.cell? ⟨B, 3, none⟩ = some (.slice a m.code.length cap) := by rw [cell_of hA]; rfl
  have d0 : w2.drew.cell? ⟨B, 0, none⟩ = some (.string m.params) := b0
  have d1 : w2.drew.cell? ⟨B, 1, none⟩ = some (.string m.locals) := b1
  have d2 : w2.drew.cell? ⟨B, 2, none⟩ = some (.string m.ret) := b2
  have d3 : w2.drew.cell? ⟨B, 3, none⟩ = some (.slice a m.code.length cap) := b3
  have HBB := Lib.hid hB
  clear hA hB
  have HK := Lib.hid (instrs_any (.slice a m.code.length cap) m.code w2.drew (HC.out.upd (Upd.refl [] w2).drew) hn)
  have HN : Hid (w2.drew.heap[B + 1]? = some (.cells #[.string ⟨#[]⟩, .string ⟨#[]⟩, .string ⟨#[]⟩, .slice none 0 0] 39)) := HBB
  go_region_held3 (fun w' => (w'.cell? ⟨B, 0, none⟩ = some (.string m.params) ∧ w'.cell? ⟨B, 1, none⟩ = some (.string m.locals) ∧ w'.cell? ⟨B, 2, none⟩ = some (.string m.ret) ∧ w'.cell? ⟨B, 3, none⟩ = some (.slice a m.code.length cap)))
    (first | exact ⟨e0, e1, e2, e3⟩ | exact ⟨d0, d1, d2, d3⟩ | exact ⟨b0, b1, b2, b3⟩ | go_keep)
    ((go_at_call 71; refine HK.out.mono ?_; rintro e w3 ⟨u, rfl, hx3, hu3⟩; obtain ⟨up, uc, rfl⟩ := hx3.shape; have hc3 := hu3.heap HN.out (by simp); have e0 := hu3.cell d0 (by simp); have e1 := hu3.cell d1 (by simp); have e2 := hu3.cell d2 (by simp); have e3 := hu3.cell d3 (by simp); have f0 := froz_of hc3 0; have f1 := froz_of hc3 1; have f2 := froz_of hc3 2; have f3 := froz_of hc3 3; have g0 : w3.cell? ⟨B + 1, 0, none⟩ = some (.string ⟨#[]⟩) := (by rw [cell_of hc3]; rfl); have g1 : w3.cell? ⟨B + 1, 1, none⟩ = some (.string ⟨#[]⟩) := (by rw [cell_of hc3]; rfl); have g2 : w3.cell? ⟨B + 1, 2, none⟩ = some (.string ⟨#[]⟩) := (by rw [cell_of hc3]; rfl); have g3 : w3.cell? ⟨B + 1, 3, none⟩ = some (.slice none 0 0) := (by rw [cell_of hc3]; rfl); have HX3 := Lib.hid hx3; have HU3 := Lib.hid hu3; have HC3 := Lib.hid hc3; clear hx3 hu3 hc3))
  rename_i hheld
  clear hheld
  have k4 := heap_setCell HC3.out 0 (.string m.params)
  have k5 := heap_setCell k4 1 (.string m.locals)
  have k6 := heap_setCell k5 2 (.string m.ret)
  have k7 := heap_setCell k6 3 (.slice up m.code.length uc)
  have hu7 : Upd [B + 1] w3 ((((w3.setCell ⟨B + 1, 0, none⟩ (.string m.params)).setCell ⟨B + 1, 1, none⟩ (.string m.locals)).setCell ⟨B + 1, 2, none⟩ (.string m.ret)).setCell ⟨B + 1, 3, none⟩ (.slice up m.code.length uc)) :=
    ((((Upd.refl _ w3).setCell (.inl (by simp)) _).setCell (.inl (by simp)) _).setCell (.inl (by simp)) _).setCell (.inl (by simp)) _
  clear k4 k5 k6 HC3 e0 e1 e2 e3 f0 f1 f2 f3 g0 g1 g2 g3 b0 b1 b2 b3 d0 d1 d2 d3
  generalize ((((w3.setCell ⟨B + 1, 0, none⟩ (.string m.params)).setCell ⟨B + 1, 1, none⟩ (.string m.locals)).setCell ⟨B + 1, 2, none⟩ (.string m.ret)).setCell ⟨B + 1, 3, none⟩ (.slice up m.code.length uc)) = w4 at k7 hu7 ⊢
  have c0 : w4.cell? ⟨B + 1, 0, none⟩ = some (.string m.params) := by rw [cell_of k7]; rfl
  have c1 : w4.cell? ⟨B + 1, 1, none⟩ = some (.string m.locals) := by rw [cell_of k7]; rfl
  have c2 : w4.cell? ⟨B + 1, 2, none⟩ = some (.string m.ret) := by rw [cell_of k7]; rfl
  have c3 : w4.cell? ⟨B + 1, 3, none⟩ = some (.slice up m.code.length uc) := by rw [cell_of k7]; rfl
  have HU7 := Lib.hid hu7
  clear k7 hu7
  go_wp2_with fail
  refine bodyPost_ret (v := .agg #[.string m.params, .string m.locals, .string m.ret, .slice up m.code.length uc]) (by simp [results, Tryd.results54, go_sem, c0, c1, c2, c3]) rfl ?_
  have hds : w2.drew.heap.size = B + 2 := HSZ.out
  have hx := HX3.out
  rw [hds] at hx
  refine ⟨_, rfl, ?_, ?_⟩
  · rw [← HBE.out]
    first | refine row_upd hx HU7.out ?_ | refine row_upd hx HU7.out.drew ?_
    exact (fun q hq hm => by
      have h1 := (OwnX.lt hx q hq).1
      have h2 : q = B + 1 := by simpa using hm
      omega)
  · have hA := (HU.out.drew).trans HU3.out
    have hb := HBE.out
    first | refine hA.trans' HU7.out ?_ | refine hA.trans' HU7.out.drew ?_
    exact (fun q hq hl => by
      have h2 : q = B + 1 := by simpa using hq
      omega)
end Go.Proofs.YtpmfbhoochogoaaDoor
