/- bits.Set.Clone: a set that is the same. -/
import Derived.Test.YtneeljhjfmcdoaaDoorEach
import Derived.Test.YtneeljhjfmcdoaaDoorOwnI
import Derived.Deep.RegionHeld3
namespace Go.Proofs.YtneeljhjfmcdoaaDoor
open Go.RowKit

theorem oneU (ws : List Nat) : ∀ u ∈ ws.map (fun (x : Nat) => Value.int .u64 (x : Int)), u.oneCell' = true := by
  intro u hu
  obtain ⟨x, _, rfl⟩ := List.mem_map.1 hu
  rfl

set_option maxRecDepth 100000 in
set_option maxHeartbeats 1000000 in
theorem cloneU_any (b g n : Nat) (ws : List Nat) (w : World) (h : SetAt w b g n ws) (hn : n ≤ 65536) :
    Calls Tryd.prog 94 #[.slice (some ⟨g, 0, none⟩) ws.length ws.length] w fun e w' => ∃ a g' c, e = .returned (.slice a ws.length c) ∧ (0 < ws.length → a = some ⟨g', 0, none⟩) ∧ w.heap.size ≤ g' ∧ (∀ i, i < ws.length → w'.cell? ⟨g', i, none⟩ = some (.int .u64 ((ws.getD i 0 : Nat) : Int))) ∧ g' < w'.heap.size ∧ Upd [] w w' := by
  obtain ⟨i0, hi, hz0, hz1, hz2⟩ := info_parts Tryd.infoU
  have HI := Lib.hid hi
  have HZ0 := Lib.hid hz0
  have HZ1 := Lib.hid hz1
  have HZ2 := Lib.hid hz2
  have hl : ws.length ≤ 1024 := by have := h.2.2.2.1; omega
  have HX := Lib.hid h
  clear hi hz0 hz1 hz2 h
  have hq : ∀ W, (binOp BinOp.eql 125 (.slice (some ⟨g, 0, none⟩) ws.length ws.length) (.slice none 0 0)).run Tryd.prog W = .ok (.bool false) W := fun _ => by kernel_rfl
  go_enter Tryd.func94, Tryd.ntmps94
  go_wp2_with (at_builtin; refine stop_here ?_)
  refine Hid.mk ?_
  have hrow : (w.alloc (.cells #[] 124)).ownsRow w.heap.size 124 1 (.slice (some ⟨w.heap.size, 0, none⟩) 0 0) 0 [] :=
    ⟨by simp, .inr ⟨w.heap.size, 0, #[], rfl, Nat.le_refl _, heap_alloc_new _ _, by omega, by simp [maxLen], by simp, by simp⟩⟩
  have hsrc : SrcV (w.alloc (.cells #[] 124)) (.slice (some ⟨g, 0, none⟩) ws.length ws.length) ws.length (ws.map (fun (x : Nat) => Value.int .u64 (x : Int))) := by
    refine .inr ⟨_, _, rfl, fun j u hu => ?_⟩
    rw [List.getElem?_map] at hu
    have hj : j < ws.length := by
      refine Decidable.byContradiction fun hc => ?_
      rw [List.getElem?_eq_none (by omega)] at hu
      cases hu
    rw [List.getElem?_eq_getElem hj] at hu
    injection hu with hu
    subst hu
    have h1 := HX.out.word j hj
    rw [List.getD_eq_getElem?_getD, List.getElem?_eq_getElem hj] at h1
    rw [Addr.add_lit, Nat.zero_add]
    exact ((Upd.refl [] w).alloc _).cell h1 (by simp)
  refine (wpList_append_src rfl _ _ 125 rfl w.heap.size 124 i0 (.int .u64 0) 1 8 Tryd.underlying125 HI.out HZ0.out HZ1.out HZ2.out rfl (by decide) _ _ _ rfl hrow _ ws.length (ws.map (fun (x : Nat) => Value.int .u64 (x : Int))) rfl hsrc (by simp) (oneU _) (by unfold maxLen; omega) (by omega) (by simp) ?_)
  intro v' w6 hown hgr _
  have hu := ((Upd.refl [] w).alloc (.cells #[] 124)).grown hgr (fun q hq => .inr (by injection hq with hq; exact Nat.le_of_eq hq))
  rw [Nat.zero_add, List.nil_append] at hown
  have HU := Lib.hid hu
  have HO := Lib.hid hown
  clear hu hrow hsrc hq
  obtain ⟨a, g', c, rfl, ha, hg1, hg2, hcell⟩ : ∃ a g' c, v' = .slice a ws.length c ∧ (0 < ws.length → a = some ⟨g', 0, none⟩) ∧ w.heap.size ≤ g' ∧ g' < w6.heap.size ∧ ∀ i, i < ws.length → w6.cell? ⟨g', i, none⟩ = some (.int .u64 ((ws.getD i 0 : Nat) : Int)) := by
    rcases HO.out.2 with ⟨h1, h2⟩ | ⟨g', c, cur, h1, h3, h4, h5, h6, h7, h8⟩
    · exact ⟨none, w.heap.size, 0, by rw [h1, h2], fun h => by omega, Nat.le_refl _, by
        have := hgr.size
        rw [World.size_alloc] at this; omega, fun i hi => by omega⟩
    · refine ⟨_, g', c, h1, fun _ => rfl, h3, lt_of_heap h4, fun i hi => ?_⟩
      have h9 := World.ownsRow.cells HO.out (g := g') (by rw [h1]; rfl) i (.int .u64 ((ws.getD i 0 : Nat) : Int)) (by
        rw [List.getElem?_map, List.getElem?_eq_getElem hi, List.getD_eq_getElem?_getD, List.getElem?_eq_getElem hi]; rfl)
      rwa [Addr.add_lit, Nat.zero_add] at h9
  have HC := Lib.hid hcell
  have HA := Lib.hid ha
  clear hcell hown hgr ha
  go_wp2_with fail
  go_ret
  exact ⟨a, g', c, rfl, HA.out, hg1, HC.out, hg2, HU.out⟩

set_option maxRecDepth 100000 in
set_option maxHeartbeats 1000000 in
theorem bclone_any (b g n : Nat) (ws : List Nat) (w : World) (h : SetAt w b g n ws) (hn : n ≤ 65536) :
    Calls Tryd.prog 93 #[.pointer (some ⟨b, 0, none⟩)] w fun e w' => ∃ b' g' c, e = .returned (.pointer (some ⟨b', 0, none⟩)) ∧ SetC w' b' g' n c ws ∧ w.heap.size ≤ b' ∧ w.heap.size ≤ g' ∧ b' < w'.heap.size ∧ g' < w'.heap.size ∧ Upd [] w w' := by
  have c0 := h.c0
  have c1 := h.c1
  have c0d := (Upd.refl [] w).drew.cell c0 (by simp)
  have c1d := (Upd.refl [] w).drew.cell c1 (by simp)
  have HD := Lib.hid (h.upd (Upd.refl [] w).drew (by simp) (by simp))
  have HCL := Lib.hid (cloneU_any b g n ws w.drew HD.out hn)
  have H := Lib.hid h
  clear h
  go_enter Tryd.func93, Tryd.ntmps93
  go_wp2_with fail
  go_region_held3 (fun w' => w'.cell? ⟨b, 0, none⟩ = some (.int .i64 n) ∧ w'.cell? ⟨b, 1, none⟩ = some (.slice (some ⟨g, 0, none⟩) ws.length ws.length))
    (first | exact ⟨c0d, c1d⟩ | exact ⟨hk0, hk1⟩ | exact ⟨c0, c1⟩ | exact ⟨hs0 _, hs1 _⟩)
    ((go_at_call 94; refine HCL.out.mono ?_; rintro e w4 ⟨a4, g', c, rfl, ha4, hg1, hcells, hg2, hu4⟩; have hk0 := hu4.cell c0d (by simp); have hk1 := hu4.cell c1d (by simp); have hs0 := (fun o => ((Upd.refl [] w4).alloc o).cell hk0 (by simp)); have hs1 := (fun o => ((Upd.refl [] w4).alloc o).cell hk1 (by simp)); have HCC := Lib.hid hcells; have HA4 := Lib.hid ha4; clear hcells ha4))
  go_wp2_with fail
  go_ret
  have hn4 := heap_alloc_new w4 (.cells #[.int .i64 n, .slice a4 ws.length c] 127)
  have hz := hu4.size
  have hz2 : (w4.alloc (.cells #[.int .i64 n, .slice a4 ws.length c] 127)).heap.size = w4.heap.size + 1 := by simp
  have hz3 : w.drew.heap.size = w.heap.size := rfl
  refine ⟨w4.heap.size, g', c, rfl, ⟨⟨a4, hn4, HA4.out⟩, fun i hi => ((Upd.refl [] w4).alloc _).cell (HCC.out i hi) (by simp), H.out.2.2.1, H.out.2.2.2.1, H.out.2.2.2.2.1, H.out.2.2.2.2.2⟩, by omega, by omega, by omega, by omega, ((Upd.refl [] w).drew.trans hu4).alloc _⟩
end Go.Proofs.YtneeljhjfmcdoaaDoor
