/- overdriveref.Instrs: a copy of code. -/
import Derived.Test.YtpmfbhoochogoaaDoorWithW
/-! overdriveref.Instrs: a copy of code. -/
namespace Go.Proofs.YtpmfbhoochogoaaDoor
open Go.RowKit

theorem make_ins (w : World) (m : Nat) (h : m ≤ 1000000) : ∃ Z : Array Value, Z.size = m * 4 ∧ (Instr.makeSlice 37 (.int .i64 0) (.int .i64 (m : Int))).run Tryd.prog w = .ok (.slice (some ⟨w.heap.size, 0, none⟩) 0 m) (w.alloc (.cells Z 27)) := by
  obtain ⟨i0, hi, hz0, hz1, hz2⟩ := info_parts Tryd.infoInstr
  have hmk := run_make (P := Tryd.prog) w 37 27 i0 _ Tryd.underlying37 hi hz0 .i64 .i64 0 (m : Int) (by omega) (by omega) (by rw [hz2]; omega) (by omega)
  rw [hz1] at hmk
  refine ⟨_, ?_, hmk⟩
  rw [size_madeCells]
  rfl

set_option maxRecDepth 100000 in
set_option maxHeartbeats 2000000 in
theorem instrs_any (v : Value) (xs : List Ins) (w : World) (h : CodeAt w v xs) (hn : xs.length ≤ 1000) :
    Calls Tryd.prog 71 #[v] w fun e w' => ∃ u, e = .returned u ∧ OwnX w' w.heap.size u xs ∧ Upd [] w w' := by
  obtain ⟨i0, hi, hz0, hz1, hz2⟩ := info_parts Tryd.infoInstr
  have HI := Lib.hid hi
  have HZ0 := Lib.hid hz0
  have HZ1 := Lib.hid hz1
  have HZ2 := Lib.hid hz2
  clear hi hz0 hz1 hz2
  obtain ⟨a, cap, rfl, hl, hm, hx⟩ := h
  have HX0 := Lib.hid hx
  clear hx hm hl
  obtain ⟨Z, hZ, hmk⟩ := make_ins w xs.length (by omega)
  have HO := Lib.hid (show OwnX (w.alloc (.cells Z 27)) w.heap.size (.slice (some ⟨w.heap.size, 0, none⟩) 0 xs.length) [] from World.ownsRow_made w Z xs.length (Nat.le_refl _) (by unfold maxLen; omega) hZ)
  have HU0 := Lib.hid ((Upd.refl [] w).alloc (.cells Z 27))
  clear hZ
  go_enter Tryd.func71, Tryd.ntmps71
  go_wp2_with fail
  go_loopw [3, 4] (fun v iv wr => ∃ i : Nat, i ≤ xs.length ∧ iv = .int .i64 i ∧ Hid (OwnX wr w.heap.size v (xs.take i)) ∧ Hid (Upd [] w wr)) (fun _ iv _ => xs.length - (intOf iv).toNat)
  case atStart => exact ⟨0, by omega, rfl, HO.out, HU0.out⟩
  case round =>
    clear HO HU0
    obtain ⟨i, hi, rfl, HX, HU⟩ := hrel
    obtain ⟨wo, rfl⟩ : ∃ wo : World, wo = wr := ⟨_, rfl⟩
    have hli : (xs.take i).length = i := by rw [List.length_take]; omega
    obtain ⟨vp, vc, hv⟩ := HX.out.shape
    rw [hli] at hv
    subst hv
    have HLI := Lib.hid hli
    clear hli
    by_cases hlt : i < xs.length
    · obtain ⟨b, o, rfl, hbd, hi0, hi1, hi2, hi3⟩ := HX0.out i hlt
      have hi0 := HU.out.cell hi0 (by simp)
      have hi1 := HU.out.cell hi1 (by simp)
      have hi2 := HU.out.cell hi2 (by simp)
      have hi3 := HU.out.cell hi3 (by simp)
      have HT : Hid (xs.take i ++ [xs.getD i default] = xs.take (i + 1)) := by
        show _ = _
        rw [List.take_succ_eq_append_getElem hlt, List.getD_eq_getElem?_getD, List.getElem?_eq_getElem hlt]
        rfl
      generalize xs.getD i default = x at hi0 hi1 hi2 hi3 hbd HT
      obtain ⟨op, ia, ib, im⟩ := x
      simp only at hi0 hi1 hi2 hi3
      clear hbd
      go_wp2_with (at_builtin; refine stop_here ?_)
      refine Hid.mk ?_
      have hrow : (wo.alloc (.cells (xcells [⟨op, ia, ib, im⟩]).toArray 27)).ownsRow w.heap.size 27 4 (.slice vp (i) vc) (i) (xcells (xs.take i)) := by
        have h := HX.out.upd ((Upd.refl [] wo).alloc (.cells (xcells [⟨op, ia, ib, im⟩]).toArray 27))
        unfold OwnX at h
        rwa [HLI.out] at h
      have hsz := HU.out.size
      refine (wpList_append_src rfl _ _ 37 rfl w.heap.size 27 i0 _ 4 32 Tryd.underlying37 HI.out HZ0.out HZ1.out HZ2.out rfl (by decide) _ _ _ rfl hrow _ 1 (xcells [⟨op, ia, ib, im⟩]) rfl (.inr ⟨_, _, rfl, fun j u hu => by
        rw [Addr.add_lit, Nat.zero_add, cell_of (heap_alloc_new wo _)]
        show ((xcells [⟨op, ia, ib, im⟩]).toArray)[j]? = some u
        rw [List.getElem?_toArray]
        exact hu⟩) rfl (xcells_one _) (by unfold maxLen; omega) (by omega) (by simp; omega) ?_)
      intro v' w7 hown hgr _
      obtain ⟨hP, hW, hB⟩ := HX.out.push (ys := [⟨op, ia, ib, im⟩]) (by rw [HLI.out]; rfl) hown hgr
      have hP : OwnX w7 w.heap.size v' (xs.take (i + 1)) := by rw [HT.out] at hP; exact hP
      have HP := Lib.hid hP
      have HU7 := Lib.hid (HU.out.trans' hW (fun q hq hl => by have := (hB q hq).1; omega))
      obtain ⟨vp', vc', hv'⟩ := hP.shape
      subst hv'
      clear hP hW hB hown hgr hrow hsz
      have HL2 : Hid ((xs.take (i + 1)).length = i + 1) := by show _ = _; rw [List.length_take]; omega
      rw [HL2.out] at HP ⊢
      clear HL2 HT hi0 hi1 hi2 hi3
      go_wp2_with fail
      go_roundw
      case rel => exact ⟨i + 1, by omega, by go_num, HP.out, HU7.out⟩
      case measure => simp [intOf]; omega
    · obtain rfl : i = xs.length := by omega
      have HXX : Hid (OwnX wo w.heap.size (.slice vp xs.length vc) xs) := by
        have h := HX.out
        rwa [List.take_length] at h
      clear HX HLI
      go_wp2_with fail
      go_ret
      exact ⟨_, rfl, HXX.out, HU.out⟩
end Go.Proofs.YtpmfbhoochogoaaDoor
