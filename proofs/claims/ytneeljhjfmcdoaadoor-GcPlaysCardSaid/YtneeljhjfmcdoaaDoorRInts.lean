/- overdriveref.Ints: a copy of a row of integers. -/
import Derived.Test.YtneeljhjfmcdoaaDoorMake
/-! overdriveref.Ints: a copy. -/
namespace Go.Proofs.YtneeljhjfmcdoaaDoor
open Go.RowKit

set_option maxRecDepth 100000 in
set_option maxHeartbeats 4000000 in
theorem rints_any (p : Option Addr) (cap rb : Nat) (xs : List Int) (w : World) (hn : xs.length ≤ 100000) (hp : xs = [] ∨ p = some ⟨rb, 0, none⟩) (hr : ∀ i, i < xs.length → w.cell? ⟨rb, i, none⟩ = some (.int .i64 (xs.getD i 0))) :
    Calls Tryd.prog 13 #[.slice p xs.length cap] w fun e w' => ∃ u, e = .returned u ∧ OwnI w' w.heap.size 3 u xs ∧ Upd [] w w' := by
  obtain ⟨i0, hi, hz0, hz1, hz2⟩ := info_parts Tryd.infoInt
  have HI := Lib.hid hi
  have HZ0 := Lib.hid hz0
  have HZ1 := Lib.hid hz1
  have HZ2 := Lib.hid hz2
  have HP := Lib.hid hp
  have HR := Lib.hid hr
  have hmk := make_ints w xs.length xs.length rfl (by omega)
  have HU := Lib.hid ((Upd.refl [] w).alloc (.cells (icells (List.replicate xs.length 0)) 3))
  have hO : OwnI (w.alloc (.cells (icells (List.replicate xs.length 0)) 3)) w.heap.size 3 (.slice (some ⟨w.heap.size, 0, none⟩) 0 xs.length) [] := made_row w w.heap.size xs.length (Nat.le_refl _) (by omega)
  have HO := Lib.hid hO
  clear hi hz0 hz1 hz2 hp hr hO
  go_enter Tryd.func13, Tryd.ntmps13
  go_wp2_with fail
  generalize w.alloc (.cells (icells (List.replicate xs.length 0)) 3) = w1 at HU HO ⊢
  go_loopw [3, 4] (fun uv iv wr => ∃ i : Nat, i ≤ xs.length ∧ iv = .int .i64 i ∧ Hid (OwnI wr w.heap.size 3 uv (xs.take i)) ∧ Hid (Upd [] w wr)) (fun _ iv _ => xs.length - (intOf iv).toNat)
  case atStart => exact ⟨0, by omega, rfl, HO.out, HU.out⟩
  case round =>
    obtain ⟨i, hi, rfl, HO, HV⟩ := hrel
    obtain ⟨wo, rfl⟩ : ∃ wo : World, wo = wr := ⟨_, rfl⟩
    have hlen : (xs.take i).length = i := by rw [List.length_take]; omega
    obtain ⟨p2, c2, rfl⟩ := ownI_shape HO.out
    by_cases hlt : i < xs.length
    · have e1 : decide ((i : Int) < (xs.length : Int)) = true := decide_eq_true (by omega)
      obtain rfl : p = some ⟨rb, 0, none⟩ := by
        rcases HP.out with h | h
        · rw [h] at hlt; cases hlt
        · exact h
      have hc := HV.out.cell (HR.out i hlt) (by simp)
      have HS : Hid (xs.take (i + 1) = xs.take i ++ [xs.getD i 0]) := by
        show _ = _
        rw [List.take_succ_eq_append_getElem hlt, List.getD_eq_getElem?_getD, List.getElem?_eq_getElem hlt]; rfl
      generalize xs.getD i 0 = x at hc HS
      generalize xs.take i = ys at HO HS hlen ⊢
      subst hlen
      go_wp2_with (at_builtin; refine stop_here ?_)
      refine Hid.mk ?_
      have hcn := cell_of (heap_alloc_new wo (.cells #[.int .i64 x] 3))
      have hsz := HV.out.size
      refine (wpList_append_own _ rfl _ _ 22 rfl w.heap.size 3 i0 (.int .i64 0) 1 8 Tryd.underlying22 HI.out HZ0.out HZ1.out HZ2.out rfl (by decide) _ _ _ rfl (HO.out.alloc (.cells #[.int .i64 x] 3)) ⟨wo.heap.size, 0, none⟩ 1 1 [.int .i64 x] rfl rfl ?c1 ?c2 ?c3 ?c4 ?c5 ?c6)
      case c1 =>
        intro jj uu hjj
        rw [Addr.add_lit, Nat.zero_add, hcn]
        simpa using hjj
      case c2 => simp [Value.oneCell']
      case c3 => unfold maxLen; omega
      case c4 => omega
      case c5 => simp; omega
      case c6 =>
        intro v' w6 hown hgr _
        have HU6 := Lib.hid ((HV.out.alloc (.cells #[.int .i64 x] 3)).grown hgr (fun q hq => .inr (HO.out.lt q hq).1))
        have hO6 := OwnI.snoc hown
        rw [← HS.out] at hO6
        have HO6 := Lib.hid hO6
        obtain ⟨g', cap', rfl⟩ := ownsRow_succ hown
        clear hown hgr hO6 hcn
        go_wp2_with fail
        go_roundw
        case rel => exact ⟨ys.length + 1, by omega, by go_num, HO6, HU6⟩
        case measure => simp [intOf]; omega
    · obtain rfl : i = xs.length := by omega
      rw [List.take_length] at HO
      have e1 : decide ((xs.length : Int) < (xs.length : Int)) = false := decide_eq_false (by omega)
      rw [hlen]
      go_wp2_with fail
      go_ret
      exact ⟨_, rfl, HO.out, HV.out⟩
end Go.Proofs.YtneeljhjfmcdoaaDoor
