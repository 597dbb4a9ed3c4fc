/- The contract of overdriveref.Longs. -/
import Derived.Test.YtlddnpcpioligaaDoorAr3
namespace Go.Proofs.YtlddnpcpioligaaDoor
open Go.RowKit

/-- Cells of integers at an address. -/
def IntsIn (w : World) (b o : Nat) (xs : List Int) : Prop := ∀ i, i < xs.length → w.cell? ⟨b, o + i, none⟩ = some (.int .i64 (xs.getD i 0))

theorem IntsIn.upd {w w' : World} {b o : Nat} {xs : List Int} {S : List Nat} (h : IntsIn w b o xs) (hu : Upd S w w') (hb : b ∉ S) : IntsIn w' b o xs :=
  fun i hi => hu.cell (h i hi) hb

theorem Tryd.info64 : (Tryd.prog.info? 2).map (fun i => (i.zero, i.size, i.bytes)) = some (some (.int .i64 0), 1, 8) := by kernel_rfl

theorem take_snoc_getD (xs : List Int) (k : Nat) (h : k < xs.length) : xs.take (k + 1) = xs.take k ++ [xs.getD k 0] := by
  rw [List.take_succ_eq_append_getElem h]
  simp [List.getD_eq_getElem?_getD, List.getElem?_eq_getElem h]

set_option maxHeartbeats 1000000 in
theorem longs_any (b o cap : Nat) (xs : List Int) (w : World) (hn : xs.length ≤ 1000000) (h : IntsIn w b o xs) :
    Calls Tryd.prog 19 #[.slice (some ⟨b, o, none⟩) xs.length cap] w fun e w' => ∃ v, e = .returned v ∧ w'.ownsRow w.heap.size 2 1 v xs.length (xs.map (Value.int .i64)) ∧ Upd [] w w' := by
  obtain ⟨i0, hi, hz0, hz1, hz2⟩ := info_parts Tryd.info64
  have HI := Lib.hid hi
  have HZ0 := Lib.hid hz0
  have HZ1 := Lib.hid hz1
  have HZ2 := Lib.hid hz2
  have hmk := fun w => run_make (P := Tryd.prog) w 31 2 i0 (.int .i64 0) Tryd.underlying31 hi hz0 .i64 .i64 0 (xs.length : Int) (by omega) (by omega) (by rw [hz2]; omega) (by omega)
  rw [hz1, Nat.mul_one] at hmk
  simp only [madeCells_zero, Int.toNat_natCast, Int.toNat_zero] at hmk
  clear hi hz0 hz1 hz2
  have H := Lib.hid h
  clear h
  go_enter Tryd.func19, Tryd.ntmps19
  go_wp2_with fail
  clear hmk
  go_loopw [3, 4] (fun s i wr => ∃ k : Nat, k ≤ xs.length ∧ i = .int .i64 k ∧ wr.ownsRow w.heap.size 2 1 s k ((xs.take k).map (Value.int .i64)) ∧ Upd [] w wr) (fun _ i _ => xs.length - (intOf i).toNat)
  case atStart =>
    refine ⟨0, by omega, rfl, ?_, (Upd.refl _ _).alloc _⟩
    simpa using World.ownsRow_made w (icells (List.replicate xs.length 0)) xs.length (Nat.le_refl _) (by unfold maxLen; omega) (by simp [icells])
  case round =>
    obtain ⟨k, hk, rfl, hown, hU⟩ := hrel
    by_cases hlt : k < xs.length
    · have hx := hU.cell (H.out k hlt) (by simp)
      have HSN := Lib.hid (take_snoc_getD xs k hlt)
      generalize xs.getD k 0 = x at hx HSN
      generalize xs.take k = L at hown HSN
      go_wp2_with (at_builtin; refine stop_here ?_)
      refine Hid.mk ?_
      refine (wpList_append_own _ rfl _ _ 31 rfl w.heap.size 2 i0 (.int .i64 0) 1 8 Tryd.underlying31 HI.out HZ0.out HZ1.out HZ2.out rfl (by decide) _ _ _ rfl (hown.alloc _) ⟨wr.heap.size, 0, none⟩ 1 1 [.int .i64 x] rfl rfl ?c1 ?c2 ?c3 ?c4 ?c5 ?c6)
      case c1 => exact cell_one_new _ _ _
      case c2 => simp [Value.oneCell']
      case c3 => unfold maxLen; omega
      case c4 => omega
      case c5 => have := hU.size; simp; omega
      case c6 =>
        intro v' w6 hown' hgrow _
        have hrow : ∀ q, u3.ownBlock = some q → w.heap.size ≤ q := fun q hq => (hown.lt q hq).1
        have HO := Lib.hid hown'
        clear hown'
        have hU6 : Upd [] w w6 := (hU.alloc _).grown hgrow (fun q hq => Or.inr (hrow q hq))
        clear hgrow
        go_wp2_with fail
        go_roundw
        case rel =>
          refine ⟨k + 1, by omega, by go_num, ?_, hU6⟩
          rw [HSN.out]
          have := HO.out
          simpa using this
        case measure => simp [intOf]; omega
    · obtain rfl : k = xs.length := by omega
      go_wp2_with fail
      go_ret
      exact ⟨_, rfl, by simpa using hown, hU⟩

end Go.Proofs.YtlddnpcpioligaaDoor
