/- overdriveworld.Light: is a program small? -/
import Derived.Test.YtojobkhidlfeoaaGreatDoorRows
import Derived.Test.YtojobkhidlfeoaaGreatDoorPrg
import Derived.Test.YtojobkhidlfeoaaGreatDoorInts
import Derived.Deep.DeepCutAuto
import Derived.Deep.QuietTactic
import Derived.BigQuiet
import Derived.StillTailTactics
namespace Go.Proofs.YtojobkhidlfeoaaGreatDoor
open Go.RowKit


set_option maxRecDepth 100000 in
set_option maxHeartbeats 2000000 in
theorem light_any (p : Prg) (cv mv : Value) (w : World) (hc : ClassAt w cv p.cs) (hm : MethsAt w mv p.ms) :
  Calls Tryz.prog 72 #[.agg #[cv, mv]] w fun e w' => (∃ b, e = .returned (.bool b)) ∧ Upd [] w w' := by
 obtain ⟨ca, cc, rfl, hca, hcl, hcm, hcx⟩ := hc
 obtain ⟨ma, mc, rfl, hml, hmm, hmx⟩ := hm
 have HCX := Lib.hid hcx
 have HMX := Lib.hid hmx
 clear hcx hmx hca
 unfold maxLen at hcm hmm
 have hbx := heap_alloc_new w (.cells #[.slice ca p.cs.length cc, .slice ma p.ms.length mc] 25)
 by_cases h1 : 20 < p.cs.length
 ·have d1 : decide ((20 : Int) < (p.cs.length : Int)) = true := by simp; omega
  go_enter Tryz.func72, Tryz.ntmps72
  go_wp2_with fail
  go_ret
  exact ⟨⟨_, rfl⟩, (Upd.refl _ _).alloc _⟩
 have d1 : decide ((20 : Int) < (p.cs.length : Int)) = false := by simp; omega
 by_cases h2 : 20 < p.ms.length
 ·have d2 : decide ((20 : Int) < (p.ms.length : Int)) = true := by simp; omega
  go_enter Tryz.func72, Tryz.ntmps72
  go_wp2_with fail
  go_ret
  exact ⟨⟨_, rfl⟩, (Upd.refl _ _).alloc _⟩
 have d2 : decide ((20 : Int) < (p.ms.length : Int)) = false := by simp; omega
 have HBX := Lib.hid hbx
 clear hbx
 go_enter Tryz.func72, Tryz.ntmps72
 go_wp2_with fail
 go_loopw [3] (fun i wr => ∃ k : Nat, k ≤ p.cs.length ∧ i = .int .i64 k ∧ Upd [] w wr ∧ wr.heap[w.heap.size]? = some (.cells #[.slice ca p.cs.length cc, .slice ma p.ms.length mc] 25)) (fun i _ => p.cs.length - (intOf i).toNat)
 case atStart => exact ⟨0, by omega, rfl, (Upd.refl _ _).alloc _, HBX.out⟩
 case round =>
  obtain ⟨k, hk, rfl, hU, hb⟩ := hrel
  have hb0 := cell_of hb 0
  have hb1 := cell_of hb 1
  by_cases hlt : k < p.cs.length
  ·obtain ⟨b, o, rfl, hsz, hcell⟩ := HCX.out k hlt
   have hx := hU.cell hcell (by simp)
   generalize p.cs.getD k ByteArray.empty = s at hx hsz
   clear hcell
   unfold maxLen at hsz
   go_wp2_with fail
   ·go_ret
    exact ⟨⟨_, rfl⟩, hU⟩
   ·go_roundw
    case rel => exact ⟨k + 1, by omega, by go_num, hU, hb⟩
    case measure => simp [intOf]; omega
  ·obtain rfl : k = p.cs.length := by omega
   go_wp2_with fail
   go_loopw [4] (fun i wr => ∃ k : Nat, k ≤ p.ms.length ∧ i = .int .i64 k ∧ Upd [] w wr ∧ wr.heap[w.heap.size]? = some (.cells #[.slice ca p.cs.length cc, .slice ma p.ms.length mc] 25)) (fun i _ => p.ms.length - (intOf i).toNat)
   case atStart => exact ⟨0, by omega, rfl, hU, hb⟩
   case round =>
    clear hU hb hb0 hb1
    obtain ⟨k, hk, rfl, hU, hb⟩ := hrel
    have hb0 := cell_of hb 0
    have hb1 := cell_of hb 1
    by_cases hlt : k < p.ms.length
    ·obtain ⟨b, o, rfl, hsz, hm0, hm1, hm2, kv, hm3, hcode⟩ := HMX.out k hlt
     have hx0 := hU.cell hm0 (by simp)
     have hx1 := hU.cell hm1 (by simp)
     have hx2 := hU.cell hm2 (by simp)
     have hx3 := hU.cell hm3 (by simp)
     obtain ⟨z0, z1, z2⟩ := hsz
     clear hm0 hm1 hm2 hm3
     generalize p.ms.getD k default = m at hx0 hx1 hx2 hx3 z0 z1 z2 hcode
     unfold maxLen at z0 z1 z2
     obtain ⟨ka, kc, rfl, hkl, hkm, _⟩ := hcode
     unfold maxLen at hkm
     obtain ⟨wo, rfl⟩ : ∃ wo : World, wo = wr := ⟨_, rfl⟩
     go_upto_region 12 with fail
     go_cut [64] (fun s wx => (∃ b, s = .bool b) ∧ Upd [] w wx ∧ wx.heap[w.heap.size]? = some (.cells #[.slice ca p.cs.length cc, .slice (some ⟨b, o, none⟩) p.ms.length mc] 25))
     case first =>
      go_wp2_with fail
      all_goals go_meet
      all_goals exact ⟨⟨_, rfl⟩, hU.alloc _, ((Upd.refl [] wo).alloc _).heap hb (by simp)⟩
     case rest =>
      obtain ⟨⟨bb, rfl⟩, hU2, hb2⟩ := hcut
      cases bb with
      | true =>
       go_wp2_with fail
       go_ret
       exact ⟨⟨_, rfl⟩, hU2⟩
      | false =>
       go_wp2_with fail
       go_roundw
       case rel => exact ⟨k + 1, by omega, by go_num, hU2, hb2⟩
       case measure => simp [intOf]; omega
    ·obtain rfl : k = p.ms.length := by omega
     go_wp2_with fail
     go_ret
     exact ⟨⟨_, rfl⟩, hU⟩

end Go.Proofs.YtojobkhidlfeoaaGreatDoor
