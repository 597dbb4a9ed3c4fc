/- Number, Light, Among: contracts. -/
import Derived.Test.YtbcoejmiihgfoaaDoorWordsD
import Derived.Test.YtbcoejmiihgfoaaDoorRows
import Derived.Test.YtbcoejmiihgfoaaDoorPrg
import Derived.Test.YtbcoejmiihgfoaaDoorInts
import Derived.Deep.DeepCutAuto
import Derived.Deep.QuietTactic
import Derived.BigQuiet
import Derived.StillTailTactics
namespace Go.Proofs.YtbcoejmiihgfoaaDoor
open Go.RowKit

set_option maxHeartbeats 400000 in
theorem among_any (v : Value) (b : Nat) (xs : List Int) (x : Int) (w : World) (h : IntsV w v b xs) (hn : xs.length ≤ 1000000) :
  Calls Tryd.prog 13 #[v, .int .i64 x] w fun e w' => e = .returned (.bool (decide (x ∈ xs))) ∧ w = w' := by
 obtain ⟨p, c, rfl⟩ := h.form
 go_enter Tryd.func13, Tryd.ntmps13
 go_wp2_with fail
 go_loopw [5] (fun i wr => ∃ k : Nat, k ≤ xs.length ∧ i = .int .i64 k ∧ w = wr ∧ Hid (∀ j, j < k → xs.getD j 0 ≠ x)) (fun i _ => xs.length - (intOf i).toNat)
 case atStart => exact ⟨0, by omega, rfl, rfl, (fun j hj => by omega : ∀ j, j < 0 → _)⟩
 case round =>
  obtain ⟨k, hk, rfl, rfl, HK⟩ := hrel
  by_cases hlt : k < xs.length
  ·obtain ⟨rfl, h2⟩ := sints_nth _ _ _ _ _ h k hlt
   have HX := Lib.hid (rfl : xs.getD k 0 = xs.getD k 0)
   generalize hy : xs.getD k 0 = y at h2 HX
   have HY := Lib.hid hy
   clear hy
   by_cases hyx : y = x
   ·have e1 : (y == x) = true := by rw [beq_iff_eq]; exact hyx
    have HE := Lib.hid hyx
    clear hyx
    go_wp2_with fail
    go_ret
    have : x ∈ xs := by
     rw [List.getD_eq_getElem?_getD, List.getElem?_eq_getElem hlt] at HY
     have h3 := HY.out
     rw [HE.out] at h3
     simp only [Option.getD_some] at h3
     rw [← h3]; exact List.getElem_mem hlt
    exact ⟨by rw [decide_eq_true this]; rfl, rfl⟩
   ·have e1 : (y == x) = false := by rw [beq_eq_false_iff_ne]; exact hyx
    have HE := Lib.hid hyx
    clear hyx
    go_wp2_with fail
    go_roundw
    case rel =>
     refine ⟨k + 1, by omega, by go_num, trivial, (fun j hj => ?_ : ∀ j, j < k + 1 → _)⟩
     by_cases e : j = k
     ·subst e; rw [HY.out]; exact HE.out
     ·exact HK.out j (by omega)
    case measure => simp [intOf]; omega
  ·obtain rfl : k = xs.length := by omega
   go_wp2_with fail
   go_ret
   have : x ∉ xs := by
    intro hm
    obtain ⟨j, hj, rfl⟩ := List.getElem_of_mem hm
    have := HK.out j hj
    rw [List.getD_eq_getElem?_getD, List.getElem?_eq_getElem hj] at this
    exact this rfl
   exact ⟨by rw [decide_eq_false this]; rfl, rfl⟩

set_option maxRecDepth 100000 in
set_option maxHeartbeats 2000000 in
theorem light_any (p : Prg) (cv mv : Value) (w : World) (hc : ClassAt w cv p.cs) (hm : MethsAt w mv p.ms) :
  Calls Tryd.prog 5 #[.agg #[cv, mv]] w fun e w' => (∃ b, e = .returned (.bool b)) ∧ Upd [] w w' := by
 obtain ⟨ca, cc, rfl, hca, hcl, hcm, hcx⟩ := hc
 obtain ⟨ma, mc, rfl, hml, hmm, hmx⟩ := hm
 have HCX := Lib.hid hcx
 have HMX := Lib.hid hmx
 clear hcx hmx hca
 unfold maxLen at hcm hmm
 have hbx := heap_alloc_new w (.cells #[.slice ca p.cs.length cc, .slice ma p.ms.length mc] 25)
 by_cases h1 : 20 < p.cs.length
 ·have d1 : decide ((20 : Int) < (p.cs.length : Int)) = true := by simp; omega
  go_enter Tryd.func5, Tryd.ntmps5
  go_wp2_with fail
  go_ret
  exact ⟨⟨_, rfl⟩, (Upd.refl _ _).alloc _⟩
 have d1 : decide ((20 : Int) < (p.cs.length : Int)) = false := by simp; omega
 by_cases h2 : 20 < p.ms.length
 ·have d2 : decide ((20 : Int) < (p.ms.length : Int)) = true := by simp; omega
  go_enter Tryd.func5, Tryd.ntmps5
  go_wp2_with fail
  go_ret
  exact ⟨⟨_, rfl⟩, (Upd.refl _ _).alloc _⟩
 have d2 : decide ((20 : Int) < (p.ms.length : Int)) = false := by simp; omega
 have HBX := Lib.hid hbx
 clear hbx
 go_enter Tryd.func5, Tryd.ntmps5
 go_wp2_with fail
 go_loopw [3] (fun i wr => ∃ k : Nat, k ≤ p.cs.length ∧ i = .int .i64 k ∧ Upd [] w wr ∧ wr.heap[w.heap.size]? = some (.cells #[.slice ca p.cs.length cc, .slice ma p.ms.length mc] 25)) (fun i _ => p.cs.length - (intOf i).toNat)
 case atStart => exact ⟨0, by omega, rfl, (Upd.refl _ _).alloc _, HBX.out⟩
 case round =>
  obtain ⟨k, hk, rfl, hU, hb⟩ := hrel
  have hb0 := cell_of hb 0
  have hb1 := cell_of hb 1
  by_cases hlt : k < p.cs.length
  ·obtain ⟨b, o, rfl, hsz, hcell⟩ := HCX.out k hlt
   have hx := hU.cell hcell (by simp)
   generalize p.cs.getD k ByteArray.empty = s at hx hsz
   clear hcell
   unfold maxLen at hsz
   go_wp2_with fail
   ·go_ret
    exact ⟨⟨_, rfl⟩, hU⟩
   ·go_roundw
    case rel => exact ⟨k + 1, by omega, by go_num, hU, hb⟩
    case measure => simp [intOf]; omega
  ·obtain rfl : k = p.cs.length := by omega
   go_wp2_with fail
   go_loopw [4] (fun i wr => ∃ k : Nat, k ≤ p.ms.length ∧ i = .int .i64 k ∧ Upd [] w wr ∧ wr.heap[w.heap.size]? = some (.cells #[.slice ca p.cs.length cc, .slice ma p.ms.length mc] 25)) (fun i _ => p.ms.length - (intOf i).toNat)
   case atStart => exact ⟨0, by omega, rfl, hU, hb⟩
   case round =>
    clear hU hb hb0 hb1
    obtain ⟨k, hk, rfl, hU, hb⟩ := hrel
    have hb0 := cell_of hb 0
    have hb1 := cell_of hb 1
    by_cases hlt : k < p.ms.length
    ·obtain ⟨b, o, rfl, hsz, hm0, hm1, hm2, kv, hm3, hcode⟩ := HMX.out k hlt
     have hx0 := hU.cell hm0 (by simp)
     have hx1 := hU.cell hm1 (by simp)
     have hx2 := hU.cell hm2 (by simp)
     have hx3 := hU.cell hm3 (by simp)
     obtain ⟨z0, z1, z2⟩ := hsz
     clear hm0 hm1 hm2 hm3
     generalize p.ms.getD k default = m at hx0 hx1 hx2 hx3 z0 z1 z2 hcode
     unfold maxLen at z0 z1 z2
     obtain ⟨ka, kc, rfl, hkl, hkm, _⟩ := hcode
     unfold maxLen at hkm
     obtain ⟨wo, rfl⟩ : ∃ wo : World, wo = wr := ⟨_, rfl⟩
     go_upto_region 12 with fail
     go_cut [64] (fun s wx => (∃ b, s = .bool b) ∧ Upd [] w wx ∧ wx.heap[w.heap.size]? = some (.cells #[.slice ca p.cs.length cc, .slice (some ⟨b, o, none⟩) p.ms.length mc] 25))
     case first =>
      go_wp2_with fail
      all_goals go_meet
      all_goals exact ⟨⟨_, rfl⟩, hU.alloc _, ((Upd.refl [] wo).alloc _).heap hb (by simp)⟩
     case rest =>
      obtain ⟨⟨bb, rfl⟩, hU2, hb2⟩ := hcut
      cases bb with
      | true =>
       go_wp2_with fail
       go_ret
       exact ⟨⟨_, rfl⟩, hU2⟩
      | false =>
       go_wp2_with fail
       go_roundw
       case rel => exact ⟨k + 1, by omega, by go_num, hU2, hb2⟩
       case measure => simp [intOf]; omega
    ·obtain rfl : k = p.ms.length := by omega
     go_wp2_with fail
     go_ret
     exact ⟨⟨_, rfl⟩, hU⟩

end Go.Proofs.YtbcoejmiihgfoaaDoor
