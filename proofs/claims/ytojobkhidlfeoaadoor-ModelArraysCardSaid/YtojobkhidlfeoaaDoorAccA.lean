/- prog.at, Kinds, field, method. -/
import Derived.Test.YtojobkhidlfeoaaDoorVerL
import Derived.Test.YtojobkhidlfeoaaDoorPin
import Derived.Deep.QuietTactic
import Derived.BigQuiet
namespace Go.Proofs.YtojobkhidlfeoaaDoor
open Go.RowKit

set_option maxHeartbeats 400000 in
theorem at_any (s : ByteArray) (i : Int) (w : World) (hs : s.size ≤ 1000000) :
  Calls Tryd.prog 61 #[.string s, .int .i64 i] w fun e w' => e = .returned (.string (bs (atB s.toList i))) ∧ w = w' := by
 by_cases h : 0 ≤ i ∧ i < (s.size : Int)
 ·obtain ⟨k, rfl⟩ := Int.eq_ofNat_of_zero_le h.1
  have hk : k < s.size := by omega
  have e := at_extract s k hk
  rw [← bs_eq e]
  clear e
  go_enter Tryd.func61, Tryd.ntmps61
  go_wp2_with fail
  refine (pin_any (k : Int) (s.size : Int) _).mono ?_
  rintro e w' ⟨rfl, rfl⟩
  rw [decide_eq_true h]
  go_wp2_with fail
  go_ret
  exact ⟨rfl, rfl⟩
 ·have e : atB s.toList i = [] := by
   unfold atB
   rw [if_neg (by rw [← size_list]; exact h)]
  rw [e]
  go_enter Tryd.func61, Tryd.ntmps61
  go_wp2_with fail
  refine (pin_any i (s.size : Int) _).mono ?_
  rintro e w' ⟨rfl, rfl⟩
  rw [decide_eq_false h]
  go_wp2_with fail
  go_ret
  exact ⟨rfl, rfl⟩

set_option maxHeartbeats 400000 in
theorem kinds_any (m : Meth) (kv : Value) (w : World) (h1 : m.params.size ≤ 1000000) (h2 : m.locals.size ≤ 1000000) :
  Calls Tryd.prog 29 #[.agg #[.string m.params, .string m.locals, .string m.ret, kv]] w fun e w' => e = .returned (.string (bs (kindsL m))) ∧ Upd [] w w' := by
 have e : bs (kindsL m) = m.params ++ m.locals := by
  symm
  apply bs_eq
  rw [list_append]; rfl
 rw [e]
 clear e
 go_enter Tryd.func29, Tryd.ntmps29
 go_wp2_with fail
 go_ret
 exact ⟨rfl, (Upd.refl _ _).alloc _⟩

set_option maxHeartbeats 1000000 in
theorem field_any (cs : List ByteArray) (cv mv : Value) (a b : Int) (w : World) (hc : ClassAt w cv cs) (hz : ∀ c ∈ cs, c.size ≤ 1000000) (_hn : cs.length ≤ 1000000) :
  Calls Tryd.prog 62 #[.agg #[cv, mv], .int .i64 a, .int .i64 b] w fun e w' => e = .returned (.string (bs (fieldL cs a b))) ∧ Upd [] w w' := by
 obtain ⟨cp, cc, rfl, _, hcl, hcm, hcx⟩ := hc
 have HCX := Lib.hid hcx
 have HZ := Lib.hid hz
 clear hcx hz
 unfold maxLen at hcm
 have HU := Lib.hid ((Upd.refl [] w).alloc (.cells #[.slice cp cs.length cc, mv] 36))
 by_cases h : 0 ≤ a ∧ a < (cs.length : Int)
 ·obtain ⟨k, rfl⟩ := Int.eq_ofNat_of_zero_le h.1
  have hk : k < cs.length := by omega
  obtain ⟨cb, co, rfl, hsz, hcell⟩ := HCX.out k hk
  have hz := HZ.out (cs.getD k ByteArray.empty) (by rw [List.getD_eq_getElem?_getD, List.getElem?_eq_getElem hk]; exact List.getElem_mem hk)
  have HE : Hid (fieldL cs (k : Int) b = atB (cs.getD k ByteArray.empty).toList b) := by show _ = _; unfold fieldL; rw [if_pos h, Int.toNat_natCast]
  rw [HE.out]
  have hx := HU.out.cell hcell (by simp)
  clear HCX HZ HE
  generalize cs.getD k ByteArray.empty = s at hcell hsz hz hx
  clear hcell
  go_enter Tryd.func62, Tryd.ntmps62
  go_wp2_with fail
  refine (pin_any (k : Int) (cs.length : Int) _).mono ?_
  rintro e w' ⟨rfl, rfl⟩
  rw [decide_eq_true h]
  go_wp2_with fail
  refine (at_any _ _ _ (by omega)).mono ?_
  rintro e w' ⟨rfl, rfl⟩
  go_wp2_with fail
  go_ret
  exact ⟨rfl, HU.out⟩
 ·have e : fieldL cs a b = [] := by unfold fieldL; rw [if_neg h]
  rw [e]
  go_enter Tryd.func62, Tryd.ntmps62
  go_wp2_with fail
  refine (pin_any a (cs.length : Int) _).mono ?_
  rintro e w' ⟨rfl, rfl⟩
  rw [decide_eq_false h]
  go_wp2_with fail
  go_ret
  exact ⟨rfl, HU.out⟩

/-- A method's value. -/
def MethV (w : World) (v : Value) (m : Meth) : Prop := ∃ kv, v = .agg #[.string m.params, .string m.locals, .string m.ret, kv] ∧ CodeAt w kv m.code

set_option maxRecDepth 100000 in
set_option maxHeartbeats 1000000 in
theorem pmeth_in (p : Prg) (cv mv : Value) (k : Nat) (w : World) (hm : MethsAt w mv p.ms) (hk : k < p.ms.length) (_hn : p.ms.length ≤ 1000000) :
  Calls Tryd.prog 60 #[.agg #[cv, mv], .int .i64 k] w fun e w' => ∃ v, e = .returned v ∧ MethV w' v (p.ms.getD k default) ∧ Upd [] w w' := by
 obtain ⟨mp, mc, rfl, hml, hmm, hmx⟩ := hm
 obtain ⟨b, o, rfl, _, hm0, hm1, hm2, kv, hm3, hcode⟩ := hmx k hk
 clear hmx
 unfold maxLen at hmm
 generalize p.ms.getD k default = m at hm0 hm1 hm2 hcode ⊢
 obtain ⟨ka, kc, rfl, hkc⟩ := hcode
 have hcode : CodeAt w (.slice ka m.code.length kc) m.code := ⟨ka, kc, rfl, hkc⟩
 clear hkc
 have hd := decide_eq_true (show 0 ≤ (k : Int) ∧ (k : Int) < (p.ms.length : Int) by omega)
 have HD := Lib.hid hd
 clear hd
 go_enter Tryd.func60, Tryd.ntmps60
 go_wp2_with fail
 refine (pin_any (k : Int) (p.ms.length : Int) _).mono ?_
 rintro e w' ⟨rfl, rfl⟩
 rw [HD.out]
 have HU := Lib.hid (((Upd.refl [] w).alloc (.cells #[cv, .slice (some ⟨b, o, none⟩) p.ms.length mc] 36)).alloc (.cells #[.string ⟨#[]⟩, .string ⟨#[]⟩, .string ⟨#[]⟩, .slice none 0 0] 32))
 have hb := heap_alloc_new (w.alloc (.cells #[cv, .slice (some ⟨b, o, none⟩) p.ms.length mc] 36)) (.cells #[.string ⟨#[]⟩, .string ⟨#[]⟩, .string ⟨#[]⟩, .slice none 0 0] 32)
 have hb0 := ((Upd.refl [] (w.alloc (.cells #[cv, .slice (some ⟨b, o, none⟩) p.ms.length mc] 36))).alloc (.cells #[.string ⟨#[]⟩, .string ⟨#[]⟩, .string ⟨#[]⟩, .slice none 0 0] 32)).heap (heap_alloc_new w (.cells #[cv, .slice (some ⟨b, o, none⟩) p.ms.length mc] 36)) (by simp)
 have ez : (w.alloc (.cells #[cv, .slice (some ⟨b, o, none⟩) p.ms.length mc] 36)).heap.size = w.heap.size + 1 := by simp
 rw [ez] at hb
 clear ez
 generalize ((w.alloc (.cells #[cv, .slice (some ⟨b, o, none⟩) p.ms.length mc] 36)).alloc (.cells #[.string ⟨#[]⟩, .string ⟨#[]⟩, .string ⟨#[]⟩, .slice none 0 0] 32)) = w2 at HU hb hb0 ⊢
 have hx0 := HU.out.cell hm0 (by simp)
 have hx1 := HU.out.cell hm1 (by simp)
 have hx2 := HU.out.cell hm2 (by simp)
 have hx3 := HU.out.cell hm3 (by simp)
 clear hm0 hm1 hm2 hm3
 have cc1 : w2.cell? ⟨w.heap.size, 1, none⟩ = some (.slice (some ⟨b, o, none⟩) p.ms.length mc) := by rw [cell_of hb0]; rfl
 have c0 : w2.cell? ⟨w.heap.size + 1, 0, none⟩ = some (.string ⟨#[]⟩) := by rw [cell_of hb]; rfl
 have c1 : w2.cell? ⟨w.heap.size + 1, 1, none⟩ = some (.string ⟨#[]⟩) := by rw [cell_of hb]; rfl
 have c2 : w2.cell? ⟨w.heap.size + 1, 2, none⟩ = some (.string ⟨#[]⟩) := by rw [cell_of hb]; rfl
 have c3 : w2.cell? ⟨w.heap.size + 1, 3, none⟩ = some (.slice none 0 0) := by rw [cell_of hb]; rfl
 have f0 := froz_of hb 0
 have f1 := froz_of hb 1
 have f2 := froz_of hb 2
 have f3 := froz_of hb 3
 have HB := Lib.hid hb
 clear hb hb0
 go_wp2_with fail
 have k1 := heap_setCell HB.out 0 (.string m.params)
 have k2 := heap_setCell k1 1 (.string m.locals)
 have k3 := heap_setCell k2 2 (.string m.ret)
 have k4 := heap_setCell k3 3 (.slice ka m.code.length kc)
 have d0 := cell_of k4 0
 have d1 := cell_of k4 1
 have d2 := cell_of k4 2
 have d3 := cell_of k4 3
 simp at d0 d1 d2 d3
 have hu4 := (((HU.out.setCell (p := ⟨w.heap.size + 1, 0, none⟩) (Or.inr (by simp)) (.string m.params)).setCell (p := ⟨w.heap.size + 1, 1, none⟩) (Or.inr (by simp)) (.string m.locals)).setCell (p := ⟨w.heap.size + 1, 2, none⟩) (Or.inr (by simp)) (.string m.ret)).setCell (p := ⟨w.heap.size + 1, 3, none⟩) (Or.inr (by simp)) (.slice ka m.code.length kc)
 refine bodyPost_ret (v := .agg #[.string m.params, .string m.locals, .string m.ret, .slice ka m.code.length kc]) (by simp [results, Tryd.results60, go_sem, d0, d1, d2, d3]) rfl ?_
 exact ⟨_, rfl, ⟨_, rfl, hcode.upd hu4⟩, hu4⟩

set_option maxRecDepth 100000 in
set_option maxHeartbeats 1000000 in
theorem pmeth_out (cv : Value) (mp : Option Addr) (n mc : Nat) (i : Int) (w : World) (hk : ¬ (0 ≤ i ∧ i < (n : Int))) (_hn : n ≤ 1000000) :
  Calls Tryd.prog 60 #[.agg #[cv, .slice mp n mc], .int .i64 i] w fun e w' => e = .returned (.agg #[.string (bs []), .string (bs []), .string (bs []), .slice none 0 0]) ∧ Upd [] w w' := by
 have HD := Lib.hid (decide_eq_false hk)
 clear hk
 go_enter Tryd.func60, Tryd.ntmps60
 go_wp2_with fail
 refine (pin_any i (n : Int) _).mono ?_
 rintro e w' ⟨rfl, rfl⟩
 rw [HD.out]
 go_wp2_with fail
 refine bodyPost_ret (v := .agg #[.string (bs []), .string (bs []), .string (bs []), .slice none 0 0]) (by simp [results, Tryd.results60, go_sem]; rfl) rfl ?_
 exact ⟨rfl, by first | exact ((Upd.refl _ _).alloc _).alloc _ | exact (((((((Upd.refl _ _).alloc _).alloc _).setCell (Or.inr (by simp)) _).setCell (Or.inr (by simp)) _).setCell (Or.inr (by simp)) _).setCell (Or.inr (by simp)) _)⟩
end Go.Proofs.YtojobkhidlfeoaaDoor
