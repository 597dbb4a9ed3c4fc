/- prog.Next: where an instruction goes on. -/
import Derived.Test.YtojobkhidlfeoaaDoorPutRow
import Derived.Test.YtojobkhidlfeoaaDoorShelf
import Derived.Test.YtojobkhidlfeoaaDoorVerL
import Derived.Test.YtojobkhidlfeoaaDoorPin
namespace Go.Proofs.YtojobkhidlfeoaaDoor
open Go.RowKit


theorem sort2 (a b : Int) : ([a, b].mergeSort fun x y => decide (x ≤ y)) = if a ≤ b then [a, b] else [b, a] := by
 by_cases h : a ≤ b
 ·rw [if_pos h]
  simp [List.mergeSort, List.MergeSort.Internal.splitInTwo, h]
 ·rw [if_neg h]
  simp [List.mergeSort, List.MergeSort.Internal.splitInTwo, h]
theorem compact2 (a b : Int) : Lib.compact [a, b] = if a = b then [a] else [a, b] := by
 unfold Lib.compact Lib.compactUpTo
 by_cases h : a = b
 ·subst h
  rw [if_pos rfl]
  simp [List.range_succ, Lib.keeps]
 ·rw [if_neg h]
  have h2 : ¬ b = a := fun e => h e.symm
  simp [List.range_succ, Lib.keeps, h2]

theorem upd_grow (w : World) (os : Array Obj) : Upd [] w (Sort.grow w os) := by
 refine ⟨rfl, rfl, rfl, by simp [Sort.grow], fun k hk _ => ?_⟩
 unfold Sort.grow
 simp only
 rw [Array.getElem?_append_left hk]

/-- A literal row is one's own. -/
theorem OwnI.lit (w : World) (B : Nat) (xs : List Int) (hB : B ≤ w.heap.size) (hl : xs.length ≤ 1000) : OwnI (w.alloc (.cells (icells xs) 3)) B 3 (.slice (some ⟨w.heap.size, 0, none⟩) xs.length xs.length) xs := by
 refine ⟨by simp, .inr ⟨w.heap.size, xs.length, _, rfl, hB, heap_alloc_new w _, Nat.le_refl _, by unfold maxLen; omega, by rw [icells_size]; omega, ?_⟩⟩
 rw [Nat.mul_one]
 simp only [icells]
 rw [List.take_of_length_le (by simp)]

/-- A row's beginning is a row. -/
theorem OwnI.take {w : World} {B g n c : Nat} {e : TypeId} {xs ys : List Int} (h : OwnI w B e (.slice (some ⟨g, 0, none⟩) xs.length c) xs) (hn : n ≤ xs.length) (hy : xs.take n = ys) : OwnI w B e (.slice (some ⟨g, 0, none⟩) n c) ys := by
 subst hy
 unfold OwnI at h ⊢
 have hl : (xs.take n).length = n := by rw [List.length_take]; omega
 rw [hl]
 refine ⟨by simp; omega, ?_⟩
 rcases h.2 with ⟨h2, _⟩ | ⟨g', c', cur, h2, h3, h4, h5, h6, h7, h8⟩
 ·cases h2
 ·injection h2 with e1 e2 e3
  refine .inr ⟨g', c', cur, by rw [e1, e3], h3, h4, by omega, h6, h7, ?_⟩
  have : (cur.toList.take (xs.length * 1)).take (n * 1) = cur.toList.take (n * 1) := by
   rw [List.take_take]
   congr 1
   omega
  rw [← this, h8, Nat.mul_one, List.map_take]

set_option maxRecDepth 100000 in
set_option maxHeartbeats 2000000 in
theorem next_any (s1 s2 s3 : ByteArray) (kv : Value) (xs : List Ins) (pc : Int) (w : World) (h : CodeAt w kv xs) (hn : xs.length ≤ 100000) :
  Calls Tryd.prog 28 #[.agg #[.string s1, .string s2, .string s3, kv], .int .i64 pc] w fun e w' => ∃ u, e = .returned u ∧ OwnI w' w.heap.size 3 u (nextL xs pc) ∧ Upd [] w w' := by
 obtain ⟨a, cap, rfl, hl, hm, hx⟩ := h
 have HX := Lib.hid hx
 clear hx hm
 have hAU := (Upd.refl [] w).alloc (.cells #[.string s1, .string s2, .string s3, .slice a xs.length cap] 32)
 by_cases h0 : 0 ≤ pc ∧ pc < xs.length
 ·obtain ⟨p, rfl⟩ := Int.eq_ofNat_of_zero_le h0.1
  have hp : p < xs.length := by omega
  obtain ⟨b, o, rfl, hbd, hi⟩ := HX.out p hp
  obtain ⟨hi0, hi1, hi2, hi3⟩ := hi
  have HN : Hid (nextL xs (p : Int) = if (xs.getD p default).op = 33 then [] else if (xs.getD p default).op = 22 then [(xs.getD p default).a] else if (xs.getD p default).op = 23 then
   if (xs.getD p default).a = (p : Int) + 1 then [(p : Int) + 1] else if (xs.getD p default).a ≤ (p : Int) + 1 then [(xs.getD p default).a, (p : Int) + 1] else [(p : Int) + 1, (xs.getD p default).a]
   else [(p : Int) + 1]) := by
   show _ = _
   unfold nextL
   rw [if_pos h0, Int.toNat_natCast]
  have hy0 := hAU.cell hi0 (by simp)
  have hy1 := hAU.cell hi1 (by simp)
  have hy2 := hAU.cell hi2 (by simp)
  have hy3 := hAU.cell hi3 (by simp)
  have HAU := Lib.hid hAU
  clear hi0 hi1 hi2 hi3 h0 hAU
  generalize xs.getD p default = x at hy0 hy1 hy2 hy3 HN hbd
  obtain ⟨op, ia, ib, im⟩ := x
  simp only at hy0 hy1 hy2 hy3 HN
  go_enter Tryd.func28, Tryd.ntmps28
  go_wp2_with fail
  refine (pin_any (p : Int) (xs.length : Int) _).mono ?_
  rintro e w' ⟨rfl, rfl⟩
  rw [decide_eq_true (by omega : (0 : Int) ≤ (p : Int) ∧ (p : Int) < (xs.length : Int))]
  by_cases k1 : op = 33
  ·have HN1 := HN.out
   rw [if_pos k1] at HN1
   have HN1 := Lib.hid HN1
   subst k1
   go_wp2_with fail
   go_ret
   refine ⟨.slice none 0 0, rfl, ?_, HAU.out.alloc _⟩
   rw [HN1.out]
   exact OwnI.nil _ _ _
  ·have d1 : (op == 33) = false := by simpa using k1
   by_cases k2 : op = 22
   ·have HN1 := HN.out
    rw [if_neg k1, if_pos k2] at HN1
    have HN1 := Lib.hid HN1
    clear k1
    subst k2
    go_wp2_with fail
    go_ret
    refine ⟨.slice (some ⟨w.heap.size + 1 + 1, 0, none⟩) 1 1, rfl, ?_, (HAU.out.alloc _).alloc _⟩
    rw [HN1.out]
    have := OwnI.lit ((w.alloc (.cells #[.string s1, .string s2, .string s3, .slice (some ⟨b, o, none⟩) xs.length cap] 32)).alloc (.cells #[.int .i64 22, .int .i64 ia, .int .i64 ib, .int .i64 im] 29)) w.heap.size [ia] (by simp; omega) (by simp)
    simpa [icells] using this
   ·have d2 : (op == 22) = false := by simpa using k2
    by_cases k3 : op = 23
    ·have HN1 := HN.out
     rw [if_neg k1, if_neg k2, if_pos k3] at HN1
     have HN1 := Lib.hid HN1
     clear k1 k2 d1 d2
     subst k3
     go_wp2_with fail
     have hL := OwnI.lit ((w.alloc (.cells #[.string s1, .string s2, .string s3, .slice (some ⟨b, o, none⟩) xs.length cap] 32)).alloc (.cells #[.int .i64 23, .int .i64 ia, .int .i64 ib, .int .i64 im] 29)) w.heap.size [ia, (p : Int) + 1] (by simp; omega) (by simp)
     have hU := (HAU.out.alloc (.cells #[.int .i64 23, .int .i64 ia, .int .i64 ib, .int .i64 im] 29)).alloc (.cells (icells [ia, (p : Int) + 1]) 3)
     have ez : ((w.alloc (.cells #[.string s1, .string s2, .string s3, .slice (some ⟨b, o, none⟩) xs.length cap] 32)).alloc (.cells #[.int .i64 23, .int .i64 ia, .int .i64 ib, .int .i64 im] 29)).heap.size = w.heap.size + 1 + 1 := by simp
     rw [ez] at hL
     have HZ : Hid (w.heap.size + 1 + 1 < (((w.alloc (.cells #[.string s1, .string s2, .string s3, .slice (some ⟨b, o, none⟩) xs.length cap] 32)).alloc (.cells #[.int .i64 23, .int .i64 ia, .int .i64 ib, .int .i64 im] 29)).alloc (.cells (icells [ia, (p : Int) + 1]) 3)).heap.size) := by
      show _ < _
      simp
     clear hy0 hy1 hy2 hy3 ez HAU
     have ei : (icells [ia, (p : Int) + 1]) = #[.int .i64 ia, .int .i64 ((p : Int) + 1)] := rfl
     rw [ei] at hL hU HZ
     clear ei
     generalize ((w.alloc (.cells #[.string s1, .string s2, .string s3, .slice (some ⟨b, o, none⟩) xs.length cap] 32)).alloc (.cells #[.int .i64 23, .int .i64 ia, .int .i64 ib, .int .i64 im] 29)).alloc (.cells #[.int .i64 ia, .int .i64 ((p : Int) + 1)] 3) = w1 at hL hU HZ ⊢
     have HSO := Lib.hid (Tryd.slices_Sort_int (w.heap.size + 1 + 1) 0 2 [ia, (p : Int) + 1] w1 hL.holds HZ.out (by simp))
     rw [sort2] at HSO
     have hwb : w.heap.size ≤ w.heap.size + 1 + 1 := by omega
     refine HSO.out.mono ?_
     rintro e w' ⟨rfl, nq, os, rfl⟩
     have hO : ∀ ys : List Int, ys.length = 2 → OwnI (Sort.grow (Sort.putRow (Value.int .i64) (Sort.ahead w1 nq) (w.heap.size + 1 + 1) 0 ys.toArray) os) w.heap.size 3 (.slice (some ⟨w.heap.size + 1 + 1, 0, none⟩) 2 2) ys := fun ys hys => (hL.putRow (n := nq) (ys := ys) hys).upd (upd_grow _ os) (by simp)
     have hU2 : ∀ ys : List Int, Upd [] w (Sort.grow (Sort.putRow (Value.int .i64) (Sort.ahead w1 nq) (w.heap.size + 1 + 1) 0 ys.toArray) os) := fun ys => (hU.trans' (upd_putRow w1 (w.heap.size + 1 + 1) nq ys) (fun q hq hlt2 => by simp at hq; omega)).trans (upd_grow _ os)
     obtain ⟨x, y, hxy, hnx⟩ : ∃ x y, (if ia ≤ (p : Int) + 1 then [ia, (p : Int) + 1] else [(p : Int) + 1, ia]) = [x, y] ∧ nextL xs (p : Int) = (if x = y then [x] else [x, y]) := by
      rw [HN1.out]
      by_cases e : ia = (p : Int) + 1
      ·exact ⟨ia, (p : Int) + 1, if_pos (by omega), by rw [if_pos e, if_pos e, e]⟩
      ·by_cases e2 : ia ≤ (p : Int) + 1
       ·exact ⟨ia, (p : Int) + 1, if_pos e2, by rw [if_neg e, if_pos e2, if_neg e]⟩
       ·exact ⟨(p : Int) + 1, ia, if_neg e2, by rw [if_neg e, if_neg e2, if_neg (fun h => e h.symm)]⟩
     rw [hxy]
     have hO2 := hO [x, y] rfl
     have hU3 := hU2 [x, y]
     have HNX := Lib.hid hnx
     clear hO hU2 hxy hnx hL hU HSO HN1 HN
     generalize Sort.grow (Sort.putRow (Value.int .i64) (Sort.ahead w1 nq) (w.heap.size + 1 + 1) 0 [x, y].toArray) os = w2 at hO2 hU3 ⊢
     have HCO := Lib.hid (Tryd.slices_Compact_int (w.heap.size + 1 + 1) 0 2 [x, y] w2 hO2.holds (by simp) (by simp))
     rw [compact2] at HCO
     by_cases hxy : x = y
     ·rw [if_pos hxy] at HCO
      have HN2 := HNX.out
      rw [if_pos hxy] at HN2
      have HN3 := Lib.hid HN2
      clear HN2 hxy
      go_wp2_with fail
      refine HCO.out.mono ?_
      rintro e w' ⟨rfl, nq2, rfl⟩
      have HO3 := Lib.hid ((hO2.putRow (n := nq2) (ys := [x] ++ List.replicate ([x, y].length - [x].length) 0) (by simp)))
      have hU4 := hU3.trans' (upd_putRow w2 (w.heap.size + 1 + 1) nq2 ([x] ++ List.replicate ([x, y].length - [x].length) 0)) (fun q hq hlt2 => by simp at hq; omega)
      generalize Sort.putRow (Value.int .i64) (Sort.ahead w2 nq2) (w.heap.size + 1 + 1) 0 ([x] ++ List.replicate ([x, y].length - [x].length) 0).toArray = w3 at HO3 hU4 ⊢
      go_wp2_with fail
      go_ret
      refine ⟨.slice (some ⟨w.heap.size + 1 + 1, 0, none⟩) 1 2, rfl, ?_, hU4⟩
      rw [HN3.out]
      have h9 : OwnI w3 w.heap.size 3 (.slice (some ⟨w.heap.size + 1 + 1, 0, none⟩) ([x, 0] : List Int).length 2) [x, 0] := HO3.out
      exact h9.take (n := 1) (by simp) rfl
     ·rw [if_neg hxy] at HCO
      have HN2 := HNX.out
      rw [if_neg hxy] at HN2
      have HN3 := Lib.hid HN2
      clear HN2 hxy
      go_wp2_with fail
      refine HCO.out.mono ?_
      rintro e w' ⟨rfl, nq2, rfl⟩
      have HO3 := Lib.hid ((hO2.putRow (n := nq2) (ys := [x, y] ++ List.replicate ([x, y].length - [x, y].length) 0) (by simp)))
      have hU4 := hU3.trans' (upd_putRow w2 (w.heap.size + 1 + 1) nq2 ([x, y] ++ List.replicate ([x, y].length - [x, y].length) 0)) (fun q hq hlt2 => by simp at hq; omega)
      generalize Sort.putRow (Value.int .i64) (Sort.ahead w2 nq2) (w.heap.size + 1 + 1) 0 ([x, y] ++ List.replicate ([x, y].length - [x, y].length) 0).toArray = w3 at HO3 hU4 ⊢
      go_wp2_with fail
      go_ret
      refine ⟨.slice (some ⟨w.heap.size + 1 + 1, 0, none⟩) 2 2, rfl, ?_, hU4⟩
      rw [HN3.out]
      exact HO3.out
    ·have d3 : (op == 23) = false := by simpa using k3
     have HN2 := HN.out
     rw [if_neg k1, if_neg k2, if_neg k3] at HN2
     have HN3 := Lib.hid HN2
     clear HN2 k1 k2 k3
     go_wp2_with fail
     go_ret
     refine ⟨.slice (some ⟨w.heap.size + 1 + 1, 0, none⟩) 1 1, rfl, ?_, (HAU.out.alloc _).alloc _⟩
     rw [HN3.out]
     have := OwnI.lit ((w.alloc (.cells #[.string s1, .string s2, .string s3, .slice (some ⟨b, o, none⟩) xs.length cap] 32)).alloc (.cells #[.int .i64 op, .int .i64 ia, .int .i64 ib, .int .i64 im] 29)) w.heap.size [(p : Int) + 1] (by simp; omega) (by simp)
     simpa [icells] using this
 ·have HN : Hid (nextL xs pc = []) := by show _ = _; unfold nextL; rw [if_neg h0]
  have hd : decide (0 ≤ pc ∧ pc < (xs.length : Int)) = false := by rw [decide_eq_false_iff_not]; exact h0
  have HD := Lib.hid hd
  have HAU := Lib.hid hAU
  clear hd h0 hAU
  go_enter Tryd.func28, Tryd.ntmps28
  go_wp2_with fail
  refine (pin_any pc (xs.length : Int) _).mono ?_
  rintro e w' ⟨rfl, rfl⟩
  rw [HD.out]
  go_wp2_with fail
  go_ret
  refine ⟨_, rfl, ?_, HAU.out⟩
  rw [HN.out]
  exact OwnI.nil _ _ _

end Go.Proofs.YtojobkhidlfeoaaDoor
