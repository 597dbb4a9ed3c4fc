/- overdriveref3.Next: where an instruction goes on, as the document says. -/
import Derived.Test.YtojobkhidlfeoaaGreatDoorNext
import Derived.Test.YtojobkhidlfeoaaGreatDoorSorted2
namespace Go.Proofs.YtojobkhidlfeoaaGreatDoor
open Go.RowKit

theorem sortL_two (a b : Int) : sortL [b, a] = if a = b then [b] else if a ≤ b then [a, b] else [b, a] := by
 obtain ⟨h1, h2⟩ := sortL_spec [b, a]
 refine sorted_eq _ _ h1 ?_ (fun x => ?_)
 ·split
  ·simp
  ·split
   ·simp; omega
   ·simp; omega
 ·rw [h2]
  split
  ·rename_i e; simp [e]
  ·split
   ·simp; omega
   ·simp

set_option maxRecDepth 100000 in
set_option maxHeartbeats 4000000 in
theorem rnext_any (s1 s2 s3 : ByteArray) (kv : Value) (xs : List Ins) (pc : Int) (w : World) (h : CodeAt w kv xs) (hn : xs.length ≤ 100000) :
  Calls Tryz.prog 121 #[.agg #[.string s1, .string s2, .string s3, kv], .int .i64 pc] w fun e w' => ∃ u, e = .returned u ∧ OwnI w' w.heap.size 3 u (nextL xs pc) ∧ Upd [] w w' := by
 obtain ⟨a, cap, rfl, hl, hm, hx⟩ := h
 have HX := Lib.hid hx
 clear hx hm
 have hAU := (Upd.refl [] w).alloc (.cells #[.string s1, .string s2, .string s3, .slice a xs.length cap] 53)
 by_cases h0 : 0 ≤ pc ∧ pc < xs.length
 ·obtain ⟨p, rfl⟩ := Int.eq_ofNat_of_zero_le h0.1
  have hp : p < xs.length := by omega
  obtain ⟨b, o, rfl, hbd, hi⟩ := HX.out p hp
  obtain ⟨hi0, hi1, hi2, hi3⟩ := hi
  have HN : Hid (nextL xs (p : Int) = if (xs.getD p default).op = 33 then [] else if (xs.getD p default).op = 22 then [(xs.getD p default).a] else if (xs.getD p default).op = 23 then
   if (xs.getD p default).a = (p : Int) + 1 then [(p : Int) + 1] else if (xs.getD p default).a ≤ (p : Int) + 1 then [(xs.getD p default).a, (p : Int) + 1] else [(p : Int) + 1, (xs.getD p default).a]
   else [(p : Int) + 1]) := by
   show _ = _
   unfold nextL
   rw [if_pos h0, Int.toNat_natCast]
  have hy0 := hAU.cell hi0 (by simp)
  have hy1 := hAU.cell hi1 (by simp)
  have hy2 := hAU.cell hi2 (by simp)
  have hy3 := hAU.cell hi3 (by simp)
  have HAU := Lib.hid hAU
  clear hi0 hi1 hi2 hi3 h0 hAU
  generalize xs.getD p default = x at hy0 hy1 hy2 hy3 HN hbd
  obtain ⟨op, ia, ib, im⟩ := x
  simp only at hy0 hy1 hy2 hy3 HN
  have e1 : ¬ (p : Int) < 0 := by omega
  have d0 : decide ((p : Int) < 0) = false := decide_eq_false e1
  have d00 : decide ((p : Int) ≥ (xs.length : Int)) = false := decide_eq_false (by omega)
  have d01 : decide (xs.length ≤ p) = false := decide_eq_false (by omega)
  clear e1
  go_enter Tryz.func121, Tryz.ntmps121
  by_cases k1 : op = 33
  ·have HN1 := HN.out
   rw [if_pos k1] at HN1
   have HN1 := Lib.hid HN1
   subst k1
   go_wp2_with fail
   go_ret
   refine ⟨.slice none 0 0, rfl, ?_, HAU.out.alloc _⟩
   try rw [HN1.out]
   exact OwnI.nil _ _ _
  ·have d1 : (op == 33) = false := by simpa using k1
   by_cases k2 : op = 22
   ·have HN1 := HN.out
    rw [if_neg k1, if_pos k2] at HN1
    have HN1 := Lib.hid HN1
    clear k1
    subst k2
    go_wp2_with fail
    go_ret
    refine ⟨.slice (some ⟨w.heap.size + 1 + 1, 0, none⟩) 1 1, rfl, ?_, (HAU.out.alloc _).alloc _⟩
    try rw [HN1.out]
    have := OwnI.lit ((w.alloc (.cells #[.string s1, .string s2, .string s3, .slice (some ⟨b, o, none⟩) xs.length cap] 53)).alloc (.cells #[.int .i64 22, .int .i64 ia, .int .i64 ib, .int .i64 im] 46)) w.heap.size [ia] (by simp; omega) (by simp)
    simpa [icells] using this
   ·have d2 : (op == 22) = false := by simpa using k2
    by_cases k3 : op = 23
    ·have HN1 := HN.out
     rw [if_neg k1, if_neg k2, if_pos k3, ← sortL_two] at HN1
     have HN1 := Lib.hid HN1
     clear k1 k2 d1 d2
     subst k3
     have hlit := ints_lit ((w.alloc (.cells #[.string s1, .string s2, .string s3, .slice (some ⟨b, o, none⟩) xs.length cap] 53)).alloc (.cells #[.int .i64 23, .int .i64 ia, .int .i64 ib, .int .i64 im] 46)) [(p : Int) + 1, ia] 3 (cs := #[.int .i64 ((p : Int) + 1), .int .i64 ia]) rfl
     have HLI := Lib.hid hlit
     have hU := (HAU.out.alloc (.cells #[.int .i64 23, .int .i64 ia, .int .i64 ib, .int .i64 im] 46)).alloc (.cells #[.int .i64 ((p : Int) + 1), .int .i64 ia] 3)
     have HU := Lib.hid hU
     clear hlit hU
     go_wp2_with fail
     have hlit := HLI.out
     simp only [World.size_alloc] at hlit
     refine (sorted_any _ _ [(p : Int) + 1, ia] _ hlit (by simp)).mono ?_
     rintro e w2 ⟨u, rfl, hO, hU2⟩
     have hO2 := row_base (base' := w.heap.size) hO (by simp; omega)
     have HO2 := Lib.hid hO2
     have HU2 := Lib.hid (HU.out.trans hU2)
     clear hO hO2 hU2 hlit
     go_wp2_with fail
     go_ret
     refine ⟨_, rfl, ?_, HU2.out⟩
     try rw [HN1.out]
     exact HO2.out
    ·have d3 : (op == 23) = false := by simpa using k3
     have HN1 := HN.out
     rw [if_neg k1, if_neg k2, if_neg k3] at HN1
     have HN1 := Lib.hid HN1
     clear k1 k2 k3
     go_wp2_with fail
     go_ret
     refine ⟨.slice (some ⟨w.heap.size + 1 + 1, 0, none⟩) 1 1, rfl, ?_, (HAU.out.alloc _).alloc _⟩
     try rw [HN1.out]
     have := OwnI.lit ((w.alloc (.cells #[.string s1, .string s2, .string s3, .slice (some ⟨b, o, none⟩) xs.length cap] 53)).alloc (.cells #[.int .i64 op, .int .i64 ia, .int .i64 ib, .int .i64 im] 46)) w.heap.size [(p : Int) + 1] (by simp; omega) (by simp)
     simpa [icells] using this
 ·have HN : Hid (nextL xs pc = []) := by
   show _ = _
   unfold nextL
   rw [if_neg h0]
  have HAU := Lib.hid hAU
  have hm3 := cell_of (heap_alloc_new w (.cells #[.string s1, .string s2, .string s3, .slice a xs.length cap] 53)) 3
  clear hAU
  go_enter Tryz.func121, Tryz.ntmps121
  by_cases e1 : pc < 0
  ·have d0 : decide (pc < 0) = true := decide_eq_true e1
   clear h0 e1
   go_wp2_with fail
   go_ret
   refine ⟨.slice none 0 0, rfl, ?_, HAU.out⟩
   try rw [HN.out]
   exact OwnI.nil _ _ _
  ·have d0 : decide (pc < 0) = false := decide_eq_false e1
   have d00 : decide (pc ≥ (xs.length : Int)) = true := decide_eq_true (by omega)
   clear h0 e1
   go_wp2_with fail
   go_ret
   refine ⟨.slice none 0 0, rfl, ?_, HAU.out⟩
   try rw [HN.out]
   exact OwnI.nil _ _ _

end Go.Proofs.YtojobkhidlfeoaaGreatDoor
