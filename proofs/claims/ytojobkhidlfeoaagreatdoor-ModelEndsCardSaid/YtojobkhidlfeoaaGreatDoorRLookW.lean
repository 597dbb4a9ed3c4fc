/- overdriveref7.after: the stack behind an instruction, as the document has it. What overdriveref7.method makes and turns in memory; the method. -/
import Derived.Test.YtojobkhidlfeoaaGreatDoorREff
import Derived.Test.YtojobkhidlfeoaaGreatDoorStepL
import Derived.Deep.CutBlock
import Derived.Deep.DeepCutAuto
import Derived.Test.YtojobkhidlfeoaaGreatDoorLookA
import Derived.Test.YtojobkhidlfeoaaGreatDoorVerL5
import Derived.Test.YtojobkhidlfeoaaGreatDoorRNext
import Derived.Test.YtojobkhidlfeoaaGreatDoorFaultA
/-! overdriveref7.after: the stack behind an instruction, as the document has it. -/
/-! overdriveref7.after. -/
namespace Go.Proofs.YtojobkhidlfeoaaGreatDoor
open Go.RowKit

/-- What after answers. -/
def aftV (r : Except Int (List UInt8)) : Value := match r with
 | .ok t => .tuple #[.string (bs t), .int .i64 0]
 | .error c => .tuple #[.string (bs []), .int .i64 c]
theorem ret_aft {r : Except Int (List UInt8)} {q : Except Int (List UInt8)} (h : q = r) : Ending.returned (aftV r) = .returned (aftV q) := by rw [h]
theorem beh_dup2 {p : Prg} {m : Meth} {x : Ins} {s : List UInt8} (hx : x.op = 5) (h : 1 ≤ s.length) : behL p m x s = outL x (s ++ s.drop (s.length - 1)) := by
 unfold behL
 rw [if_pos hx, if_neg (by omega)]
 rfl
theorem beh_pop2 {p : Prg} {m : Meth} {x : Ins} {s : List UInt8} (hx : x.op = 6) (h : 1 ≤ s.length) (h2 : s.length ≤ 12) : behL p m x s = .ok (s.take (s.length - 1)) := by
 unfold behL
 rw [if_neg (by omega), if_pos hx, if_neg (by omega)]
 show (if 12 < (s.take (s.length - 1)).length ∨ x.op = 33 ∧ _ then (.error 108 : Except Int (List UInt8)) else .ok _) = _
 rw [if_neg]
 rw [List.length_take]
 omega
theorem beh_swap2 {p : Prg} {m : Meth} {x : Ins} {s : List UInt8} (hx : x.op = 7) (h : 2 ≤ s.length) : behL p m x s = outL x (s.take (s.length - 2) ++ s.drop (s.length - 1) ++ (s.take (s.length - 1)).drop (s.length - 2)) := by
 unfold behL
 rw [if_neg (by omega), if_neg (by omega), if_pos hx, if_neg (by omega)]
 rfl

set_option maxRecDepth 100000 in
set_option maxHeartbeats 4000000 in
theorem after_any (p : Prg) (hok : p.Ok) (k : Nat) (cv mv : Value) (x : Ins) (s : ByteArray) (w : World) (hc : ClassAt w cv p.cs) (hm : MethsAt w mv p.ms) (hk : k < p.ms.length) (hin : InsIn p.cs p.ms.length (p.ms.getD k default) x) (hs : s.size ≤ 12) :
  Calls Tryz.prog 120 #[.agg #[cv, mv], .int .i64 k, .agg #[.int .i64 x.op, .int .i64 x.a, .int .i64 x.b, .int .i64 x.n], .string s] w fun e w' => e = .returned (aftV (behL p (p.ms.getD k default) x s.toList)) ∧ Upd [] w w' := by
 have hop := hin.op
 have HES := Lib.hid (fun (a b : List UInt8) (he : effL p (p.ms.getD k default) x = some (a, b)) => eff_sizes hok he)
 have HEN := Lib.hid (fun (he : effL p (p.ms.getD k default) x = none) => eff_none hop he)
 have HEE := Lib.hid (fun w hc hm => reffect_any p k cv mv x w hc hm hk (by have := hok.many; omega) (by have := hok.few; omega) (fun c h => by have := hok.small c h; omega) (by have := hok.sizes k; omega) (by have := hok.sizes k; omega) hin)
 have hlen := size_list s
 have HLEN := Lib.hid hlen
 clear hlen hin
 generalize p.ms.getD k default = m at HES HEN HEE ⊢
 obtain ⟨op, a, b, n⟩ := x
 simp only at hop
 have hu1 := (Upd.refl [] w).alloc (.cells #[cv, mv] 25)
 have hp1 := heap_alloc_new w (.cells #[cv, mv] 25)
 have hu2 := (Upd.refl [] (w.alloc (.cells #[cv, mv] 25))).alloc (.cells #[.int .i64 op, .int .i64 a, .int .i64 b, .int .i64 n] 46)
 have hi2 := heap_alloc_new (w.alloc (.cells #[cv, mv] 25)) (.cells #[.int .i64 op, .int .i64 a, .int .i64 b, .int .i64 n] 46)
 rw [show (w.alloc (.cells #[cv, mv] 25)).heap.size = w.heap.size + 1 by simp] at hi2
 have hp2 := hu2.heap hp1 (by simp)
 have HU2 := Lib.hid (hu1.trans hu2)
 have HC2 := Lib.hid (hc.upd HU2.out)
 have HM2 := Lib.hid (hm.upd HU2.out)
 obtain ⟨cp, cc, hcv, _⟩ := hc
 obtain ⟨mp, mc, hmv, _⟩ := hm
 subst hcv; subst hmv
 clear hu1 hp1 hu2
 go_enter Tryz.func120, Tryz.ntmps120
 go_upto_block 0 with fail
 generalize (w.alloc (.cells #[.slice cp p.cs.length cc, .slice mp p.ms.length mc] 25)).alloc (.cells #[.int .i64 op, .int .i64 a, .int .i64 b, .int .i64 n] 46) = w2 at hp2 hi2 HU2 HC2 HM2 ⊢
 have p0 : w2.cell? ⟨w.heap.size, 0, none⟩ = some (.slice cp p.cs.length cc) := by rw [cell_of hp2]; rfl
 have p1 : w2.cell? ⟨w.heap.size, 1, none⟩ = some (.slice mp p.ms.length mc) := by rw [cell_of hp2]; rfl
 have i0 : w2.cell? ⟨w.heap.size + 1, 0, none⟩ = some (.int .i64 op) := by rw [cell_of hi2]; rfl
 have i1 : w2.cell? ⟨w.heap.size + 1, 1, none⟩ = some (.int .i64 a) := by rw [cell_of hi2]; rfl
 have i2 : w2.cell? ⟨w.heap.size + 1, 2, none⟩ = some (.int .i64 b) := by rw [cell_of hi2]; rfl
 have i3 : w2.cell? ⟨w.heap.size + 1, 3, none⟩ = some (.int .i64 n) := by rw [cell_of hi2]; rfl
 have HE2 := Lib.hid (HEE.out w2 HC2.out HM2.out)
 clear hp2 hi2 HEE HC2 HM2
 go_cut [3] (fun v wx => Hid (Upd [] w wx) ∧ wx.cell? ⟨w.heap.size + 1, 0, none⟩ = some (.int .i64 op) ∧ ∃ t : List UInt8, v = .string (bs t) ∧ t.length ≤ 200 ∧ Hid (behL p m ⟨op, a, b, n⟩ s.toList = outL ⟨op, a, b, n⟩ t))
 case first =>
  by_cases h5 : op = 5
  ·subst h5
   by_cases hl : s.size < 1
   ·have dl : decide ((s.size : Int) < 1) = true := decide_eq_true (by omega)
    have HR : Hid (behL p m ⟨5, a, b, n⟩ s.toList = .error 108) := beh_low (.inl ⟨.inl rfl, by rw [← HLEN.out]; exact hl⟩)
    clear hl
    go_wp2_with fail
    go_ret2
    exact ⟨ret_aft HR.out, HU2.out⟩
   ·have dl : decide ((s.size : Int) < 1) = false := decide_eq_false (by omega)
    have HB : Hid (behL p m ⟨5, a, b, n⟩ s.toList = outL ⟨5, a, b, n⟩ (s.toList ++ s.toList.drop (s.toList.length - 1))) := beh_dup2 rfl (by rw [← HLEN.out]; omega)
    have HT : Hid (s ++ s.extract (s.size - 1) s.size = bs (s.toList ++ s.toList.drop (s.toList.length - 1))) := by
     show _ = _
     apply bs_eq
     rw [list_append, list_extract, HLEN.out, List.take_of_length_le (by rw [List.length_drop]; omega)]
    have HTL : Hid ((s.toList ++ s.toList.drop (s.toList.length - 1)).length ≤ 200) := by show _ ≤ _; rw [List.length_append, List.length_drop]; have := HLEN.out; omega
    go_wp2_with fail
    go_meet
    exact ⟨HU2.out, i0, _, by rw [HT.out], HTL.out, HB.out⟩
  by_cases h6 : op = 6
  ·subst h6
   clear h5
   by_cases hl : s.size < 1
   ·have dl : decide ((s.size : Int) < 1) = true := decide_eq_true (by omega)
    have HR : Hid (behL p m ⟨6, a, b, n⟩ s.toList = .error 108) := beh_low (.inl ⟨.inr rfl, by rw [← HLEN.out]; exact hl⟩)
    clear hl
    go_wp2_with fail
    go_ret2
    exact ⟨ret_aft HR.out, HU2.out⟩
   ·have dl : decide ((s.size : Int) < 1) = false := decide_eq_false (by omega)
    have HB : Hid (behL p m ⟨6, a, b, n⟩ s.toList = .ok (s.toList.take (s.toList.length - 1))) := beh_pop2 rfl (by rw [← HLEN.out]; omega) (by rw [← HLEN.out]; exact hs)
    have HT : Hid (s.extract 0 (s.size - 1) = bs (s.toList.take (s.toList.length - 1))) := by
     show _ = _
     apply bs_eq
     rw [list_extract, HLEN.out]
     rfl
    go_wp2_with fail
    go_ret2
    refine ⟨?_, HU2.out⟩
    rw [HB.out]
    show _ = Ending.returned (.tuple #[.string (bs _), .int .i64 0])
    rw [← HT.out]
    rfl
  by_cases h7 : op = 7
  ·subst h7
   clear h5 h6
   by_cases hl : s.size < 2
   ·have dl : decide ((s.size : Int) < 2) = true := decide_eq_true (by omega)
    have HR : Hid (behL p m ⟨7, a, b, n⟩ s.toList = .error 108) := beh_low (.inr ⟨rfl, by rw [← HLEN.out]; exact hl⟩)
    clear hl
    go_wp2_with fail
    go_ret2
    exact ⟨ret_aft HR.out, HU2.out⟩
   ·have dl : decide ((s.size : Int) < 2) = false := decide_eq_false (by omega)
    have HB : Hid (behL p m ⟨7, a, b, n⟩ s.toList = outL ⟨7, a, b, n⟩ (s.toList.take (s.toList.length - 2) ++ s.toList.drop (s.toList.length - 1) ++ (s.toList.take (s.toList.length - 1)).drop (s.toList.length - 2))) := beh_swap2 rfl (by rw [← HLEN.out]; omega)
    have HT : Hid (s.extract 0 (s.size - 2) ++ s.extract (s.size - 1) s.size ++ s.extract (s.size - 2) (s.size - 1) = bs (s.toList.take (s.toList.length - 2) ++ s.toList.drop (s.toList.length - 1) ++ (s.toList.take (s.toList.length - 1)).drop (s.toList.length - 2))) := by
     show _ = _
     apply bs_eq
     rw [list_append, list_append, list_extract, list_extract, list_extract, HLEN.out, List.drop_take, List.drop_zero, Nat.sub_zero, List.take_of_length_le (l := s.toList.drop (s.toList.length - 1)) (by rw [List.length_drop]; omega)]
    have HTL : Hid ((s.toList.take (s.toList.length - 2) ++ s.toList.drop (s.toList.length - 1) ++ (s.toList.take (s.toList.length - 1)).drop (s.toList.length - 2)).length ≤ 200) := by
     show _ ≤ _
     rw [List.length_append, List.length_append, List.length_drop, List.length_drop, List.length_take, List.length_take]
     have := HLEN.out
     omega
    go_wp2_with fail
    go_quiet (fail)
    go_wp2_with fail
    go_meet
    exact ⟨HU2.out.drewN _, i0, _, by rw [HT.out], HTL.out, HB.out⟩
  ·have g5 : (op == 5) = false := by rw [beq_eq_false_iff_ne]; exact h5
   have g6 : (op == 6) = false := by rw [beq_eq_false_iff_ne]; exact h6
   have g7 : (op == 7) = false := by rw [beq_eq_false_iff_ne]; exact h7
   obtain ⟨pop, push, he⟩ : ∃ pop push, effL p m ⟨op, a, b, n⟩ = some (pop, push) := by
    cases he : effL p m ⟨op, a, b, n⟩ with
    | none =>
     rcases HEN.out he with h | h | h
     ·exact absurd h h5
     ·exact absurd h h6
     ·exact absurd h h7
    | some r => exact ⟨r.1, r.2, rfl⟩
   have hz := HES.out pop push he
   have HBT : Hid (behL p m ⟨op, a, b, n⟩ s.toList = tailL ⟨op, a, b, n⟩ s.toList pop push) := beh_some h5 h6 h7 he
   rw [he] at HE2
   rw [show effV (some (pop, push)) = .tuple #[.string (bs pop), .string (bs push), .bool true] from rfl] at HE2
   have HE3 := Lib.hid HE2.out
   have HPS := Lib.hid (bs_size pop)
   have HPL := Lib.hid (bs_list pop)
   have HQL := Lib.hid (bs_list push)
   have HQS := Lib.hid (bs_size push)
   clear h5 h6 h7 he HES HEN HE2
   generalize bs pop = pv at HE3 HPS HPL
   generalize bs push = qv at HE3 HQL HQS
   go_wp2_with fail
   refine HE3.out.mono ?_
   rintro e w3 ⟨rfl, hu3⟩
   have HU3 := Lib.hid (HU2.out.trans hu3)
   have i0 := hu3.cell i0 (by simp)
   clear hu3 HE3
   have hq : qv.size ≤ 12 := by rw [HQS.out]; exact hz.2
   by_cases c1 : s.size < pv.size
   ·have d1 : decide ((s.size : Int) < (pv.size : Int)) = true := decide_eq_true (by omega)
    have HR : Hid (behL p m ⟨op, a, b, n⟩ s.toList = .error 108) := by
     show _ = _
     rw [HBT.out]
     unfold tailL
     rw [if_pos (by rw [← HLEN.out, ← HPS.out]; exact c1)]
    go_wp2_with fail
    go_ret2
    exact ⟨ret_aft HR.out, HU3.out⟩
   ·have d1 : decide ((s.size : Int) < (pv.size : Int)) = false := decide_eq_false (by omega)
    have hex : (s.extract (s.size - pv.size) s.size).toList = s.toList.drop (s.toList.length - pop.length) := by
     rw [list_extract, HLEN.out, HPS.out, List.take_of_length_le (by rw [List.length_drop]; omega)]
    by_cases c2 : s.toList.drop (s.toList.length - pop.length) = pop
    ·have d2 : ((s.extract (s.size - pv.size) s.size).toList == pv.toList) = true := by rw [beq_iff_eq, hex, HPL.out]; exact c2
     have HB : Hid (behL p m ⟨op, a, b, n⟩ s.toList = outL ⟨op, a, b, n⟩ (s.toList.take (s.toList.length - pop.length) ++ push)) := by
      show _ = _
      rw [HBT.out]
      unfold tailL
      rw [if_neg (by rw [← HLEN.out, ← HPS.out]; exact c1), if_neg (by simpa using c2)]
     have HT : Hid (s.extract 0 (s.size - pv.size) ++ qv = bs (s.toList.take (s.toList.length - pop.length) ++ push)) := by
      show _ = _
      apply bs_eq
      rw [list_append, list_extract, HLEN.out, HPS.out, HQL.out]
      rfl
     have HTL : Hid ((s.toList.take (s.toList.length - pop.length) ++ push).length ≤ 200) := by
      show _ ≤ _
      rw [List.length_append, List.length_take]
      have := HLEN.out
      omega
     clear hex c2
     go_wp2_with fail
     go_meet
     exact ⟨HU3.out, i0, _, by rw [HT.out], HTL.out, HB.out⟩
    ·have d2 : ((s.extract (s.size - pv.size) s.size).toList == pv.toList) = false := by
      rw [beq_eq_false_iff_ne, hex, HPL.out]; exact c2
     have HR : Hid (behL p m ⟨op, a, b, n⟩ s.toList = .error 102) := by
      show _ = _
      rw [HBT.out]
      unfold tailL
      rw [if_neg (by rw [← HLEN.out, ← HPS.out]; exact c1), if_pos c2]
     clear hex c2
     go_wp2_with fail
     go_ret2
     exact ⟨ret_aft HR.out, HU3.out⟩
 case rest =>
  obtain ⟨HUx, i0, t, rfl, ht200, HB⟩ := hcut
  have HTS := Lib.hid (bs_size t)
  have HTL := Lib.hid (bs_list t)
  generalize htv : bs t = tv at HTS HTL
  have HTV := Lib.hid htv
  have hts : tv.size ≤ 200 := by rw [HTS.out]; exact ht200
  clear htv
  by_cases c3 : 12 < t.length
  ·have d3 : decide ((12 : Int) < (tv.size : Int)) = true := decide_eq_true (by rw [HTS.out]; omega)
   have HR : Hid (behL p m ⟨op, a, b, n⟩ s.toList = .error 108) := by show _ = _; rw [HB.out]; unfold outL; rw [if_pos (.inl c3)]
   go_wp2_with fail
   go_ret2
   exact ⟨ret_aft HR.out, HUx.out⟩
  ·have d3 : decide ((12 : Int) < (tv.size : Int)) = false := decide_eq_false (by rw [HTS.out]; omega)
   by_cases c4 : op = 33
   ·by_cases c5 : t = []
    ·have d4 : tv.toList.isEmpty = true := by rw [HTL.out, c5]; rfl
     have HR : Hid (behL p m ⟨op, a, b, n⟩ s.toList = .ok t) := by show _ = _; rw [HB.out]; unfold outL; rw [if_neg (by simp [c5])]
     clear c5
     subst c4
     go_wp2_with fail
     go_ret2
     refine ⟨?_, HUx.out⟩
     rw [HR.out]
     show _ = Ending.returned (.tuple #[.string (bs t), .int .i64 0])
     rw [HTV.out]
     rfl
    ·have d4 : tv.toList.isEmpty = false := by rw [HTL.out]; cases t with | nil => exact absurd rfl c5 | cons _ _ => rfl
     have HR : Hid (behL p m ⟨op, a, b, n⟩ s.toList = .error 108) := by show _ = _; rw [HB.out]; unfold outL; rw [if_pos (.inr ⟨c4, c5⟩)]
     clear c5
     subst c4
     go_wp2_with fail
     go_ret2
     exact ⟨ret_aft HR.out, HUx.out⟩
   ·have d4 : (op == 33) = false := by rw [beq_eq_false_iff_ne]; exact c4
    have HR : Hid (behL p m ⟨op, a, b, n⟩ s.toList = .ok t) := by show _ = _; rw [HB.out]; unfold outL; rw [if_neg (by simp [c4, c3])]
    clear c4
    go_wp2_with fail
    go_ret2
    refine ⟨?_, HUx.out⟩
    rw [HR.out]
    show _ = Ending.returned (.tuple #[.string (bs t), .int .i64 0])
    rw [HTV.out]
    rfl
end Go.Proofs.YtojobkhidlfeoaaGreatDoor

/-! What overdriveref7.method makes and turns in memory; the method. -/
/-! overdriveref7.method. -/
namespace Go.Proofs.YtojobkhidlfeoaaGreatDoor
open Go.RowKit

/-- What the document's look answers. -/
def rlookV (w' : World) (B n k : Nat) (v : Value) (r : Except (Int × Nat) Lk) : Prop := ∃ gs gb mo c sl, v = .tuple #[.agg #[.slice (some ⟨gb, 0, none⟩) n n, .slice (some ⟨gs, 0, none⟩) n n, .int .i64 mo], .agg #[.int .i64 c, sl]] ∧ (match r with
 | .ok s => c = 0 ∧ sl = .slice none 0 0 ∧ mo = s.most ∧ LkAt w' gs gb s ∧ B ≤ gs ∧ B ≤ gb ∧ gs < w'.heap.size ∧ gb < w'.heap.size
 | .error (e, pc) => c = e ∧ ∃ fb, IntsV w' sl fb [(k : Int), (pc : Int)])

/-- What the region that asks after reads. -/
abbrev RNine (wr w : World) (xb gs j bk o : Nat) (cv mv : Value) (m : Meth) (kc : Nat) (x : Ins) (st : List UInt8) : Prop :=
 wr.cell? ⟨w.heap.size, 0, none⟩ = some cv ∧ wr.cell? ⟨w.heap.size, 1, none⟩ = some mv ∧ wr.cell? ⟨w.heap.size + 1 + 1 + 1, 3, none⟩ = some (.slice (some ⟨bk, o, none⟩) m.code.length kc) ∧ wr.cell? ⟨xb, 1, none⟩ = some (.slice (some ⟨gs, 0, none⟩) m.code.length m.code.length) ∧ wr.cell? ⟨gs, j, none⟩ = some (.string (bs st)) ∧ wr.cell? ⟨bk, o + j * 4, none⟩ = some (.int .i64 x.op) ∧ wr.cell? ⟨bk, o + j * 4 + 1, none⟩ = some (.int .i64 x.a) ∧ wr.cell? ⟨bk, o + j * 4 + 2, none⟩ = some (.int .i64 x.b) ∧ wr.cell? ⟨bk, o + j * 4 + 3, none⟩ = some (.int .i64 x.n)
theorem RNine.upd {wr w' w : World} {xb gs j bk o : Nat} {cv mv : Value} {m : Meth} {kc : Nat} {x : Ins} {st : List UInt8} (h : RNine wr w xb gs j bk o cv mv m kc x st) (hu : Upd [] wr w') : RNine w' w xb gs j bk o cv mv m kc x st := by
 obtain ⟨h0, h1, h2, h3, h4, h5, h6, h7, h8⟩ := h
 exact ⟨hu.cell h0 (by simp), hu.cell h1 (by simp), hu.cell h2 (by simp), hu.cell h3 (by simp), hu.cell h4 (by simp), hu.cell h5 (by simp), hu.cell h6 (by simp), hu.cell h7 (by simp), hu.cell h8 (by simp)⟩

/-- The rows and the box that look makes. -/
def RLookPre (n : Nat) (w wx : World) (v : Value) : Prop := ∃ xb gs gb, v = .pointer (some ⟨xb, 0, none⟩) ∧
 wx.heap[xb]? = some (.cells #[.slice (some ⟨gb, 0, none⟩) n n, .slice (some ⟨gs, 0, none⟩) n n, .int .i64 0] 188) ∧
 wx.heap[gs]? = some (.cells (scells (List.replicate n [])) 9) ∧ wx.heap[gb]? = some (.cells (bcells (List.replicate n false)) 4) ∧
 (w.heap.size ≤ xb ∧ w.heap.size ≤ gs ∧ w.heap.size ≤ gb ∧ xb ≠ gs ∧ xb ≠ gb ∧ gs ≠ gb) ∧ Upd [] w wx

/-- In the midst of look: the boxes, the rows. -/
structure RLookIn (w wr : World) (cv mv kv : Value) (m : Meth) (n xb gs gb db : Nat) (s : Lk) : Prop where
 hpb : wr.heap[w.heap.size]? = some (.cells #[cv, mv] 25)
 hrb : wr.heap[w.heap.size + 1]? = some (.cells #[.slice none 0 0, .slice none 0 0, .int .i64 0] 188)
 hfb : wr.heap[w.heap.size + 1 + 1]? = some (.cells #[.int .i64 0, .slice none 0 0] 110)
 hmb : wr.heap[w.heap.size + 1 + 1 + 1]? = some (.cells #[.string m.params, .string m.locals, .string m.ret, kv] 53)
 hxb : wr.heap[xb]? = some (.cells #[.slice (some ⟨gb, 0, none⟩) n n, .slice (some ⟨gs, 0, none⟩) n n, .int .i64 s.most] 188)
 hgs : wr.heap[gs]? = some (.cells (scells s.stk) 9)
 hgb : wr.heap[gb]? = some (.cells (bcells s.seen) 4)
 hdb : wr.heap[db]? = some (.cells (bcells s.done) 4)
 upd : Upd [] w wr
 ge : w.heap.size + 4 ≤ xb ∧ w.heap.size + 4 ≤ gs ∧ w.heap.size + 4 ≤ gb ∧ w.heap.size + 4 ≤ db
 ne : xb ≠ gs ∧ xb ≠ gb ∧ xb ≠ db ∧ gs ≠ gb ∧ gs ≠ db ∧ gb ≠ db
theorem RLookIn.same {w wr w' : World} {cv mv kv : Value} {m : Meth} {n xb gs gb db : Nat} {s : Lk} (h : RLookIn w wr cv mv kv m n xb gs gb db s) (hu : Upd [] wr w') : RLookIn w w' cv mv kv m n xb gs gb db s :=
 ⟨hu.heap h.hpb (by simp), hu.heap h.hrb (by simp), hu.heap h.hfb (by simp), hu.heap h.hmb (by simp), hu.heap h.hxb (by simp), hu.heap h.hgs (by simp), hu.heap h.hgb (by simp), hu.heap h.hdb (by simp), h.upd.trans hu, h.ge, h.ne⟩
/-- A place is marked as done. -/
theorem RLookIn.done_ {w wr : World} {cv mv kv : Value} {m : Meth} {n xb gs gb db : Nat} {s : Lk} (h : RLookIn w wr cv mv kv m n xb gs gb db s) (pc : Nat) :
  RLookIn w (wr.setCell ⟨db, pc, none⟩ (.bool true)) cv mv kv m n xb gs gb db { s with done := s.done.set pc true } := by
 have hu : Upd [db] wr (wr.setCell ⟨db, pc, none⟩ (.bool true)) := (Upd.refl _ _).setCell (.inl (by simp)) _
 have hge := h.ge
 have hne := h.ne
 refine ⟨hu.heap h.hpb (by simp; omega), hu.heap h.hrb (by simp; omega), hu.heap h.hfb (by simp; omega), hu.heap h.hmb (by simp; omega), hu.heap h.hxb (by simp; omega), hu.heap h.hgs (by simp; omega), hu.heap h.hgb (by simp; omega), ?_, h.upd.trans' hu (fun i hi hl => by simp at hi; omega), h.ge, h.ne⟩
 rw [heap_setCell h.hdb, bcells_set]
/-- The height is noted. -/
theorem RLookIn.most_ {w wr : World} {cv mv kv : Value} {m : Meth} {n xb gs gb db : Nat} {s : Lk} (h : RLookIn w wr cv mv kv m n xb gs gb db s) (k : Nat) (v : Int) (hv : v = (k : Int)) :
  RLookIn w (wr.setCell ⟨xb, 2, none⟩ (.int .i64 v)) cv mv kv m n xb gs gb db { s with most := k } := by
 subst hv
 have hu : Upd [xb] wr (wr.setCell ⟨xb, 2, none⟩ (.int .i64 (k : Int))) := (Upd.refl _ _).setCell (.inl (by simp)) _
 have hge := h.ge
 have hne := h.ne
 refine ⟨hu.heap h.hpb (by simp; omega), hu.heap h.hrb (by simp; omega), hu.heap h.hfb (by simp; omega), hu.heap h.hmb (by simp; omega), ?_, hu.heap h.hgs (by simp; omega), hu.heap h.hgb (by simp; omega), hu.heap h.hdb (by simp; omega), h.upd.trans' hu (fun i hi hl => by simp at hi; omega), h.ge, h.ne⟩
 rw [heap_setCell h.hxb]
 simp
/-- A place is seen. -/
theorem RLookIn.see {w wr : World} {cv mv kv : Value} {m : Meth} {n xb gs gb db : Nat} {s : Lk} (h : RLookIn w wr cv mv kv m n xb gs gb db s) (i : Nat) :
  RLookIn w (wr.setCell ⟨gb, i, none⟩ (.bool true)) cv mv kv m n xb gs gb db { s with seen := s.seen.set i true } := by
 have hu : Upd [gb] wr (wr.setCell ⟨gb, i, none⟩ (.bool true)) := (Upd.refl _ _).setCell (.inl (by simp)) _
 have hge := h.ge
 have hne := h.ne
 refine ⟨hu.heap h.hpb (by simp; omega), hu.heap h.hrb (by simp; omega), hu.heap h.hfb (by simp; omega), hu.heap h.hmb (by simp; omega), hu.heap h.hxb (by simp; omega), hu.heap h.hgs (by simp; omega), ?_, hu.heap h.hdb (by simp; omega), h.upd.trans' hu (fun i hi hl => by simp at hi; omega), h.ge, h.ne⟩
 rw [heap_setCell h.hgb, bcells_set]
theorem RLookIn.put {w wr : World} {cv mv kv : Value} {m : Meth} {n xb gs gb db : Nat} {s : Lk} (h : RLookIn w wr cv mv kv m n xb gs gb db s) (i : Nat) (t : List UInt8) :
  RLookIn w (wr.setCell ⟨gs, i, none⟩ (.string (bs t))) cv mv kv m n xb gs gb db { s with stk := s.stk.set i t } := by
 have hu : Upd [gs] wr (wr.setCell ⟨gs, i, none⟩ (.string (bs t))) := (Upd.refl _ _).setCell (.inl (by simp)) _
 have hge := h.ge
 have hne := h.ne
 refine ⟨hu.heap h.hpb (by simp; omega), hu.heap h.hrb (by simp; omega), hu.heap h.hfb (by simp; omega), hu.heap h.hmb (by simp; omega), hu.heap h.hxb (by simp; omega), ?_, hu.heap h.hgb (by simp; omega), hu.heap h.hdb (by simp; omega), h.upd.trans' hu (fun i hi hl => by simp at hi; omega), h.ge, h.ne⟩
 rw [heap_setCell h.hgs, scells_set]


set_option maxRecDepth 100000 in
set_option maxHeartbeats 8000000 in
theorem rmethod_any (p : Prg) (hok : p.Ok) (k : Nat) (cv mv : Value) (w : World) (hc : ClassAt w cv p.cs) (hm : MethsAt w mv p.ms) (hk : k < p.ms.length) :
  Calls Tryz.prog 103 #[.agg #[cv, mv], .int .i64 k] w fun e w' => ∃ v, e = .returned v ∧ rlookV w' w.heap.size (p.ms.getD k default).code.length k v (lookM p (p.ms.getD k default)) ∧ Upd [] w w' := by
 have HAFT := Lib.hid (fun (q : Nat) (hq : q < (p.ms.getD k default).code.length) (s : ByteArray) w hc hm (hs : s.size ≤ 12) => after_any p hok k cv mv ((p.ms.getD k default).code.getD q default) s w hc hm hk (ins_in (hok.ins k hk q hq)) hs)
 obtain ⟨hcd1, hcd2⟩ := hok.code1 k hk
 have HJ : Hid (∀ q, q < (p.ms.getD k default).code.length → ∀ x ∈ nextL (p.ms.getD k default).code q, 0 ≤ x) := fun q hq => next_ge hok k hk q hq
 have HC := Lib.hid hc
 have HM := Lib.hid hm
 obtain ⟨cp, cc, hcv, _⟩ := hc
 obtain ⟨mp, mc, hmv, hml, hmm, hmx⟩ := hm
 obtain ⟨bm, om, rfl, hsz, m0, m1, m2, kv, m3, hcode⟩ := hmx k hk
 have HCODE := Lib.hid hcode
 have hmany := hok.many
 subst hcv; subst hmv
 unfold maxLen at hmm
 clear hmx
 obtain ⟨m, hmd⟩ : ∃ m, m = p.ms.getD k default := ⟨_, rfl⟩
 rw [← hmd] at HAFT HJ hcd1 hcd2 HCODE m0 m1 m2 ⊢
 obtain ⟨kp, kc, hkv, hkl, hkm, hkx⟩ := hcode
 rw [← hmd] at hkv hkl hkx
 have HMD := Lib.hid hmd
 clear hmd
 subst hkv
 unfold maxLen at hkm
 have HKX := Lib.hid hkx
 clear hkx hsz
 have hA := (((Upd.refl [] w).alloc (.cells #[.slice cp p.cs.length cc, .slice (some ⟨bm, om, none⟩) p.ms.length mc] 25)).alloc (.cells #[.slice none 0 0, .slice none 0 0, .int .i64 0] 188)).alloc (.cells #[.int .i64 0, .slice none 0 0] 110)
 have hp0 := ((((Upd.refl [] _).alloc (.cells #[.slice none 0 0, .slice none 0 0, .int .i64 0] 188)).alloc (.cells #[.int .i64 0, .slice none 0 0] 110))).heap (heap_alloc_new w (.cells #[.slice cp p.cs.length cc, .slice (some ⟨bm, om, none⟩) p.ms.length mc] 25)) (by simp)
 have hr0 := ((Upd.refl [] _).alloc (.cells #[.int .i64 0, .slice none 0 0] 110)).heap (heap_alloc_new (w.alloc (.cells #[.slice cp p.cs.length cc, .slice (some ⟨bm, om, none⟩) p.ms.length mc] 25)) (.cells #[.slice none 0 0, .slice none 0 0, .int .i64 0] 188)) (by simp)
 have hf0 := heap_alloc_new ((w.alloc (.cells #[.slice cp p.cs.length cc, .slice (some ⟨bm, om, none⟩) p.ms.length mc] 25)).alloc (.cells #[.slice none 0 0, .slice none 0 0, .int .i64 0] 188)) (.cells #[.int .i64 0, .slice none 0 0] 110)
 have s1 : (w.alloc (.cells #[.slice cp p.cs.length cc, .slice (some ⟨bm, om, none⟩) p.ms.length mc] 25)).heap.size = w.heap.size + 1 := by simp
 have s2 : ((w.alloc (.cells #[.slice cp p.cs.length cc, .slice (some ⟨bm, om, none⟩) p.ms.length mc] 25)).alloc (.cells #[.slice none 0 0, .slice none 0 0, .int .i64 0] 188)).heap.size = w.heap.size + 1 + 1 := by simp
 rw [s1] at hr0
 rw [s2] at hf0
 clear s1 s2
 go_enter Tryz.func103, Tryz.ntmps103
 go_upto_region 1 with fail
 generalize hw0 : ((w.alloc (.cells #[.slice cp p.cs.length cc, .slice (some ⟨bm, om, none⟩) p.ms.length mc] 25)).alloc (.cells #[.slice none 0 0, .slice none 0 0, .int .i64 0] 188)).alloc (.cells #[.int .i64 0, .slice none 0 0] 110) = w0 at hA hp0 hr0 hf0 ⊢
 have hz0 : w0.heap.size = w.heap.size + 1 + 1 + 1 := by rw [← hw0]; simp
 clear hw0
 have m0 := hA.cell m0 (by simp)
 have m1 := hA.cell m1 (by simp)
 have m2 := hA.cell m2 (by simp)
 have m3 := hA.cell m3 (by simp)
 have p1 : w0.cell? ⟨w.heap.size, 1, none⟩ = some (.slice (some ⟨bm, om, none⟩) p.ms.length mc) := by rw [cell_of hp0]; rfl
 have hb1 := heap_alloc_new w0 (.cells #[.string m.params, .string m.locals, .string m.ret, .slice kp m.code.length kc] 53)
 have hu1 := (Upd.refl [] w0).alloc (.cells #[.string m.params, .string m.locals, .string m.ret, .slice kp m.code.length kc] 53)
 rw [hz0] at hb1
 have HP1 := Lib.hid (hu1.heap hp0 (by simp))
 have HR1 := Lib.hid (hu1.heap hr0 (by simp))
 have HF1 := Lib.hid (hu1.heap hf0 (by simp))
 have HU1 := Lib.hid (hA.trans hu1)
 have hz1 : (w0.alloc (.cells #[.string m.params, .string m.locals, .string m.ret, .slice kp m.code.length kc] 53)).heap.size = w.heap.size + 4 := by simp [hz0]
 have HZ0 := Lib.hid hz0
 have HZ1 := Lib.hid hz1
 clear hz1 hu1 hp0 hr0 hf0 hA hz0
 go_upto_region 2 with fail
 rw [HZ0.out]
 generalize w0.alloc (.cells #[.string m.params, .string m.locals, .string m.ret, .slice kp m.code.length kc] 53) = w1 at hb1 HP1 HR1 HF1 HU1 HZ1 ⊢
 clear m0 m1 m2 m3 p1 HZ0
 have q3 : w1.cell? ⟨w.heap.size + 1 + 1 + 1, 3, none⟩ = some (.slice kp m.code.length kc) := by rw [cell_of hb1]; rfl
 have q3a : ∀ o, (w1.alloc o).cell? ⟨w.heap.size + 1 + 1 + 1, 3, none⟩ = some (.slice kp m.code.length kc) := fun o => ((Upd.refl [] w1).alloc o).cell q3 (by simp)
 have q3b : ∀ o o', ((w1.alloc o).alloc o').cell? ⟨w.heap.size + 1 + 1 + 1, 3, none⟩ = some (.slice kp m.code.length kc) := fun o o' => (((Upd.refl [] w1).alloc o).alloc o').cell q3 (by simp)
 have HM1 := Lib.hid hb1
 clear hb1
 have hmk1 := fun W => make_strs W m.code.length (by omega)
 have hmk2 := fun W => make_bools W m.code.length (by omega)
 go_cut [7] from 20 to 28 (fun v9 wx => Hid (RLookPre m.code.length w1 wx v9))
 case first =>
  go_region
  all_goals
   go_wp2_with fail
   go_meet
   refine Hid.mk ?_
   first
    | exact ⟨_, _, _, rfl, (alloc3 w1 _ _ _).2.2, (alloc3 w1 _ _ _).1, (alloc3 w1 _ _ _).2.1, by omega, upd3 w1 _ _ _⟩
    | exact ⟨_, _, _, rfl, (alloc3 w1 _ _ _).2.2, (alloc3 w1 _ _ _).2.1, (alloc3 w1 _ _ _).1, by omega, upd3 w1 _ _ _⟩
    | exact ⟨_, _, _, rfl, (alloc3 w1 _ _ _).2.1, (alloc3 w1 _ _ _).1, (alloc3 w1 _ _ _).2.2, by omega, upd3 w1 _ _ _⟩
    | exact ⟨_, _, _, rfl, (alloc3 w1 _ _ _).2.1, (alloc3 w1 _ _ _).2.2, (alloc3 w1 _ _ _).1, by omega, upd3 w1 _ _ _⟩
    | exact ⟨_, _, _, rfl, (alloc3 w1 _ _ _).1, (alloc3 w1 _ _ _).2.1, (alloc3 w1 _ _ _).2.2, by omega, upd3 w1 _ _ _⟩
    | exact ⟨_, _, _, rfl, (alloc3 w1 _ _ _).1, (alloc3 w1 _ _ _).2.2, (alloc3 w1 _ _ _).2.1, by omega, upd3 w1 _ _ _⟩
 case rest =>
  clear q3a q3b
  obtain ⟨xb, gs, gb, rfl, hx, hgs, hgb, ⟨ne1, ne2, ne3, ne4, ne5, ne6⟩, hu⟩ := hcut.out
  clear hcut
  obtain ⟨w2, rfl⟩ : ∃ w2 : World, w2 = wc := ⟨_, rfl⟩
  have l1 := lt_of_heap hx
  have l2 := lt_of_heap hgs
  have l3 := lt_of_heap hgb
  have z1 := HZ1.out
  have ha := (Upd.refl [] w2).alloc (.cells (bcells (List.replicate m.code.length false)) 4)
  have q3 := hu.cell q3 (by simp)
  have hl0 : RLookIn w (w2.alloc (.cells (bcells (List.replicate m.code.length false)) 4)) (.slice cp p.cs.length cc) (.slice (some ⟨bm, om, none⟩) p.ms.length mc) (.slice kp m.code.length kc) m m.code.length xb gs gb w2.heap.size ⟨List.replicate m.code.length false, List.replicate m.code.length [], List.replicate m.code.length false, 0⟩ :=
   ⟨(hu.trans ha).heap HP1.out (by simp), (hu.trans ha).heap HR1.out (by simp), (hu.trans ha).heap HF1.out (by simp), (hu.trans ha).heap HM1.out (by simp), ha.heap hx (by simp), ha.heap hgs (by simp), ha.heap hgb (by simp), heap_alloc_new w2 _, HU1.out.trans (hu.trans ha), by omega, by omega⟩
  clear hx hgs hgb ha HP1 HM1 HR1 HF1
  go_upto_region 4 with fail
  generalize w2.alloc (.cells (bcells (List.replicate m.code.length false)) 4) = w3 at hl0 ⊢
  generalize w2.heap.size = db at hl0 ⊢
  have x1 : w3.cell? ⟨xb, 0, none⟩ = some (.slice (some ⟨gb, 0, none⟩) m.code.length m.code.length) := by rw [cell_of hl0.hxb]; rfl
  have b0 : w3.cell? ⟨gb, 0, none⟩ = some (.bool false) := by rw [cell_of hl0.hgb, bcells_get _ _ (by simp; omega), List.getD_eq_getElem?_getD, List.getElem?_replicate]; split <;> rfl
  have f0 := froz_of hl0.hgb 0
  have HL0 := Lib.hid (hl0.see 0)
  clear q3 l1 l2 l3 z1 ne1 ne2 ne3 ne4 ne5 ne6 hu hl0 HU1 HZ1
  go_wp2_with fail
  go_loopw [9] (fun _ wr => ∃ (i : Nat) (s : Lk), Hid (Lk.Mid p m i s) ∧ Hid (RLookIn w wr (.slice cp p.cs.length cc) (.slice (some ⟨bm, om, none⟩) p.ms.length mc) (.slice kp m.code.length kc) m m.code.length xb gs gb db s)) (fun _ wr => openN wr db)
  case atStart => exact ⟨0, _, Lk.Mid.start p m, HL0.out⟩
  case round =>
   clear HL0 x1 b0 f0
   obtain ⟨i, s, HI, HL⟩ := hrel
   obtain ⟨wo, rfl⟩ : ∃ wo : World, wo = wr := ⟨_, rfl⟩
   have hok2 := HI.out.ok
   have KS := Lib.hid hok2.seen
   have KD := Lib.hid hok2.done
   have KT := Lib.hid hok2.stk
   have KL := Lib.hid hok2.low
   have KM := Lib.hid hok2.most
   clear hok2
   have m3 : wo.cell? ⟨w.heap.size + 1 + 1 + 1, 3, none⟩ = some (.slice kp m.code.length kc) := by rw [cell_of HL.out.hmb]; rfl
   have x0 : wo.cell? ⟨xb, 0, none⟩ = some (.slice (some ⟨gb, 0, none⟩) m.code.length m.code.length) := by rw [cell_of HL.out.hxb]; rfl
   have x1 : wo.cell? ⟨xb, 1, none⟩ = some (.slice (some ⟨gs, 0, none⟩) m.code.length m.code.length) := by rw [cell_of HL.out.hxb]; rfl
   have x2 : wo.cell? ⟨xb, 2, none⟩ = some (.int .i64 s.most) := by rw [cell_of HL.out.hxb]; rfl
   go_wp2_with fail
   go_loopw [9] (fun v wr => ∃ j : Nat, j ≤ m.code.length ∧ v = .int .i64 j ∧ wo = wr ∧ Hid (∀ q, q < j → (s.seen.getD q false && !s.done.getD q false) = false)) (fun v _ => m.code.length - (intOf v).toNat)
   case atStart => exact ⟨0, by omega, rfl, rfl, (fun q hq => by omega : ∀ q, q < 0 → _)⟩
   case round =>
    obtain ⟨j, hj, rfl, rfl, HJJ⟩ := hrel
    by_cases hlt : j < m.code.length
    ·have sj : wo.cell? ⟨gb, j, none⟩ = some (.bool (s.seen.getD j false)) := by rw [cell_of HL.out.hgb, bcells_get _ _ (by rw [KS.out]; exact hlt)]
     have dj : wo.cell? ⟨db, j, none⟩ = some (.bool (s.done.getD j false)) := by rw [cell_of HL.out.hdb, bcells_get _ _ (by rw [KD.out]; exact hlt)]
     cases hdj : s.done.getD j false with
     | true =>
      rw [hdj] at dj
      have HDJ := Lib.hid hdj
      clear hdj
      go_wp2_with fail
      go_roundw
      case rel =>
       refine ⟨j + 1, by omega, by go_num, trivial, (fun q hq => ?_ : ∀ q, q < j + 1 → _)⟩
       by_cases e : q = j
       ·subst e; rw [HDJ.out, Bool.not_true, Bool.and_false]
       ·exact HJJ.out q (by omega)
      case measure => simp [intOf]; omega
     | false =>
      rw [hdj] at dj
      cases hsj : s.seen.getD j false with
      | false =>
       rw [hsj] at sj
       have HSJ := Lib.hid hsj
       clear hsj hdj
       go_wp2_with fail
       go_roundw
       case rel =>
        refine ⟨j + 1, by omega, by go_num, trivial, (fun q hq => ?_ : ∀ q, q < j + 1 → _)⟩
        by_cases e : q = j
        ·subst e; rw [HSJ.out]; rfl
        ·exact HJJ.out q (by omega)
       case measure => simp [intOf]; omega
      | true =>
       rw [hsj] at sj
       have HP : Hid (s.pick m.code.length = j) := pick_at hlt hsj hdj HJJ.out
       clear hdj hsj
       have dn0 : ((j : Int) == (m.code.length : Int)) = false := by rw [beq_eq_false_iff_ne]; omega
       have fd := froz_of HL.out.hdb j
       go_upto_region 11 with fail
       have HD1 := Lib.hid (HL.out.done_ j)
       clear m3 x0 x1 x2 sj dj fd dn0
       generalize wo.setCell ⟨db, j, none⟩ (.bool true) = w2 at HD1 ⊢
       generalize hst : s.stk.getD j [] = st
       have HST := Lib.hid hst
       have hsl : st.length ≤ 12 := by rw [← hst]; exact KL.out j
       clear hst
       obtain ⟨bk, ok, rfl, _, hxi⟩ := HKX.out j hlt
       have HSS := Lib.hid (HAFT.out j hlt (bs st) w2.drew)
       rw [bs_list] at HSS
       generalize hxx : m.code.getD j default = x at HSS hxi
       have HXX := Lib.hid hxx
       clear hxx
       have hu2 := HD1.out.upd
       have HF0 : RNine w2 w xb gs j bk ok (.slice cp p.cs.length cc) (.slice (some ⟨bm, om, none⟩) p.ms.length mc) m kc x st := ⟨by rw [cell_of HD1.out.hpb]; rfl, by rw [cell_of HD1.out.hpb]; rfl, by rw [cell_of HD1.out.hmb]; rfl, by rw [cell_of HD1.out.hxb]; rfl, by
        rw [cell_of HD1.out.hgs, scells_get _ _ (by show j < s.stk.length; rw [KT.out]; exact hlt)]
        show some (Value.string (bs (s.stk.getD j []))) = _
        rw [HST.out], hu2.cell hxi.1 (by simp), hu2.cell hxi.2.1 (by simp), hu2.cell hxi.2.2.1 (by simp), hu2.cell hxi.2.2.2 (by simp)⟩
       have HF1 := HF0.upd (Upd.refl [] w2).drew
       have HU2 := Lib.hid hu2
       have HSS2 := Lib.hid (HSS.out (HC.out.upd hu2.drew) (HM.out.upd hu2.drew) (by rw [bs_size]; omega))
       clear hxi HSS hu2
       cases hbe : behL p m x st with
       | error c =>
        have hcc := beh_code hbe
        rw [hbe] at HSS2
        have hc0 : (c == 0) = false := by rw [beq_eq_false_iff_ne]; omega
        unfold aftV at HSS2
        simp only at HSS2
        have HBE := Lib.hid hbe
        clear hbe
        go_region_held3 (fun w' => RNine w' w xb gs j bk ok (.slice cp p.cs.length cc) (.slice (some ⟨bm, om, none⟩) p.ms.length mc) m kc x st)
         (first | exact hk0 | exact HF1 | exact HF0)
         ((go_at_call 120; refine HSS2.out.mono ?_; rintro e w3 ⟨rfl, hu3⟩; have hk0 := HF1.upd hu3))
        have HD3 := Lib.hid (HD1.out.same ((Upd.refl [] w2).drew.trans hu3))
        have HER : Hid (lookM p m = .error (c, j)) := by
         refine HI.out.bad (by rw [HP.out]; exact hlt) ?_
         unfold Lk.step
         simp only
         rw [HP.out, HXX.out, HST.out, HBE.out]
        clear hk0 hu3 HF0 HF1 hcc
        go_upto_region 13 with fail
        have HDd := Lib.hid (HD3.out.same (Upd.refl [] w3).drew)
        have a0 : w3.cell? ⟨xb, 0, none⟩ = some (.slice (some ⟨gb, 0, none⟩) m.code.length m.code.length) := by rw [cell_of HD3.out.hxb]; rfl
        have a1 : w3.cell? ⟨xb, 1, none⟩ = some (.slice (some ⟨gs, 0, none⟩) m.code.length m.code.length) := by rw [cell_of HD3.out.hxb]; rfl
        have a2 : w3.cell? ⟨xb, 2, none⟩ = some (.int .i64 ({ s with done := s.done.set j true }).most) := by rw [cell_of HD3.out.hxb]; rfl
        have b0 : w3.drew.cell? ⟨xb, 0, none⟩ = some (.slice (some ⟨gb, 0, none⟩) m.code.length m.code.length) := a0
        have b1 : w3.drew.cell? ⟨xb, 1, none⟩ = some (.slice (some ⟨gs, 0, none⟩) m.code.length m.code.length) := a1
        have b2 : w3.drew.cell? ⟨xb, 2, none⟩ = some (.int .i64 ({ s with done := s.done.set j true }).most) := a2
        have hxge := HD3.out.ge
        have hx1 : ¬ (w.heap.size + 1 = xb) := by omega
        have hx2 : ¬ (w.heap.size + 1 + 1 = xb) := by omega
        have hx3 : ¬ (xb = w.heap.size + 1) := by omega
        have hx4 : ¬ (xb = w.heap.size + 1 + 1) := by omega
        have hwl := lt_of_heap HD3.out.hxb
        have HFT := Lib.hid (there_fault c (k : Int) (j : Int) w3.drew)
        go_region_with
         ((go_at_call 117; refine HFT.out.mono ?_; rintro e wz ⟨fb, rfl, hint, hu4, hfb⟩; have HD4 := Lib.hid (HDd.out.same hu4); have e0 := hu4.cell b0 (by simp); have e1 := hu4.cell b1 (by simp); have e2 := hu4.cell b2 (by simp); have r0 : wz.cell? ⟨w.heap.size + 1, 0, none⟩ = some (.slice none 0 0) := (by rw [cell_of HD4.out.hrb]; rfl); have r1 : wz.cell? ⟨w.heap.size + 1, 1, none⟩ = some (.slice none 0 0) := (by rw [cell_of HD4.out.hrb]; rfl); have r2 : wz.cell? ⟨w.heap.size + 1, 2, none⟩ = some (.int .i64 0) := (by rw [cell_of HD4.out.hrb]; rfl); have f0 : wz.cell? ⟨w.heap.size + 1 + 1, 0, none⟩ = some (.int .i64 0) := (by rw [cell_of HD4.out.hfb]; rfl); have f1 : wz.cell? ⟨w.heap.size + 1 + 1, 1, none⟩ = some (.slice none 0 0) := (by rw [cell_of HD4.out.hfb]; rfl); have y0 := froz_of HD4.out.hrb 0; have y1 := froz_of HD4.out.hrb 1; have y2 := froz_of HD4.out.hrb 2; have y3 := froz_of HD4.out.hfb 0; have y4 := froz_of HD4.out.hfb 1; have HINT := Lib.hid hint; clear hint hu4))
        all_goals
         have k1 := heap_setCell HD4.out.hrb 0 (.slice (some ⟨gb, 0, none⟩) m.code.length m.code.length)
         have k2 := heap_setCell k1 1 (.slice (some ⟨gs, 0, none⟩) m.code.length m.code.length)
         have k3 := heap_setCell k2 2 (.int .i64 ({ s with done := s.done.set j true }).most)
         have u3 : Upd [w.heap.size + 1] wz (((wz.setCell ⟨w.heap.size + 1, 0, none⟩ (.slice (some ⟨gb, 0, none⟩) m.code.length m.code.length)).setCell ⟨w.heap.size + 1, 1, none⟩ (.slice (some ⟨gs, 0, none⟩) m.code.length m.code.length)).setCell ⟨w.heap.size + 1, 2, none⟩ (.int .i64 ({ s with done := s.done.set j true }).most)) :=
          (((Upd.refl _ wz).setCell (.inl (by simp)) _).setCell (.inl (by simp)) _).setCell (.inl (by simp)) _
         have l0 := u3.heap HD4.out.hfb (by simp)
         have l1 := heap_setCell l0 0 (.int .i64 c)
         have l2 := heap_setCell l1 1 (.slice (some ⟨fb, 0, none⟩) 2 2)
         have u5 := ((Upd.refl [w.heap.size + 1 + 1] (((wz.setCell ⟨w.heap.size + 1, 0, none⟩ (.slice (some ⟨gb, 0, none⟩) m.code.length m.code.length)).setCell ⟨w.heap.size + 1, 1, none⟩ (.slice (some ⟨gs, 0, none⟩) m.code.length m.code.length)).setCell ⟨w.heap.size + 1, 2, none⟩ (.int .i64 ({ s with done := s.done.set j true }).most))).setCell (p := ⟨w.heap.size + 1 + 1, 0, none⟩) (.inl (by simp)) (.int .i64 c)).setCell (p := ⟨w.heap.size + 1 + 1, 1, none⟩) (.inl (by simp)) (.slice (some ⟨fb, 0, none⟩) 2 2)
         have k5 := u5.heap k3 (by simp)
         have d0 := cell_of k5 0
         have d1 := cell_of k5 1
         have d2 := cell_of k5 2
         have d3 := cell_of l2 0
         have d4 := cell_of l2 1
         simp at d0 d1 d2 d3 d4
         have hfb2 : w.heap.size + 4 ≤ fb := by
          have h9 : w3.heap.size ≤ fb := hfb
          omega
         have HINT5 := Lib.hid ((HINT.out.upd u3 (.inr (by simp; omega))).upd u5 (.inr (by simp; omega)))
         have HU5 : Hid (Upd [] w _) := (HD4.out.upd.trans' u3 (fun i hi hl => by simp at hi; omega)).trans' u5 (fun i hi hl => by simp at hi; omega)
         clear k1 k2 k3 l0 l1 l2 u3 u5 k5 r0 r1 r2 f0 f1 y0 y1 y2 y3 y4 e0 e1 e2
         go_wp2_with fail
         refine bodyPost_ret (v := .tuple #[.agg #[.slice (some ⟨gb, 0, none⟩) m.code.length m.code.length, .slice (some ⟨gs, 0, none⟩) m.code.length m.code.length, .int .i64 ({ s with done := s.done.set j true }).most], .agg #[.int .i64 c, .slice (some ⟨fb, 0, none⟩) 2 2]]) (by simp [results, Tryz.results103, go_sem, d0, d1, d2, d3, d4]) rfl ?_
         refine ⟨_, rfl, ⟨gs, gb, _, _, _, rfl, ?_⟩, by first | exact HU5.out | exact HU5.out.drew⟩
         rw [HER.out]
         exact ⟨rfl, fb, by first | exact HINT5.out | exact HINT5.out.upd (Upd.refl [] _).drew (.inr (by simp))⟩
       | ok t =>
        have htl := behL_low hbe
        rw [hbe] at HSS2
        unfold aftV at HSS2
        simp only at HSS2
        have HBE := Lib.hid hbe
        clear hbe
        go_region_held3 (fun w' => RNine w' w xb gs j bk ok (.slice cp p.cs.length cc) (.slice (some ⟨bm, om, none⟩) p.ms.length mc) m kc x st)
         (first | exact hk0 | exact HF1 | exact HF0)
         ((go_at_call 120; refine HSS2.out.mono ?_; rintro e w3 ⟨rfl, hu3⟩; have hk0 := HF1.upd hu3))
        have HD3 := Lib.hid (HD1.out.same ((Upd.refl [] w2).drew.trans hu3))
        have z1 := bs_size st
        have z2 := bs_size t
        have x2 : w3.cell? ⟨xb, 2, none⟩ = some (.int .i64 s.most) := by rw [cell_of HD3.out.hxb]; rfl
        have x1 : w3.cell? ⟨xb, 1, none⟩ = some (.slice (some ⟨gs, 0, none⟩) m.code.length m.code.length) := by rw [cell_of HD3.out.hxb]; rfl
        have s0 : w3.cell? ⟨gs, j, none⟩ = some (.string (bs st)) := hk0.2.2.2.2.1
        have f2 := froz_of HD3.out.hxb 2
        clear hk0 hu3 HF0 HF1
        go_upto_region 14 with fail
        go_region
        rw [max_form, Nat.max_comm t.length st.length]
        have HD4 : Hid (RLookIn w (w3.setCell ⟨xb, 2, none⟩ (.int .i64 ((max s.most (max st.length t.length) : Nat) : Int))).drew (.slice cp p.cs.length cc) (.slice (some ⟨bm, om, none⟩) p.ms.length mc) (.slice (some ⟨bk, ok, none⟩) m.code.length kc) m m.code.length xb gs gb db (s.take j t)) := by
         have h := (HD3.out.most_ (max s.most (max st.length t.length)) _ rfl).same (Upd.refl [] _).drew
         have e : ({ s with done := s.done.set j true, most := max s.most (max st.length t.length) } : Lk) = s.take j t := by unfold Lk.take; rw [HST.out]
         exact e ▸ h
        have HOK1 : Hid ((s.take j t).Ok m.code.length) := HI.out.ok.take j htl
        generalize (w3.setCell ⟨xb, 2, none⟩ (.int .i64 ((max s.most (max st.length t.length) : Nat) : Int))).drew = w4 at HD4 ⊢
        clear x2 x1 s0 f2 z1 z2 HD3 HD1 HU2 HSS2
        have m0 : w4.cell? ⟨w.heap.size + 1 + 1 + 1, 0, none⟩ = some (.string m.params) := by rw [cell_of HD4.out.hmb]; rfl
        have m1 : w4.cell? ⟨w.heap.size + 1 + 1 + 1, 1, none⟩ = some (.string m.locals) := by rw [cell_of HD4.out.hmb]; rfl
        have m2 : w4.cell? ⟨w.heap.size + 1 + 1 + 1, 2, none⟩ = some (.string m.ret) := by rw [cell_of HD4.out.hmb]; rfl
        have m3 : w4.cell? ⟨w.heap.size + 1 + 1 + 1, 3, none⟩ = some (.slice (some ⟨bk, ok, none⟩) m.code.length kc) := by rw [cell_of HD4.out.hmb]; rfl
        have HNX := Lib.hid (rnext_any m.params m.locals m.ret (.slice (some ⟨bk, ok, none⟩) m.code.length kc) m.code (j : Int) w4 (HCODE.out.upd HD4.out.upd) (by omega))
        go_wp2_with fail
        refine HNX.out.mono ?_
        rintro e w5 ⟨u, rfl, hO, hu5⟩
        obtain ⟨up, uc, rfl⟩ := hO.shape
        have HJN := Lib.hid (HJ.out j hlt)
        have HD5 := Lib.hid (HD4.out.same hu5)
        have l4 := lt_of_heap HD4.out.hgs
        have l5 := lt_of_heap HD4.out.hgb
        have HSTE : Hid (∀ r, (nextL m.code j).foldlM (fun s k => Lk.to m.code.length s k t) (s.take j t) = r → s.step p m = match r with
          | .error e => .error (e, j)
          | .ok s' => .ok s') := by
         intro r hr
         unfold Lk.take at hr
         unfold Lk.step
         simp only
         rw [HP.out, HXX.out, HST.out, HBE.out]
         rw [HST.out] at hr
         simp only
         rw [hr]
         cases r <;> rfl
        have HOU := Lib.hid (fun q hq => hO.nth q hq)
        clear m0 m1 m2 m3 hu5 hO HNX HD4
        have hnl3 := nextL_len m.code (j : Int)
        generalize nextL m.code (j : Int) = nl at HJN HSTE HOU hnl3 ⊢
        go_wp2_with fail
        go_loopw [13] (fun v wr => ∃ (q : Nat) (sq : Lk), q ≤ nl.length ∧ v = .int .i64 q ∧ Hid ((nl.take q).foldlM (fun s k => Lk.to m.code.length s k t) (s.take j t) = .ok sq) ∧ Hid (RLookIn w wr (.slice cp p.cs.length cc) (.slice (some ⟨bm, om, none⟩) p.ms.length mc) (.slice (some ⟨bk, ok, none⟩) m.code.length kc) m m.code.length xb gs gb db sq) ∧ Hid (Upd [gs, gb] w5 wr)) (fun v _ => nl.length - (intOf v).toNat)
        case atStart => exact ⟨0, _, by omega, rfl, rfl, HD5.out, Upd.refl _ _⟩
        case round =>
         obtain ⟨q, sq, hq, rfl, HFQ, HLQ, HUQ⟩ := hrel
         obtain ⟨w6, rfl⟩ : ∃ w6 : World, w6 = wr := ⟨_, rfl⟩
         by_cases hql : q < nl.length
         ·obtain ⟨g, c, he, hg1, hg2, hcell⟩ := HOU.out q hql
          injection he with he1 he2 he3
          subst he1
          clear he2 he3
          have hx := HUQ.out.cell hcell (by simp; omega)
          have hk0 : 0 ≤ nl.getD q 0 := HJN.out _ (by rw [List.getD_eq_getElem?_getD, List.getElem?_eq_getElem hql]; exact List.getElem_mem hql)
          obtain ⟨kn, hkn⟩ := Int.eq_ofNat_of_zero_le hk0
          rw [hkn] at hx
          have HKN := Lib.hid hkn
          clear hcell hk0 hkn
          have m3 : w6.cell? ⟨w.heap.size + 1 + 1 + 1, 3, none⟩ = some (.slice (some ⟨bk, ok, none⟩) m.code.length kc) := by rw [cell_of HLQ.out.hmb]; rfl
          have x0 : w6.cell? ⟨xb, 0, none⟩ = some (.slice (some ⟨gb, 0, none⟩) m.code.length m.code.length) := by rw [cell_of HLQ.out.hxb]; rfl
          have x1 : w6.cell? ⟨xb, 1, none⟩ = some (.slice (some ⟨gs, 0, none⟩) m.code.length m.code.length) := by rw [cell_of HLQ.out.hxb]; rfl
          by_cases hkl2 : m.code.length ≤ kn
          ·have dk : decide ((m.code.length : Int) ≤ (kn : Int)) = true := decide_eq_true (by omega)
           have HER : Hid (lookM p m = .error (110, j)) := HI.out.bad (by rw [HP.out]; exact hlt) (HSTE.out _ (fold_bad HFQ.out hql (by
            unfold Lk.to
            rw [HKN.out, if_pos (by omega)])))
           clear x0 x1
           go_upto_region 21 with fail
           have HDd := Lib.hid (HLQ.out.same (Upd.refl [] w6).drew)
           have a0 : w6.cell? ⟨xb, 0, none⟩ = some (.slice (some ⟨gb, 0, none⟩) m.code.length m.code.length) := by rw [cell_of HLQ.out.hxb]; rfl
           have a1 : w6.cell? ⟨xb, 1, none⟩ = some (.slice (some ⟨gs, 0, none⟩) m.code.length m.code.length) := by rw [cell_of HLQ.out.hxb]; rfl
           have a2 : w6.cell? ⟨xb, 2, none⟩ = some (.int .i64 (sq).most) := by rw [cell_of HLQ.out.hxb]; rfl
           have b0 : w6.drew.cell? ⟨xb, 0, none⟩ = some (.slice (some ⟨gb, 0, none⟩) m.code.length m.code.length) := a0
           have b1 : w6.drew.cell? ⟨xb, 1, none⟩ = some (.slice (some ⟨gs, 0, none⟩) m.code.length m.code.length) := a1
           have b2 : w6.drew.cell? ⟨xb, 2, none⟩ = some (.int .i64 (sq).most) := a2
           have hxge := HLQ.out.ge
           have hx1 : ¬ (w.heap.size + 1 = xb) := by omega
           have hx2 : ¬ (w.heap.size + 1 + 1 = xb) := by omega
           have hx3 : ¬ (xb = w.heap.size + 1) := by omega
           have hx4 : ¬ (xb = w.heap.size + 1 + 1) := by omega
           have hwl := lt_of_heap HLQ.out.hxb
           have HFT := Lib.hid (there_fault 110 (k : Int) (j : Int) w6.drew)
           go_region_with
            ((go_at_call 117; refine HFT.out.mono ?_; rintro e wz ⟨fb, rfl, hint, hu4, hfb⟩; have HD4 := Lib.hid (HDd.out.same hu4); have e0 := hu4.cell b0 (by simp); have e1 := hu4.cell b1 (by simp); have e2 := hu4.cell b2 (by simp); have r0 : wz.cell? ⟨w.heap.size + 1, 0, none⟩ = some (.slice none 0 0) := (by rw [cell_of HD4.out.hrb]; rfl); have r1 : wz.cell? ⟨w.heap.size + 1, 1, none⟩ = some (.slice none 0 0) := (by rw [cell_of HD4.out.hrb]; rfl); have r2 : wz.cell? ⟨w.heap.size + 1, 2, none⟩ = some (.int .i64 0) := (by rw [cell_of HD4.out.hrb]; rfl); have f0 : wz.cell? ⟨w.heap.size + 1 + 1, 0, none⟩ = some (.int .i64 0) := (by rw [cell_of HD4.out.hfb]; rfl); have f1 : wz.cell? ⟨w.heap.size + 1 + 1, 1, none⟩ = some (.slice none 0 0) := (by rw [cell_of HD4.out.hfb]; rfl); have y0 := froz_of HD4.out.hrb 0; have y1 := froz_of HD4.out.hrb 1; have y2 := froz_of HD4.out.hrb 2; have y3 := froz_of HD4.out.hfb 0; have y4 := froz_of HD4.out.hfb 1; have HINT := Lib.hid hint; clear hint hu4))
           all_goals
            have k1 := heap_setCell HD4.out.hrb 0 (.slice (some ⟨gb, 0, none⟩) m.code.length m.code.length)
            have k2 := heap_setCell k1 1 (.slice (some ⟨gs, 0, none⟩) m.code.length m.code.length)
            have k3 := heap_setCell k2 2 (.int .i64 (sq).most)
            have u3 : Upd [w.heap.size + 1] wz (((wz.setCell ⟨w.heap.size + 1, 0, none⟩ (.slice (some ⟨gb, 0, none⟩) m.code.length m.code.length)).setCell ⟨w.heap.size + 1, 1, none⟩ (.slice (some ⟨gs, 0, none⟩) m.code.length m.code.length)).setCell ⟨w.heap.size + 1, 2, none⟩ (.int .i64 (sq).most)) :=
             (((Upd.refl _ wz).setCell (.inl (by simp)) _).setCell (.inl (by simp)) _).setCell (.inl (by simp)) _
            have l0 := u3.heap HD4.out.hfb (by simp)
            have l1 := heap_setCell l0 0 (.int .i64 110)
            have l2 := heap_setCell l1 1 (.slice (some ⟨fb, 0, none⟩) 2 2)
            have u5 := ((Upd.refl [w.heap.size + 1 + 1] (((wz.setCell ⟨w.heap.size + 1, 0, none⟩ (.slice (some ⟨gb, 0, none⟩) m.code.length m.code.length)).setCell ⟨w.heap.size + 1, 1, none⟩ (.slice (some ⟨gs, 0, none⟩) m.code.length m.code.length)).setCell ⟨w.heap.size + 1, 2, none⟩ (.int .i64 (sq).most))).setCell (p := ⟨w.heap.size + 1 + 1, 0, none⟩) (.inl (by simp)) (.int .i64 110)).setCell (p := ⟨w.heap.size + 1 + 1, 1, none⟩) (.inl (by simp)) (.slice (some ⟨fb, 0, none⟩) 2 2)
            have k5 := u5.heap k3 (by simp)
            have d0 := cell_of k5 0
            have d1 := cell_of k5 1
            have d2 := cell_of k5 2
            have d3 := cell_of l2 0
            have d4 := cell_of l2 1
            simp at d0 d1 d2 d3 d4
            have hfb2 : w.heap.size + 4 ≤ fb := by
             have h9 : w6.heap.size ≤ fb := hfb
             omega
            have HINT5 := Lib.hid ((HINT.out.upd u3 (.inr (by simp; omega))).upd u5 (.inr (by simp; omega)))
            have HU5 : Hid (Upd [] w _) := (HD4.out.upd.trans' u3 (fun i hi hl => by simp at hi; omega)).trans' u5 (fun i hi hl => by simp at hi; omega)
            clear k1 k2 k3 l0 l1 l2 u3 u5 k5 r0 r1 r2 f0 f1 y0 y1 y2 y3 y4 e0 e1 e2
            go_wp2_with fail
            refine bodyPost_ret (v := .tuple #[.agg #[.slice (some ⟨gb, 0, none⟩) m.code.length m.code.length, .slice (some ⟨gs, 0, none⟩) m.code.length m.code.length, .int .i64 (sq).most], .agg #[.int .i64 110, .slice (some ⟨fb, 0, none⟩) 2 2]]) (by simp [results, Tryz.results103, go_sem, d0, d1, d2, d3, d4]) rfl ?_
            refine ⟨_, rfl, ⟨gs, gb, _, _, _, rfl, ?_⟩, by first | exact HU5.out | exact HU5.out.drew⟩
            rw [HER.out]
            exact ⟨rfl, fb, by first | exact HINT5.out | exact HINT5.out.upd (Upd.refl [] _).drew (.inr (by simp))⟩
          ·have dk : decide ((m.code.length : Int) ≤ (kn : Int)) = false := decide_eq_false (by omega)
           have hkl3 : kn < m.code.length := by omega
           have HOKQ := Lib.hid (Lk.Ok.tos htl HOK1.out HFQ.out)
           have sk : w6.cell? ⟨gb, kn, none⟩ = some (.bool (sq.seen.getD kn false)) := by rw [cell_of HLQ.out.hgb, bcells_get _ _ (by rw [HOKQ.out.seen]; exact hkl3)]
           have tk : w6.cell? ⟨gs, kn, none⟩ = some (.string (bs (sq.stk.getD kn []))) := by rw [cell_of HLQ.out.hgs, scells_get _ _ (by rw [HOKQ.out.stk]; exact hkl3)]
           cases hse : sq.seen.getD kn false with
           | false =>
            rw [hse] at sk
            have HTO : Hid (Lk.to m.code.length sq (nl.getD q 0) t = .ok { sq with seen := sq.seen.set kn true, stk := sq.stk.set kn t }) := by
             show _ = _
             unfold Lk.to
             rw [HKN.out, if_neg (by omega), Int.toNat_natCast, if_pos hse]
            clear hse
            have f0 := froz_of HLQ.out.hgb kn
            have HLs := Lib.hid (HLQ.out.see kn)
            go_upto_region 24 with fail
            have hu7 : Upd [gs, gb] w5 (w6.setCell ⟨gb, kn, none⟩ (.bool true)) := HUQ.out.setCell (.inl (by simp)) _
            have HU7 := Lib.hid hu7
            clear hu7 x0 x1 sk tk f0 m3
            generalize w6.setCell ⟨gb, kn, none⟩ (.bool true) = w7 at HLs HU7 ⊢
            have x1 : w7.cell? ⟨xb, 1, none⟩ = some (.slice (some ⟨gs, 0, none⟩) m.code.length m.code.length) := by rw [cell_of HLs.out.hxb]; rfl
            have tk : w7.cell? ⟨gs, kn, none⟩ = some (.string (bs (sq.stk.getD kn []))) := by rw [cell_of HLs.out.hgs, scells_get _ _ (by show kn < sq.stk.length; rw [HOKQ.out.stk]; exact hkl3)]
            have f1 := froz_of HLs.out.hgs kn
            have HLp := Lib.hid (HLs.out.put kn t)
            have HU8 := Lib.hid (HU7.out.setCell (p := ⟨gs, kn, none⟩) (.inl (by simp)) (.string (bs t)))
            go_wp2_with fail
            go_roundw
            case rel => exact ⟨q + 1, _, by omega, by go_num, fold_next HFQ.out hql HTO.out, HLp.out, HU8.out⟩
            case measure => simp [intOf]; omega
           | true =>
            rw [hse] at sk
            by_cases hme : sq.stk.getD kn [] = t
            ·have HTO : Hid (Lk.to m.code.length sq (nl.getD q 0) t = .ok sq) := by
              show _ = _
              unfold Lk.to
              rw [HKN.out, if_neg (by omega), Int.toNat_natCast, if_neg (by rw [hse]; simp), if_neg (by simpa using hme)]
             rw [hme] at tk
             clear hse hme
             go_wp2_with fail
             go_roundw
             case rel => exact ⟨q + 1, sq, by omega, by go_num, fold_next HFQ.out hql HTO.out, HLQ.out, HUQ.out⟩
             case measure => simp [intOf]; omega
            ·have hne1 : ((bs (sq.stk.getD kn [])).toList == (bs t).toList) = false := by rw [bs_list, bs_list, beq_eq_false_iff_ne]; exact hme
             have HME := Lib.hid hme
             have HSE := Lib.hid hse
             clear hse hme
             generalize hav : bs (sq.stk.getD kn []) = av at tk hne1
             clear hav
             generalize htv : bs t = tv at hne1 ⊢
             clear htv
             have HER : Hid (lookM p m = .error (109, j)) := HI.out.bad (by rw [HP.out]; exact hlt) (HSTE.out _ (fold_bad HFQ.out hql (by
              unfold Lk.to
              rw [HKN.out, if_neg (by omega), Int.toNat_natCast, if_neg (by rw [HSE.out]; simp), if_pos HME.out])))
             go_upto_region 26 with fail
             clear x0 x1
             have HDd := Lib.hid (HLQ.out.same (Upd.refl [] w6).drew)
             have a0 : w6.cell? ⟨xb, 0, none⟩ = some (.slice (some ⟨gb, 0, none⟩) m.code.length m.code.length) := by rw [cell_of HLQ.out.hxb]; rfl
             have a1 : w6.cell? ⟨xb, 1, none⟩ = some (.slice (some ⟨gs, 0, none⟩) m.code.length m.code.length) := by rw [cell_of HLQ.out.hxb]; rfl
             have a2 : w6.cell? ⟨xb, 2, none⟩ = some (.int .i64 (sq).most) := by rw [cell_of HLQ.out.hxb]; rfl
             have b0 : w6.drew.cell? ⟨xb, 0, none⟩ = some (.slice (some ⟨gb, 0, none⟩) m.code.length m.code.length) := a0
             have b1 : w6.drew.cell? ⟨xb, 1, none⟩ = some (.slice (some ⟨gs, 0, none⟩) m.code.length m.code.length) := a1
             have b2 : w6.drew.cell? ⟨xb, 2, none⟩ = some (.int .i64 (sq).most) := a2
             have hxge := HLQ.out.ge
             have hx1 : ¬ (w.heap.size + 1 = xb) := by omega
             have hx2 : ¬ (w.heap.size + 1 + 1 = xb) := by omega
             have hx3 : ¬ (xb = w.heap.size + 1) := by omega
             have hx4 : ¬ (xb = w.heap.size + 1 + 1) := by omega
             have hwl := lt_of_heap HLQ.out.hxb
             have HFT := Lib.hid (there_fault 109 (k : Int) (j : Int) w6.drew)
             go_region_with
              ((go_at_call 117; refine HFT.out.mono ?_; rintro e wz ⟨fb, rfl, hint, hu4, hfb⟩; have HD4 := Lib.hid (HDd.out.same hu4); have e0 := hu4.cell b0 (by simp); have e1 := hu4.cell b1 (by simp); have e2 := hu4.cell b2 (by simp); have r0 : wz.cell? ⟨w.heap.size + 1, 0, none⟩ = some (.slice none 0 0) := (by rw [cell_of HD4.out.hrb]; rfl); have r1 : wz.cell? ⟨w.heap.size + 1, 1, none⟩ = some (.slice none 0 0) := (by rw [cell_of HD4.out.hrb]; rfl); have r2 : wz.cell? ⟨w.heap.size + 1, 2, none⟩ = some (.int .i64 0) := (by rw [cell_of HD4.out.hrb]; rfl); have f0 : wz.cell? ⟨w.heap.size + 1 + 1, 0, none⟩ = some (.int .i64 0) := (by rw [cell_of HD4.out.hfb]; rfl); have f1 : wz.cell? ⟨w.heap.size + 1 + 1, 1, none⟩ = some (.slice none 0 0) := (by rw [cell_of HD4.out.hfb]; rfl); have y0 := froz_of HD4.out.hrb 0; have y1 := froz_of HD4.out.hrb 1; have y2 := froz_of HD4.out.hrb 2; have y3 := froz_of HD4.out.hfb 0; have y4 := froz_of HD4.out.hfb 1; have HINT := Lib.hid hint; clear hint hu4))
             all_goals
              have k1 := heap_setCell HD4.out.hrb 0 (.slice (some ⟨gb, 0, none⟩) m.code.length m.code.length)
              have k2 := heap_setCell k1 1 (.slice (some ⟨gs, 0, none⟩) m.code.length m.code.length)
              have k3 := heap_setCell k2 2 (.int .i64 (sq).most)
              have u3 : Upd [w.heap.size + 1] wz (((wz.setCell ⟨w.heap.size + 1, 0, none⟩ (.slice (some ⟨gb, 0, none⟩) m.code.length m.code.length)).setCell ⟨w.heap.size + 1, 1, none⟩ (.slice (some ⟨gs, 0, none⟩) m.code.length m.code.length)).setCell ⟨w.heap.size + 1, 2, none⟩ (.int .i64 (sq).most)) :=
               (((Upd.refl _ wz).setCell (.inl (by simp)) _).setCell (.inl (by simp)) _).setCell (.inl (by simp)) _
              have l0 := u3.heap HD4.out.hfb (by simp)
              have l1 := heap_setCell l0 0 (.int .i64 109)
              have l2 := heap_setCell l1 1 (.slice (some ⟨fb, 0, none⟩) 2 2)
              have u5 := ((Upd.refl [w.heap.size + 1 + 1] (((wz.setCell ⟨w.heap.size + 1, 0, none⟩ (.slice (some ⟨gb, 0, none⟩) m.code.length m.code.length)).setCell ⟨w.heap.size + 1, 1, none⟩ (.slice (some ⟨gs, 0, none⟩) m.code.length m.code.length)).setCell ⟨w.heap.size + 1, 2, none⟩ (.int .i64 (sq).most))).setCell (p := ⟨w.heap.size + 1 + 1, 0, none⟩) (.inl (by simp)) (.int .i64 109)).setCell (p := ⟨w.heap.size + 1 + 1, 1, none⟩) (.inl (by simp)) (.slice (some ⟨fb, 0, none⟩) 2 2)
              have k5 := u5.heap k3 (by simp)
              have d0 := cell_of k5 0
              have d1 := cell_of k5 1
              have d2 := cell_of k5 2
              have d3 := cell_of l2 0
              have d4 := cell_of l2 1
              simp at d0 d1 d2 d3 d4
              have hfb2 : w.heap.size + 4 ≤ fb := by
               have h9 : w6.heap.size ≤ fb := hfb
               omega
              have HINT5 := Lib.hid ((HINT.out.upd u3 (.inr (by simp; omega))).upd u5 (.inr (by simp; omega)))
              have HU5 : Hid (Upd [] w _) := (HD4.out.upd.trans' u3 (fun i hi hl => by simp at hi; omega)).trans' u5 (fun i hi hl => by simp at hi; omega)
              clear k1 k2 k3 l0 l1 l2 u3 u5 k5 r0 r1 r2 f0 f1 y0 y1 y2 y3 y4 e0 e1 e2
              go_wp2_with fail
              refine bodyPost_ret (v := .tuple #[.agg #[.slice (some ⟨gb, 0, none⟩) m.code.length m.code.length, .slice (some ⟨gs, 0, none⟩) m.code.length m.code.length, .int .i64 (sq).most], .agg #[.int .i64 109, .slice (some ⟨fb, 0, none⟩) 2 2]]) (by simp [results, Tryz.results103, go_sem, d0, d1, d2, d3, d4]) rfl ?_
              refine ⟨_, rfl, ⟨gs, gb, _, _, _, rfl, ?_⟩, by first | exact HU5.out | exact HU5.out.drew⟩
              rw [HER.out]
              exact ⟨rfl, fb, by first | exact HINT5.out | exact HINT5.out.upd (Upd.refl [] _).drew (.inr (by simp))⟩
         ·obtain rfl : q = nl.length := by omega
          have hcn := HFQ.out
          rw [List.take_length] at hcn
          have HST2 : Hid (s.step p m = .ok sq) := HSTE.out _ hcn
          have HMID := Lib.hid (HI.out.next (by rw [HP.out]; exact hlt) HST2.out)
          clear hcn
          go_wp2_with fail
          go_roundw
          case rel => exact ⟨_, _, HMID.out, HLQ.out⟩
          case measure =>
           rw [openN_of HLQ.out.hdb, openN_of HL.out.hdb, HMID.out.ok.done, KD.out]
           have e1 : sq.done.count true = i + 1 := HMID.out.cnt
           have e2 : s.done.count true = i := HI.out.cnt
           have e3 := HMID.out.le
           omega
    ·obtain rfl : j = m.code.length := by omega
     have HP : Hid (s.pick m.code.length = m.code.length) := pick_none HJJ.out
     have dn0 : ((m.code.length : Int) == (m.code.length : Int)) = true := by rw [beq_iff_eq]
     go_upto_region 9 with fail
     clear m3 x0 x1 x2
     have HDd := Lib.hid (HL.out.same (Upd.refl [] wo).drew)
     have a0 : wo.cell? ⟨xb, 0, none⟩ = some (.slice (some ⟨gb, 0, none⟩) m.code.length m.code.length) := by rw [cell_of HL.out.hxb]; rfl
     have a1 : wo.cell? ⟨xb, 1, none⟩ = some (.slice (some ⟨gs, 0, none⟩) m.code.length m.code.length) := by rw [cell_of HL.out.hxb]; rfl
     have a2 : wo.cell? ⟨xb, 2, none⟩ = some (.int .i64 (s).most) := by rw [cell_of HL.out.hxb]; rfl
     have b0 : wo.drew.cell? ⟨xb, 0, none⟩ = some (.slice (some ⟨gb, 0, none⟩) m.code.length m.code.length) := a0
     have b1 : wo.drew.cell? ⟨xb, 1, none⟩ = some (.slice (some ⟨gs, 0, none⟩) m.code.length m.code.length) := a1
     have b2 : wo.drew.cell? ⟨xb, 2, none⟩ = some (.int .i64 (s).most) := a2
     have hxge := HL.out.ge
     have hx1 : ¬ (w.heap.size + 1 = xb) := by omega
     have hx2 : ¬ (w.heap.size + 1 + 1 = xb) := by omega
     have hx3 : ¬ (xb = w.heap.size + 1) := by omega
     have hx4 : ¬ (xb = w.heap.size + 1 + 1) := by omega
     have hwl := lt_of_heap HL.out.hxb
     have HFT := Lib.hid (none_any wo.drew)
     go_region_with
      ((go_at_call 107; refine HFT.out.mono ?_; rintro e wz ⟨rfl, hu4⟩; have HD4 := Lib.hid (HDd.out.same hu4); have e0 := hu4.cell b0 (by simp); have e1 := hu4.cell b1 (by simp); have e2 := hu4.cell b2 (by simp); have r0 : wz.cell? ⟨w.heap.size + 1, 0, none⟩ = some (.slice none 0 0) := (by rw [cell_of HD4.out.hrb]; rfl); have r1 : wz.cell? ⟨w.heap.size + 1, 1, none⟩ = some (.slice none 0 0) := (by rw [cell_of HD4.out.hrb]; rfl); have r2 : wz.cell? ⟨w.heap.size + 1, 2, none⟩ = some (.int .i64 0) := (by rw [cell_of HD4.out.hrb]; rfl); have f0 : wz.cell? ⟨w.heap.size + 1 + 1, 0, none⟩ = some (.int .i64 0) := (by rw [cell_of HD4.out.hfb]; rfl); have f1 : wz.cell? ⟨w.heap.size + 1 + 1, 1, none⟩ = some (.slice none 0 0) := (by rw [cell_of HD4.out.hfb]; rfl); have y0 := froz_of HD4.out.hrb 0; have y1 := froz_of HD4.out.hrb 1; have y2 := froz_of HD4.out.hrb 2; have y3 := froz_of HD4.out.hfb 0; have y4 := froz_of HD4.out.hfb 1; clear hu4))
     all_goals
      have k1 := heap_setCell HD4.out.hrb 0 (.slice (some ⟨gb, 0, none⟩) m.code.length m.code.length)
      have k2 := heap_setCell k1 1 (.slice (some ⟨gs, 0, none⟩) m.code.length m.code.length)
      have k3 := heap_setCell k2 2 (.int .i64 (s).most)
      have u3 : Upd [w.heap.size + 1] wz (((wz.setCell ⟨w.heap.size + 1, 0, none⟩ (.slice (some ⟨gb, 0, none⟩) m.code.length m.code.length)).setCell ⟨w.heap.size + 1, 1, none⟩ (.slice (some ⟨gs, 0, none⟩) m.code.length m.code.length)).setCell ⟨w.heap.size + 1, 2, none⟩ (.int .i64 (s).most)) :=
       (((Upd.refl _ wz).setCell (.inl (by simp)) _).setCell (.inl (by simp)) _).setCell (.inl (by simp)) _
      have l0 := u3.heap HD4.out.hfb (by simp)
      have l1 := heap_setCell l0 0 (.int .i64 0)
      have l2 := heap_setCell l1 1 (.slice none 0 0)
      have u5 := ((Upd.refl [w.heap.size + 1 + 1] (((wz.setCell ⟨w.heap.size + 1, 0, none⟩ (.slice (some ⟨gb, 0, none⟩) m.code.length m.code.length)).setCell ⟨w.heap.size + 1, 1, none⟩ (.slice (some ⟨gs, 0, none⟩) m.code.length m.code.length)).setCell ⟨w.heap.size + 1, 2, none⟩ (.int .i64 (s).most))).setCell (p := ⟨w.heap.size + 1 + 1, 0, none⟩) (.inl (by simp)) (.int .i64 0)).setCell (p := ⟨w.heap.size + 1 + 1, 1, none⟩) (.inl (by simp)) (.slice none 0 0)
      have k5 := u5.heap k3 (by simp)
      have d0 := cell_of k5 0
      have d1 := cell_of k5 1
      have d2 := cell_of k5 2
      have d3 := cell_of l2 0
      have d4 := cell_of l2 1
      simp at d0 d1 d2 d3 d4
      have HU5 : Hid (Upd [] w _) := (HD4.out.upd.trans' u3 (fun i hi hl => by simp at hi; omega)).trans' u5 (fun i hi hl => by simp at hi; omega)
      have HGS := Lib.hid (u5.heap (u3.heap HD4.out.hgs (by simp; omega)) (by simp; omega))
      have HGB := Lib.hid (u5.heap (u3.heap HD4.out.hgb (by simp; omega)) (by simp; omega))
      clear k1 k2 k3 l0 l1 l2 u3 u5 k5 r0 r1 r2 f0 f1 y0 y1 y2 y3 y4 e0 e1 e2
      go_wp2_with fail
      refine bodyPost_ret (v := .tuple #[.agg #[.slice (some ⟨gb, 0, none⟩) m.code.length m.code.length, .slice (some ⟨gs, 0, none⟩) m.code.length m.code.length, .int .i64 (s).most], .agg #[.int .i64 0, .slice none 0 0]]) (by simp [results, Tryz.results103, go_sem, d0, d1, d2, d3, d4]) rfl ?_
      refine ⟨_, rfl, ⟨gs, gb, _, _, _, rfl, ?_⟩, by first | exact HU5.out | exact HU5.out.drew⟩
      rw [HI.out.fin HP.out]
      have hge := HL.out.ge
      have hgs := HGS.out
      have hgb := HGB.out
      exact ⟨rfl, rfl, rfl, ⟨hgs, hgb⟩, by omega, by omega, lt_of_heap hgs, lt_of_heap hgb⟩
end Go.Proofs.YtojobkhidlfeoaaGreatDoor
