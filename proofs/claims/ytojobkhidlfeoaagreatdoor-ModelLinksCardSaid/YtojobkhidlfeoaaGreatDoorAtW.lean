/- verify.Info: ask, at. verify.Info: at, Stack, Most, Words. -/
import Derived.Test.YtojobkhidlfeoaaGreatDoorInfoA
import Derived.Test.YtojobkhidlfeoaaGreatDoorRows
import Derived.Test.YtojobkhidlfeoaaGreatDoorVerL
import Derived.Laws.Pointers
import Derived.Laws.LoneSync
import Derived.Deep.DeepCutAuto
import Derived.Test.YtojobkhidlfeoaaGreatDoorAccA
import Derived.Test.YtojobkhidlfeoaaGreatDoorEff
import Derived.Deep.RegionHeld3
/-! verify.Info: ask, at. -/
namespace Go.Proofs.YtojobkhidlfeoaaGreatDoor
open Go.RowKit

set_option maxRecDepth 100000 in
set_option maxHeartbeats 1000000 in
theorem iadd_any (b : Nat) (x : Int) (w : World) (hc : w.cell? ⟨b, 3, none⟩ = some (.int .i64 x)) (hz : w.frozen? ⟨b, 3, none⟩ = false) (hx : 0 ≤ x) (hx2 : x ≤ 1000000000) :
  Calls Tryz.prog 92 #[.pointer (some ⟨b, 3, none⟩), .int .i64 1] w fun e w' => e = .returned (.int .i64 (x + 1)) ∧ w' = w.setCell ⟨b, 3, none⟩ (.int .i64 (x + 1)) := by
 have hw : IntKind.i64.wrap (x + 1) = x + 1 := IntWalk.i64_in _ (by omega)
 have hadd := run_call_add (P := Tryz.prog) Tryz.func110 (by kernel_rfl) (by kernel_rfl) (by kernel_rfl) .i64 (by kernel_rfl) (y := 1) (s := x + 1) hc hz (by simp [go_sem, hw])
 go_enter Tryz.func92, Tryz.ntmps92
 go_wp2_with fail
 go_ret
 exact ⟨rfl, rfl⟩

theorem InfoAt.later {w w' : World} {ib : Nat} {p : Prg} {ss : List Lk} {n k : Int} (h : InfoAt w ib p ss n) (hu : Upd [ib] w w') (hb : ∀ cv mv lv, w.heap[ib]? = some (.cells #[cv, mv, lv, .int .i64 n] 150) → w'.heap[ib]? = some (.cells #[cv, mv, lv, .int .i64 k] 150)) : InfoAt w' ib p ss k := by
 obtain ⟨cv, mv, lv, h1, h2, h3, h4⟩ := h
 have ho := offW_upd hu
 exact ⟨cv, mv, lv, hb _ _ _ h1, h2.upd ho, h3.upd ho, h4.upd ho⟩
/-- What ask answers of a method that there is. -/
def AskIn (w : World) (ib : Nat) (p : Prg) (ss : List Lk) (n : Int) (k : Nat) (v : Value) (w' : World) : Prop :=
 ∃ gs gb kp kc, v = .tuple #[.agg #[.slice (some ⟨gs, 0, none⟩) (p.ms.getD k default).code.length (p.ms.getD k default).code.length, .slice (some ⟨gb, 0, none⟩) (p.ms.getD k default).code.length (p.ms.getD k default).code.length, .int .i64 (ss.getD k default).most],
  .agg #[.string (p.ms.getD k default).params, .string (p.ms.getD k default).locals, .string (p.ms.getD k default).ret, .slice kp (p.ms.getD k default).code.length kc]] ∧ LkC w' gs gb (p.ms.getD k default).code.length (ss.getD k default) ∧ InfoAt w' ib p ss (n + 1) ∧ Upd [ib] w w'

/-- A count is added, and nothing else of the answer's box. -/
def InfoStep (w w' : World) (ib : Nat) (n : Int) : Prop := ∀ cv mv lv, w.heap[ib]? = some (.cells #[cv, mv, lv, .int .i64 n] 150) → w'.heap[ib]? = some (.cells #[cv, mv, lv, .int .i64 (n + 1)] 150)
set_option maxRecDepth 100000 in
set_option maxHeartbeats 4000000 in
theorem ask_in2 (ib : Nat) (p : Prg) (ss : List Lk) (n : Int) (k : Nat) (w : World) (h : InfoAt w ib p ss n) (hl : ss.length = p.ms.length) (hk : k < p.ms.length) (h0 : 0 ≤ n) (h1 : n ≤ 1000000000) :
  Calls Tryz.prog 65 #[.pointer (some ⟨ib, 0, none⟩), .int .i64 k] w fun e w' => ∃ v, e = .returned v ∧ AskIn w ib p ss n k v w' ∧ InfoStep w w' ib n := by
 obtain ⟨cv, mv, lv, hbx, hc, hm, lp, lc, rfl, hlm, hlx⟩ := id h
 have hib : ib < w.heap.size := lt_of_heap hbx
 go_enter Tryz.func65, Tryz.ntmps65
 go_upto_region 1 with fail
 have hu0 := ((Upd.refl [] w).alloc (.cells #[.slice none 0 0, .slice none 0 0, .int .i64 0] 137)).alloc (.cells #[.string ⟨#[]⟩, .string ⟨#[]⟩, .string ⟨#[]⟩, .slice none 0 0] 53)
 have hA := ((Upd.refl [] _).alloc (.cells #[.string ⟨#[]⟩, .string ⟨#[]⟩, .string ⟨#[]⟩, .slice none 0 0] 53)).heap (heap_alloc_new w (.cells #[.slice none 0 0, .slice none 0 0, .int .i64 0] 137)) (by simp)
 have hB := heap_alloc_new (w.alloc (.cells #[.slice none 0 0, .slice none 0 0, .int .i64 0] 137)) (.cells #[.string ⟨#[]⟩, .string ⟨#[]⟩, .string ⟨#[]⟩, .slice none 0 0] 53)
 rw [show (w.alloc (.cells #[.slice none 0 0, .slice none 0 0, .int .i64 0] 137)).heap.size = w.heap.size + 1 by simp] at hB
 have hI0 := h.upd hu0
 generalize (w.alloc (.cells #[.slice none 0 0, .slice none 0 0, .int .i64 0] 137)).alloc (.cells #[.string ⟨#[]⟩, .string ⟨#[]⟩, .string ⟨#[]⟩, .slice none 0 0] 53) = w0 at hu0 hA hB hI0 ⊢
 have hbx0 := hu0.heap hbx (by simp)
 have a3 : w0.cell? ⟨ib, 3, none⟩ = some (.int .i64 n) := by rw [cell_of hbx0]; rfl
 have f3 := froz_of hbx0 3
 go_wp2_with fail
 refine (iadd_any ib n w0 a3 f3 h0 h1).mono ?_
 rintro e w1 ⟨rfl, hw1⟩
 have hI1 := hI0.ask (n + 1)
 have hu1 : Upd [ib] w0 (w0.setCell ⟨ib, 3, none⟩ (.int .i64 (n + 1))) := (Upd.refl _ _).setCell (.inl (by simp)) _
 rw [← hw1] at hI1 hu1
 have hw2 : ∀ q, q ≠ 3 → w1.cell? ⟨ib, q, none⟩ = w.cell? ⟨ib, q, none⟩ := fun q hq => by
  rw [hw1, World.cell?_setCell_other _ ⟨ib, 3, none⟩ ⟨ib, q, none⟩ _ (by simp), World.cell?_of_block (hu0.block ib hib (by simp))]
 have hA1 := hu1.heap hA (by simp; omega)
 have hB1 := hu1.heap hB (by simp; omega)
 have HW3 : Hid (∀ cv mv lv, w.heap[ib]? = some (.cells #[cv, mv, lv, .int .i64 n] 150) → w1.heap[ib]? = some (.cells #[cv, mv, lv, .int .i64 (n + 1)] 150)) := fun cv mv lv hb => by
  rw [hw1, heap_setCell (hu0.heap hb (by simp))]
  simp
 have HOR := Lib.hid h
 clear hw1 hbx0 a3 f3 hI0 hA hB h
 have HI1 := Lib.hid hI1
 have HU : Hid (Upd [ib] w w1) := (hu0.mono (by simp)).trans hu1
 clear hI1 hu0 hu1
 obtain ⟨b, o, gs, gb, rfl, l0, l1, l2, hlk⟩ := hlx k (by omega)
 obtain ⟨mp, mc, rfl, hml, hmm, hmx⟩ := hm
 obtain ⟨bm, om, rfl, _, m0, m1, m2, kv, m3, hcode⟩ := hmx k hk
 have HBX := HI1.out
 have nb := (offW_cell l0).1
 have nm := (offW_cell m0).1
 have lb := World.block_lt_of_cell? w _ (offW_cell l0).2
 have lm := World.block_lt_of_cell? w _ (offW_cell m0).2
 have l0 := HU.out.cell (offW_cell l0).2 (by simpa using (offW_cell l0).1)
 have l1 := HU.out.cell (offW_cell l1).2 (by simpa using (offW_cell l1).1)
 have l2 := HU.out.cell (offW_cell l2).2 (by simpa using (offW_cell l2).1)
 have m0 := HU.out.cell (offW_cell m0).2 (by simpa using (offW_cell m0).1)
 have m1 := HU.out.cell (offW_cell m1).2 (by simpa using (offW_cell m1).1)
 have m2 := HU.out.cell (offW_cell m2).2 (by simpa using (offW_cell m2).1)
 have m3 := HU.out.cell (offW_cell m3).2 (by simpa using (offW_cell m3).1)
 have HLK : Hid (LkC w gs gb (p.ms.getD k default).code.length (ss.getD k default) ∧ ∀ q, q < (p.ms.getD k default).code.length → gs ≠ ib ∧ gb ≠ ib) := ⟨fun q hq => ⟨(offW_cell (hlk q hq).1).2, (offW_cell (hlk q hq).2).2⟩, fun q hq => ⟨(offW_cell (hlk q hq).1).1, (offW_cell (hlk q hq).2).1⟩⟩
 obtain ⟨ka, kc, rfl, _⟩ := hcode
 have hbx1 := HU.out
 have e1 : w1.cell? ⟨ib, 1, none⟩ = some (.slice (some ⟨bm, om, none⟩) p.ms.length mc) := by rw [hw2 1 (by decide), cell_of hbx]; rfl
 have e2 : w1.cell? ⟨ib, 2, none⟩ = some (.slice (some ⟨b, o, none⟩) ss.length lc) := by rw [hw2 2 (by decide), cell_of hbx]; rfl
 rw [hl] at e2
 simp only at nb nm lb lm
 have g1 : ¬ (w.heap.size = bm) := by omega
 have g2 : ¬ (w.heap.size + 1 = bm) := by omega
 have g3 : ¬ (bm = w.heap.size) := by omega
 have g4 : ¬ (bm = w.heap.size + 1) := by omega
 have g5 : ¬ (w.heap.size = b) := by omega
 have g6 : ¬ (w.heap.size + 1 = b) := by omega
 have g7 : ¬ (b = w.heap.size) := by omega
 have g8 : ¬ (b = w.heap.size + 1) := by omega
 have g9 : ¬ (w.heap.size = ib) := by omega
 have g10 : ¬ (w.heap.size + 1 = ib) := by omega
 have g11 : ¬ (ib = w.heap.size) := by omega
 have g12 : ¬ (ib = w.heap.size + 1) := by omega
 clear hlx hmx hlk hbx HBX hbx1 hw2 nb nm lb lm hc
 generalize hmg : p.ms.getD k default = m at l0 l1 m0 m1 m2 m3 HLK
 generalize hsg : ss.getD k default = s at l2 HLK
 have HMG := Lib.hid hmg
 have HSG := Lib.hid hsg
 clear hmg hsg
 have r0 : w1.cell? ⟨w.heap.size, 0, none⟩ = some (.slice none 0 0) := by rw [cell_of hA1]; rfl
 have r1 : w1.cell? ⟨w.heap.size, 1, none⟩ = some (.slice none 0 0) := by rw [cell_of hA1]; rfl
 have r2 : w1.cell? ⟨w.heap.size, 2, none⟩ = some (.int .i64 0) := by rw [cell_of hA1]; rfl
 have s0 : w1.cell? ⟨w.heap.size + 1, 0, none⟩ = some (.string ⟨#[]⟩) := by rw [cell_of hB1]; rfl
 have s1 : w1.cell? ⟨w.heap.size + 1, 1, none⟩ = some (.string ⟨#[]⟩) := by rw [cell_of hB1]; rfl
 have s2 : w1.cell? ⟨w.heap.size + 1, 2, none⟩ = some (.string ⟨#[]⟩) := by rw [cell_of hB1]; rfl
 have s3 : w1.cell? ⟨w.heap.size + 1, 3, none⟩ = some (.slice none 0 0) := by rw [cell_of hB1]; rfl
 have x0 := froz_of hA1 0
 have x1 := froz_of hA1 1
 have x2 := froz_of hA1 2
 have y0 := froz_of hB1 0
 have y1 := froz_of hB1 1
 have y2 := froz_of hB1 2
 have y3 := froz_of hB1 3
 have HA1 := Lib.hid hA1
 have HB1 := Lib.hid hB1
 clear hA1 hB1 hib
 have dk : decide (p.ms.length ≤ k) = false := decide_eq_false (by omega)
 unfold maxLen at hlm hmm
 go_wp2_with fail
 go_region
 go_wp2_with fail
 have k1 := heap_setCell HA1.out 0 (.slice (some ⟨gs, 0, none⟩) m.code.length m.code.length)
 have k2 := heap_setCell k1 1 (.slice (some ⟨gb, 0, none⟩) m.code.length m.code.length)
 have k3 := heap_setCell k2 2 (.int .i64 s.most)
 have hu3 : Upd [w.heap.size] w1 (((w1.setCell ⟨w.heap.size, 0, none⟩ (.slice (some ⟨gs, 0, none⟩) m.code.length m.code.length)).setCell ⟨w.heap.size, 1, none⟩ (.slice (some ⟨gb, 0, none⟩) m.code.length m.code.length)).setCell ⟨w.heap.size, 2, none⟩ (.int .i64 s.most)) :=
  (((Upd.refl _ w1).setCell (.inl (by simp)) _).setCell (.inl (by simp)) _).setCell (.inl (by simp)) _
 have kb := hu3.heap HB1.out (by simp)
 generalize (((w1.setCell ⟨w.heap.size, 0, none⟩ (.slice (some ⟨gs, 0, none⟩) m.code.length m.code.length)).setCell ⟨w.heap.size, 1, none⟩ (.slice (some ⟨gb, 0, none⟩) m.code.length m.code.length)).setCell ⟨w.heap.size, 2, none⟩ (.int .i64 s.most)) = w3 at k3 hu3 kb ⊢
 have k4 := heap_setCell kb 0 (.string m.params)
 have k5 := heap_setCell k4 1 (.string m.locals)
 have k6 := heap_setCell k5 2 (.string m.ret)
 have k7 := heap_setCell k6 3 (.slice ka m.code.length kc)
 have hu7 : Upd [w.heap.size + 1] w3 ((((w3.setCell ⟨w.heap.size + 1, 0, none⟩ (.string m.params)).setCell ⟨w.heap.size + 1, 1, none⟩ (.string m.locals)).setCell ⟨w.heap.size + 1, 2, none⟩ (.string m.ret)).setCell ⟨w.heap.size + 1, 3, none⟩ (.slice ka m.code.length kc)) :=
  ((((Upd.refl _ w3).setCell (.inl (by simp)) _).setCell (.inl (by simp)) _).setCell (.inl (by simp)) _).setCell (.inl (by simp)) _
 have ka3 := hu7.heap k3 (by simp)
 generalize ((((w3.setCell ⟨w.heap.size + 1, 0, none⟩ (.string m.params)).setCell ⟨w.heap.size + 1, 1, none⟩ (.string m.locals)).setCell ⟨w.heap.size + 1, 2, none⟩ (.string m.ret)).setCell ⟨w.heap.size + 1, 3, none⟩ (.slice ka m.code.length kc)) = w7 at k7 hu7 ka3 ⊢
 have d0 := cell_of ka3 0
 have d1 := cell_of ka3 1
 have d2 := cell_of ka3 2
 have d4 := cell_of k7 0
 have d5 := cell_of k7 1
 have d6 := cell_of k7 2
 have d7 := cell_of k7 3
 simp at d0 d1 d2 d4 d5 d6 d7
 have hu : Upd [w.heap.size, w.heap.size + 1] w1 w7 := (hu3.mono (by simp)).trans (hu7.mono (by simp))
 have hu' := hu.drew
 refine bodyPost_ret (v := .tuple #[.agg #[.slice (some ⟨gs, 0, none⟩) m.code.length m.code.length, .slice (some ⟨gb, 0, none⟩) m.code.length m.code.length, .int .i64 s.most], .agg #[.string m.params, .string m.locals, .string m.ret, .slice ka m.code.length kc]]) (by simp [results, Tryz.results65, go_sem, d0, d1, d2, d4, d5, d6, d7]) rfl ?_
 have hU7 : Upd [ib] w w7.drew := HU.out.trans' hu' (fun q hq hl => by simp at hq; omega)
 have hstep : InfoStep w w7.drew ib n := fun cv mv lv hb => by
  have h1 := HW3.out cv mv lv hb
  have hlt := lt_of_heap hb
  exact hu'.heap h1 (by simp; omega)
 refine ⟨_, rfl, ⟨gs, gb, ka, kc, by rw [HMG.out, HSG.out], ?_, ?_, hU7⟩, hstep⟩
 ·rw [HMG.out, HSG.out]
  intro q hq
  exact ⟨hU7.cell (HLK.out.1 q hq).1 (by simpa using (HLK.out.2 q hq).1), hU7.cell (HLK.out.1 q hq).2 (by simpa using (HLK.out.2 q hq).2)⟩
 ·exact HOR.out.later hU7 hstep
theorem ask_in (ib : Nat) (p : Prg) (ss : List Lk) (n : Int) (k : Nat) (w : World) (h : InfoAt w ib p ss n) (hl : ss.length = p.ms.length) (hk : k < p.ms.length) (h0 : 0 ≤ n) (h1 : n ≤ 1000000000) :
  Calls Tryz.prog 65 #[.pointer (some ⟨ib, 0, none⟩), .int .i64 k] w fun e w' => ∃ v, e = .returned v ∧ AskIn w ib p ss n k v w' :=
 (ask_in2 ib p ss n k w h hl hk h0 h1).mono (fun _ _ ⟨v, h1, h2, _⟩ => ⟨v, h1, h2⟩)
end Go.Proofs.YtojobkhidlfeoaaGreatDoor

/-! verify.Info: at, Stack, Most, Words. -/
namespace Go.Proofs.YtojobkhidlfeoaaGreatDoor
open Go.RowKit

/-- What is told of an instruction. -/
def atV (s : Lk) (n : Nat) (pc : Int) : Value := if 0 ≤ pc ∧ pc < (n : Int) ∧ s.seen.getD pc.toNat false = true then .tuple #[.string (bs (s.stk.getD pc.toNat [])), .bool true] else .tuple #[.string (bs []), .bool false]

set_option maxRecDepth 100000 in
set_option maxHeartbeats 1000000 in
theorem at_ask (gs gb n : Nat) (mo : Int) (s : Lk) (pc : Int) (w : World) (h : LkC w gs gb n s) (_hn : n ≤ 1000) :
  Calls Tryz.prog 66 #[.agg #[.slice (some ⟨gs, 0, none⟩) n n, .slice (some ⟨gb, 0, none⟩) n n, .int .i64 mo], .int .i64 pc] w fun e w' => e = .returned (atV s n pc) ∧ Upd [] w w' := by
 have HU := Lib.hid ((Upd.refl [] w).alloc (.cells #[.slice (some ⟨gs, 0, none⟩) n n, .slice (some ⟨gb, 0, none⟩) n n, .int .i64 mo] 137))
 by_cases h0 : 0 ≤ pc
 ·obtain ⟨q, rfl⟩ := Int.eq_ofNat_of_zero_le h0
  by_cases hq : q < n
  ·obtain ⟨c1, c2⟩ := h q hq
   have c1 := HU.out.cell c1 (by simp)
   have c2 := HU.out.cell c2 (by simp)
   have dq : decide (n ≤ q) = false := decide_eq_false (by omega)
   cases hs : s.seen.getD q false with
   | true =>
    have HA : Hid (atV s n (q : Int) = .tuple #[.string (bs (s.stk.getD q [])), .bool true]) := by
     show _ = _
     unfold atV
     rw [Int.toNat_natCast, if_pos ⟨by omega, by omega, hs⟩]
    rw [hs] at c2
    clear h hs
    go_enter Tryz.func66, Tryz.ntmps66
    go_wp2_with fail
    go_ret2
    exact ⟨by rw [HA.out]; rfl, HU.out⟩
   | false =>
    have HA : Hid (atV s n (q : Int) = .tuple #[.string (bs []), .bool false]) := by
     show _ = _
     unfold atV
     rw [Int.toNat_natCast, if_neg (by rw [hs]; simp)]
    rw [hs] at c2
    clear h hs
    go_enter Tryz.func66, Tryz.ntmps66
    go_wp2_with fail
    go_ret2
    exact ⟨by rw [HA.out]; rfl, HU.out⟩
  ·have HA : Hid (atV s n (q : Int) = .tuple #[.string (bs []), .bool false]) := by
    show _ = _
    unfold atV
    rw [if_neg (by omega)]
   have dq : decide (n ≤ q) = true := decide_eq_true (by omega)
   clear h
   go_enter Tryz.func66, Tryz.ntmps66
   go_wp2_with fail
   go_ret2
   exact ⟨by rw [HA.out]; rfl, HU.out⟩
 ·have HA : Hid (atV s n pc = .tuple #[.string (bs []), .bool false]) := by
   show _ = _
   unfold atV
   rw [if_neg (by omega)]
  have d0 : decide (pc < 0) = true := decide_eq_true (by omega)
  clear h h0
  go_enter Tryz.func66, Tryz.ntmps66
  go_wp2_with fail
  go_ret2
  exact ⟨by rw [HA.out]; rfl, HU.out⟩

/-- atV is a pair. -/
theorem atV_form (s : Lk) (n : Nat) (pc : Int) : ∃ t b, atV s n pc = .tuple #[.string t, .bool b] := by
 unfold atV
 split
 ·exact ⟨_, _, rfl⟩
 ·exact ⟨_, _, rfl⟩

set_option maxRecDepth 100000 in
set_option maxHeartbeats 1000000 in
theorem stack_in2 (ib : Nat) (p : Prg) (ss : List Lk) (n : Int) (k : Nat) (pc : Int) (w : World) (h : InfoAt w ib p ss n) (hl : ss.length = p.ms.length) (hk : k < p.ms.length) (hc : (p.ms.getD k default).code.length ≤ 1000) (h0 : 0 ≤ n) (h1 : n ≤ 1000000000) :
  Calls Tryz.prog 32 #[.pointer (some ⟨ib, 0, none⟩), .int .i64 k, .int .i64 pc] w fun e w' => e = .returned (atV (ss.getD k default) (p.ms.getD k default).code.length pc) ∧ InfoAt w' ib p ss (n + 1) ∧ Upd [ib] w w' ∧ InfoStep w w' ib n := by
 go_enter Tryz.func32, Tryz.ntmps32
 go_wp2_with fail
 refine (ask_in2 ib p ss n k w h hl hk h0 h1).mono ?_
 rintro e w1 ⟨v, rfl, ⟨gs, gb, kp, kc, rfl, hlk, hi, hu⟩, hst⟩
 generalize hmg : p.ms.getD k default = m at hlk hc ⊢
 generalize hsg : ss.getD k default = s at hlk ⊢
 have HMG := Lib.hid hmg
 have HSG := Lib.hid hsg
 clear hmg hsg
 have hu2 := ((Upd.refl [] w1).alloc (.cells #[.slice (some ⟨gs, 0, none⟩) m.code.length m.code.length, .slice (some ⟨gb, 0, none⟩) m.code.length m.code.length, .int .i64 s.most] 137)).alloc (.cells #[.string m.params, .string m.locals, .string m.ret, .slice kp m.code.length kc] 53)
 have hA := ((Upd.refl [] _).alloc (.cells #[.string m.params, .string m.locals, .string m.ret, .slice kp m.code.length kc] 53)).heap (heap_alloc_new w1 (.cells #[.slice (some ⟨gs, 0, none⟩) m.code.length m.code.length, .slice (some ⟨gb, 0, none⟩) m.code.length m.code.length, .int .i64 s.most] 137)) (by simp)
 have hB := heap_alloc_new (w1.alloc (.cells #[.slice (some ⟨gs, 0, none⟩) m.code.length m.code.length, .slice (some ⟨gb, 0, none⟩) m.code.length m.code.length, .int .i64 s.most] 137)) (.cells #[.string m.params, .string m.locals, .string m.ret, .slice kp m.code.length kc] 53)
 rw [show (w1.alloc (.cells #[.slice (some ⟨gs, 0, none⟩) m.code.length m.code.length, .slice (some ⟨gb, 0, none⟩) m.code.length m.code.length, .int .i64 s.most] 137)).heap.size = w1.heap.size + 1 by simp] at hB
 have HL := Lib.hid (fun q hq => (⟨hu2.cell (hlk q hq).1 (by simp), hu2.cell (hlk q hq).2 (by simp)⟩ : _ ∧ _))
 have HI := Lib.hid (hi.upd hu2)
 have HST : Hid (InfoStep w _ ib n) := fun cv mv lv hb => hu2.heap (hst cv mv lv hb) (by simp)
 have HU := Lib.hid (hu.trans (hu2.mono (T := [ib]) (by simp)))
 clear hlk hi hu hu2 hst
 go_upto_region 2 with fail
 generalize (w1.alloc (.cells #[.slice (some ⟨gs, 0, none⟩) m.code.length m.code.length, .slice (some ⟨gb, 0, none⟩) m.code.length m.code.length, .int .i64 s.most] 137)).alloc (.cells #[.string m.params, .string m.locals, .string m.ret, .slice kp m.code.length kc] 53) = w2 at HL HI HU HST hA hB ⊢
 generalize w1.heap.size = B at hA hB ⊢
 have a0 : w2.cell? ⟨B, 0, none⟩ = some (.slice (some ⟨gs, 0, none⟩) m.code.length m.code.length) := by rw [cell_of hA]; rfl
 have a1 : w2.cell? ⟨B, 1, none⟩ = some (.slice (some ⟨gb, 0, none⟩) m.code.length m.code.length) := by rw [cell_of hA]; rfl
 have a2 : w2.cell? ⟨B, 2, none⟩ = some (.int .i64 s.most) := by rw [cell_of hA]; rfl
 have b0 : w2.cell? ⟨B + 1, 0, none⟩ = some (.string m.params) := by rw [cell_of hB]; rfl
 have b1 : w2.cell? ⟨B + 1, 1, none⟩ = some (.string m.locals) := by rw [cell_of hB]; rfl
 have b2 : w2.cell? ⟨B + 1, 2, none⟩ = some (.string m.ret) := by rw [cell_of hB]; rfl
 have b3 : w2.cell? ⟨B + 1, 3, none⟩ = some (.slice kp m.code.length kc) := by rw [cell_of hB]; rfl
 clear hA hB
 obtain ⟨tv, bv, hav⟩ := atV_form s m.code.length pc
 have HAV := Lib.hid hav
 clear hav
 go_wp2_with fail
 refine (at_ask gs gb m.code.length _ s pc w2 HL.out hc).mono ?_
 rintro e w3 ⟨rfl, hu3⟩
 rw [HAV.out]
 go_wp2_with fail
 go_ret2
 exact ⟨by rw [HMG.out, HSG.out, HAV.out]; rfl, HI.out.upd hu3, HU.out.trans (hu3.mono (T := [ib]) (by simp)), fun cv mv lv hb => hu3.heap (HST.out cv mv lv hb) (by simp)⟩

theorem stack_in (ib : Nat) (p : Prg) (ss : List Lk) (n : Int) (k : Nat) (pc : Int) (w : World) (h : InfoAt w ib p ss n) (hl : ss.length = p.ms.length) (hk : k < p.ms.length) (hc : (p.ms.getD k default).code.length ≤ 1000) (h0 : 0 ≤ n) (h1 : n ≤ 1000000000) :
  Calls Tryz.prog 32 #[.pointer (some ⟨ib, 0, none⟩), .int .i64 k, .int .i64 pc] w fun e w' => e = .returned (atV (ss.getD k default) (p.ms.getD k default).code.length pc) ∧ InfoAt w' ib p ss (n + 1) ∧ Upd [ib] w w' :=
 (stack_in2 ib p ss n k pc w h hl hk hc h0 h1).mono fun _ _ ⟨h1, h2, h3, _⟩ => ⟨h1, h2, h3⟩

/-- What is known of a program, since it was answered: only what was asked is counted. -/
structure InfoK (W0 w : World) (ib : Nat) (p : Prg) (ss : List Lk) (n0 n : Int) : Prop where
 base : InfoAt W0 ib p ss n0
 upd : Upd [ib] W0 w
 box : ∀ cv mv lv, W0.heap[ib]? = some (.cells #[cv, mv, lv, .int .i64 n0] 150) → w.heap[ib]? = some (.cells #[cv, mv, lv, .int .i64 n] 150)
theorem InfoK.start {w : World} {ib : Nat} {p : Prg} {ss : List Lk} {n : Int} (h : InfoAt w ib p ss n) : InfoK w w ib p ss n n := ⟨h, Upd.refl _ _, fun _ _ _ h => h⟩
theorem InfoK.now {W0 w : World} {ib : Nat} {p : Prg} {ss : List Lk} {n0 n : Int} (h : InfoK W0 w ib p ss n0 n) : InfoAt w ib p ss n := h.base.later h.upd h.box
theorem InfoK.lt {W0 w : World} {ib : Nat} {p : Prg} {ss : List Lk} {n0 n : Int} (h : InfoK W0 w ib p ss n0 n) : ib < W0.heap.size := by
 obtain ⟨_, _, _, hb, _⟩ := h.base
 exact lt_of_heap hb
theorem InfoK.step {W0 w w' : World} {ib : Nat} {p : Prg} {ss : List Lk} {n0 n : Int} (h : InfoK W0 w ib p ss n0 n) (hu : Upd [ib] w w') (hst : InfoStep w w' ib n) : InfoK W0 w' ib p ss n0 (n + 1) :=
 ⟨h.base, h.upd.trans hu, fun cv mv lv hb => hst cv mv lv (h.box cv mv lv hb)⟩
theorem InfoK.keep {W0 w w' : World} {ib : Nat} {p : Prg} {ss : List Lk} {n0 n : Int} {T : List Nat} (h : InfoK W0 w ib p ss n0 n) (hu : Upd T w w') (hT : ∀ q ∈ T, W0.heap.size ≤ q) : InfoK W0 w' ib p ss n0 n :=
 ⟨h.base, h.upd.trans' hu (fun q hq hl => by have := hT q hq; omega), fun cv mv lv hb => hu.heap (h.box cv mv lv hb) (fun hm => by have := hT ib hm; have := h.lt; omega)⟩

end Go.Proofs.YtojobkhidlfeoaaGreatDoor
