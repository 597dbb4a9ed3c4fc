/- model: zero, truth, word.One, Machine.end, burn. model: plain's closures: top, put, num. model: Machine.made: a new object. -/
import Derived.Test.YtojobkhidlfeoaaDoorMdM
import Derived.Deep.RegionHeld3
import Derived.BigQuiet
import Derived.Test.YtojobkhidlfeoaaDoorHeldL
import Derived.Deep.RegionLawGrows
/-! model: zero, truth, word.One, Machine.end, burn. -/
namespace Go.Proofs.YtojobkhidlfeoaaDoor
open Go.RowKit

set_option maxRecDepth 100000 in
theorem mzero_any (c : UInt8) (w : World) : Calls Tryd.prog 30 #[.int .u8 c.toNat] w fun e w' => e = .returned (.agg #[.bool (zeroV c).ref, .int .i64 (zeroV c).n]) ∧ Upd [] w w' := by
 have hu := fun a b => (Upd.refl [] w).alloc (.cells #[.bool a, .int .i64 b] 85)
 have HU := Lib.hid hu
 by_cases hc : c = 82
 ·subst hc
  clear hu
  go_enter Tryd.func30, Tryd.ntmps30
  go_wp2_with fail
  exact bodyPost_ret (v := .agg #[.bool true, .int .i64 (-1)]) (by simp [results, Tryd.results30, go_sem]) rfl ⟨rfl, HU.out _ _⟩
 ·have hd : ((c.toNat : Int) == 82) = false := by
   rw [beq_eq_false_iff_ne]
   intro e
   exact hc (UInt8.toNat_inj.1 (by have h : (82 : UInt8).toNat = 82 := rfl; omega))
  have hz : zeroV c = ⟨false, 0⟩ := by unfold zeroV; rw [if_neg hc]
  rw [hz]
  clear hu
  go_enter Tryd.func30, Tryd.ntmps30
  go_wp2_with fail
  exact bodyPost_ret (v := .agg #[.bool false, .int .i64 0]) (by simp [results, Tryd.results30, go_sem]) rfl ⟨rfl, HU.out _ _⟩
set_option maxRecDepth 100000 in
theorem mtruth_any (b : Bool) (w : World) : Calls Tryd.prog 48 #[.bool b] w fun e w' => e = .returned (.int .i64 (if b then 1 else 0)) ∧ w = w' := by
 cases b with
 | true =>
  go_enter Tryd.func48, Tryd.ntmps48
  go_wp2_with fail
  go_ret
  exact ⟨rfl, rfl⟩
 | false =>
  go_enter Tryd.func48, Tryd.ntmps48
  go_wp2_with fail
  go_ret
  exact ⟨rfl, rfl⟩
set_option maxRecDepth 100000 in
theorem wone_any (a : Int) (w : World) : Calls Tryd.prog 47 #[.int .i64 18, .int .i64 a] w fun e w' => e = .returned (.tuple #[.int .i64 (IntKind.i64.wrap (-a)), .bool true]) ∧ w = w' := by
 have HX := Lib.hid (show IntKind.i64.wrap (-a) = wrap64 (-a) from IntWalk.i64_left _)
 go_enter Tryd.func47, Tryd.ntmps47
 go_wp2_with fail
 go_ret2
 exact ⟨by rw [HX.out]; rfl, rfl⟩

section
variable {B : Nat} {w : World} {U R : List Nat} {mb ib : Nat} {p : Prg} {S : Mc} {X : MX} {f : Fm} {below : List Fm}
set_option maxRecDepth 100000 in
set_option maxHeartbeats 1000000 in
/-- The run ends at the frame on top. -/
theorem mend_any (k t : Int) (h : MAt B w U R mb ib p S X) (hf : S.frs = f :: below) (hfin : S.fin = none) :
  Calls Tryd.prog 35 #[.pointer (some ⟨mb, 0, none⟩), .int .i64 k, .int .i64 t] w fun e w' => e = .returned (.tuple #[]) ∧ MAt B w' (U ++ news w w') (R ++ news w w') mb ib p (S.stop k t f) X ∧ Upd [mb] w w' := by
 obtain ⟨g, gb, fb, c, hg, hgl, hfv, hc1, hc2, hR, _, c0, c1, c2, c3⟩ := h.top hf
 obtain ⟨⟨lp, lc, hlv⟩, sp, sc, hsv, hs1, hs2, hs3⟩ := h.topV hf hg
 rw [hlv] at c2
 rw [hsv] at c3
 have m5 : w.cell? ⟨mb, 5, none⟩ = some (.slice (some ⟨fb, 0, none⟩) (below.length + 1) c) := by rw [cell_of h.box, mccells, hfv]; rfl
 have hm : below.length + 1 ≤ 9223372036854775807 := by unfold maxLen at hc2; omega
 have s1 : IntKind.i64.wrap (((below.length + 1 : Nat) : Int) - 1) = (below.length : Int) := by rw [IntWalk.i64_in _ (by omega)]; omega
 have hl : below.length < below.length + 1 := by omega
 have H := Lib.hid h
 have HFIN := Lib.hid hfin
 have hdr := (Upd.refl [] w).drew
 have hal := fun W => (Upd.refl [] W).alloc (.cells #[.int .i64 0, .int .i64 0, .slice none 0 0, .slice none 0 0] 82)
 have b5 := (hal w).cell m5 (by simp)
 have b0 := (hal w).cell c0 (by simp)
 have b1 := (hal w).cell c1 (by simp)
 have b2 := (hal w).cell c2 (by simp)
 have b3 := (hal w).cell c3 (by simp)
 clear h hfin hg hfv hc2 hdr
 go_enter Tryd.func35, Tryd.ntmps35
 go_wp2_with fail
 go_region
 have hA := heap_alloc_new w (.cells #[.int .i64 f.m, .int .i64 f.pc, .slice lp f.loc.length lc, .slice sp f.stk.length sc] 82)
 have hU1 : Upd [] w (w.alloc (.cells #[.int .i64 f.m, .int .i64 f.pc, .slice lp f.loc.length lc, .slice sp f.stk.length sc] 82)).drew := ((Upd.refl [] w).alloc _).drew
 have hA1 : (w.alloc (.cells #[.int .i64 f.m, .int .i64 f.pc, .slice lp f.loc.length lc, .slice sp f.stk.length sc] 82)).drew.heap[w.heap.size]? = some (.cells #[.int .i64 f.m, .int .i64 f.pc, .slice lp f.loc.length lc, .slice sp f.stk.length sc] 82) := hA
 generalize (w.alloc (.cells #[.int .i64 f.m, .int .i64 f.pc, .slice lp f.loc.length lc, .slice sp f.stk.length sc] 82)).drew = w1 at hU1 hA1 ⊢
 have HA := Lib.hid (H.out.new hU1)
 have hlt : mb < w.heap.size := (H.out.low mb H.out.mine).2
 have hb := HA.out.box
 rw [mccells, HFIN.out] at hb
 have a0 : w1.cell? ⟨w.heap.size, 0, none⟩ = some (.int .i64 f.m) := by rw [cell_of hA1]; rfl
 have a1 : w1.cell? ⟨w.heap.size, 1, none⟩ = some (.int .i64 f.pc) := by rw [cell_of hA1]; rfl
 have n7 : w1.cell? ⟨mb, 7, none⟩ = some (.int .i64 0) := by rw [cell_of hb]; rfl
 have n8 : w1.cell? ⟨mb, 8, none⟩ = some (.int .i64 0) := by rw [cell_of hb]; rfl
 have n9 : w1.cell? ⟨mb, 9, none⟩ = some (.int .i64 0) := by rw [cell_of hb]; rfl
 have n10 : w1.cell? ⟨mb, 10, none⟩ = some (.int .i64 0) := by rw [cell_of hb]; rfl
 have n13 : w1.cell? ⟨mb, 13, none⟩ = some (.bool false) := by rw [cell_of hb]; rfl
 have z7 := froz_of hb 7
 have z8 := froz_of hb 8
 have z9 := froz_of hb 9
 have z10 := froz_of hb 10
 have z13 := froz_of hb 13
 have hne : mb ≠ w.heap.size := by omega
 have HU1 := Lib.hid hU1
 have HB := Lib.hid hb
 clear hA hA1 hU1 hb b0 b1 b2 b3 b5 c0 c1 c2 c3 m5 hal
 go_wp2_with fail
 go_region
 have k1 := heap_setCell HB.out 7 (.int .i64 k)
 have k2 := heap_setCell k1 8 (.int .i64 t)
 have k3 := heap_setCell k2 9 (.int .i64 f.m)
 have k4 := heap_setCell k3 10 (.int .i64 f.pc)
 have hU2 : Upd [mb] w1 ((((w1.setCell ⟨mb, 7, none⟩ (.int .i64 k)).setCell ⟨mb, 8, none⟩ (.int .i64 t)).setCell ⟨mb, 9, none⟩ (.int .i64 f.m)).setCell ⟨mb, 10, none⟩ (.int .i64 f.pc)).drew := (((((Upd.refl [mb] w1).setCell (.inl (by simp)) _).setCell (.inl (by simp)) _).setCell (.inl (by simp)) _).setCell (.inl (by simp)) _).drew
 have hz2 : ((((w1.setCell ⟨mb, 7, none⟩ (.int .i64 k)).setCell ⟨mb, 8, none⟩ (.int .i64 t)).setCell ⟨mb, 9, none⟩ (.int .i64 f.m)).setCell ⟨mb, 10, none⟩ (.int .i64 f.pc)).drew.heap.size = w1.heap.size := by simp [World.setCell]
 have k5 : ((((w1.setCell ⟨mb, 7, none⟩ (.int .i64 k)).setCell ⟨mb, 8, none⟩ (.int .i64 t)).setCell ⟨mb, 9, none⟩ (.int .i64 f.m)).setCell ⟨mb, 10, none⟩ (.int .i64 f.pc)).drew.heap[mb]? = some (.cells #[.pointer (some ⟨ib, 0, none⟩), X.cv, X.mv, X.iv, .int .i64 S.fuel, X.fv, X.ov, .int .i64 k, .int .i64 t, .int .i64 f.m, .int .i64 f.pc, .int .i64 0, X.uv, .bool false] 78) := k4
 generalize ((((w1.setCell ⟨mb, 7, none⟩ (.int .i64 k)).setCell ⟨mb, 8, none⟩ (.int .i64 t)).setCell ⟨mb, 9, none⟩ (.int .i64 f.m)).setCell ⟨mb, 10, none⟩ (.int .i64 f.pc)).drew = w2 at hU2 hz2 k5 ⊢
 have n13 : w2.cell? ⟨mb, 13, none⟩ = some (.bool false) := by rw [cell_of k5]; rfl
 have z13 := froz_of k5 13
 have HU2 := Lib.hid hU2
 have HZ2 := Lib.hid hz2
 have K5 := Lib.hid k5
 clear k1 k2 k3 k4 k5 hU2 hz2 HB
 go_wp2_with fail
 go_end0
 have k6 := heap_setCell K5.out 13 (.bool true)
 have hU3 : Upd [mb] w1 (w2.setCell ⟨mb, 13, none⟩ (.bool true)) := HU2.out.setCell (.inl (by simp)) _
 have hz3 : (w2.setCell ⟨mb, 13, none⟩ (.bool true)).heap.size = w1.heap.size := by rw [size_set, HZ2.out]
 refine ⟨rfl, ?_, ?_⟩
 ·rw [news_same hz3]
  exact HA.out.boxed (S' := S.stop k t f) (iv' := X.iv) hU3 k6 rfl rfl rfl HA.out.inp
 ·exact (HU1.out.mono (T := [mb]) (by simp)).trans hU3
set_option maxRecDepth 100000 in
theorem mburn_none (h : MAt B w U R mb ib p S X) (hf : S.frs = f :: below) (hfin : S.fin = none) (hz : S.fuel = 0) :
  Calls Tryd.prog 32 #[.pointer (some ⟨mb, 0, none⟩)] w fun e w' => e = .returned (.bool false) ∧ MAt B w' (U ++ news w w') (R ++ news w w') mb ib p (S.stop 3 0 f) X ∧ Upd [mb] w w' := by
 have m4 : w.cell? ⟨mb, 4, none⟩ = some (.int .i64 0) := by rw [cell_of h.box, mccells, hz]; rfl
 have HE := Lib.hid (mend_any 3 0 h hf hfin)
 clear h hfin hz
 go_enter Tryd.func32, Tryd.ntmps32
 go_wp2_with fail
 refine HE.out.mono ?_
 rintro e w' ⟨rfl, h1, h2⟩
 have H1 := Lib.hid h1
 have H2 := Lib.hid h2
 clear h1 h2
 go_wp2_with fail
 go_ret
 exact ⟨rfl, H1.out, H2.out⟩
set_option maxRecDepth 100000 in
theorem mburn_one (h : MAt B w U R mb ib p S X) {k : Nat} (hk : S.fuel = k + 1) (hk2 : k + 1 ≤ 2000) :
  Calls Tryd.prog 32 #[.pointer (some ⟨mb, 0, none⟩)] w fun e w' => e = .returned (.bool true) ∧ MAt B w' (U ++ news w w') (R ++ news w w') mb ib p { S with fuel := k } X ∧ Upd [mb] w w' := by
 have hb := h.box
 rw [mccells, hk] at hb
 have m4 : w.cell? ⟨mb, 4, none⟩ = some (.int .i64 (k + 1 : Nat)) := by rw [cell_of hb]; rfl
 have z4 := froz_of hb 4
 have s1 : IntKind.i64.wrap (((k + 1 : Nat) : Int) - 1) = (k : Int) := by rw [IntWalk.i64_in _ (by omega)]; omega
 have d0 : (((k + 1 : Nat) : Int) == 0) = false := by rw [beq_eq_false_iff_ne]; omega
 have H := Lib.hid h
 have HB := Lib.hid hb
 clear h hb
 go_enter Tryd.func32, Tryd.ntmps32
 go_wp2_with fail
 go_ret
 have k6 := heap_setCell HB.out 4 (.int .i64 k)
 have hU3 : Upd [mb] w (w.setCell ⟨mb, 4, none⟩ (.int .i64 k)) := (Upd.refl [mb] w).setCell (.inl (by simp)) _
 have hz3 : (w.setCell ⟨mb, 4, none⟩ (.int .i64 k)).heap.size = w.heap.size := size_set _ _ _
 refine ⟨rfl, ?_, hU3⟩
 rw [news_same hz3, news_self, List.append_nil, List.append_nil]
 exact H.out.boxed (S' := { S with fuel := k }) (iv' := X.iv) hU3 k6 rfl rfl rfl H.out.inp
end
end Go.Proofs.YtojobkhidlfeoaaDoor

/-! model: plain's closures: top, put, num. -/
namespace Go.Proofs.YtojobkhidlfeoaaDoor
open Go.RowKit

section
variable {B : Nat} {w : World} {U R : List Nat} {mb ib : Nat} {p : Prg} {S : Mc} {X : MX} {f : Fm} {below : List Fm}
set_option maxRecDepth 100000 in
set_option maxHeartbeats 1000000 in
theorem mtop_any (i : Nat) {cb fb c : Nat} (h : MAt B w U R mb ib p S X) (hf : S.frs = f :: below) (hfv : X.fv = .slice (some ⟨fb, 0, none⟩) (below.length + 1) c) (hcb : w.heap[cb]? = some (.cells #[.pointer (some ⟨fb, below.length * 4, none⟩)] 98)) (hi : i < f.stk.length) :
  Calls Tryd.prog 44 #[.int .i64 i, .pointer (some ⟨cb, 0, none⟩)] w fun e w' => e = .returned (.agg #[.bool (tp f.stk i).ref, .int .i64 (tp f.stk i).n]) ∧ Upd [] w w' := by
 obtain ⟨g, gb, fb2, c2, hg, hgl, hfv2, _, _, hR, _, _, _, _, c3⟩ := h.top hf
 rw [hfv] at hfv2
 injection hfv2 with e1 _ e3
 injection e1 with e1
 injection e1 with e1
 subst e1 e3
 obtain ⟨_, sp, sc, hsv, hs1, hs2, _⟩ := h.topV hf hg
 obtain ⟨b, hread, _⟩ := (h.stk 0 (by rw [hf]; simp)).read
 rw [hf, hg] at hread
 have hread2 : VlV w g.sv b 0 f.stk := hread
 rw [hsv] at c3 hread2
 obtain ⟨⟨p', c', he, hp⟩, hcell⟩ := hread2
 have hne : f.stk ≠ [] := fun e => by rw [e] at hi; simp at hi
 have hsp := hp hne
 injection he with e1 _ e3
 subst e1 e3
 subst hsp
 obtain ⟨x0, x1⟩ := hcell (f.stk.length - 1 - i) (by omega)
 have etp : f.stk.getD (f.stk.length - 1 - i) default = tp f.stk i := rfl
 rw [etp, Nat.zero_add] at x0 x1
 have hm : f.stk.length ≤ 9223372036854775807 := by unfold maxLen at hs2; omega
 have q0 : w.cell? ⟨cb, 0, none⟩ = some (.pointer (some ⟨fb, below.length * 4, none⟩)) := by rw [cell_of hcb]; rfl
 have hu := (Upd.refl [] w).alloc (.cells #[.bool false, .int .i64 0] 85)
 have hA := heap_alloc_new w (.cells #[.bool false, .int .i64 0] 85)
 have y0 := hu.cell x0 (by simp)
 have y1 := hu.cell x1 (by simp)
 have yq := hu.cell q0 (by simp)
 have y3 := hu.cell c3 (by simp)
 have s1 : IntKind.i64.wrap ((f.stk.length : Int) - 1) = ((f.stk.length - 1 : Nat) : Int) := by rw [IntWalk.i64_in _ (by omega)]; omega
 have s2 : IntKind.i64.wrap (((f.stk.length - 1 : Nat) : Int) - (i : Int)) = ((f.stk.length - 1 - i : Nat) : Int) := by rw [IntWalk.i64_in _ (by omega)]; omega
 have hl : f.stk.length - 1 - i < f.stk.length := by omega
 have HU := Lib.hid hu
 clear h hf hg hcell hread hp x0 x1 q0 c3 hcb hfv
 generalize tp f.stk i = t at y0 y1 ⊢
 generalize f.stk.length - 1 - i = k at s2 hl y0 y1
 generalize f.stk.length = n at y3 s1 s2 hl hs1 hi hm
 go_enter Tryd.func44, Tryd.ntmps44
 go_upto_region 1 with fail
 generalize w.alloc (.cells #[.bool false, .int .i64 0] 85) = w1 at HU hA y0 y1 yq y3 ⊢
 have r0 : w1.cell? ⟨w.heap.size, 0, none⟩ = some (.bool false) := by rw [cell_of hA]; rfl
 have r1 : w1.cell? ⟨w.heap.size, 1, none⟩ = some (.int .i64 0) := by rw [cell_of hA]; rfl
 have z0 := froz_of hA 0
 have z1 := froz_of hA 1
 have HA := Lib.hid hA
 clear hA hu
 go_region
 have k1 := heap_setCell HA.out 0 (.bool t.ref)
 have k2 := heap_setCell k1 1 (.int .i64 t.n)
 have d0 := cell_of k2 0
 have d1 := cell_of k2 1
 simp at d0 d1
 have hu3 : Upd [] w (((w1.setCell ⟨w.heap.size, 0, none⟩ (.bool t.ref)).setCell ⟨w.heap.size, 1, none⟩ (.int .i64 t.n)).drew) := ((HU.out.setCell (.inr (Nat.le_refl _)) _).setCell (.inr (Nat.le_refl _)) _).drew
 generalize hw3 : ((w1.setCell ⟨w.heap.size, 0, none⟩ (.bool t.ref)).setCell ⟨w.heap.size, 1, none⟩ (.int .i64 t.n)) = w3 at d0 d1 hu3 ⊢
 have e0 : w3.drew.cell? ⟨w.heap.size, 0, none⟩ = some (.bool t.ref) := d0
 have e1 : w3.drew.cell? ⟨w.heap.size, 1, none⟩ = some (.int .i64 t.n) := d1
 generalize w3.drew = w4 at e0 e1 hu3 ⊢
 clear hw3 d0 d1
 go_wp2_with fail
 exact bodyPost_ret (v := .agg #[.bool t.ref, .int .i64 t.n]) (by simp [results, Tryd.results44, go_sem, e0, e1]) rfl ⟨rfl, hu3⟩
theorem Tryd.infoMValue : (Tryd.prog.info? 85).map (fun i => (i.zero, i.size, i.bytes)) = some (some (.agg #[.bool false, .int .i64 0]), 2, 16) := by kernel_rfl

set_option maxRecDepth 100000 in
set_option maxHeartbeats 1000000 in
theorem mput_none (k : Nat) {cb fb c : Nat} (h : MAt B w U R mb ib p S X) (hf : S.frs = f :: below) (hfv : X.fv = .slice (some ⟨fb, 0, none⟩) (below.length + 1) c) (hcb : w.heap[cb]? = some (.cells #[.pointer (some ⟨fb, below.length * 4, none⟩)] 98)) (hk : k ≤ f.stk.length) (hn : f.stk.length ≤ 1000) :
  Calls Tryd.prog 45 #[.int .i64 k, .slice none 0 0, .pointer (some ⟨cb, 0, none⟩)] w fun e w' => e = .returned (.tuple #[]) ∧ (∃ gs', MAt B w' (U ++ news w w') (R ++ news w w') mb ib p { S with frs := { f with stk := cutV f.stk k } :: below } { X with gs := gs' }) ∧ Upd [fb] w w' := by
 obtain ⟨i0, hi, hz0, hz1, hz2⟩ := info_parts Tryd.infoMValue
 have HI := Lib.hid hi
 have HZ0 := Lib.hid hz0
 have HZ1 := Lib.hid hz1
 have HZ2 := Lib.hid hz2
 clear hi hz0 hz1 hz2
 obtain ⟨g, gb, fb2, c2, hg, hgl, hfv2, _, _, hR, hfq, _, _, _, c3⟩ := h.top hf
 rw [hfv] at hfv2
 injection hfv2 with e1 _ e3
 injection e1 with e1
 injection e1 with e1
 subst e1 e3
 obtain ⟨q, hq⟩ := hfq
 obtain ⟨_, sp, sc, hsv, hs1, hs2, hs3⟩ := h.topV hf hg
 rw [hsv] at c3
 have z3 := froz_of hq (below.length * 4 + 3)
 have q0 : w.cell? ⟨cb, 0, none⟩ = some (.pointer (some ⟨fb, below.length * 4, none⟩)) := by rw [cell_of hcb]; rfl
 have s1 : IntKind.i64.wrap ((f.stk.length : Int) - (k : Int)) = ((f.stk.length - k : Nat) : Int) := by rw [IntWalk.i64_in _ (by omega)]; omega
 have hst0 := h.stk 0 (by rw [hf]; simp)
 rw [hf, hg] at hst0
 have hst1 : StV w R (blks ((g :: gb).map FmV.lv)) (blks X.os) g.sv f.stk := hst0
 have hlen : (cutV f.stk k).length = f.stk.length - k := by unfold cutV; rw [List.length_take]; omega
 have hst2 : StV w R (blks (X.gs.map FmV.lv)) (blks X.os) (.slice sp (f.stk.length - k) (f.stk.length - k)) (cutV f.stk k) := by
  obtain ⟨b, h1, h2⟩ := hst1.read
  rw [hsv] at h1
  refine ⟨⟨b, ?_, fun hne => ?_⟩, ⟨sp, f.stk.length - k, by rw [hlen], by omega, by unfold maxLen; omega, fun e => by have := hs3 e; omega⟩⟩
  ·have h3 := h1.take (f.stk.length - k) (f.stk.length - k)
   unfold cutV
   rwa [List.length_take, Nat.min_eq_left (by omega)] at h3
  ·rw [hg]
   exact h2 (fun e => hne (by unfold cutV; rw [e]; simp))
 have hset := h.setTop (f' := { f with stk := cutV f.stk k }) (g' := ⟨g.lv, .slice sp (f.stk.length - k) (f.stk.length - k)⟩) (k := 3) (u := .slice sp (f.stk.length - k) (f.stk.length - k)) hf hg hfv (by omega) rfl rfl rfl hst2
 have HSET := Lib.hid hset
 have hsp : sp = none → f.stk.length - k = 0 := fun e => by have := hs3 e; omega
 have HSP := Lib.hid hsp
 have hnk : f.stk.length - k ≤ sc := by omega
 have hnl : f.stk.length - k ≤ 1000 := by omega
 clear h hf hg hfv hst0 hst1 hst2 hset hsp hq hcb
 generalize hnn : f.stk.length - k = nk at s1 HSET HSP hnk hnl
 clear hnn
 generalize f.stk.length = n at c3 s1 hs1 hk hn
 go_enter Tryd.func45, Tryd.ntmps45
 go_upto_region 0 with fail
 refine wp_region_noPanic ?_
 refine wp_region_L (S := fun w' => w'.cell? ⟨cb, 0, none⟩ = some (.pointer (some ⟨fb, below.length * 4, none⟩)) ∧ w'.cell? ⟨fb, below.length * 4 + 3, none⟩ = some (.slice sp n sc)) 24 (by kernel_rfl) ?_ (fun hHeld => ?_)
 ·exact ⟨q0, c3⟩
 refine Nx.start [(0, []), (1, []), (2, []), (3, []), (4, []), (5, []), (6, []), (7, []), (8, []), (9, []), (10, []), (11, []), (12, []), (13, []), (14, []), (15, []), (16, []), (17, []), (18, []), (19, []), (20, [])] ?_
 iterate 21
  refine Nx.l (oi := ?_) (v := ?_) ?_ (by kernel_rfl) (fun _ _ _ h => h) ?_ ?_ hHeld ?_
  rotate_left 2
  ·simp only [List.getElem?_toArray, List.getElem?_cons_zero, List.getElem?_cons_succ]; rfl
  ·rfl
  ·intro _ hSw; (try dsimp only at hSw); go_simp <;> with_reducible rfl
  (try simp only [Act.put, List.setIfInBounds_toArray, List.set_cons_zero, List.set_cons_succ])
 refine Nx.stop ?_
 refine wpAnyL_one (i := 21) (o := ?_) (by kernel_rfl) ?_ (fun K hK => ?_)
 rotate_left 1
 ·simp only [List.getElem?_toArray, List.getElem?_cons_zero, List.getElem?_cons_succ]; rfl
 clear hHeld
 refine step_append_none rfl (.tmp 24) (.tmp 25) 80 rfl 85 i0 Tryd.underlying80 HI.out sp nk rfl HSP.out rfl ?_
 refine hK.out _ _ ?_ (fun hHeld => ?_)
 ·exact ⟨q0, c3⟩
 clear hK K
 (try simp only [Act.put, List.setIfInBounds_toArray, List.set_cons_zero, List.set_cons_succ])
 refine wpAnyL_one (i := 22) (o := ?_) (by kernel_rfl) ?_ (fun K hK => ?_)
 rotate_left 1
 ·simp only [List.getElem?_toArray, List.getElem?_cons_zero, List.getElem?_cons_succ]; rfl
 clear hHeld
 go_simp
 refine hK.out _ _ ?_ (fun hHeld => ?_)
 ·exact ⟨q0, c3⟩
 clear hK K
 (try simp only [Act.put, List.setIfInBounds_toArray, List.set_cons_zero, List.set_cons_succ])
 refine wpAnyL_take (i := 23) (oi := ?_) (v := ?_) ?_ (by kernel_rfl) (by kernel_rfl) (by kernel_rfl) (by kernel_rfl) (fun _ _ _ h => h) (Or.inl ⟨?_, ?_⟩) hHeld ?_
 rotate_left 2
 ·simp only [List.getElem?_toArray, List.getElem?_cons_zero, List.getElem?_cons_succ]; rfl
 ·rfl
 ·intro _ hSw; (try dsimp only at hSw); go_simp <;> with_reducible rfl
 (try simp only [Act.put, List.setIfInBounds_toArray, List.set_cons_zero, List.set_cons_succ])
 refine wpAnyL_last (o := ?_) (by kernel_rfl) ?_ (fun K hK => ?_)
 rotate_left 1
 ·simp only [List.getElem?_toArray, List.getElem?_cons_zero, List.getElem?_cons_succ]; rfl
 clear hHeld
 go_simp
 refine hK.out _ _ ?_
 clear hK K
 (try simp only [Act.put, List.setIfInBounds_toArray, List.set_cons_zero, List.set_cons_succ])
 refine wpAnyL_done (by kernel_rfl) ?_ _
 refine NoPanic.normal ?_
 go_end0
 have hz : (w.setCell ⟨fb, below.length * 4 + 3, none⟩ (.slice sp nk nk)).drew.heap.size = w.heap.size := size_set _ _ _
 obtain ⟨hm1, hm2⟩ := HSET.out
 refine ⟨rfl, ⟨⟨g.lv, .slice sp nk nk⟩ :: gb, ?_⟩, hm2.drew⟩
 rw [news_same hz, news_self, List.append_nil, List.append_nil]
 exact hm1.drew
theorem own_pos {w : World} {B : Nat} {e : TypeId} {sz n : Nat} {v : Value} {xs : List Value} (h : w.ownsRow B e sz v n xs) (hn : 0 < n) : ∃ g c cur, v = .slice (some ⟨g, 0, none⟩) n c ∧ B ≤ g ∧ w.heap[g]? = some (.cells cur e) ∧ n ≤ c ∧ c ≤ maxLen := by
 rcases h.2 with ⟨_, h2⟩ | ⟨g, c, cur, h1, h2, h3, h4, h5, _⟩
 ·omega
 ·exact ⟨g, c, cur, h1, h2, h3, h4, h5⟩

set_option maxRecDepth 100000 in
set_option maxHeartbeats 1000000 in
theorem mput_some (k : Nat) (l : List Vl) (hl0 : l ≠ []) (hl1 : l.length ≤ 1000) {cb fb c ab ao lc : Nat} (hl : VlV w (.slice (some ⟨ab, ao, none⟩) l.length lc) ab ao l) (h : MAt B w U R mb ib p S X) (hf : S.frs = f :: below) (hfv : X.fv = .slice (some ⟨fb, 0, none⟩) (below.length + 1) c) (hcb : w.heap[cb]? = some (.cells #[.pointer (some ⟨fb, below.length * 4, none⟩)] 98)) (hk : k ≤ f.stk.length) (hn : f.stk.length ≤ 1000) :
  Calls Tryd.prog 45 #[.int .i64 k, .slice (some ⟨ab, ao, none⟩) l.length lc, .pointer (some ⟨cb, 0, none⟩)] w fun e w' => e = .returned (.tuple #[]) ∧ (∃ gs', MAt B w' (U ++ news w w') (R ++ news w w') mb ib p { S with frs := { f with stk := cutV f.stk k ++ l } :: below } { X with gs := gs' }) ∧ Upd [fb] w w' := by
 obtain ⟨i0, hi, hz0, hz1, hz2⟩ := info_parts Tryd.infoMValue
 have HI := Lib.hid hi
 have HZ0 := Lib.hid hz0
 have HZ1 := Lib.hid hz1
 have HZ2 := Lib.hid hz2
 clear hi hz0 hz1 hz2
 obtain ⟨g, gb, fb2, c2, hg, hgl, hfv2, _, _, hR, hfq, _, _, _, c3⟩ := h.top hf
 rw [hfv] at hfv2
 injection hfv2 with e1 _ e3
 injection e1 with e1
 injection e1 with e1
 subst e1 e3
 obtain ⟨q, hq⟩ := hfq
 obtain ⟨_, sp, sc, hsv, hs1, hs2, hs3⟩ := h.topV hf hg
 rw [hsv] at c3
 have q0 : w.cell? ⟨cb, 0, none⟩ = some (.pointer (some ⟨fb, below.length * 4, none⟩)) := by rw [cell_of hcb]; rfl
 have s1 : IntKind.i64.wrap ((f.stk.length : Int) - (k : Int)) = ((f.stk.length - k : Nat) : Int) := by rw [IntWalk.i64_in _ (by omega)]; omega
 have hst0 := h.stk 0 (by rw [hf]; simp)
 rw [hf, hg] at hst0
 have hst1 : StV w R (blks ((g :: gb).map FmV.lv)) (blks X.os) g.sv f.stk := hst0
 have hlen : (cutV f.stk k).length = f.stk.length - k := by unfold cutV; rw [List.length_take]; omega
 have hol : ∀ b, sp = some b → ∀ j u, (vcells (cutV f.stk k))[j]? = some u → w.cell? (b.add j) = some u := fun b hb j u hj => by
  obtain ⟨b', h1, h2⟩ := hst1.read
  rw [hsv] at h1
  have h3 := h1.take (f.stk.length - k) (f.stk.length - k)
  have h4 : VlV w (.slice sp (cutV f.stk k).length (f.stk.length - k)) b' 0 (cutV f.stk k) := h3
  have hne : cutV f.stk k ≠ [] := fun e => by rw [e] at hj; simp [vcells] at hj
  obtain ⟨⟨p', c', he, hp⟩, _⟩ := id h4
  injection he with e1
  subst e1
  have hb2 := hp hne
  rw [hb] at hb2
  injection hb2 with hb2
  subst hb2
  rw [Addr.add_lit, Nat.zero_add]
  have := h4.cells j u hj
  rwa [Nat.zero_add] at this
 have hsp : sp = none → f.stk.length - k = 0 ∧ f.stk.length - k = 0 := fun e => by have := hs3 e; omega
 -- behind the append: the store
 have HAPP : Hid (∀ v' w', w'.ownsRow w.drew.heap.size 85 2 v' (f.stk.length - k + l.length) (vcells (cutV f.stk k) ++ vcells l) → w.drew.grownBy w' none → ∃ g2 c2, v' = .slice (some ⟨g2, 0, none⟩) (f.stk.length - k + l.length) c2 ∧ w'.cell? ⟨cb, 0, none⟩ = some (.pointer (some ⟨fb, below.length * 4, none⟩)) ∧ w'.cell? ⟨fb, below.length * 4 + 3, none⟩ = some (.slice sp f.stk.length sc) ∧ w'.frozen? ⟨fb, below.length * 4 + 3, none⟩ = false ∧
   Hid ((∃ gs', MAt B (w'.setCell ⟨fb, below.length * 4 + 3, none⟩ v') (U ++ news w (w'.setCell ⟨fb, below.length * 4 + 3, none⟩ v')) (R ++ news w (w'.setCell ⟨fb, below.length * 4 + 3, none⟩ v')) mb ib p { S with frs := { f with stk := cutV f.stk k ++ l } :: below } { X with gs := gs' }) ∧ Upd [fb] w (w'.setCell ⟨fb, below.length * 4 + 3, none⟩ v'))) := fun v' w' hown hgr => by
  have hu : Upd [] w w' := ((Upd.refl [] w).drew).grown hgr (by simp)
  obtain ⟨g2, c2, cur, hv, hg2, hcur, hc1, hc2⟩ := own_pos hown (by have := List.length_pos_iff.2 hl0; omega)
  have hg2' : w.heap.size ≤ g2 := hg2
  refine ⟨g2, c2, hv, hu.cell q0 (by simp), hu.cell c3 (by simp), froz_of (hu.heap hq (by simp)) _, ?_⟩
  have h1 := h.new hu
  have hz : (w'.setCell ⟨fb, below.length * 4 + 3, none⟩ v').heap.size = w'.heap.size := size_set _ _ _
  have hst : StV w' (R ++ news w w') (blks (X.gs.map FmV.lv)) (blks X.os) v' (cutV f.stk k ++ l) := by
   have hown2 : OwnV 85 w' w.heap.size v' (cutV f.stk k ++ l) := by
    unfold OwnV
    rw [vcells_app, List.length_append, hlen]
    exact hown
   obtain ⟨b, h2, h3⟩ := hown2.read
   refine ⟨⟨b, h2, fun hne => ?_⟩, ⟨some ⟨g2, 0, none⟩, c2, by rw [hv, List.length_append, hlen], by rw [List.length_append, hlen]; exact hc1, hc2, fun e => by cases e⟩⟩
   have hb : b = g2 := by
    rcases h3 with h3 | h3
    ·exact absurd h3 hne
    ·rw [hv] at h3
     simp only [Value.ownBlock, Option.some.injEq] at h3
     exact h3.symm
   subst hb
   refine ⟨List.mem_append.2 (.inr (mem_news.2 ⟨hg2', lt_of_heap hcur⟩)), fun hm => ?_, fun hm => ?_, cur, hcur⟩
   ·have := h.loc.lt _ hm; omega
   ·have := h.val.lt _ hm; omega
  have h2 := h1.setTop (f' := { f with stk := cutV f.stk k ++ l }) (g' := ⟨g.lv, v'⟩) (k := 3) (u := v') hf hg hfv (by omega) rfl rfl rfl hst
  refine ⟨⟨⟨g.lv, v'⟩ :: gb, ?_⟩, ?_⟩
  ·rw [news_same hz]
   exact h2.1
  ·exact (hu.mono (T := [fb]) (by simp)).trans h2.2
 have HOL := Lib.hid hol
 have HSP := Lib.hid hsp
 have HLC := Lib.hid hl
 have HL0 := Lib.hid (List.length_pos_iff.2 hl0)
 have hnk : f.stk.length - k ≤ sc := by omega
 have hnl : f.stk.length - k ≤ 1000 := by omega
 have HOLL : Hid ((vcells (cutV f.stk k)).length = (f.stk.length - k) * 2) := by show _ = _; rw [vcells_len, hlen]
 clear h hf hg hfv hst0 hst1 hol hsp hcb hq hl hl0 hlen
 generalize hnn : f.stk.length - k = nk at s1 HAPP HSP hnk hnl HOLL
 clear hnn
 generalize vcells (cutV f.stk k) = olds at HAPP HOL HOLL
 generalize f.stk.length = n at c3 s1 hs1 hk hn HAPP
 go_enter Tryd.func45, Tryd.ntmps45
 go_upto_region 0 with fail
 refine wp_region_noPanic ?_
 refine wp_region_L (S := fun w' => w'.cell? ⟨cb, 0, none⟩ = some (.pointer (some ⟨fb, below.length * 4, none⟩)) ∧ w'.cell? ⟨fb, below.length * 4 + 3, none⟩ = some (.slice sp n sc)) 24 (by kernel_rfl) ?_ (fun hHeld => ?_)
 ·first | exact ⟨q0, c3⟩ | exact ⟨q1, c4⟩
 refine Nx.start [(0, []), (1, []), (2, []), (3, []), (4, []), (5, []), (6, []), (7, []), (8, []), (9, []), (10, []), (11, []), (12, []), (13, []), (14, []), (15, []), (16, []), (17, []), (18, []), (19, []), (20, [])] ?_
 iterate 21
  refine Nx.l (oi := ?_) (v := ?_) ?_ (by kernel_rfl) (fun _ _ _ h => h) ?_ ?_ hHeld ?_
  rotate_left 2
  ·simp only [List.getElem?_toArray, List.getElem?_cons_zero, List.getElem?_cons_succ]; rfl
  ·rfl
  ·intro _ hSw; (try dsimp only at hSw); go_simp <;> with_reducible rfl
  (try simp only [Act.put, List.setIfInBounds_toArray, List.set_cons_zero, List.set_cons_succ])
 refine Nx.stop ?_
 refine wpAnyL_one (i := 21) (o := ?_) (by kernel_rfl) ?_ (fun K hK => ?_)
 rotate_left 1
 ·simp only [List.getElem?_toArray, List.getElem?_cons_zero, List.getElem?_cons_succ]; rfl
 clear hHeld
 refine step_append_grows rfl (.tmp 24) (.tmp 25) 80 rfl 85 i0 (.agg #[.bool false, .int .i64 0]) 2 16 Tryd.underlying80 HI.out HZ0.out HZ1.out HZ2.out rfl (by decide) sp nk nk olds rfl HSP.out HOLL.out HOL.out ⟨ab, ao, none⟩ l.length lc (vcells l) rfl (vcells_len _) (fun j u hj => by rw [Addr.add_lit]; exact HLC.out.cells j u hj) (vcells_one _) (by have := HL0.out; omega) (by unfold maxLen; omega) (by omega) ?_; intro v' w' hown hgrow; obtain ⟨g2, c2, rfl, q1, c4, z4, HM⟩ := HAPP.out v' w' hown hgrow; clear hown hgrow
 refine hK.out _ _ ?_ (fun hHeld => ?_)
 ·first | exact ⟨q0, c3⟩ | exact ⟨q1, c4⟩
 clear hK K
 (try simp only [Act.put, List.setIfInBounds_toArray, List.set_cons_zero, List.set_cons_succ])
 refine wpAnyL_one (i := 22) (o := ?_) (by kernel_rfl) ?_ (fun K hK => ?_)
 rotate_left 1
 ·simp only [List.getElem?_toArray, List.getElem?_cons_zero, List.getElem?_cons_succ]; rfl
 clear hHeld
 go_simp
 refine hK.out _ _ ?_ (fun hHeld => ?_)
 ·first | exact ⟨q0, c3⟩ | exact ⟨q1, c4⟩
 clear hK K
 (try simp only [Act.put, List.setIfInBounds_toArray, List.set_cons_zero, List.set_cons_succ])
 refine wpAnyL_take (i := 23) (oi := ?_) (v := ?_) ?_ (by kernel_rfl) (by kernel_rfl) (by kernel_rfl) (by kernel_rfl) (fun _ _ _ h => h) (Or.inl ⟨?_, ?_⟩) hHeld ?_
 rotate_left 2
 ·simp only [List.getElem?_toArray, List.getElem?_cons_zero, List.getElem?_cons_succ]; rfl
 ·rfl
 ·intro _ hSw; (try dsimp only at hSw); go_simp <;> with_reducible rfl
 (try simp only [Act.put, List.setIfInBounds_toArray, List.set_cons_zero, List.set_cons_succ])
 refine wpAnyL_last (o := ?_) (by kernel_rfl) ?_ (fun K hK => ?_)
 rotate_left 1
 ·simp only [List.getElem?_toArray, List.getElem?_cons_zero, List.getElem?_cons_succ]; rfl
 clear hHeld
 go_simp
 refine hK.out _ _ ?_
 clear hK K
 (try simp only [Act.put, List.setIfInBounds_toArray, List.set_cons_zero, List.set_cons_succ])
 refine wpAnyL_done (by kernel_rfl) ?_ _
 refine NoPanic.normal ?_
 go_end0
 exact ⟨rfl, HM.out⟩
end
end Go.Proofs.YtojobkhidlfeoaaDoor

/-! model: Machine.made: a new object. -/
namespace Go.Proofs.YtojobkhidlfeoaaDoor
open Go.RowKit

/-- The cells of a new row. -/
theorem row_new (t : TypeId) (w : World) (l : List Vl) (j : Nat) (u : Value) (h : (vcells l)[j]? = some u) : (w.alloc (.cells (vcells l).toArray t)).cell? ((⟨w.heap.size, 0, none⟩ : Addr).add j) = some u := by
 rw [Addr.add_lit, Nat.zero_add, cell_of (heap_alloc_new w _)]
 simpa using h
theorem vcells_one1 (z : Vl) : (vcells [z]).toArray = #[.bool z.ref, .int .i64 z.n] := rfl
theorem v1_new (t : TypeId) (w : World) (z : Vl) (j : Nat) (u : Value) (h : ([Value.bool z.ref, .int .i64 z.n])[j]? = some u) : (w.alloc (.cells #[.bool z.ref, .int .i64 z.n] t)).cell? ((⟨w.heap.size, 0, none⟩ : Addr).add j) = some u := row_new t w [z] j u h
theorem MAt.cls' {B : Nat} {w : World} {U R : List Nat} {mb ib : Nat} {p : Prg} {S : Mc} {X : MX} (h : MAt B w U R mb ib p S X) : ClassAt w X.cv p.cs := h.cls.reads (fun _ _ h => (offs_cell U h).2)
theorem MAt.mth' {B : Nat} {w : World} {U R : List Nat} {mb ib : Nat} {p : Prg} {S : Mc} {X : MX} (h : MAt B w U R mb ib p S X) : MethsAt w X.mv p.ms := h.mth.reads (fun _ _ h => (offs_cell U h).2)
theorem Tryd.infoMObject : (Tryd.prog.info? 120).map (fun i => (i.zero, i.size, i.bytes)) = some (some (.agg #[.int .i64 0, .slice none 0 0]), 2, 32) := by kernel_rfl
/-- A letter's beginning, by the test of it. -/
theorem zeroV_test (c : UInt8) : zeroV c = zeroV (if decide (c = 82) then 82 else 73) := by
 by_cases h : c = 82
 ·subst h; rfl
 ·simp [h, zeroV]
theorem take_zero {L : List UInt8} {i : Nat} (hi : i < L.length) : (L.map zeroV).take (i + 1) = (L.map zeroV).take i ++ [zeroV (L.getD i 0)] := by
 rw [List.take_succ_eq_append_getElem (by simpa using hi), List.getElem_map]
 congr 2
 rw [List.getD_eq_getElem?_getD, List.getElem?_eq_getElem hi]
 rfl
set_option maxRecDepth 100000 in
set_option maxHeartbeats 2000000 in
theorem mmade_any {B : Nat} {w : World} {U R : List Nat} {mb ib : Nat} {p : Prg} {S : Mc} {X : MX} (h : MAt B w U R mb ib p S X) (c : Int) (hc : -2 ≤ c ∧ c < p.cs.length) (n : Nat) (hn : (p.lets c n).length = n) (hn2 : n ≤ 50) :
  Calls Tryd.prog 49 #[.pointer (some ⟨mb, 0, none⟩), .int .i64 c, .int .i64 n] w fun e w' => ∃ q vc, e = .returned (.agg #[.int .i64 c, .slice q n vc]) ∧ OwnV 85 w' w.heap.size (.slice q n vc) (p.made c n).vals ∧ Upd [] w w' := by
 obtain ⟨i0, hi, hz0, hz1, hz2⟩ := info_parts Tryd.infoMValue
 have HI := Lib.hid hi
 have HZ0 := Lib.hid hz0
 have HZ1 := Lib.hid hz1
 have HZ2 := Lib.hid hz2
 clear hi hz0 hz1 hz2
 have HH := Lib.hid h
 have HLN := Lib.hid hn
 have hcl := h.cls'
 have hb := h.box
 rw [mccells] at hb
 have n1 : w.cell? ⟨mb, 1, none⟩ = some X.cv := by rw [cell_of hb]; rfl
 have HCL := Lib.hid hcl
 have hu2 := ((Upd.refl [] w).alloc (.cells #[.int .i64 0, .slice none 0 0] 120)).alloc (.cells #[.int .i64 c, .slice none 0 0] 120)
 have hA := ((Upd.refl [] _).alloc (.cells #[.int .i64 c, .slice none 0 0] 120)).heap (heap_alloc_new w (.cells #[.int .i64 0, .slice none 0 0] 120)) (by simp)
 have hB := heap_alloc_new (w.alloc (.cells #[.int .i64 0, .slice none 0 0] 120)) (.cells #[.int .i64 c, .slice none 0 0] 120)
 rw [show (w.alloc (.cells #[.int .i64 0, .slice none 0 0] 120)).heap.size = w.heap.size + 1 by simp] at hB
 clear h hcl hb
 go_enter Tryd.func49, Tryd.ntmps49
 go_upto_region 2 with fail
 generalize (w.alloc (.cells #[.int .i64 0, .slice none 0 0] 120)).alloc (.cells #[.int .i64 c, .slice none 0 0] 120) = w2 at hu2 hA hB ⊢
 have HU2 := Lib.hid hu2
 have HA := Lib.hid hA
 have HB := Lib.hid hB
 clear hu2 hA hB
 have HLEN : Hid (((p.lets c n).map zeroV).length = n) := by show _ = _; rw [List.length_map]; exact HLN.out
 go_wp2_with fail
 go_loopw [13] (fun iv wr => ∃ (i : Nat) (lp : Option Addr) (lc : Nat), i ≤ n ∧ iv = .int .i64 i ∧ Hid (wr.heap[w.heap.size + 1]? = some (.cells #[.int .i64 c, .slice lp i lc] 120)) ∧ Hid (wr.heap[w.heap.size]? = some (.cells #[.int .i64 0, .slice none 0 0] 120)) ∧ Hid (wr.ownsRow w.heap.size 85 2 (.slice lp i lc) i (vcells (((p.lets c n).map zeroV).take i))) ∧ Hid (Upd [] w wr)) (fun iv _ => n - (intOf iv).toNat)
 case atStart => exact ⟨0, none, 0, by omega, rfl, HB.out, HA.out, World.ownsRow_nil _ _ _ _, HU2.out⟩
 case round =>
  clear n1 HA HB HU2
  obtain ⟨i, lp, lc, hin, rfl, HB, HA, HO, HV⟩ := hrel
  obtain ⟨wo, rfl⟩ : ∃ wo : World, wo = wr := ⟨_, rfl⟩
  by_cases hlt : i < n
  ·have hb := HV.out.heap HH.out.box (by simp)
   rw [mccells] at hb
   obtain ⟨ca, cc, hcv⟩ : ∃ ca cc, X.cv = .slice ca p.cs.length cc := by
    obtain ⟨a, cap, h1, _⟩ := HCL.out
    exact ⟨a, cap, h1⟩
   have n1 : wo.cell? ⟨mb, 1, none⟩ = some (.slice ca p.cs.length cc) := by rw [cell_of hb, hcv]; rfl
   have y0 : wo.cell? ⟨w.heap.size + 1, 1, none⟩ = some (.slice lp i lc) := by rw [cell_of HB.out]; rfl
   clear hb
   go_upto_region 6 with fail
   go_cut [35] (fun s wx => s = .bool (decide ((p.lets c n).getD i 0 = 82)) ∧ wo = wx)
   case first =>
    by_cases hc2 : c = -2
    ·subst hc2
     have hL : decide ((p.lets (-2) n).getD i 0 = 82) = true := by
      unfold Prg.lets
      rw [if_neg (by omega), if_pos rfl, List.getD_eq_getElem?_getD, List.getElem?_replicate, if_pos hlt]
      rfl
     have HL := Lib.hid hL
     clear hL
     go_wp2_with fail
     go_meet
     exact ⟨by rw [HL.out], rfl⟩
    ·have e2 : (c == -2) = false := by rw [beq_eq_false_iff_ne]; exact hc2
     by_cases hc0 : 0 ≤ c
     ·obtain ⟨k0, rfl⟩ := Int.eq_ofNat_of_zero_le hc0
      have hk1 : k0 < p.cs.length := by omega
      obtain ⟨a, cap, h1, _, _, _, h4⟩ := HCL.out
      rw [hcv] at h1
      injection h1 with h1
      subst h1
      obtain ⟨b, o, hab, _, hcell⟩ := h4 k0 hk1
      subst hab
      have hc1 := HV.out.cell hcell (by simp)
      have hLe : p.lets (k0 : Int) n = (p.cs.getD k0 ByteArray.empty).toList := by
       unfold Prg.lets
       rw [if_pos (by omega), Int.toNat_natCast]
      have hls := HLN.out
      rw [hLe, ← size_list] at hls
      have HL : Hid (decide ((p.lets (k0 : Int) n).getD i 0 = 82) = decide ((p.cs.getD k0 ByteArray.empty).get! i = 82)) := by
       show _ = _
       rw [hLe, List.getD_eq_getElem?_getD, get_list _ i (by omega)]
       rfl
      clear hcell hLe hcv
      generalize p.cs.getD k0 ByteArray.empty = fs at hc1 hls HL
      have hjs : i < fs.size := by omega
      have hby := byte_eq fs i 82 hjs
      have hk0' : (k0 : Int) < (p.cs.length : Int) := by omega
      cases hbb : decide (fs.get! i = 82) with
      | true =>
       rw [hbb] at hby
       have hby2 : (((fs[i]'hjs).toNat : Int) == 82) = true := hby
       have HBB := Lib.hid hbb
       clear hby hbb hls
       go_wp2_with fail
       go_meet
       exact ⟨by rw [HL.out, HBB.out], rfl⟩
      | false =>
       rw [hbb] at hby
       have hby2 : (((fs[i]'hjs).toNat : Int) == 82) = false := hby
       have HBB := Lib.hid hbb
       clear hby hbb hls
       go_wp2_with fail
       go_meet
       exact ⟨by rw [HL.out, HBB.out], rfl⟩
     ·have hL : decide ((p.lets c n).getD i 0 = 82) = false := by
       unfold Prg.lets
       rw [if_neg hc0, if_neg hc2, List.getD_eq_getElem?_getD, List.getElem?_replicate, if_pos hlt]
       rfl
      have HL := Lib.hid hL
      have e3 : decide (0 ≤ c) = false := by simpa using hc0
      clear hL
      go_wp2_with fail
      go_meet
      exact ⟨by rw [HL.out], rfl⟩
   case rest =>
    obtain ⟨rfl, rfl⟩ := hcut
    have HT : Hid (((p.lets c n).map zeroV).take (i + 1) = ((p.lets c n).map zeroV).take i ++ [zeroV ((p.lets c n).getD i 0)]) := take_zero (by have := HLN.out; omega)
    have HZT : Hid (zeroV ((p.lets c n).getD i 0) = zeroV (if decide ((p.lets c n).getD i 0 = 82) then 82 else 73)) := zeroV_test _
    generalize zeroV ((p.lets c n).getD i 0) = z at HT HZT
    generalize hLL : p.lets c n = L at HLN HT HZT HO HLEN ⊢
    have HLL := Lib.hid hLL
    clear hLL
    have HSZ : Hid (w.heap.size ≤ wo.heap.size) := HV.out.size
    have HROW : Hid (∀ W, Upd [] wo W → W.ownsRow w.heap.size 85 2 (.slice lp i lc) i (vcells ((L.map zeroV).take i))) := fun W hW => row_upd HO.out hW (by simp)
    have HAPP : Hid (∀ W, Upd [] wo W → ∀ v' w7, w7.ownsRow w.heap.size 85 2 v' (i + 1) (vcells ((L.map zeroV).take i) ++ [.bool z.ref, .int .i64 z.n]) → W.grownBy w7 (Value.ownBlock (.slice lp i lc)) → (∃ gn cn, v' = .slice (some ⟨gn, 0, none⟩) (i + 1) cn) ∧ w7.cell? ⟨w.heap.size + 1, 1, none⟩ = some (.slice lp i lc) ∧ w7.frozen? ⟨w.heap.size + 1, 1, none⟩ = false ∧
      Hid ((w7.setCell ⟨w.heap.size + 1, 1, none⟩ v').heap[w.heap.size + 1]? = some (.cells #[.int .i64 c, v'] 120) ∧ (w7.setCell ⟨w.heap.size + 1, 1, none⟩ v').heap[w.heap.size]? = some (.cells #[.int .i64 0, .slice none 0 0] 120) ∧ (w7.setCell ⟨w.heap.size + 1, 1, none⟩ v').ownsRow w.heap.size 85 2 v' (i + 1) (vcells ((L.map zeroV).take (i + 1))) ∧ Upd [] w (w7.setCell ⟨w.heap.size + 1, 1, none⟩ v'))) := fun W hW v' w7 hown hgr => by
     have hu7 : Upd (Value.ownBlock (.slice lp i lc)).toList wo w7 := (hW.mono (by simp)).grown hgr (fun q hq => Or.inl (Option.mem_toList.2 hq))
     obtain ⟨gn, cn, cur, hv, hg1, hg2, _⟩ := own_pos hown (by omega)
     have hb7 : w7.heap[w.heap.size + 1]? = some (.cells #[.int .i64 c, .slice lp i lc] 120) := hu7.heap HB.out (fun hm => own_heap_ne HO.out HB.out (by decide) (Option.mem_toList.1 hm))
     have ha7 : w7.heap[w.heap.size]? = some (.cells #[.int .i64 0, .slice none 0 0] 120) := hu7.heap HA.out (fun hm => own_heap_ne HO.out HA.out (by decide) (Option.mem_toList.1 hm))
     have hst : Upd [w.heap.size + 1] w7 (w7.setCell ⟨w.heap.size + 1, 1, none⟩ v') := (Upd.refl [_] w7).setCell (.inl (by simp)) _
     refine ⟨⟨gn, cn, hv⟩, by rw [cell_of hb7]; rfl, froz_of hb7 _, heap_setCell hb7 1 _, hst.heap ha7 (by simp), ?_, ?_⟩
     ·rw [HT.out, vcells_app]
      exact row_upd hown hst (fun k hk hm => own_heap_ne hown hb7 (by decide) (by rw [List.mem_singleton] at hm; rw [← hm]; exact hk))
     ·refine (HV.out.trans' hu7 (fun q hq hl => ?_)).trans' hst (fun q hq hl => by rw [List.mem_singleton] at hq; omega)
      have := (World.ownsRow.lt HO.out q (Option.mem_toList.1 hq)).1
      omega
    have HZ : Hid (∀ W, Calls Tryd.prog 30 #[.int .u8 (if decide (L.getD i 0 = 82) then 82 else 73)] W fun e W' => e = .returned (.agg #[.bool z.ref, .int .i64 z.n]) ∧ Upd [] W W') := fun W => by
     have h1 := mzero_any (if decide (L.getD i 0 = 82) then 82 else 73) W
     rw [← HZT.out] at h1
     cases hd : decide (L.getD i 0 = 82) <;> (rw [hd] at h1; exact h1)
    clear HB HA HO HT HZT hcv n1
    cases hd : decide (L.getD i 0 = 82)
    all_goals
     rw [hd] at HZ
     clear hd
     go_upto_region 8 with fail
     refine wp_region_noPanic ?_
     refine wp_region_L (S := fun w' => w'.cell? ⟨w.heap.size + 1, 1, none⟩ = some (.slice lp i lc)) 7 (by kernel_rfl) ?_ (fun hHeld => ?_)
     ·first | exact y0 | exact k1 | exact k2 _ | exact k3
     refine Nx.start [(0, []), (1, []), (2, [])] ?_
     iterate 3
      refine Nx.l (oi := ?_) (v := ?_) ?_ (by kernel_rfl) (fun _ _ _ h => h) ?_ ?_ hHeld ?_
      rotate_left 2
      ·simp only [List.getElem?_toArray, List.getElem?_cons_zero, List.getElem?_cons_succ]; rfl
      ·rfl
      ·intro _ hSw; (try dsimp only at hSw); go_simp <;> with_reducible rfl
      (try simp only [Act.put, List.setIfInBounds_toArray, List.set_cons_zero, List.set_cons_succ])
     refine Nx.stop ?_
     refine wpAnyL_one (i := 3) (o := ?_) (by kernel_rfl) ?_ (fun K hK => ?_)
     rotate_left 1
     ·simp only [List.getElem?_toArray, List.getElem?_cons_zero, List.getElem?_cons_succ]; rfl
     clear hHeld
     go_simp
     (go_at_call 30; refine (HZ.out _).mono ?_; rintro e w5 ⟨rfl, hu5⟩; have hud := (Upd.refl [] wo).drew.trans hu5; have k1 := hud.cell y0 (by simp); have k2 := (fun o => ((Upd.refl [] w5).alloc o).cell k1 (by simp)); have HUD := Lib.hid hud; clear hud hu5)
     try go_wp2_with fail
     refine hK.out _ _ ?_ (fun hHeld => ?_)
     ·first | exact y0 | exact k1 | exact k2 _ | exact k3
     clear hK K
     (try simp only [Act.put, List.setIfInBounds_toArray, List.set_cons_zero, List.set_cons_succ])
     refine wpAnyL_one (i := 4) (o := ?_) (by kernel_rfl) ?_ (fun K hK => ?_)
     rotate_left 1
     ·simp only [List.getElem?_toArray, List.getElem?_cons_zero, List.getElem?_cons_succ]; rfl
     clear hHeld
     go_simp
     refine hK.out _ _ ?_ (fun hHeld => ?_)
     ·first | exact y0 | exact k1 | exact k2 _ | exact k3
     clear hK K
     (try simp only [Act.put, List.setIfInBounds_toArray, List.set_cons_zero, List.set_cons_succ])
     refine wpAnyL_one (i := 5) (o := ?_) (by kernel_rfl) ?_ (fun K hK => ?_)
     rotate_left 1
     ·simp only [List.getElem?_toArray, List.getElem?_cons_zero, List.getElem?_cons_succ]; rfl
     clear hHeld
     (refine step_append_own_at rfl (.tmp 37) (.tmp 40) 80 rfl w.heap.size 85 i0 (.agg #[.bool false, .int .i64 0]) 2 16 Tryd.underlying80 HI.out HZ0.out HZ1.out HZ2.out rfl (by decide) (.slice lp i lc) i (vcells ((L.map zeroV).take i)) rfl (HROW.out _ (HUD.out.alloc _)) ⟨w5.heap.size, 0, none⟩ 1 1 [.bool z.ref, .int .i64 z.n] rfl rfl (v1_new _ _ _) (by simp [Value.oneCell']) (by unfold maxLen; omega) (by omega) (by have := HUD.out.size; have := HSZ.out; simp; omega) ?_; intro v' w7 hown' hgrow hat; obtain ⟨⟨gn, cn, rfl⟩, k3, z3, HNX⟩ := HAPP.out _ (HUD.out.alloc _) v' w7 hown' hgrow; clear hown' hgrow hat)
     refine hK.out _ _ ?_ (fun hHeld => ?_)
     ·first | exact y0 | exact k1 | exact k2 _ | exact k3
     clear hK K
     (try simp only [Act.put, List.setIfInBounds_toArray, List.set_cons_zero, List.set_cons_succ])
     refine wpAnyL_take (i := 6) (oi := ?_) (v := ?_) ?_ (by kernel_rfl) (by kernel_rfl) (by kernel_rfl) (by kernel_rfl) (fun _ _ _ h => h) (Or.inl ⟨?_, ?_⟩) hHeld ?_
     rotate_left 2
     ·simp only [List.getElem?_toArray, List.getElem?_cons_zero, List.getElem?_cons_succ]; rfl
     ·rfl
     ·intro _ hSw; (try dsimp only at hSw); go_simp <;> with_reducible rfl
     (try simp only [Act.put, List.setIfInBounds_toArray, List.set_cons_zero, List.set_cons_succ])
     refine wpAnyL_last (o := ?_) (by kernel_rfl) ?_ (fun K hK => ?_)
     rotate_left 1
     ·simp only [List.getElem?_toArray, List.getElem?_cons_zero, List.getElem?_cons_succ]; rfl
     clear hHeld
     go_simp
     refine hK.out _ _ ?_
     clear hK K
     (try simp only [Act.put, List.setIfInBounds_toArray, List.set_cons_zero, List.set_cons_succ])
     refine wpAnyL_done (by kernel_rfl) ?_ _
     refine NoPanic.normal ?_
     go_wp2_with fail
     go_roundw
     case rel => exact ⟨i + 1, some ⟨gn, 0, none⟩, cn, by omega, by go_num, HNX.out.1, HNX.out.2.1, by rw [HLL.out]; exact HNX.out.2.2.1, HNX.out.2.2.2⟩
     case measure => simp [intOf]; omega
  ·obtain rfl : i = n := by omega
   have hta : ((p.lets c i).map zeroV).take i = (p.lets c i).map zeroV := List.take_of_length_le (by rw [HLEN.out]; exact Nat.le_refl _)
   rw [hta] at HO
   have x0 : wo.cell? ⟨w.heap.size + 1, 0, none⟩ = some (.int .i64 c) := by rw [cell_of HB.out]; rfl
   have x1 : wo.cell? ⟨w.heap.size + 1, 1, none⟩ = some (.slice lp i lc) := by rw [cell_of HB.out]; rfl
   have r0 : wo.cell? ⟨w.heap.size, 0, none⟩ = some (.int .i64 0) := by rw [cell_of HA.out]; rfl
   have r1 : wo.cell? ⟨w.heap.size, 1, none⟩ = some (.slice none 0 0) := by rw [cell_of HA.out]; rfl
   have z0 := froz_of HA.out 0
   have z1 := froz_of HA.out 1
   clear hta
   go_wp2_with fail
   have k1 := heap_setCell HA.out 0 (.int .i64 c)
   have k2 := heap_setCell k1 1 (.slice lp i lc)
   have d0 := cell_of k2 0
   have d1 := cell_of k2 1
   simp at d0 d1
   have hst : Upd [w.heap.size] wo ((wo.setCell ⟨w.heap.size, 0, none⟩ (.int .i64 c)).setCell ⟨w.heap.size, 1, none⟩ (.slice lp i lc)) := ((Upd.refl [_] wo).setCell (.inl (by simp)) _).setCell (.inl (by simp)) _
   refine bodyPost_ret (v := .agg #[.int .i64 c, .slice lp i lc]) (by simp [results, Tryd.results49, go_sem, d0, d1]) rfl ?_
   refine ⟨lp, lc, rfl, ?_, HV.out.trans' hst (fun q hq hl => by rw [List.mem_singleton] at hq; omega)⟩
   show World.ownsRow _ _ _ 2 _ (p.made c i).vals.length (vcells (p.made c i).vals)
   have e1 : (p.made c i).vals = (p.lets c i).map zeroV := rfl
   rw [e1, HLEN.out]
   exact row_upd HO.out hst (fun k hk hm => own_heap_ne HO.out HA.out (by decide) (by rw [List.mem_singleton] at hm; rw [← hm]; exact hk))
end Go.Proofs.YtojobkhidlfeoaaDoor
