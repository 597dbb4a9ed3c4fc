/- verify.Info.Program. -/
import Derived.Test.YtojobkhidlfeoaaDoorCopyV
import Derived.Test.YtojobkhidlfeoaaDoorInfoA
import Derived.Test.YtojobkhidlfeoaaDoorOwnNe
/-! verify.Info.Program. -/
namespace Go.Proofs.YtojobkhidlfeoaaDoor
open Go.RowKit
/-- Blocks of unlike kinds are not the same. -/
theorem heap_ne {w : World} {a b : Nat} {A B : Array Value} {s t : TypeId} (ha : w.heap[a]? = some (.cells A s)) (hb : w.heap[b]? = some (.cells B t)) (h : s ≠ t) : a ≠ b := by
 rintro rfl
 rw [ha] at hb
 injection hb with hb
 injection hb with _ hb _
 exact h hb
end Go.Proofs.YtojobkhidlfeoaaDoor

namespace Go.Proofs.YtojobkhidlfeoaaDoor
open Go.RowKit

/-- A block without an instruction is none of a code's. -/
theorem CodeAt.off {w w' : World} {v : Value} {xs : List Ins} {B : Nat} (h : CodeAt w v xs) (hu : Upd [B] w w') (hB : ∀ o x, ¬ InsAt w B o x) : CodeAt w' v xs := by
 obtain ⟨a, cap, h1, h2, h3, h4⟩ := h
 refine ⟨a, cap, h1, h2, h3, fun i hi => ?_⟩
 obtain ⟨b, o, h5, h6, h7⟩ := h4 i hi
 have hb : b ∉ [B] := by
  intro hm
  simp at hm
  subst hm
  exact hB _ _ h7
 exact ⟨b, o, h5, h6, hu.cell h7.1 hb, hu.cell h7.2.1 hb, hu.cell h7.2.2.1 hb, hu.cell h7.2.2.2 hb⟩
theorem MethsAt.off {w w' : World} {v : Value} {ms : List Meth} {B : Nat} (h : MethsAt w v ms) (hu : Upd [B] w w') (hB : ∀ o x, ¬ InsAt w B o x) (hB2 : ∀ o s, w.cell? ⟨B, o, none⟩ ≠ some (.string s)) : MethsAt w' v ms := by
 obtain ⟨a, cap, h1, h2, h3, h4⟩ := h
 refine ⟨a, cap, h1, h2, h3, fun i hi => ?_⟩
 obtain ⟨b, o, h5, h6, h7, h8, h9, u, h10, h11⟩ := h4 i hi
 have hb : b ∉ [B] := by
  intro hm
  simp at hm
  subst hm
  exact hB2 _ _ h7
 exact ⟨b, o, h5, h6, hu.cell h7 hb, hu.cell h8 hb, hu.cell h9 hb, u, hu.cell h10 hb, h11.off hu hB⟩
theorem ClassAt.off {w w' : World} {v : Value} {cs : List ByteArray} {B : Nat} (h : ClassAt w v cs) (hu : Upd [B] w w') (hB2 : ∀ o s, w.cell? ⟨B, o, none⟩ ≠ some (.string s)) : ClassAt w' v cs := by
 obtain ⟨a, cap, h1, h0, h2, h3, h4⟩ := h
 refine ⟨a, cap, h1, h0, h2, h3, fun i hi => ?_⟩
 obtain ⟨b, o, h5, h6, h7⟩ := h4 i hi
 have hb : b ∉ [B] := by
  intro hm
  simp at hm
  subst hm
  exact hB2 _ _ h7
 exact ⟨b, o, h5, h6, hu.cell h7 hb⟩
theorem two_slices {w : World} {B n1 n2 c1 c2 : Nat} {p1 p2 : Option Addr} {t : TypeId} (h : w.heap[B]? = some (.cells #[.slice p1 n1 c1, .slice p2 n2 c2] t)) (o : Nat) : w.cell? ⟨B, o, none⟩ = none ∨ ∃ p n c, w.cell? ⟨B, o, none⟩ = some (.slice p n c) := by
 rw [cell_of h]
 match o with
 | 0 => exact .inr ⟨_, _, _, rfl⟩
 | 1 => exact .inr ⟨_, _, _, rfl⟩
 | o + 2 => left; simp

set_option maxRecDepth 100000 in
set_option maxHeartbeats 2000000 in
theorem iprog_any (ib : Nat) (p : Prg) (ss : List Lk) (n : Int) (w : World) (h : InfoAt w ib p ss n) (hn : p.ms.length ≤ 1000) (hn2 : p.cs.length ≤ 1000) (hk : ∀ j, j < p.ms.length → (p.ms.getD j default).code.length ≤ 1000) :
  Calls Tryd.prog 17 #[.pointer (some ⟨ib, 0, none⟩)] w fun e w' => ∃ cv mv, e = .returned (.agg #[cv, mv]) ∧ ClassAt w' cv p.cs ∧ MethsAt w' mv p.ms ∧ Upd [] w w' := by
 obtain ⟨cv, mv, lv, hb, hc, hm, _⟩ := h
 obtain ⟨cp, cc, rfl, hcx⟩ := id hc
 obtain ⟨mp, mc, rfl, hmx⟩ := id hm
 have hb0 := ((Upd.refl [] w).alloc (.cells #[.slice none 0 0, .slice none 0 0] 36)).heap hb (by simp)
 have hA := heap_alloc_new w (.cells #[.slice none 0 0, .slice none 0 0] 36)
 have hu0 := (Upd.refl [] w).alloc (.cells #[.slice none 0 0, .slice none 0 0] 36)
 have HC := Lib.hid ((hc.reads (offW_reads w ib)).upd hu0)
 have HM := Lib.hid ((hm.reads (offW_reads w ib)).upd hu0)
 clear hcx hmx hc hm
 go_enter Tryd.func17, Tryd.ntmps17
 go_upto_region 1 with fail
 generalize w.alloc (.cells #[.slice none 0 0, .slice none 0 0] 36) = w0 at hb0 hA hu0 HC HM ⊢
 have c0 : w0.cell? ⟨ib, 0, none⟩ = some (.slice cp p.cs.length cc) := by rw [cell_of hb0]; rfl
 have c1 : w0.cell? ⟨ib, 1, none⟩ = some (.slice mp p.ms.length mc) := by rw [cell_of hb0]; rfl
 have HCP := Lib.hid (copied_any p _ _ w0 HC.out HM.out hn hn2 hk)
 have HA := Lib.hid hA
 have HU0 := Lib.hid hu0
 clear hb0 hA hu0
 go_wp2_with fail
 refine HCP.out.mono ?_
 rintro e w1 ⟨cv', mv', rfl, hc1, hm1, hu1⟩
 obtain ⟨cp1, cc1, rfl, hcx⟩ := id hc1
 obtain ⟨mp1, mc1, rfl, hmx⟩ := id hm1
 have hA1 := hu1.heap HA.out (by simp)
 have f0 := froz_of hA1 0
 have f1 := froz_of hA1 1
 have a0 : w1.cell? ⟨w.heap.size, 0, none⟩ = some (.slice none 0 0) := by rw [cell_of hA1]; rfl
 have a1 : w1.cell? ⟨w.heap.size, 1, none⟩ = some (.slice none 0 0) := by rw [cell_of hA1]; rfl
 have HA1 := Lib.hid hA1
 have HC1 := Lib.hid hc1
 have HM1 := Lib.hid hm1
 have HU1 := Lib.hid (HU0.out.trans hu1)
 clear hcx hmx hc1 hm1 hu1 hA1
 go_wp2_with fail
 have k1 := heap_setCell HA1.out 0 (.slice cp1 p.cs.length cc1)
 have k2 := heap_setCell k1 1 (.slice mp1 p.ms.length mc1)
 have d0 := cell_of k2 0
 have d1 := cell_of k2 1
 simp at d0 d1
 have hst : Upd [w.heap.size] w1 ((w1.setCell ⟨w.heap.size, 0, none⟩ (.slice cp1 p.cs.length cc1)).setCell ⟨w.heap.size, 1, none⟩ (.slice mp1 p.ms.length mc1)) := ((Upd.refl _ _).setCell (.inl (by simp)) _).setCell (.inl (by simp)) _
 refine bodyPost_ret (v := .agg #[.slice cp1 p.cs.length cc1, .slice mp1 p.ms.length mc1]) (by simp [results, Tryd.results17, go_sem, d0, d1]) rfl ?_
 have hB2 : ∀ o s, w1.cell? ⟨w.heap.size, o, none⟩ ≠ some (.string s) := fun o s he => by
  rcases two_slices HA1.out o with h | ⟨_, _, _, h⟩
  ·rw [h] at he; cases he
  ·rw [h] at he; cases he
 have hB : ∀ o x, ¬ InsAt w1 w.heap.size o x := fun o x hx => by
  have he := hx.1
  rcases two_slices HA1.out o with h | ⟨_, _, _, h⟩
  ·rw [h] at he; cases he
  ·rw [h] at he; cases he
 exact ⟨_, _, rfl, HC1.out.off hst hB2, HM1.out.off hst hB hB2, HU1.out.trans' hst (fun q hq hl => by simp at hq; omega)⟩
end Go.Proofs.YtojobkhidlfeoaaDoor
