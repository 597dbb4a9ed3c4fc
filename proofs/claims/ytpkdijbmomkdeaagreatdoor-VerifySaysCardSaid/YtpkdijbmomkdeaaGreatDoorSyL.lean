/- VerifySays: both verifiers end alike. A program is the same as itself, wherever it lies. -/
import Derived.Test.YtpkdijbmomkdeaaGreatDoorSyO
import Derived.Test.YtpkdijbmomkdeaaGreatDoorInfoA
import Derived.StillTailTactics
import Derived.Deep.RegionHeld3
/-! VerifySays: both verifiers end alike. -/
/-! VerifySays: both verifiers end alike. -/
namespace Go.Proofs.YtpkdijbmomkdeaaGreatDoor
open Go.RowKit

theorem least_uniq {P : Nat → Prop} {i k : Nat} (h1 : ∀ j, j < i → P j) (h2 : ¬ P i) (h3 : ∀ j, j < k → P j) (h4 : ¬ P k) : i = k := by
  rcases Nat.lt_trichotomy i k with h | h | h
  · exact absurd (h3 i h) h2
  · exact h
  · exact absurd (h1 k h) h4

/-- May tells one thing. -/
theorem MayIs.uniq {p : Prg} {c c' : Int} {at_ at' : List Int} (h : MayIs p c at_) (h' : MayIs p c' at') : c = c' ∧ at_ = at' := by
  rcases h with ⟨hb, rfl, rfl⟩ | ⟨hs, h⟩ <;> rcases h' with ⟨hb', rfl, rfl⟩ | ⟨hs', h'⟩
  · exact ⟨rfl, rfl⟩
  · exact (hb.elim (fun h => Nat.not_lt.2 hs'.1 h) (fun h => h.elim (fun h => Nat.not_lt.2 hs'.2.1 h) (fun h => Nat.not_lt.2 hs'.2.2 h))).elim
  · exact (hb'.elim (fun h => Nat.not_lt.2 hs.1 h) (fun h => h.elim (fun h => Nat.not_lt.2 hs.2.1 h) (fun h => Nat.not_lt.2 hs.2.2 h))).elim
  · rcases h with ⟨i, hi, hall, hc, hne, rfl⟩ | ⟨hcl, h⟩ <;> rcases h' with ⟨i', hi', hall', hc', hne', rfl⟩ | ⟨hcl', h'⟩
    · obtain rfl : i = i' := least_uniq (P := fun j => clsCode (p.cs.getD j ByteArray.empty) = 0) hall (by rw [hc]; exact hne) hall' (by rw [hc']; exact hne')
      exact ⟨hc.symm.trans hc', rfl⟩
    · exact absurd (hc.symm.trans (hcl' i hi)) hne
    · exact absurd (hc'.symm.trans (hcl i' hi')) hne'
    · have hne1 : ∀ {k : Nat} {c : Int} {at_ : List Int}, ((headCode k (p.ms.getD k default) = c ∧ c ≠ 0 ∧ at_ = [(k : Int), -1]) ∨
           (headCode k (p.ms.getD k default) = 0 ∧ ∃ pc : Nat, pc < (p.ms.getD k default).code.length ∧ (∀ q, q < pc → insCode p.cs p.ms.length (p.ms.getD k default) ((p.ms.getD k default).code.getD q default) = 0) ∧
              insCode p.cs p.ms.length (p.ms.getD k default) ((p.ms.getD k default).code.getD pc default) = c ∧ c ≠ 0 ∧ at_ = [(k : Int), (pc : Int)])) →
          ¬ (headCode k (p.ms.getD k default) = 0 ∧ ∀ q, q < (p.ms.getD k default).code.length → insCode p.cs p.ms.length (p.ms.getD k default) ((p.ms.getD k default).code.getD q default) = 0) := by
        intro k c at_ h ⟨h1, h2⟩
        rcases h with ⟨h3, h4, _⟩ | ⟨_, pc, h3, _, h4, h5, _⟩
        · exact h4 (h3.symm.trans h1)
        · exact h5 (h4.symm.trans (h2 pc h3))
      rcases h with ⟨k, hk, hall, h⟩ | ⟨hall, rfl, rfl⟩ <;> rcases h' with ⟨k', hk', hall', h'⟩ | ⟨hall', rfl, rfl⟩
      · obtain rfl : k = k' := least_uniq (P := fun j => headCode j (p.ms.getD j default) = 0 ∧ ∀ q, q < (p.ms.getD j default).code.length → insCode p.cs p.ms.length (p.ms.getD j default) ((p.ms.getD j default).code.getD q default) = 0) hall (hne1 h) hall' (hne1 h')
        rcases h with ⟨h1, h2, rfl⟩ | ⟨h1, pc, hpc, hq, hc, hne, rfl⟩ <;> rcases h' with ⟨h1', h2', rfl⟩ | ⟨h1', pc', hpc', hq', hc', hne', rfl⟩
        · exact ⟨h1.symm.trans h1', rfl⟩
        · exact absurd (h1.symm.trans h1') h2
        · exact absurd (h1'.symm.trans h1) h2'
        · obtain rfl : pc = pc' := least_uniq (P := fun q => insCode p.cs p.ms.length (p.ms.getD k default) ((p.ms.getD k default).code.getD q default) = 0) hq (by rw [hc]; exact hne) hq' (by rw [hc']; exact hne')
          exact ⟨hc.symm.trans hc', rfl⟩
      · exact absurd (hall' k hk) (hne1 h)
      · exact absurd (hall k' hk') (hne1 h')
      · exact ⟨rfl, rfl⟩

theorem MayIs.short {p : Prg} {c : Int} {at_ : List Int} (h : MayIs p c at_) : at_.length ≤ 2 := by
  rcases h with ⟨_, _, rfl⟩ | ⟨_, ⟨_, _, _, _, _, rfl⟩ | ⟨_, ⟨_, _, _, ⟨_, _, rfl⟩ | ⟨_, _, _, _, _, _, rfl⟩⟩ | ⟨_, _, rfl⟩⟩⟩ <;> simp

/-- What both verifiers tell of a program. -/
theorem ends_meet {p : Prg} {E : Nat → Addr} {w w1 w2 : World} {v rv sl : Value} {c : Int} (h : OfEnd p E w v w1) (h2 : ROfEnd p w2 rv c sl) :
    (c ≠ 0 ∧ ∃ ev at_ fb, v = .tuple #[.pointer none, ev] ∧ ErrV w1 E ev c at_ ∧ IntsV w2 sl fb at_ ∧ at_.length ≤ 2) ∨
    (p.Ok ∧ c = 0 ∧ sl = .slice none 0 0 ∧ ∃ ib ss, ss.length = p.ms.length ∧ (∀ j, j < p.ms.length → lookM p (p.ms.getD j default) = .ok (ss.getD j default)) ∧ v = .tuple #[.pointer (some ⟨ib, 0, none⟩), .nilIface] ∧ InfoAt w1 ib p ss 0 ∧ w.heap.size ≤ ib ∧ ib < w1.heap.size ∧ LksT w2 rv p.ms ss ∧ LksN w2 rv p.ms ss) := by
  rcases h.1 with ⟨c1, at_, ev, hm, hne, rfl, hev⟩ | ⟨hok, k, c1, pc, ev, hk, hall, hbad, rfl, hev⟩ | ⟨hok, ib, ss, hl, hlk, rfl, hi, hb1, hb2⟩
  · rcases h2 with ⟨hok, _⟩ | ⟨fb, at2, ⟨hc2, hm2 | ⟨hok, _⟩⟩, hv⟩
    · exact absurd (hm.zero hok).1 hne
    · obtain ⟨rfl, rfl⟩ := hm.uniq hm2
      exact .inl ⟨hc2, ev, _, fb, rfl, hev, hv, hm.short⟩
    · exact absurd (hm.zero hok).1 hne
  · rcases h2 with ⟨_, _, _, ss, _, hlk, _⟩ | ⟨fb, at2, ⟨hc2, hm2 | ⟨_, k', pc', hk', hall', hbad', rfl⟩⟩, hv⟩
    · rw [hlk k hk] at hbad; cases hbad
    · exact absurd (hm2.zero hok).1 hc2
    · obtain rfl : k = k' := least_uniq (P := fun j => ∃ s, lookM p (p.ms.getD j default) = .ok s) hall (fun ⟨s, h⟩ => by rw [h] at hbad; cases hbad) hall' (fun ⟨s, h⟩ => by rw [h] at hbad'; cases hbad')
      rw [hbad] at hbad'
      injection hbad' with e
      injection e with e1 e2
      subst e1 e2
      exact .inl ⟨hc2, ev, _, fb, rfl, hev, hv, by simp⟩
  · rcases h2 with ⟨_, rfl, rfl, ss2, hl2, hlk2, ht⟩ | ⟨fb, at2, ⟨hc2, hm2 | ⟨_, k', pc', hk', hall', hbad', rfl⟩⟩, hv⟩
    · obtain rfl : ss = ss2 := by
        apply List.ext_getElem (by omega)
        intro i h1 h2
        have e1 := hlk i (by omega)
        rw [hlk2 i (by omega)] at e1
        injection e1 with e1
        rw [List.getD_eq_getElem?_getD, List.getD_eq_getElem?_getD, List.getElem?_eq_getElem h1, List.getElem?_eq_getElem h2] at e1
        simpa using e1.symm
      exact .inr ⟨hok, rfl, rfl, ib, ss, hl, hlk, rfl, hi, hb1, hb2, ht⟩
    · exact absurd (hm2.zero hok).1 hc2
    · rw [hlk k' hk'] at hbad'; cases hbad'

end Go.Proofs.YtpkdijbmomkdeaaGreatDoor

/-! A program is the same as itself, wherever it lies. -/
/-! A program is the same as itself, wherever it lies. -/
namespace Go.Proofs.YtpkdijbmomkdeaaGreatDoor
open Go.RowKit

set_option maxRecDepth 100000 in
set_option maxHeartbeats 1000000 in
theorem sinstr_any (a b c d : Int) (w : World) :
    Calls Tryz.prog 85 #[.agg #[.int .i64 a, .int .i64 b, .int .i64 c, .int .i64 d], .agg #[.int .i64 a, .int .i64 b, .int .i64 c, .int .i64 d]] w fun e w' => e = .returned (.bool true) ∧ Upd [] w w' := by
  have HU := Lib.hid (((Upd.refl [] w).alloc (.cells #[.int .i64 a, .int .i64 b, .int .i64 c, .int .i64 d] 60)).alloc (.cells #[.int .i64 a, .int .i64 b, .int .i64 c, .int .i64 d] 60))
  go_enter Tryz.func85, Tryz.ntmps85
  go_wp2_with fail
  go_ret
  exact ⟨rfl, HU.out⟩

set_option maxRecDepth 100000 in
set_option maxHeartbeats 1000000 in
theorem sclass_any (a : ByteArray) (w : World) :
    Calls Tryz.prog 50 #[.agg #[.string a], .agg #[.string a]] w fun e w' => e = .returned (.bool true) ∧ Upd [] w w' := by
  have HU := Lib.hid (((Upd.refl [] w).alloc (.cells #[.string a] 63)).alloc (.cells #[.string a] 63))
  go_enter Tryz.func50, Tryz.ntmps50
  go_wp2_with fail
  go_ret
  exact ⟨rfl, HU.out⟩

set_option maxRecDepth 100000 in
set_option maxHeartbeats 2000000 in
theorem sinstrs_any (va vb : Value) (xs : List Ins) (w : World) (ha : CodeAt w va xs) (hb : CodeAt w vb xs) :
    Calls Tryz.prog 66 #[va, vb] w fun e w' => e = .returned (.bool true) ∧ Upd [] w w' := by
  obtain ⟨pa, ca, rfl, ha1, ha2, ha⟩ := ha
  obtain ⟨pb, cb, rfl, hb1, hb2, hb⟩ := hb
  have HA := Lib.hid ha
  have HB := Lib.hid hb
  clear ha hb
  unfold maxLen at ha2
  go_enter Tryz.func66, Tryz.ntmps66
  go_wp2_with fail
  go_loopw [5] (fun i wr => ∃ k : Nat, k ≤ xs.length ∧ i = .int .i64 k ∧ Hid (Upd [] w wr)) (fun i _ => xs.length - (intOf i).toNat)
  case atStart => exact ⟨0, by omega, rfl, Upd.refl _ _⟩
  case round =>
    obtain ⟨k, hk, rfl, HU⟩ := hrel
    by_cases hlt : k < xs.length
    · obtain ⟨b1, o1, rfl, _, x0, x1, x2, x3⟩ := HA.out k hlt
      obtain ⟨b2, o2, rfl, _, y0, y1, y2, y3⟩ := HB.out k hlt
      have x0 := HU.out.cell x0 (by simp)
      have x1 := HU.out.cell x1 (by simp)
      have x2 := HU.out.cell x2 (by simp)
      have x3 := HU.out.cell x3 (by simp)
      have y0 := HU.out.cell y0 (by simp)
      have y1 := HU.out.cell y1 (by simp)
      have y2 := HU.out.cell y2 (by simp)
      have y3 := HU.out.cell y3 (by simp)
      have HS := Lib.hid (fun W => sinstr_any (xs.getD k default).op (xs.getD k default).a (xs.getD k default).b (xs.getD k default).n W)
      generalize (xs.getD k default).op = z0 at *
      generalize (xs.getD k default).a = z1 at *
      generalize (xs.getD k default).b = z2 at *
      generalize (xs.getD k default).n = z3 at *
      have hF0 : wr.cell? ⟨b1, o1 + k * 4, none⟩ = some (.int .i64 z0) ∧ wr.cell? ⟨b1, o1 + k * 4 + 1, none⟩ = some (.int .i64 z1) ∧ wr.cell? ⟨b1, o1 + k * 4 + 2, none⟩ = some (.int .i64 z2) ∧ wr.cell? ⟨b1, o1 + k * 4 + 3, none⟩ = some (.int .i64 z3) ∧ wr.cell? ⟨b2, o2 + k * 4, none⟩ = some (.int .i64 z0) ∧ wr.cell? ⟨b2, o2 + k * 4 + 1, none⟩ = some (.int .i64 z1) ∧ wr.cell? ⟨b2, o2 + k * 4 + 2, none⟩ = some (.int .i64 z2) ∧ wr.cell? ⟨b2, o2 + k * 4 + 3, none⟩ = some (.int .i64 z3) := ⟨x0, x1, x2, x3, y0, y1, y2, y3⟩
      have hF1 : wr.drew.cell? ⟨b1, o1 + k * 4, none⟩ = some (.int .i64 z0) ∧ wr.drew.cell? ⟨b1, o1 + k * 4 + 1, none⟩ = some (.int .i64 z1) ∧ wr.drew.cell? ⟨b1, o1 + k * 4 + 2, none⟩ = some (.int .i64 z2) ∧ wr.drew.cell? ⟨b1, o1 + k * 4 + 3, none⟩ = some (.int .i64 z3) ∧ wr.drew.cell? ⟨b2, o2 + k * 4, none⟩ = some (.int .i64 z0) ∧ wr.drew.cell? ⟨b2, o2 + k * 4 + 1, none⟩ = some (.int .i64 z1) ∧ wr.drew.cell? ⟨b2, o2 + k * 4 + 2, none⟩ = some (.int .i64 z2) ∧ wr.drew.cell? ⟨b2, o2 + k * 4 + 3, none⟩ = some (.int .i64 z3) := hF0
      clear x0 x1 x2 x3 y0 y1 y2 y3
      go_wp2_with fail
      go_region_held3 (fun W => W.cell? ⟨b1, o1 + k * 4, none⟩ = some (.int .i64 z0) ∧ W.cell? ⟨b1, o1 + k * 4 + 1, none⟩ = some (.int .i64 z1) ∧ W.cell? ⟨b1, o1 + k * 4 + 2, none⟩ = some (.int .i64 z2) ∧ W.cell? ⟨b1, o1 + k * 4 + 3, none⟩ = some (.int .i64 z3) ∧ W.cell? ⟨b2, o2 + k * 4, none⟩ = some (.int .i64 z0) ∧ W.cell? ⟨b2, o2 + k * 4 + 1, none⟩ = some (.int .i64 z1) ∧ W.cell? ⟨b2, o2 + k * 4 + 2, none⟩ = some (.int .i64 z2) ∧ W.cell? ⟨b2, o2 + k * 4 + 3, none⟩ = some (.int .i64 z3))
        (first | exact hk0 | exact hF1 | exact hF0)
        ((go_at_call 85; refine (HS.out _).mono ?_; rintro e w1 ⟨rfl, hu1⟩; have hk0 := (⟨hu1.cell hF1.1 (by simp), hu1.cell hF1.2.1 (by simp), hu1.cell hF1.2.2.1 (by simp), hu1.cell hF1.2.2.2.1 (by simp), hu1.cell hF1.2.2.2.2.1 (by simp), hu1.cell hF1.2.2.2.2.2.1 (by simp), hu1.cell hF1.2.2.2.2.2.2.1 (by simp), hu1.cell hF1.2.2.2.2.2.2.2 (by simp)⟩ : _ ∧ _ ∧ _ ∧ _ ∧ _ ∧ _ ∧ _ ∧ _)))
      have HU1 := Lib.hid (HU.out.drew.trans hu1)
      clear hu1 HS hk0 hF0 hF1
      go_wp2_with fail
      go_roundw
      case rel => exact ⟨k + 1, by omega, by go_num, HU1.out⟩
      case measure => simp [intOf]; omega
    · go_wp2_with fail
      go_ret
      exact ⟨rfl, HU.out⟩

set_option maxRecDepth 100000 in
set_option maxHeartbeats 2000000 in
theorem sclasses_any (va vb : Value) (xs : List ByteArray) (w : World) (ha : ClassAt w va xs) (hb : ClassAt w vb xs) :
    Calls Tryz.prog 28 #[va, vb] w fun e w' => e = .returned (.bool true) ∧ Upd [] w w' := by
  obtain ⟨pa, ca, rfl, _, ha1, ha2, ha⟩ := ha
  obtain ⟨pb, cb, rfl, _, hb1, hb2, hb⟩ := hb
  have HA := Lib.hid ha
  have HB := Lib.hid hb
  clear ha hb
  unfold maxLen at ha2
  go_enter Tryz.func28, Tryz.ntmps28
  go_wp2_with fail
  go_loopw [5] (fun i wr => ∃ k : Nat, k ≤ xs.length ∧ i = .int .i64 k ∧ Hid (Upd [] w wr)) (fun i _ => xs.length - (intOf i).toNat)
  case atStart => exact ⟨0, by omega, rfl, Upd.refl _ _⟩
  case round =>
    obtain ⟨k, hk, rfl, HU⟩ := hrel
    by_cases hlt : k < xs.length
    · obtain ⟨b1, o1, rfl, _, x0⟩ := HA.out k hlt
      obtain ⟨b2, o2, rfl, _, y0⟩ := HB.out k hlt
      have x0 := HU.out.cell x0 (by simp)
      have y0 := HU.out.cell y0 (by simp)
      have HS := Lib.hid (fun W => sclass_any (xs.getD k ByteArray.empty) W)
      generalize xs.getD k ByteArray.empty = z0 at *
      have hF0 : wr.cell? ⟨b1, o1 + k, none⟩ = some (.string z0) ∧ wr.cell? ⟨b2, o2 + k, none⟩ = some (.string z0) := ⟨x0, y0⟩
      have hF1 : wr.drew.cell? ⟨b1, o1 + k, none⟩ = some (.string z0) ∧ wr.drew.cell? ⟨b2, o2 + k, none⟩ = some (.string z0) := hF0
      clear x0 y0
      go_wp2_with fail
      go_region_held3 (fun W => W.cell? ⟨b1, o1 + k, none⟩ = some (.string z0) ∧ W.cell? ⟨b2, o2 + k, none⟩ = some (.string z0))
        (first | exact hk0 | exact hF1 | exact hF0)
        ((go_at_call 50; refine (HS.out _).mono ?_; rintro e w1 ⟨rfl, hu1⟩; have hk0 := (⟨hu1.cell hF1.1 (by simp), hu1.cell hF1.2 (by simp)⟩ : _ ∧ _)))
      have HU1 := Lib.hid (HU.out.drew.trans hu1)
      clear hu1 HS hk0 hF0 hF1
      go_wp2_with fail
      go_roundw
      case rel => exact ⟨k + 1, by omega, by go_num, HU1.out⟩
      case measure => simp [intOf]; omega
    · go_wp2_with fail
      go_ret
      exact ⟨rfl, HU.out⟩

set_option maxRecDepth 100000 in
set_option maxHeartbeats 1000000 in
theorem smeth_any (s1 s2 s3 : ByteArray) (xs : List Ins) (va vb : Value) (w : World) (ha : CodeAt w va xs) (hb : CodeAt w vb xs) :
    Calls Tryz.prog 51 #[.agg #[.string s1, .string s2, .string s3, va], .agg #[.string s1, .string s2, .string s3, vb]] w fun e w' => e = .returned (.bool true) ∧ Upd [] w w' := by
  obtain ⟨pa, ca, rfl, _⟩ := id ha
  obtain ⟨pb, cb, rfl, _⟩ := id hb
  have hu0 := (Upd.refl [] w).alloc (.cells #[.string s1, .string s2, .string s3, .slice pa xs.length ca] 52)
  have hu1 := (Upd.refl [] (w.alloc (.cells #[.string s1, .string s2, .string s3, .slice pa xs.length ca] 52))).alloc (.cells #[.string s1, .string s2, .string s3, .slice pb xs.length cb] 52)
  have hA := hu1.heap (heap_alloc_new w (.cells #[.string s1, .string s2, .string s3, .slice pa xs.length ca] 52)) (by simp)
  have hB := heap_alloc_new (w.alloc (.cells #[.string s1, .string s2, .string s3, .slice pa xs.length ca] 52)) (.cells #[.string s1, .string s2, .string s3, .slice pb xs.length cb] 52)
  rw [show (w.alloc (.cells #[.string s1, .string s2, .string s3, .slice pa xs.length ca] 52)).heap.size = w.heap.size + 1 by simp] at hB
  have HS := Lib.hid (sinstrs_any _ _ xs _ (ha.upd (hu0.trans hu1)) (hb.upd (hu0.trans hu1)))
  have HU := Lib.hid (hu0.trans hu1)
  clear hu0 hu1 ha hb
  go_enter Tryz.func51, Tryz.ntmps51
  go_upto_region 1 with fail
  generalize (w.alloc (.cells #[.string s1, .string s2, .string s3, .slice pa xs.length ca] 52)).alloc (.cells #[.string s1, .string s2, .string s3, .slice pb xs.length cb] 52) = w0 at HS HU hA hB ⊢
  have a3 : w0.cell? ⟨w.heap.size, 3, none⟩ = some (.slice pa xs.length ca) := by rw [cell_of hA]; rfl
  have b3 : w0.cell? ⟨w.heap.size + 1, 3, none⟩ = some (.slice pb xs.length cb) := by rw [cell_of hB]; rfl
  go_wp2_with fail
  refine HS.out.mono ?_
  rintro e w1 ⟨rfl, hu1⟩
  have hA := hu1.heap hA (by simp)
  have hB := hu1.heap hB (by simp)
  have HU1 := Lib.hid (HU.out.trans hu1)
  clear a3 b3 hu1
  have a0 : w1.cell? ⟨w.heap.size, 0, none⟩ = some (.string s1) := by rw [cell_of hA]; rfl
  have a1 : w1.cell? ⟨w.heap.size, 1, none⟩ = some (.string s2) := by rw [cell_of hA]; rfl
  have a2 : w1.cell? ⟨w.heap.size, 2, none⟩ = some (.string s3) := by rw [cell_of hA]; rfl
  have b0 : w1.cell? ⟨w.heap.size + 1, 0, none⟩ = some (.string s1) := by rw [cell_of hB]; rfl
  have b1 : w1.cell? ⟨w.heap.size + 1, 1, none⟩ = some (.string s2) := by rw [cell_of hB]; rfl
  have b2 : w1.cell? ⟨w.heap.size + 1, 2, none⟩ = some (.string s3) := by rw [cell_of hB]; rfl
  clear hA hB
  go_wp2_with fail
  go_ret
  exact ⟨rfl, HU1.out⟩

set_option maxRecDepth 100000 in
set_option maxHeartbeats 2000000 in
theorem smeths_any (va vb : Value) (xs : List Meth) (w : World) (ha : MethsAt w va xs) (hb : MethsAt w vb xs) :
    Calls Tryz.prog 29 #[va, vb] w fun e w' => e = .returned (.bool true) ∧ Upd [] w w' := by
  obtain ⟨pa, ca, rfl, ha1, ha2, ha⟩ := ha
  obtain ⟨pb, cb, rfl, hb1, hb2, hb⟩ := hb
  have HA := Lib.hid ha
  have HB := Lib.hid hb
  clear ha hb
  unfold maxLen at ha2
  go_enter Tryz.func29, Tryz.ntmps29
  go_wp2_with fail
  go_loopw [5] (fun i wr => ∃ k : Nat, k ≤ xs.length ∧ i = .int .i64 k ∧ Hid (Upd [] w wr)) (fun i _ => xs.length - (intOf i).toNat)
  case atStart => exact ⟨0, by omega, rfl, Upd.refl _ _⟩
  case round =>
    obtain ⟨k, hk, rfl, HU⟩ := hrel
    by_cases hlt : k < xs.length
    · obtain ⟨b1, o1, rfl, _, x0, x1, x2, u, x3, hu⟩ := HA.out k hlt
      obtain ⟨b2, o2, rfl, _, y0, y1, y2, v, y3, hv⟩ := HB.out k hlt
      have x0 := HU.out.cell x0 (by simp)
      have x1 := HU.out.cell x1 (by simp)
      have x2 := HU.out.cell x2 (by simp)
      have x3 := HU.out.cell x3 (by simp)
      have y0 := HU.out.cell y0 (by simp)
      have y1 := HU.out.cell y1 (by simp)
      have y2 := HU.out.cell y2 (by simp)
      have y3 := HU.out.cell y3 (by simp)
      have HS := Lib.hid (smeth_any (xs.getD k default).params (xs.getD k default).locals (xs.getD k default).ret (xs.getD k default).code u v wr.drew (hu.upd HU.out.drew) (hv.upd HU.out.drew))
      obtain ⟨ua, uc, rfl, _⟩ := hu
      obtain ⟨wa, wc, rfl, _⟩ := hv
      generalize (xs.getD k default).code.length = zl at *
      generalize (xs.getD k default).params = z0 at *
      generalize (xs.getD k default).locals = z1 at *
      generalize (xs.getD k default).ret = z2 at *
      have hF0 : wr.cell? ⟨b1, o1 + k * 4, none⟩ = some (.string z0) ∧ wr.cell? ⟨b1, o1 + k * 4 + 1, none⟩ = some (.string z1) ∧ wr.cell? ⟨b1, o1 + k * 4 + 2, none⟩ = some (.string z2) ∧ wr.cell? ⟨b1, o1 + k * 4 + 3, none⟩ = some (.slice ua zl uc) ∧ wr.cell? ⟨b2, o2 + k * 4, none⟩ = some (.string z0) ∧ wr.cell? ⟨b2, o2 + k * 4 + 1, none⟩ = some (.string z1) ∧ wr.cell? ⟨b2, o2 + k * 4 + 2, none⟩ = some (.string z2) ∧ wr.cell? ⟨b2, o2 + k * 4 + 3, none⟩ = some (.slice wa zl wc) := ⟨x0, x1, x2, x3, y0, y1, y2, y3⟩
      have hF1 : wr.drew.cell? ⟨b1, o1 + k * 4, none⟩ = some (.string z0) ∧ wr.drew.cell? ⟨b1, o1 + k * 4 + 1, none⟩ = some (.string z1) ∧ wr.drew.cell? ⟨b1, o1 + k * 4 + 2, none⟩ = some (.string z2) ∧ wr.drew.cell? ⟨b1, o1 + k * 4 + 3, none⟩ = some (.slice ua zl uc) ∧ wr.drew.cell? ⟨b2, o2 + k * 4, none⟩ = some (.string z0) ∧ wr.drew.cell? ⟨b2, o2 + k * 4 + 1, none⟩ = some (.string z1) ∧ wr.drew.cell? ⟨b2, o2 + k * 4 + 2, none⟩ = some (.string z2) ∧ wr.drew.cell? ⟨b2, o2 + k * 4 + 3, none⟩ = some (.slice wa zl wc) := hF0
      clear x0 x1 x2 x3 y0 y1 y2 y3
      go_wp2_with fail
      go_region_held3 (fun W => W.cell? ⟨b1, o1 + k * 4, none⟩ = some (.string z0) ∧ W.cell? ⟨b1, o1 + k * 4 + 1, none⟩ = some (.string z1) ∧ W.cell? ⟨b1, o1 + k * 4 + 2, none⟩ = some (.string z2) ∧ W.cell? ⟨b1, o1 + k * 4 + 3, none⟩ = some (.slice ua zl uc) ∧ W.cell? ⟨b2, o2 + k * 4, none⟩ = some (.string z0) ∧ W.cell? ⟨b2, o2 + k * 4 + 1, none⟩ = some (.string z1) ∧ W.cell? ⟨b2, o2 + k * 4 + 2, none⟩ = some (.string z2) ∧ W.cell? ⟨b2, o2 + k * 4 + 3, none⟩ = some (.slice wa zl wc))
        (first | exact hk0 | exact hF1 | exact hF0)
        ((go_at_call 51; refine HS.out.mono ?_; rintro e w1 ⟨rfl, hu1⟩; have hk0 := (⟨hu1.cell hF1.1 (by simp), hu1.cell hF1.2.1 (by simp), hu1.cell hF1.2.2.1 (by simp), hu1.cell hF1.2.2.2.1 (by simp), hu1.cell hF1.2.2.2.2.1 (by simp), hu1.cell hF1.2.2.2.2.2.1 (by simp), hu1.cell hF1.2.2.2.2.2.2.1 (by simp), hu1.cell hF1.2.2.2.2.2.2.2 (by simp)⟩ : _ ∧ _ ∧ _ ∧ _ ∧ _ ∧ _ ∧ _ ∧ _)))
      have HU1 := Lib.hid (HU.out.drew.trans hu1)
      clear hu1 HS hk0 hF0 hF1
      go_wp2_with fail
      go_roundw
      case rel => exact ⟨k + 1, by omega, by go_num, HU1.out⟩
      case measure => simp [intOf]; omega
    · go_wp2_with fail
      go_ret
      exact ⟨rfl, HU.out⟩

set_option maxRecDepth 100000 in
set_option maxHeartbeats 1000000 in
theorem sprogram_any (p : Prg) (ca ma cb mb : Value) (w : World) (hca : ClassAt w ca p.cs) (hma : MethsAt w ma p.ms) (hcb : ClassAt w cb p.cs) (hmb : MethsAt w mb p.ms) :
    Calls Tryz.prog 9 #[.agg #[ca, ma], .agg #[cb, mb]] w fun e w' => e = .returned (.bool true) ∧ Upd [] w w' := by
  have HCA := Lib.hid hca
  have HMA := Lib.hid hma
  have HCB := Lib.hid hcb
  have HMB := Lib.hid hmb
  obtain ⟨p1, c1, rfl, _⟩ := hca
  obtain ⟨p2, c2, rfl, _⟩ := hma
  obtain ⟨p3, c3, rfl, _⟩ := hcb
  obtain ⟨p4, c4, rfl, _⟩ := hmb
  have hu0 := (Upd.refl [] w).alloc (.cells #[.slice p1 p.cs.length c1, .slice p2 p.ms.length c2] 25)
  have hu1 := (Upd.refl [] (w.alloc (.cells #[.slice p1 p.cs.length c1, .slice p2 p.ms.length c2] 25))).alloc (.cells #[.slice p3 p.cs.length c3, .slice p4 p.ms.length c4] 25)
  have hA := hu1.heap (heap_alloc_new w (.cells #[.slice p1 p.cs.length c1, .slice p2 p.ms.length c2] 25)) (by simp)
  have hB := heap_alloc_new (w.alloc (.cells #[.slice p1 p.cs.length c1, .slice p2 p.ms.length c2] 25)) (.cells #[.slice p3 p.cs.length c3, .slice p4 p.ms.length c4] 25)
  rw [show (w.alloc (.cells #[.slice p1 p.cs.length c1, .slice p2 p.ms.length c2] 25)).heap.size = w.heap.size + 1 by simp] at hB
  have HU := Lib.hid (hu0.trans hu1)
  clear hu0 hu1
  go_enter Tryz.func9, Tryz.ntmps9
  go_upto_region 1 with fail
  generalize (w.alloc (.cells #[.slice p1 p.cs.length c1, .slice p2 p.ms.length c2] 25)).alloc (.cells #[.slice p3 p.cs.length c3, .slice p4 p.ms.length c4] 25) = w0 at HU hA hB ⊢
  have a0 : w0.cell? ⟨w.heap.size, 0, none⟩ = some (.slice p1 p.cs.length c1) := by rw [cell_of hA]; rfl
  have b0 : w0.cell? ⟨w.heap.size + 1, 0, none⟩ = some (.slice p3 p.cs.length c3) := by rw [cell_of hB]; rfl
  go_wp2_with fail
  refine (sclasses_any _ _ p.cs w0 (HCA.out.upd HU.out) (HCB.out.upd HU.out)).mono ?_
  rintro e w1 ⟨rfl, hu1⟩
  have hA := hu1.heap hA (by simp)
  have hB := hu1.heap hB (by simp)
  have HU1 := Lib.hid (HU.out.trans hu1)
  clear a0 b0 hu1
  have a1 : w1.cell? ⟨w.heap.size, 1, none⟩ = some (.slice p2 p.ms.length c2) := by rw [cell_of hA]; rfl
  have b1 : w1.cell? ⟨w.heap.size + 1, 1, none⟩ = some (.slice p4 p.ms.length c4) := by rw [cell_of hB]; rfl
  clear hA hB
  go_wp2_with fail
  refine (smeths_any _ _ p.ms w1 (HMA.out.upd HU1.out) (HMB.out.upd HU1.out)).mono ?_
  rintro e w2 ⟨rfl, hu2⟩
  go_wp2_with fail
  go_ret
  exact ⟨rfl, HU1.out.trans hu2⟩

end Go.Proofs.YtpkdijbmomkdeaaGreatDoor
