/- overdriveref3.Kinds, Elem, Effect: the same plain effL. -/
import Derived.Test.YtojobkhidlfeoaaGreatDoorEff
import Derived.Test.YtojobkhidlfeoaaGreatDoorVerL
import Derived.Deep.QuietTactic
import Derived.BigQuiet
import Derived.IntWalk
namespace Go.Proofs.YtojobkhidlfeoaaGreatDoor
open Go.RowKit

set_option maxHeartbeats 400000 in
theorem rkinds_any (m : Meth) (kv : Value) (w : World) (h1 : m.params.size ≤ 1000000) (h2 : m.locals.size ≤ 1000000) :
  Calls Tryz.prog 86 #[.agg #[.string m.params, .string m.locals, .string m.ret, kv]] w fun e w' => e = .returned (.string (bs (kindsL m))) ∧ Upd [] w w' := by
 have e : bs (kindsL m) = m.params ++ m.locals := by
  symm
  apply bs_eq
  rw [list_append]; rfl
 rw [e]
 clear e
 go_enter Tryz.func86, Tryz.ntmps86
 go_wp2_with fail
 go_ret
 exact ⟨rfl, (Upd.refl _ _).alloc _⟩
theorem relem_any (a : Int) (w : World) (h : a = 0 ∨ a = 1) :
  Calls Tryz.prog 159 #[.int .i64 a] w fun e w' => e = .returned (.string (bs (atB [lI, lR] a))) ∧ w = w' := by
 rcases h with rfl | rfl
 ·go_enter Tryz.func159, Tryz.ntmps159
  go_wp2_with fail
  go_ret
  exact ⟨rfl, rfl⟩
 ·go_enter Tryz.func159, Tryz.ntmps159
  go_wp2_with fail
  go_ret
  exact ⟨rfl, rfl⟩
structure InsIn (cs : List ByteArray) (nm : Nat) (m : Meth) (x : Ins) : Prop where
 op : 1 ≤ x.op ∧ x.op ≤ 35
 loc : x.op = 3 ∨ x.op = 4 → 0 ≤ x.a ∧ x.a < (m.params.size : Int) + m.locals.size
 cls : x.op = 24 ∨ x.op = 25 ∨ x.op = 26 ∨ x.op = 27 → 0 ≤ x.a ∧ x.a < (cs.length : Int)
 fld : x.op = 25 ∨ x.op = 26 → 0 ≤ x.b ∧ x.b < ((cs.getD x.a.toNat ByteArray.empty).size : Int)
 arr : x.op = 28 ∨ x.op = 29 ∨ x.op = 30 → x.a = 0 ∨ x.a = 1
 call : x.op = 32 → 1 ≤ x.a ∧ x.a < (nm : Int)
 tgt : x.op = 22 ∨ x.op = 23 → 0 ≤ x.a ∧ x.a < (m.code.length : Int)
theorem ins_in {cs : List ByteArray} {nm : Nat} {m : Meth} {x : Ins} (h : insCode cs nm m x = 0) : InsIn cs nm m x := by
 unfold insCode at h
 by_cases h1 : x.op < 1 ∨ 35 < x.op
 ·rw [if_pos h1] at h; omega
 rw [if_neg h1] at h
 by_cases h2 : (x.op = 3 ∨ x.op = 4) ∧ (x.a < 0 ∨ (m.params.size : Int) + m.locals.size ≤ x.a)
 ·rw [if_pos h2] at h; omega
 rw [if_neg h2] at h
 by_cases h3 : (x.op = 24 ∨ x.op = 25 ∨ x.op = 26 ∨ x.op = 27) ∧ (x.a < 0 ∨ (cs.length : Int) ≤ x.a ∨ UB x.op ∧ (x.b < 0 ∨ ((cs.getD x.a.toNat ByteArray.empty).size : Int) ≤ x.b))
 ·rw [if_pos h3] at h; omega
 rw [if_neg h3] at h
 by_cases h4 : (x.op = 28 ∨ x.op = 29 ∨ x.op = 30) ∧ x.a ≠ 0 ∧ x.a ≠ 1
 ·rw [if_pos h4] at h; omega
 rw [if_neg h4] at h
 by_cases h5 : x.op = 32 ∧ (x.a < 1 ∨ (nm : Int) ≤ x.a)
 ·rw [if_pos h5] at h; omega
 rw [if_neg h5] at h
 by_cases h6 : (x.op = 22 ∨ x.op = 23) ∧ (x.a < 0 ∨ (m.code.length : Int) ≤ x.a)
 ·rw [if_pos h6] at h; omega
 have hub : x.op = 25 ∨ x.op = 26 → UB x.op := fun h => h
 clear h
 refine ⟨by omega, fun h => by omega, fun h => by omega, fun h => ?_, fun h => by omega, fun h => by omega, fun h => by omega⟩
 refine Decidable.byContradiction fun hc => h3 ⟨by omega, .inr (.inr ⟨hub h, by omega⟩)⟩
theorem bs_at (s : ByteArray) (i : Nat) (h : i < s.size) : s.extract i (i + 1) = bs (atB s.toList i) := bs_eq (at_extract s i h)

set_option maxRecDepth 100000 in
set_option maxHeartbeats 8000000 in
theorem reffect_any (p : Prg) (k : Nat) (cv mv : Value) (x : Ins) (w : World) (hc : ClassAt w cv p.cs) (hm : MethsAt w mv p.ms) (hk : k < p.ms.length) (_hn : p.ms.length ≤ 1000) (_hn2 : p.cs.length ≤ 1000) (hz : ∀ c ∈ p.cs, c.size ≤ 1000)
  (h1 : (p.ms.getD k default).params.size ≤ 1000) (h2 : (p.ms.getD k default).locals.size ≤ 1000) (hin : InsIn p.cs p.ms.length (p.ms.getD k default) x) :
  Calls Tryz.prog 139 #[.agg #[cv, mv], .int .i64 k, .agg #[.int .i64 x.op, .int .i64 x.a, .int .i64 x.b, .int .i64 x.n]] w fun e w' => e = .returned (effV (effL p (p.ms.getD k default) x)) ∧ Upd [] w w' := by
 obtain ⟨op, a, b, n⟩ := x
 obtain ⟨hop, hloc, hcls, hfld, harr, hcall, _⟩ := hin
 simp only at hop hloc hcls hfld harr hcall
 have HLOC := Lib.hid hloc
 have HCLS := Lib.hid hcls
 have HFLD := Lib.hid hfld
 have HARR := Lib.hid harr
 have HCALL := Lib.hid hcall
 clear hloc hcls hfld harr hcall
 have hcs := hc
 have hms := hm
 obtain ⟨cp, cc, rfl, _, hccl, hccm, hccx⟩ := hcs
 obtain ⟨mp, mc, rfl, hml, hmm, hmx⟩ := hms
 unfold maxLen at hmm hccm
 obtain ⟨mb, mo, rfl, hmsz, q0, q1, q2, kv, q3, hcode⟩ := hmx k hk
 generalize hM : p.ms.getD k default = m at h1 h2 q0 q1 q2 q3 hcode HLOC ⊢
 have HMM := Lib.hid hM
 obtain ⟨ka, kc, rfl, hkc⟩ := hcode
 have HCX := Lib.hid hccx
 have HMX := Lib.hid hmx
 have HZ := Lib.hid hz
 clear hM hkc hccx hmx hz hmsz
 have HU0 := Lib.hid (((Upd.refl [] w).alloc (.cells #[.slice cp p.cs.length cc, .slice (some ⟨mb, mo, none⟩) p.ms.length mc] 25)).alloc (.cells #[.int .i64 op, .int .i64 a, .int .i64 b, .int .i64 n] 46))
 have r0 := HU0.out.cell q0 (by simp)
 have r1 := HU0.out.cell q1 (by simp)
 have r2 := HU0.out.cell q2 (by simp)
 have r3 := HU0.out.cell q3 (by simp)
 clear q0 q1 q2 q3
 go_enter Tryz.func139, Tryz.ntmps139
 go_wp2_with fail
 refine (rkinds_any m _ _ (by omega) (by omega)).mono ?_
 rintro e w3 ⟨rfl, hu1⟩
 have HU3 := Lib.hid (HU0.out.trans hu1)
 have hb0 : w3.heap[w.heap.size]? = some (.cells #[.slice cp p.cs.length cc, .slice (some ⟨mb, mo, none⟩) p.ms.length mc] 25) := hu1.heap (((Upd.refl [] _).alloc _).heap (heap_alloc_new w _) (by simp)) (by simp)
 have hb1 : w3.heap[w.heap.size + 1]? = some (.cells #[.int .i64 op, .int .i64 a, .int .i64 b, .int .i64 n] 46) := by
  have h := heap_alloc_new (w.alloc (.cells #[.slice cp p.cs.length cc, .slice (some ⟨mb, mo, none⟩) p.ms.length mc] 25)) (.cells #[.int .i64 op, .int .i64 a, .int .i64 b, .int .i64 n] 46)
  rw [show (w.alloc (.cells #[.slice cp p.cs.length cc, .slice (some ⟨mb, mo, none⟩) p.ms.length mc] 25)).heap.size = w.heap.size + 1 by simp] at h
  exact hu1.heap h (by simp)
 have m2 := hu1.cell r2 (by simp)
 clear hu1 HU0 r0 r1 r2 r3
 have c0 : w3.cell? ⟨w.heap.size, 0, none⟩ = some (.slice cp p.cs.length cc) := by rw [cell_of hb0]; rfl
 have c1 : w3.cell? ⟨w.heap.size, 1, none⟩ = some (.slice (some ⟨mb, mo, none⟩) p.ms.length mc) := by rw [cell_of hb0]; rfl
 have i0 : w3.cell? ⟨w.heap.size + 1, 0, none⟩ = some (.int .i64 op) := by rw [cell_of hb1]; rfl
 have i1 : w3.cell? ⟨w.heap.size + 1, 1, none⟩ = some (.int .i64 a) := by rw [cell_of hb1]; rfl
 have i2 : w3.cell? ⟨w.heap.size + 1, 2, none⟩ = some (.int .i64 b) := by rw [cell_of hb1]; rfl
 clear hb0 hb1
 clear hc hm
 go_upto_region 2 with fail
 have hcase : op = 1 ∨ op = 2 ∨ op = 3 ∨ op = 4 ∨ op = 5 ∨ op = 6 ∨ op = 7 ∨ op = 8 ∨ op = 9 ∨ op = 10 ∨ op = 11 ∨ op = 12 ∨ op = 13 ∨ op = 14 ∨ op = 15 ∨ op = 16 ∨ op = 17 ∨ op = 18 ∨ op = 19 ∨ op = 20 ∨ op = 21 ∨ op = 22 ∨ op = 23 ∨ op = 24 ∨ op = 25 ∨ op = 26 ∨ op = 27 ∨ op = 28 ∨ op = 29 ∨ op = 30 ∨ op = 31 ∨ op = 32 ∨ op = 33 ∨ op = 34 ∨ op = 35 := by omega
 clear hop
 rcases hcase with rfl | rfl | rfl | rfl | rfl | rfl | rfl | rfl | rfl | rfl | rfl | rfl | rfl | rfl | rfl | rfl | rfl | rfl | rfl | rfl | rfl | rfl | rfl | rfl | rfl | rfl | rfl | rfl | rfl | rfl | rfl | rfl | rfl | rfl | rfl
 ·-- 1
  have HE : Hid (effL p m ⟨1, a, b, n⟩ = some ([], [lI])) := by show _ = _; simp [effL]
  go_wp2_with fail
  go_ret3
  exact ⟨ret_eff HE.out rfl, HU3.out⟩
 ·-- 2
  have HE : Hid (effL p m ⟨2, a, b, n⟩ = some ([], [lR])) := by show _ = _; simp [effL]
  go_wp2_with fail
  go_ret3
  exact ⟨ret_eff HE.out rfl, HU3.out⟩
 ·-- 3
  have HE : Hid (effL p m ⟨3, a, b, n⟩ = some ([], atB (kindsL m) a)) := by show _ = _; simp [effL]
  obtain ⟨ha, hb⟩ := HLOC.out (by omega)
  have hks := kinds_size m
  obtain ⟨j, rfl⟩ := Int.eq_ofNat_of_zero_le ha
  have hj : j < (bs (kindsL m)).size := by omega
  have HX : Hid ((bs (kindsL m)).extract j (j + 1) = bs (atB (kindsL m) j)) := by
   have h := bs_at (bs (kindsL m)) j hj
   rwa [bs_list] at h
  clear hb ha
  generalize hsz : bs (kindsL m) = s at hj hks HX ⊢
  clear hsz
  have s0 : IntKind.i64.wrap ((j : Int) + 1) = ((j + 1 : Nat) : Int) := by rw [IntWalk.i64_in _ (by omega)]; omega
  have s1 : ((j + 1 : Nat) : Int).toNat = j + 1 := by omega
  have s2 : (j : Int) ≤ ((j + 1 : Nat) : Int) := by omega
  have s3 : ((j + 1 : Nat) : Int) ≤ (s.size : Int) := by omega
  go_wp2_with fail
  go_quiet (fail)
  go_wp2_with fail
  go_ret3
  exact ⟨ret_eff HE.out (by unfold effV; simp only [← HX.out]; rfl), HU3.out.drewN _⟩
 ·-- 4
  have HE : Hid (effL p m ⟨4, a, b, n⟩ = some (atB (kindsL m) a, [])) := by show _ = _; simp [effL]
  obtain ⟨ha, hb⟩ := HLOC.out (by omega)
  have hks := kinds_size m
  obtain ⟨j, rfl⟩ := Int.eq_ofNat_of_zero_le ha
  have hj : j < (bs (kindsL m)).size := by omega
  have HX : Hid ((bs (kindsL m)).extract j (j + 1) = bs (atB (kindsL m) j)) := by
   have h := bs_at (bs (kindsL m)) j hj
   rwa [bs_list] at h
  clear hb ha
  generalize hsz : bs (kindsL m) = s at hj hks HX ⊢
  clear hsz
  have s0 : IntKind.i64.wrap ((j : Int) + 1) = ((j + 1 : Nat) : Int) := by rw [IntWalk.i64_in _ (by omega)]; omega
  have s1 : ((j + 1 : Nat) : Int).toNat = j + 1 := by omega
  have s2 : (j : Int) ≤ ((j + 1 : Nat) : Int) := by omega
  have s3 : ((j + 1 : Nat) : Int) ≤ (s.size : Int) := by omega
  go_wp2_with fail
  go_ret3
  exact ⟨ret_eff HE.out (by unfold effV; simp only [← HX.out]; rfl), HU3.out⟩
 ·-- 5
  have HE : Hid (effL p m ⟨5, a, b, n⟩ = none) := by show _ = _; simp [effL]
  go_wp2_with fail
  go_ret3
  exact ⟨ret_eff HE.out rfl, HU3.out⟩
 ·-- 6
  have HE : Hid (effL p m ⟨6, a, b, n⟩ = none) := by show _ = _; simp [effL]
  go_wp2_with fail
  go_ret3
  exact ⟨ret_eff HE.out rfl, HU3.out⟩
 ·-- 7
  have HE : Hid (effL p m ⟨7, a, b, n⟩ = none) := by show _ = _; simp [effL]
  go_wp2_with fail
  go_ret3
  exact ⟨ret_eff HE.out rfl, HU3.out⟩
 ·-- 8
  have HE : Hid (effL p m ⟨8, a, b, n⟩ = some ([lI, lI], [lI])) := by show _ = _; simp [effL]
  go_wp2_with fail
  go_ret3
  exact ⟨ret_eff HE.out rfl, HU3.out⟩
 ·-- 9
  have HE : Hid (effL p m ⟨9, a, b, n⟩ = some ([lI, lI], [lI])) := by show _ = _; simp [effL]
  go_wp2_with fail
  go_ret3
  exact ⟨ret_eff HE.out rfl, HU3.out⟩
 ·-- 10
  have HE : Hid (effL p m ⟨10, a, b, n⟩ = some ([lI, lI], [lI])) := by show _ = _; simp [effL]
  go_wp2_with fail
  go_ret3
  exact ⟨ret_eff HE.out rfl, HU3.out⟩
 ·-- 11
  have HE : Hid (effL p m ⟨11, a, b, n⟩ = some ([lI, lI], [lI])) := by show _ = _; simp [effL]
  go_wp2_with fail
  go_ret3
  exact ⟨ret_eff HE.out rfl, HU3.out⟩
 ·-- 12
  have HE : Hid (effL p m ⟨12, a, b, n⟩ = some ([lI, lI], [lI])) := by show _ = _; simp [effL]
  go_wp2_with fail
  go_ret3
  exact ⟨ret_eff HE.out rfl, HU3.out⟩
 ·-- 13
  have HE : Hid (effL p m ⟨13, a, b, n⟩ = some ([lI, lI], [lI])) := by show _ = _; simp [effL]
  go_wp2_with fail
  go_ret3
  exact ⟨ret_eff HE.out rfl, HU3.out⟩
 ·-- 14
  have HE : Hid (effL p m ⟨14, a, b, n⟩ = some ([lI, lI], [lI])) := by show _ = _; simp [effL]
  go_wp2_with fail
  go_ret3
  exact ⟨ret_eff HE.out rfl, HU3.out⟩
 ·-- 15
  have HE : Hid (effL p m ⟨15, a, b, n⟩ = some ([lI, lI], [lI])) := by show _ = _; simp [effL]
  go_wp2_with fail
  go_ret3
  exact ⟨ret_eff HE.out rfl, HU3.out⟩
 ·-- 16
  have HE : Hid (effL p m ⟨16, a, b, n⟩ = some ([lI, lI], [lI])) := by show _ = _; simp [effL]
  go_wp2_with fail
  go_ret3
  exact ⟨ret_eff HE.out rfl, HU3.out⟩
 ·-- 17
  have HE : Hid (effL p m ⟨17, a, b, n⟩ = some ([lI, lI], [lI])) := by show _ = _; simp [effL]
  go_wp2_with fail
  go_ret3
  exact ⟨ret_eff HE.out rfl, HU3.out⟩
 ·-- 18
  have HE : Hid (effL p m ⟨18, a, b, n⟩ = some ([lI], [lI])) := by show _ = _; simp [effL]
  go_wp2_with fail
  go_ret3
  exact ⟨ret_eff HE.out rfl, HU3.out⟩
 ·-- 19
  have HE : Hid (effL p m ⟨19, a, b, n⟩ = some ([lI, lI], [lI])) := by show _ = _; simp [effL]
  go_wp2_with fail
  go_ret3
  exact ⟨ret_eff HE.out rfl, HU3.out⟩
 ·-- 20
  have HE : Hid (effL p m ⟨20, a, b, n⟩ = some ([lI, lI], [lI])) := by show _ = _; simp [effL]
  go_wp2_with fail
  go_ret3
  exact ⟨ret_eff HE.out rfl, HU3.out⟩
 ·-- 21
  have HE : Hid (effL p m ⟨21, a, b, n⟩ = some ([lR, lR], [lI])) := by show _ = _; simp [effL]
  go_wp2_with fail
  go_ret3
  exact ⟨ret_eff HE.out rfl, HU3.out⟩
 ·-- 22
  have HE : Hid (effL p m ⟨22, a, b, n⟩ = some ([], [])) := by show _ = _; simp [effL]
  go_wp2_with fail
  go_ret3
  exact ⟨ret_eff HE.out rfl, HU3.out⟩
 ·-- 23
  have HE : Hid (effL p m ⟨23, a, b, n⟩ = some ([lI], [])) := by show _ = _; simp [effL]
  go_wp2_with fail
  go_ret3
  exact ⟨ret_eff HE.out rfl, HU3.out⟩
 ·-- 24
  have HE : Hid (effL p m ⟨24, a, b, n⟩ = some ([], [lR])) := by show _ = _; simp [effL]
  go_wp2_with fail
  go_ret3
  exact ⟨ret_eff HE.out rfl, HU3.out⟩
 ·-- 25
  have HE : Hid (effL p m ⟨25, a, b, n⟩ = some ([lR], fieldL p.cs a b)) := by show _ = _; simp [effL]
  obtain ⟨ha, ha2⟩ := HCLS.out (by omega)
  obtain ⟨hb, hb2⟩ := HFLD.out (by omega)
  obtain ⟨q, rfl⟩ := Int.eq_ofNat_of_zero_le ha
  obtain ⟨j, rfl⟩ := Int.eq_ofNat_of_zero_le hb
  rw [Int.toNat_natCast] at hb2
  have hq : q < p.cs.length := by omega
  obtain ⟨cb, co, rfl, _, hcell⟩ := HCX.out q hq
  have hcell := HU3.out.cell hcell (by simp)
  have hss := HZ.out (p.cs.getD q ByteArray.empty) (by rw [List.getD_eq_getElem?_getD, List.getElem?_eq_getElem hq]; exact List.getElem_mem hq)
  have HX : Hid ((p.cs.getD q ByteArray.empty).extract j (j + 1) = bs (fieldL p.cs q j)) := by
   have h := bs_at (p.cs.getD q ByteArray.empty) j (by omega)
   rw [show fieldL p.cs q j = atB (p.cs.getD q ByteArray.empty).toList j by unfold fieldL; rw [if_pos ⟨by omega, by omega⟩, Int.toNat_natCast]]
   exact h
  generalize p.cs.getD q ByteArray.empty = s at hcell hss hb2 HX
  have hj : j < s.size := by omega
  clear hb2 ha2 ha hb
  have s0 : IntKind.i64.wrap ((j : Int) + 1) = ((j + 1 : Nat) : Int) := by rw [IntWalk.i64_in _ (by omega)]; omega
  have s1 : ((j + 1 : Nat) : Int).toNat = j + 1 := by omega
  have s2 : (j : Int) ≤ ((j + 1 : Nat) : Int) := by omega
  have s3 : ((j + 1 : Nat) : Int) ≤ (s.size : Int) := by omega
  go_wp2_with fail
  go_quiet (fail)
  go_wp2_with fail
  go_ret3
  exact ⟨ret_eff HE.out (by unfold effV; simp only [← HX.out]; rfl), HU3.out.drewN _⟩
 ·-- 26
  have HE : Hid (effL p m ⟨26, a, b, n⟩ = some (lR :: fieldL p.cs a b, [])) := by show _ = _; simp [effL]
  obtain ⟨ha, ha2⟩ := HCLS.out (by omega)
  obtain ⟨hb, hb2⟩ := HFLD.out (by omega)
  obtain ⟨q, rfl⟩ := Int.eq_ofNat_of_zero_le ha
  obtain ⟨j, rfl⟩ := Int.eq_ofNat_of_zero_le hb
  rw [Int.toNat_natCast] at hb2
  have hq : q < p.cs.length := by omega
  obtain ⟨cb, co, rfl, _, hcell⟩ := HCX.out q hq
  have hcell := HU3.out.cell hcell (by simp)
  have hss := HZ.out (p.cs.getD q ByteArray.empty) (by rw [List.getD_eq_getElem?_getD, List.getElem?_eq_getElem hq]; exact List.getElem_mem hq)
  have HX : Hid ((p.cs.getD q ByteArray.empty).extract j (j + 1) = bs (fieldL p.cs q j)) := by
   have h := bs_at (p.cs.getD q ByteArray.empty) j (by omega)
   rw [show fieldL p.cs q j = atB (p.cs.getD q ByteArray.empty).toList j by unfold fieldL; rw [if_pos ⟨by omega, by omega⟩, Int.toNat_natCast]]
   exact h
  generalize p.cs.getD q ByteArray.empty = s at hcell hss hb2 HX
  have hj : j < s.size := by omega
  clear hb2 ha2 ha hb
  have s0 : IntKind.i64.wrap ((j : Int) + 1) = ((j + 1 : Nat) : Int) := by rw [IntWalk.i64_in _ (by omega)]; omega
  have s1 : ((j + 1 : Nat) : Int).toNat = j + 1 := by omega
  have s2 : (j : Int) ≤ ((j + 1 : Nat) : Int) := by omega
  have s3 : ((j + 1 : Nat) : Int) ≤ (s.size : Int) := by omega
  go_wp2_with fail
  go_quiet (fail)
  go_wp2_with fail
  go_ret3
  exact ⟨ret_eff HE.out (by unfold effV; simp only [show lR :: fieldL p.cs q j = [lR] ++ fieldL p.cs q j from rfl, ← bs_append]; rw [← HX.out]; rfl), HU3.out.drewN _⟩
 ·-- 27
  have HE : Hid (effL p m ⟨27, a, b, n⟩ = some ([lR], [lI])) := by show _ = _; simp [effL]
  go_wp2_with fail
  go_ret3
  exact ⟨ret_eff HE.out rfl, HU3.out⟩
 ·-- 28
  have HE : Hid (effL p m ⟨28, a, b, n⟩ = some ([lI], [lR])) := by show _ = _; simp [effL]
  go_wp2_with fail
  go_ret3
  exact ⟨ret_eff HE.out rfl, HU3.out⟩
 ·-- 29
  have hsz := at_size [lI, lR] a
  have HE : Hid (effL p m ⟨29, a, b, n⟩ = some ([lR, lI], atB [lI, lR] a)) := by show _ = _; simp [effL]
  go_wp2_with fail
  refine (relem_any a _ (HARR.out (by simp))).mono ?_
  rintro e w' ⟨rfl, rfl⟩
  go_wp2_with fail
  go_ret3
  exact ⟨ret_eff HE.out (by rfl), HU3.out⟩
 ·-- 30
  have hsz := at_size [lI, lR] a
  have HE : Hid (effL p m ⟨30, a, b, n⟩ = some ([lR, lI] ++ atB [lI, lR] a, [])) := by show _ = _; simp [effL]
  go_wp2_with fail
  refine (relem_any a _ (HARR.out (by simp))).mono ?_
  rintro e w' ⟨rfl, rfl⟩
  go_wp2_with fail
  go_ret3
  exact ⟨ret_eff HE.out (by unfold effV; simp only [← bs_append]; rfl), HU3.out⟩
 ·-- 31
  have HE : Hid (effL p m ⟨31, a, b, n⟩ = some ([lR], [lI])) := by show _ = _; simp [effL]
  go_wp2_with fail
  go_ret3
  exact ⟨ret_eff HE.out rfl, HU3.out⟩
 ·-- 32
  obtain ⟨ha1, ha2⟩ := HCALL.out rfl
  obtain ⟨q, rfl⟩ := Int.eq_ofNat_of_zero_le (show 0 ≤ a by omega)
  have hq : q < p.ms.length := by omega
  have HE : Hid (effL p m ⟨32, (q : Int), b, n⟩ = some ((p.ms.getD q default).params.toList, (p.ms.getD q default).ret.toList)) := by show _ = _; simp [effL, hq]
  obtain ⟨mb2, mo2, e, hsz, u0, u1, u2, kv2, u3, _⟩ := HMX.out q hq
  injection e with e
  injection e with e1 e2
  subst e1 e2
  have u0 := HU3.out.cell u0 (by simp)
  have u2 := HU3.out.cell u2 (by simp)
  generalize p.ms.getD q default = mj at HE u0 u2
  clear hsz u1 u3 ha1 ha2
  go_wp2_with fail
  go_quiet (fail)
  go_wp2_with fail
  go_ret3
  exact ⟨ret_eff HE.out (by unfold effV; simp only [bs_of]; rfl), HU3.out.drewN _⟩
 ·-- 33
  have HE : Hid (effL p m ⟨33, a, b, n⟩ = some (m.ret.toList, [])) := by show _ = _; simp [effL]
  go_wp2_with fail
  go_ret3
  exact ⟨ret_eff HE.out (by unfold effV; simp only [bs_of]; rfl), HU3.out⟩
 ·-- 34
  have HE : Hid (effL p m ⟨34, a, b, n⟩ = some ([], [lI])) := by show _ = _; simp [effL]
  go_wp2_with fail
  go_ret3
  exact ⟨ret_eff HE.out rfl, HU3.out⟩
 ·-- 35
  have HE : Hid (effL p m ⟨35, a, b, n⟩ = some ([lI], [])) := by show _ = _; simp [effL]
  go_wp2_with fail
  go_ret3
  exact ⟨ret_eff HE.out rfl, HU3.out⟩
end Go.Proofs.YtojobkhidlfeoaaGreatDoor
