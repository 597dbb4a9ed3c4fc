/- ModelCalls: the law. -/
import Derived.Test.YtojobkhidlfeoaaGreatDoorPkE
import Derived.Test.YtojobkhidlfeoaaGreatDoorFirst9
import Derived.Test.YtojobkhidlfeoaaGreatDoorMdH
namespace Go.Proofs.YtojobkhidlfeoaaGreatDoor
open Go.RowKit

theorem looks_uniq {p : Prg} {ss ss' : List Lk} (h : Looks p ss) (h' : Looks p ss') : ss = ss' := by
 refine List.ext_getElem? fun j => ?_
 have hl := h.len
 have hl' := h'.len
 by_cases hj : j < p.ms.length
 ·have e1 := h.look j hj
  rw [h'.look j hj] at e1
  injection e1 with e2
  rw [List.getD_eq_getElem?_getD, List.getD_eq_getElem?_getD, List.getElem?_eq_getElem (l := ss) (by omega), List.getElem?_eq_getElem (l := ss') (by omega)] at e2
  rw [List.getElem?_eq_getElem (l := ss) (by omega), List.getElem?_eq_getElem (l := ss') (by omega)]
  simpa using e2.symm
 ·rw [List.getElem?_eq_none (by omega), List.getElem?_eq_none (by omega)]
theorem tmod_nat (a b : Int) (hb : 0 < b) (hb2 : b ≤ 1000) : IntKind.i64.wrap (a.tmod b + b) = a.tmod b + b ∧ ∃ k : Nat, (a.tmod b + b).tmod b = (k : Int) ∧ (k : Int) < b := by
 have h1 := Int.tmod_lt_of_pos a hb
 have h2 := Int.lt_tmod_of_pos a hb
 refine ⟨IntWalk.i64_in _ (by omega), ((a.tmod b + b).tmod b).toNat, ?_, ?_⟩
 ·have := Int.tmod_nonneg b (show 0 ≤ a.tmod b + b by omega)
  omega
 ·have := Int.tmod_nonneg b (show 0 ≤ a.tmod b + b by omega)
  have := Int.tmod_lt_of_pos (a.tmod b + b) hb
  omega

/-! The world in which the program lies. -/
theorem calWorld (w1 : World) (k x : Int) (hk : in64 k) (hx : in64 x) : ∃ W, ((((w1.alloc (.cells #[.int .i64 1, .int .i64 0, .int .i64 0, .int .i64 k, .int .i64 1, .int .i64 0, .int .i64 0, .int .i64 x, .int .i64 32, .int .i64 1, .int .i64 0, .int .i64 0, .int .i64 33, .int .i64 0, .int .i64 0, .int .i64 0] 46)).alloc (.cells #[.int .i64 3, .int .i64 0, .int .i64 0, .int .i64 0, .int .i64 23, .int .i64 8, .int .i64 0, .int .i64 0, .int .i64 3, .int .i64 0, .int .i64 0, .int .i64 0, .int .i64 1, .int .i64 0, .int .i64 0, .int .i64 1, .int .i64 9, .int .i64 0, .int .i64 0, .int .i64 0, .int .i64 3, .int .i64 1, .int .i64 0, .int .i64 0, .int .i64 32, .int .i64 1, .int .i64 0, .int .i64 0, .int .i64 33, .int .i64 0, .int .i64 0, .int .i64 0, .int .i64 3, .int .i64 1, .int .i64 0, .int .i64 0, .int .i64 33, .int .i64 0, .int .i64 0, .int .i64 0] 46)).alloc (.cells #[.string ⟨#[]⟩, .string ⟨#[]⟩, .string ⟨#[73]⟩, .slice (some ⟨w1.heap.size, 0, none⟩) 4 4, .string ⟨#[73, 73]⟩, .string ⟨#[]⟩, .string ⟨#[73]⟩, .slice (some ⟨w1.heap.size + 1, 0, none⟩) 10 10] 53)).alloc (.cells #[.slice none 0 0, .slice (some ⟨w1.heap.size + 1 + 1, 0, none⟩) 2 2] 25)) = W ∧ MethsAt W (.slice (some ⟨w1.heap.size + 1 + 1, 0, none⟩) 2 2) (callP k x).ms ∧ W.heap[w1.heap.size + 1 + 1 + 1]? = some (.cells #[.slice none 0 0, .slice (some ⟨w1.heap.size + 1 + 1, 0, none⟩) 2 2] 25) ∧ Upd [] w1 W := by
 refine ⟨_, rfl, ?_⟩
 have h1 : in64 1 := by unfold in64; omega
 have hC0 := code_lit w1 [⟨1, 0, 0, k⟩, ⟨1, 0, 0, x⟩, ⟨32, 1, 0, 0⟩, ⟨33, 0, 0, 0⟩] (by simp) (fun i hi => by
  have h4 : i = 0 ∨ i = 1 ∨ i = 2 ∨ i = 3 := by have h : i < 4 := hi; omega
  rcases h4 with rfl | rfl | rfl | rfl
  ·exact ins_bd2 (by omega) (by omega) (by omega) hk
  ·exact ins_bd2 (by omega) (by omega) (by omega) hx
  ·exact ins_bd2 (by omega) (by omega) (by omega) in_0
  ·exact ins_bd2 (by omega) (by omega) (by omega) in_0)
 obtain ⟨w2, hw2⟩ : ∃ w2, w1.alloc (.cells #[.int .i64 1, .int .i64 0, .int .i64 0, .int .i64 k, .int .i64 1, .int .i64 0, .int .i64 0, .int .i64 x, .int .i64 32, .int .i64 1, .int .i64 0, .int .i64 0, .int .i64 33, .int .i64 0, .int .i64 0, .int .i64 0] 46) = w2 := ⟨_, rfl⟩
 have hC0 : CodeAt w2 (.slice (some ⟨w1.heap.size, 0, none⟩) 4 4) [⟨1, 0, 0, k⟩, ⟨1, 0, 0, x⟩, ⟨32, 1, 0, 0⟩, ⟨33, 0, 0, 0⟩] := by rw [← hw2]; exact hC0
 have z2 : w2.heap.size = w1.heap.size + 1 := by rw [← hw2]; simp
 have u2 : Upd [] w1 w2 := by rw [← hw2]; exact (Upd.refl [] w1).alloc _
 rw [hw2]
 have hC1 := code_lit w2 [⟨3, 0, 0, 0⟩, ⟨23, 8, 0, 0⟩, ⟨3, 0, 0, 0⟩, ⟨1, 0, 0, 1⟩, ⟨9, 0, 0, 0⟩, ⟨3, 1, 0, 0⟩, ⟨32, 1, 0, 0⟩, ⟨33, 0, 0, 0⟩, ⟨3, 1, 0, 0⟩, ⟨33, 0, 0, 0⟩] (by simp) (fun i hi => by
  have h4 : i = 0 ∨ i = 1 ∨ i = 2 ∨ i = 3 ∨ i = 4 ∨ i = 5 ∨ i = 6 ∨ i = 7 ∨ i = 8 ∨ i = 9 := by have h : i < 10 := hi; omega
  rcases h4 with rfl | rfl | rfl | rfl | rfl | rfl | rfl | rfl | rfl | rfl
  all_goals first | exact ins_bd2 (by omega) (by omega) (by omega) in_0 | exact ins_bd2 (by omega) (by omega) (by omega) h1)
 obtain ⟨w3, hw3⟩ : ∃ w3, w2.alloc (.cells #[.int .i64 3, .int .i64 0, .int .i64 0, .int .i64 0, .int .i64 23, .int .i64 8, .int .i64 0, .int .i64 0, .int .i64 3, .int .i64 0, .int .i64 0, .int .i64 0, .int .i64 1, .int .i64 0, .int .i64 0, .int .i64 1, .int .i64 9, .int .i64 0, .int .i64 0, .int .i64 0, .int .i64 3, .int .i64 1, .int .i64 0, .int .i64 0, .int .i64 32, .int .i64 1, .int .i64 0, .int .i64 0, .int .i64 33, .int .i64 0, .int .i64 0, .int .i64 0, .int .i64 3, .int .i64 1, .int .i64 0, .int .i64 0, .int .i64 33, .int .i64 0, .int .i64 0, .int .i64 0] 46) = w3 := ⟨_, rfl⟩
 have hC1 : CodeAt w3 (.slice (some ⟨w2.heap.size, 0, none⟩) 10 10) [⟨3, 0, 0, 0⟩, ⟨23, 8, 0, 0⟩, ⟨3, 0, 0, 0⟩, ⟨1, 0, 0, 1⟩, ⟨9, 0, 0, 0⟩, ⟨3, 1, 0, 0⟩, ⟨32, 1, 0, 0⟩, ⟨33, 0, 0, 0⟩, ⟨3, 1, 0, 0⟩, ⟨33, 0, 0, 0⟩] := by rw [← hw3]; exact hC1
 have z3 : w3.heap.size = w1.heap.size + 1 + 1 := by rw [← hw3]; simp [z2]
 have u3 : Upd [] w2 w3 := by rw [← hw3]; exact (Upd.refl [] w2).alloc _
 rw [hw3]
 rw [z2] at hC1
 have hM := meths_lit w3 (callP k x).ms [.slice (some ⟨w1.heap.size, 0, none⟩) 4 4, .slice (some ⟨w1.heap.size + 1, 0, none⟩) 10 10] rfl (by simp [callP]) (fun i hi => by
  have h4 : i = 0 ∨ i = 1 := by have h : i < 2 := hi; omega
  rcases h4 with rfl | rfl
  ·exact ⟨by show (0 : Nat) ≤ _; omega, by show (0 : Nat) ≤ _; omega, by show (1 : Nat) ≤ _; decide⟩
  ·exact ⟨by show (2 : Nat) ≤ _; decide, by show (0 : Nat) ≤ _; omega, by show (1 : Nat) ≤ _; decide⟩) (fun i hi => by
  have h4 : i = 0 ∨ i = 1 := by have h : i < 2 := hi; omega
  rcases h4 with rfl | rfl
  ·exact hC0.upd u3
  ·exact hC1)
 obtain ⟨w4, hw4⟩ : ∃ w4, w3.alloc (.cells #[.string ⟨#[]⟩, .string ⟨#[]⟩, .string ⟨#[73]⟩, .slice (some ⟨w1.heap.size, 0, none⟩) 4 4, .string ⟨#[73, 73]⟩, .string ⟨#[]⟩, .string ⟨#[73]⟩, .slice (some ⟨w1.heap.size + 1, 0, none⟩) 10 10] 53) = w4 := ⟨_, rfl⟩
 have hM : MethsAt w4 (.slice (some ⟨w3.heap.size, 0, none⟩) 2 2) (callP k x).ms := by rw [← hw4]; exact hM
 have z4 : w4.heap.size = w1.heap.size + 1 + 1 + 1 := by rw [← hw4]; simp [z3]
 have u4 : Upd [] w3 w4 := by rw [← hw4]; exact (Upd.refl [] w3).alloc _
 rw [hw4]
 rw [z3] at hM
 have hB := heap_alloc_new w4 (.cells #[.slice none 0 0, .slice (some ⟨w1.heap.size + 1 + 1, 0, none⟩) 2 2] 25)
 have u5 := (Upd.refl [] w4).alloc (.cells #[.slice none 0 0, .slice (some ⟨w1.heap.size + 1 + 1, 0, none⟩) 2 2] 25)
 rw [z4] at hB
 exact ⟨hM.upd u5, hB, ((u2.trans u3).trans u4).trans u5⟩

set_option maxRecDepth 100000 in
set_option maxHeartbeats 8000000 in
theorem calW_any (E : Nat → Addr) (n0 f0 x : Int) (hx : in64 x) (w : World) (hS : SentAt w E) :
  Calls Tryz.prog 9 #[.int .i64 n0, .int .i64 f0, .int .i64 x] w fun e w' => e = .returned (.bool true) ∧ Upd [] w w' := by
 have HF := Lib.hid (first9_any E w hS)
 have HS := Lib.hid hS
 obtain ⟨s1, k, hk, hk2⟩ := tmod_nat n0 150 (by omega) (by omega)
 obtain ⟨s2, F, hF, hF2⟩ := tmod_nat f0 300 (by omega) (by omega)
 have HK2 := Lib.hid hk2
 have HF2 := Lib.hid hF2
 have hk64 : in64 (k : Int) := by unfold in64; omega
 have HVF : Hid (Vf (callP k x) (callP k x).looks) := callP_ok hk64 hx
 have HRUN := Lib.hid (call_run (n := k) (F := F) (by omega) (by omega) hx)
 have HCW := Lib.hid (fun w1 => calWorld w1 k x hk64 hx)
 clear hS hx hk2 hF2 hk64
 go_enter Tryz.func9, Tryz.ntmps9
 go_wp2_with fail
 refine HF.out.mono ?_
 rintro e w1 ⟨rfl, hu1⟩
 have HU1 := Lib.hid hu1
 clear hu1 HF
 obtain ⟨W, hW, hM, hB, hu⟩ := HCW.out w1
 have HM := Lib.hid hM
 have HB := Lib.hid hB
 have HUW := Lib.hid (HU1.out.trans hu)
 clear hM hB hu HCW
 go_upto_region 5 with fail
 (try rw [hW])
 clear hW
 have p0 : W.cell? ⟨w1.heap.size + 1 + 1 + 1, 0, none⟩ = some (.slice none 0 0) := by rw [cell_of HB.out]; rfl
 have p1 : W.cell? ⟨w1.heap.size + 1 + 1 + 1, 1, none⟩ = some (.slice (some ⟨w1.heap.size + 1 + 1, 0, none⟩) 2 2) := by rw [cell_of HB.out]; rfl
 have HOV := Lib.hid (ofV_any (callP k x) (.slice none 0 0) (.slice (some ⟨w1.heap.size + 1 + 1, 0, none⟩) 2 2) E W (HS.out.upd HUW.out) (class_nil _) HM.out)
 clear s1 s2 hk hF
 go_wp2_with fail
 refine HOV.out.mono ?_
 rintro e w2 ⟨v, rfl, hend⟩
 obtain ⟨ib, ss, hl, hlk, rfl, hinfo, hib, hu2⟩ := hend.good HVF.out.ok (fun j hj => ⟨_, HVF.out.look.look j hj⟩)
 obtain rfl := looks_uniq ⟨hl, hlk⟩ HVF.out.look
 obtain ⟨p, hp⟩ : ∃ p, callP k x = p := ⟨_, rfl⟩
 have hms : p.ms.length = 2 := by rw [← hp]; rfl
 have hfrok : ∀ m, m < 2 → (p.ms.getD m default).params.size ≤ 12 ∧ (p.ms.getD m default).locals.size ≤ 12 ∧ 0 < (p.ms.getD m default).code.length := by
  intro m hm
  have h1 := HVF.out.ok.meth m (by rw [hp, hms]; exact hm)
  rw [hp] at h1
  unfold headCode at h1
  split at h1
  ·cases h1
  ·omega
 have hmost : ∀ m, m < 2 → (p.looks.getD m default).most ≤ 12 := by
  intro m hm
  have h1 := hfrok m hm
  exact (look_good (p := p) (m := p.ms.getD m default) h1.2.2 (by rw [← hp]; exact HVF.out.look.look m (by rw [hp, hms]; exact hm))).2.1.most
 have hrun := HRUN.out
 simp only [hp] at hrun
 rw [hp] at hinfo HVF
 obtain ⟨hout, hfin, kk, hkk, hpk⟩ := hrun
 have HLEN := Lib.hid (show p.looks.length = p.ms.length from HVF.out.look.len)
 have HMS := Lib.hid hms
 have HFROK := Lib.hid hfrok
 have HMOST := Lib.hid hmost
 have HINF := Lib.hid hinfo
 have HU2 := Lib.hid (HUW.out.trans hu2)
 have HIB : Hid (w.heap.size ≤ ib) := Nat.le_trans HUW.out.size hib
 have HOUT := Lib.hid hout
 have HFIN := Lib.hid hfin
 have HPK := Lib.hid (And.intro hkk hpk)
 have HGO := Lib.hid (mgo_any hinfo HVF.out none 0 0 0 [] (lng_nil w2) (fun _ => rfl) (by simp) (by simp) F (by have := HF2.out; omega))
 clear hp hms hfrok hmost hl hlk hinfo hib hu2 hend hout hfin hkk hpk HOV p0 p1 HRUN
 obtain ⟨TA, hTA⟩ : ∃ T, (Mc.new p [] F).run p = T := ⟨_, rfl⟩
 rw [hTA] at HGO HOUT HFIN
 clear hTA
 obtain ⟨fk, ft, fm, fp, fv, hF9⟩ : ∃ fk ft fm fp fv, TA.fin.getD ⟨0, 0, 0, 0, 0⟩ = ⟨fk, ft, fm, fp, fv⟩ := ⟨_, _, _, _, _, rfl⟩
 have HF9 := Lib.hid hF9
 clear hF9
 go_wp2_with fail
 refine HGO.out.mono ?_
 rintro e w3 ⟨q, vc, he, ho3, hu3⟩
 unfold outcells at he
 rw [HF9.out, HOUT.out] at he
 have he2 : e = .returned (.tuple #[.agg #[.int .i64 fk, .int .i64 ft, .int .i64 fm, .int .i64 fp, .int .i64 fv, .slice q 0 vc], .nilIface]) := he
 subst he2
 clear he
 rw [HOUT.out] at ho3
 obtain ⟨qb, hq, _⟩ := OwnI.ints ho3
 have hu4 := (Upd.refl [] w3).alloc (.cells #[.int .i64 fk, .int .i64 ft, .int .i64 fm, .int .i64 fp, .int .i64 fv, .slice q 0 vc] 37)
 have HO4 := Lib.hid (heap_alloc_new w3 (.cells #[.int .i64 fk, .int .i64 ft, .int .i64 fm, .int .i64 fp, .int .i64 fv, .slice q 0 vc] 37))
 have HQ4 := Lib.hid (hq.upd hu4 (by simp))
 have HI4 := Lib.hid (HINF.out.upd (hu3.trans hu4))
 have HU4 := Lib.hid (HU2.out.trans (hu3.trans hu4))
 clear ho3 hu3 hu4 hq HGO HINF
 go_upto_region 9 with fail
 generalize w3.alloc (.cells #[.int .i64 fk, .int .i64 ft, .int .i64 fm, .int .i64 fp, .int .i64 fv, .slice q 0 vc] 37) = w4 at HO4 HQ4 HI4 HU4 ⊢
 obtain ⟨ab, hab⟩ : ∃ ab, w3.heap.size = ab := ⟨_, rfl⟩
 rw [hab] at HO4 ⊢
 clear hab
 have HPE := Lib.hid (mpeak_any HI4.out (by omega) HVF.out none 0 0 0 [] (lng_nil w4) (fun _ => rfl) (by simp) (by simp) F (by have := HF2.out; omega))
 go_wp2_with fail
 refine HPE.out.mono ?_
 rintro e w5 ⟨k5, n5, hk5, rfl, hik5, hn5, hn6⟩
 obtain ⟨pw, hpw⟩ : ∃ pw, Mc.pkF p p.looks k5 (Mc.new p [] F) = pw := ⟨_, rfl⟩
 obtain ⟨po, hpo⟩ : ∃ po, Mc.pkO p k5 (Mc.new p [] F) = po := ⟨_, rfl⟩
 rw [hpw, hpo]
 have HPW : Hid (pw = p.fw p.looks 0 + ((min (k + 1) F : Nat) : Int) * p.fw p.looks 1) := by
  show _ = _
  rw [← hpw, pkF_end hk5 HPK.out.1]
  exact HPK.out.2
 have HIK := Lib.hid hik5
 have HN5 := Lib.hid (And.intro hn5 hn6)
 clear hk5 hpw hpo hik5 hn5 hn6 HPE
 have hmin : min ((k : Int) + 1) (F : Int) = ((min (k + 1) F : Nat) : Int) := by omega
 have s3 : IntKind.i64.wrap ((k : Int) + 1) = (k : Int) + 1 := IntWalk.i64_in _ (by have := HK2.out; omega)
 obtain ⟨dd, hdd⟩ : ∃ dd, min (k + 1) F = dd := ⟨_, rfl⟩
 rw [hdd] at HPW hmin
 have HDD : Hid (dd ≤ 300) := by
  show _ ≤ _
  have := HF2.out
  omega
 clear hdd
 have hne : ab ≠ ib := by
  obtain ⟨_, _, _, hbx, _⟩ := HI4.out
  rintro rfl
  exact absurd (typ_ne HO4.out hbx) (by decide)
 have HNE := Lib.hid hne
 clear hne
 have hf0 := HFROK.out 0 (by omega)
 have hf1 := HFROK.out 1 (by omega)
 have hm0 := HMOST.out 0 (by omega)
 have hm1 := HMOST.out 1 (by omega)
 have HW0 := Lib.hid (words_in3 ib p p.looks n5 0 w5 HIK.out.now HLEN.out (by rw [HMS.out]; omega) hf0.2.2 (by omega) (by omega) (by omega) (by have := HN5.out; omega) (by have := HN5.out; omega))
 have HW1 := Lib.hid (fun w6 (hi : InfoAt w6 ib p p.looks (n5 + 1)) => words_in3 ib p p.looks (n5 + 1) 1 w6 hi HLEN.out (by rw [HMS.out]; omega) hf1.2.2 (by omega) (by omega) (by omega) (by have := HN5.out; omega) (by have := HN5.out; omega))
 obtain ⟨x0, hx0⟩ : ∃ x0, p.fw p.looks 0 = x0 := ⟨_, rfl⟩
 obtain ⟨x1, hx1⟩ : ∃ x1, p.fw p.looks 1 = x1 := ⟨_, rfl⟩
 have hb0 : 0 ≤ x0 ∧ x0 ≤ 100 := by
  rw [← hx0]
  unfold Prg.fw
  omega
 have hb1 : 0 ≤ x1 ∧ x1 ≤ 100 := by
  rw [← hx1]
  unfold Prg.fw
  omega
 rw [hx0, hx1] at HPW
 have hprod : 0 ≤ (dd : Int) * x1 ∧ (dd : Int) * x1 ≤ 30000 := by
  have h1 := HDD.out
  have h2 := Int.mul_le_mul (show (dd : Int) ≤ 300 by omega) hb1.2 hb1.1 (by omega)
  exact ⟨Int.mul_nonneg (by omega) hb1.1, by omega⟩
 have s4 : IntKind.i64.wrap ((dd : Int) * x1) = (dd : Int) * x1 := IntWalk.i64_in _ (by omega)
 have s5 : IntKind.i64.wrap (x0 + (dd : Int) * x1) = pw := by
  rw [HPW.out]
  exact IntWalk.i64_in _ (by omega)
 have HX0 := Lib.hid hx0
 have HX1 := Lib.hid hx1
 clear hf0 hf1 hm0 hm1 hx0 hx1 hb0 hb1 hprod
 go_upto_region 13 with fail
 (try rw [hmin])
 go_wp2_with fail
 refine HW0.out.mono ?_
 rintro e w6 ⟨he, hi6, hu6, hst6⟩
 have he2 : e = .returned (.int .i64 x0) := by
  rw [he, ← HX0.out]
  rfl
 subst he2
 clear he
 have HW1' := Lib.hid (HW1.out w6 hi6)
 have HIK6 := Lib.hid (HIK.out.step hu6 hst6)
 clear hi6 hu6 hst6 HW0 HW1 HIK
 go_wp2_with fail
 refine HW1'.out.mono ?_
 rintro e w7 ⟨he, _, hu7, hst7⟩
 have he2 : e = .returned (.int .i64 x1) := by
  rw [he, ← HX1.out]
  rfl
 subst he2
 clear he
 have HIK7 := Lib.hid (HIK6.out.step hu7 hst7)
 clear hu7 hst7 HIK6 HW1'
 have HO7 := Lib.hid (HIK7.out.upd.heap HO4.out (by simpa using HNE.out))
 have HQ7 : Hid (IntsV w7 (.slice q 0 vc) qb []) := by
  refine Lib.hid ⟨?_, by simp⟩
  exact HQ4.out.1
 have HU7 : Hid (Upd [] w w7) := HU4.out.trans' HIK7.out.upd (fun i hi _ => by rw [List.mem_singleton] at hi; have := HIB.out; omega)
 have c0 : w7.cell? ⟨ab, 0, none⟩ = some (.int .i64 fk) := by rw [cell_of HO7.out]; rfl
 have c1 : w7.cell? ⟨ab, 1, none⟩ = some (.int .i64 ft) := by rw [cell_of HO7.out]; rfl
 have c2 : w7.cell? ⟨ab, 2, none⟩ = some (.int .i64 fm) := by rw [cell_of HO7.out]; rfl
 have c3 : w7.cell? ⟨ab, 3, none⟩ = some (.int .i64 fp) := by rw [cell_of HO7.out]; rfl
 have c4 : w7.cell? ⟨ab, 4, none⟩ = some (.int .i64 fv) := by rw [cell_of HO7.out]; rfl
 have c5 : w7.cell? ⟨ab, 5, none⟩ = some (.slice q 0 vc) := by rw [cell_of HO7.out]; rfl
 have HSO : Hid (∀ a1 a2 a3 a4 a5, fk = a1 → ft = a2 → fm = a3 → fp = a4 → fv = a5 → Calls Tryz.prog 17 #[.agg #[.int .i64 fk, .int .i64 ft, .int .i64 fm, .int .i64 fp, .int .i64 fv, .slice q 0 vc], .agg #[.int .i64 a1, .int .i64 a2, .int .i64 a3, .int .i64 a4, .int .i64 a5, .slice none 0 0]] w7 fun e w' => e = .returned (.bool true) ∧ Upd [] w7 w') := fun a1 a2 a3 a4 a5 e1 e2 e3 e4 e5 => by
  have h2 : IntsV w7 (.slice none 0 0) 0 [] := ⟨.inl ⟨rfl, rfl⟩, by simp⟩
  have h3 := souts_any HQ7.out h2 (by simp) fk ft fm fp fv a1 a2 a3 a4 a5
  rw [decide_eq_true (p := fk = a1 ∧ ft = a2 ∧ fm = a3 ∧ fp = a4 ∧ fv = a5 ∧ ([] : List Int) = []) ⟨e1, e2, e3, e4, e5, rfl⟩] at h3
  exact h3
 have hff := HF9.out
 rw [HFIN.out] at hff
 clear HDD HN5 HPK
 by_cases c1' : k + 1 ≤ F
 ·rw [if_pos c1'] at hff
  have hff2 : (⟨1, 0, 0, 0, x⟩ : Fend) = ⟨fk, ft, fm, fp, fv⟩ := hff
  injection hff2 with e1 e2 e3 e4 e5
  have HS1 := Lib.hid (HSO.out 1 0 0 0 x e1.symm e2.symm e3.symm e4.symm e5.symm)
  have d1 : decide ((F : Int) ≥ (k : Int) + 1) = true := decide_eq_true (by omega)
  have d2 : decide ((k : Int) + 1 ≤ (F : Int)) = true := decide_eq_true (by omega)
  have d3 : decide (k + 1 ≤ F) = true := decide_eq_true c1'
  clear e1 e2 e3 e4 e5 hff c1' hmin
  go_wp2_with fail
  refine HS1.out.mono ?_
  rintro e w8 ⟨rfl, hu8⟩
  have HU8 := Lib.hid (HU7.out.trans hu8)
  clear hu8
  go_wp2_with fail
  go_ret
  exact ⟨rfl, HU8.out⟩
 ·rw [if_neg c1'] at hff
  have d1 : decide ((F : Int) ≥ (k : Int) + 1) = false := decide_eq_false (by omega)
  have d2 : decide ((k : Int) + 1 ≤ (F : Int)) = false := decide_eq_false (by omega)
  have d3 : decide (k + 1 ≤ F) = false := decide_eq_false c1'
  by_cases c2' : F = 0
  ·rw [if_pos c2'] at hff
   have hff2 : (⟨3, 0, 0, 2, 0⟩ : Fend) = ⟨fk, ft, fm, fp, fv⟩ := hff
   injection hff2 with e1 e2 e3 e4 e5
   have HS1 := Lib.hid (HSO.out 3 0 0 2 0 e1.symm e2.symm e3.symm e4.symm e5.symm)
   have b1 : ((F : Int) == 0) = true := by rw [c2']; rfl
   clear e1 e2 e3 e4 e5 hff c1' c2' hmin
   go_wp2_with fail
   refine HS1.out.mono ?_
   rintro e w8 ⟨rfl, hu8⟩
   have HU8 := Lib.hid (HU7.out.trans hu8)
   clear hu8
   go_wp2_with fail
   go_ret
   exact ⟨rfl, HU8.out⟩
  ·rw [if_neg c2'] at hff
   have hff2 : (⟨3, 0, 1, 6, 0⟩ : Fend) = ⟨fk, ft, fm, fp, fv⟩ := hff
   injection hff2 with e1 e2 e3 e4 e5
   have HS1 := Lib.hid (HSO.out 3 0 1 6 0 e1.symm e2.symm e3.symm e4.symm e5.symm)
   have b1 : ((F : Int) == 0) = false := by rw [beq_eq_false_iff_ne]; omega
   clear e1 e2 e3 e4 e5 hff c1' c2' hmin
   go_wp2_with fail
   refine HS1.out.mono ?_
   rintro e w8 ⟨rfl, hu8⟩
   have HU8 := Lib.hid (HU7.out.trans hu8)
   clear hu8
   go_wp2_with fail
   go_ret
   exact ⟨rfl, HU8.out⟩
end Go.Proofs.YtojobkhidlfeoaaGreatDoor
