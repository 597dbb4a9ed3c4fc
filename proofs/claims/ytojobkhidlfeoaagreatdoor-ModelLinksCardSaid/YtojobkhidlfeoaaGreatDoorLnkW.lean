/- ModelLinks: the law. -/
import Derived.Test.YtojobkhidlfeoaaGreatDoorCalW
import Derived.Test.YtojobkhidlfeoaaGreatDoorMdI
namespace Go.Proofs.YtojobkhidlfeoaaGreatDoor
open Go.RowKit

/-! The world in which the program lies. -/
theorem lnkWorld (w1 : World) (k op : Int) (whole : Bool) (hop : linkI whole = ⟨op, 0, 0, 0⟩) (ho : -1000 ≤ op ∧ op ≤ 1000) (hk : in64 k) : ∃ W, ((((w1.alloc (.cells #[.string ⟨#[82]⟩] 89)).alloc (.cells #[.int .i64 3, .int .i64 1, .int .i64 0, .int .i64 0, .int .i64 1, .int .i64 0, .int .i64 0, .int .i64 k, .int .i64 19, .int .i64 0, .int .i64 0, .int .i64 0, .int .i64 23, .int .i64 16, .int .i64 0, .int .i64 0, .int .i64 24, .int .i64 0, .int .i64 0, .int .i64 0, .int .i64 4, .int .i64 2, .int .i64 0, .int .i64 0, .int .i64 3, .int .i64 2, .int .i64 0, .int .i64 0, .int .i64 op, .int .i64 0, .int .i64 0, .int .i64 0, .int .i64 26, .int .i64 0, .int .i64 0, .int .i64 0, .int .i64 3, .int .i64 2, .int .i64 0, .int .i64 0, .int .i64 4, .int .i64 0, .int .i64 0, .int .i64 0, .int .i64 3, .int .i64 1, .int .i64 0, .int .i64 0, .int .i64 1, .int .i64 0, .int .i64 0, .int .i64 1, .int .i64 8, .int .i64 0, .int .i64 0, .int .i64 0, .int .i64 4, .int .i64 1, .int .i64 0, .int .i64 0, .int .i64 22, .int .i64 0, .int .i64 0, .int .i64 0, .int .i64 3, .int .i64 1, .int .i64 0, .int .i64 0, .int .i64 33, .int .i64 0, .int .i64 0, .int .i64 0] 46)).alloc (.cells #[.string ⟨#[]⟩, .string ⟨#[82, 73, 82]⟩, .string ⟨#[73]⟩, .slice (some ⟨w1.heap.size + 1, 0, none⟩) 18 18] 53)).alloc (.cells #[.slice (some ⟨w1.heap.size, 0, none⟩) 1 1, .slice (some ⟨w1.heap.size + 1 + 1, 0, none⟩) 1 1] 25)) = W ∧ ClassAt W (.slice (some ⟨w1.heap.size, 0, none⟩) 1 1) (linkP k whole).cs ∧ MethsAt W (.slice (some ⟨w1.heap.size + 1 + 1, 0, none⟩) 1 1) (linkP k whole).ms ∧ W.heap[w1.heap.size + 1 + 1 + 1]? = some (.cells #[.slice (some ⟨w1.heap.size, 0, none⟩) 1 1, .slice (some ⟨w1.heap.size + 1 + 1, 0, none⟩) 1 1] 25) ∧ Upd [] w1 W := by
 refine ⟨_, rfl, ?_⟩
 have h1 : in64 1 := by unfold in64; omega
 obtain ⟨w2, hw2⟩ : ∃ w2, w1.alloc (.cells #[.string ⟨#[82]⟩] 89) = w2 := ⟨_, rfl⟩
 have hC : ClassAt w2 (.slice (some ⟨w1.heap.size, 0, none⟩) 1 1) (linkP k whole).cs := by
  rw [← hw2]
  refine ⟨_, 1, rfl, (fun h => nomatch h), Nat.le_refl _, by unfold maxLen; omega, fun i hi => ?_⟩
  obtain rfl : i = 0 := by have h : i < 1 := hi; omega
  refine ⟨w1.heap.size, 0, rfl, by show (1 : Nat) ≤ _; decide, ?_⟩
  rw [cell_of (heap_alloc_new w1 _)]
  rfl
 have z2 : w2.heap.size = w1.heap.size + 1 := by rw [← hw2]; simp
 have u2 : Upd [] w1 w2 := by rw [← hw2]; exact (Upd.refl [] w1).alloc _
 rw [hw2]
 have hC1 := code_lit w2 [⟨3, 1, 0, 0⟩, ⟨1, 0, 0, k⟩, ⟨19, 0, 0, 0⟩, ⟨23, 16, 0, 0⟩, ⟨24, 0, 0, 0⟩, ⟨4, 2, 0, 0⟩, ⟨3, 2, 0, 0⟩, ⟨op, 0, 0, 0⟩, ⟨26, 0, 0, 0⟩, ⟨3, 2, 0, 0⟩, ⟨4, 0, 0, 0⟩, ⟨3, 1, 0, 0⟩, ⟨1, 0, 0, 1⟩, ⟨8, 0, 0, 0⟩, ⟨4, 1, 0, 0⟩, ⟨22, 0, 0, 0⟩, ⟨3, 1, 0, 0⟩, ⟨33, 0, 0, 0⟩] (by simp) (fun i hi => by
  have h4 : i = 0 ∨ i = 1 ∨ i = 2 ∨ i = 3 ∨ i = 4 ∨ i = 5 ∨ i = 6 ∨ i = 7 ∨ i = 8 ∨ i = 9 ∨ i = 10 ∨ i = 11 ∨ i = 12 ∨ i = 13 ∨ i = 14 ∨ i = 15 ∨ i = 16 ∨ i = 17 := by have h : i < 18 := hi; omega
  rcases h4 with rfl | rfl | rfl | rfl | rfl | rfl | rfl | rfl | rfl | rfl | rfl | rfl | rfl | rfl | rfl | rfl | rfl | rfl
  all_goals first | exact ins_bd2 (by omega) (by omega) (by omega) in_0 | exact ins_bd2 (by omega) (by omega) (by omega) h1 | exact ins_bd2 (by omega) (by omega) (by omega) hk)
 obtain ⟨w3, hw3⟩ : ∃ w3, w2.alloc (.cells #[.int .i64 3, .int .i64 1, .int .i64 0, .int .i64 0, .int .i64 1, .int .i64 0, .int .i64 0, .int .i64 k, .int .i64 19, .int .i64 0, .int .i64 0, .int .i64 0, .int .i64 23, .int .i64 16, .int .i64 0, .int .i64 0, .int .i64 24, .int .i64 0, .int .i64 0, .int .i64 0, .int .i64 4, .int .i64 2, .int .i64 0, .int .i64 0, .int .i64 3, .int .i64 2, .int .i64 0, .int .i64 0, .int .i64 op, .int .i64 0, .int .i64 0, .int .i64 0, .int .i64 26, .int .i64 0, .int .i64 0, .int .i64 0, .int .i64 3, .int .i64 2, .int .i64 0, .int .i64 0, .int .i64 4, .int .i64 0, .int .i64 0, .int .i64 0, .int .i64 3, .int .i64 1, .int .i64 0, .int .i64 0, .int .i64 1, .int .i64 0, .int .i64 0, .int .i64 1, .int .i64 8, .int .i64 0, .int .i64 0, .int .i64 0, .int .i64 4, .int .i64 1, .int .i64 0, .int .i64 0, .int .i64 22, .int .i64 0, .int .i64 0, .int .i64 0, .int .i64 3, .int .i64 1, .int .i64 0, .int .i64 0, .int .i64 33, .int .i64 0, .int .i64 0, .int .i64 0] 46) = w3 := ⟨_, rfl⟩
 have hC1 : CodeAt w3 (.slice (some ⟨w2.heap.size, 0, none⟩) 18 18) (linkC k whole) := by
  unfold linkC
  rw [hop, ← hw3]
  exact hC1
 have z3 : w3.heap.size = w1.heap.size + 1 + 1 := by rw [← hw3]; simp [z2]
 have u3 : Upd [] w2 w3 := by rw [← hw3]; exact (Upd.refl [] w2).alloc _
 rw [hw3]
 rw [z2] at hC1
 have hM := meths_lit w3 (linkP k whole).ms [.slice (some ⟨w1.heap.size + 1, 0, none⟩) 18 18] rfl (by simp [linkP]) (fun i hi => by
  obtain rfl : i = 0 := by have h : i < 1 := hi; omega
  exact ⟨by show (0 : Nat) ≤ _; omega, by show (3 : Nat) ≤ _; decide, by show (1 : Nat) ≤ _; decide⟩) (fun i hi => by
  obtain rfl : i = 0 := by have h : i < 1 := hi; omega
  exact hC1)
 obtain ⟨w4, hw4⟩ : ∃ w4, w3.alloc (.cells #[.string ⟨#[]⟩, .string ⟨#[82, 73, 82]⟩, .string ⟨#[73]⟩, .slice (some ⟨w1.heap.size + 1, 0, none⟩) 18 18] 53) = w4 := ⟨_, rfl⟩
 have hM : MethsAt w4 (.slice (some ⟨w3.heap.size, 0, none⟩) 1 1) (linkP k whole).ms := by rw [← hw4]; exact hM
 have z4 : w4.heap.size = w1.heap.size + 1 + 1 + 1 := by rw [← hw4]; simp [z3]
 have u4 : Upd [] w3 w4 := by rw [← hw4]; exact (Upd.refl [] w3).alloc _
 rw [hw4]
 rw [z3] at hM
 have hB := heap_alloc_new w4 (.cells #[.slice (some ⟨w1.heap.size, 0, none⟩) 1 1, .slice (some ⟨w1.heap.size + 1 + 1, 0, none⟩) 1 1] 25)
 have u5 := (Upd.refl [] w4).alloc (.cells #[.slice (some ⟨w1.heap.size, 0, none⟩) 1 1, .slice (some ⟨w1.heap.size + 1 + 1, 0, none⟩) 1 1] 25)
 rw [z4] at hB
 exact ⟨hC.upd ((u3.trans u4).trans u5), hM.upd u5, hB, ((u2.trans u3).trans u4).trans u5⟩

set_option maxRecDepth 100000 in
set_option maxHeartbeats 8000000 in
theorem lnk_true (E : Nat → Addr) (n0 : Int) (w : World) (hS : SentAt w E) :
  Calls Tryz.prog 10 #[.int .i64 n0, .bool true] w fun e w' => e = .returned (.bool true) ∧ Upd [] w w' := by
 have HF := Lib.hid (first9_any E w hS)
 have HS := Lib.hid hS
 obtain ⟨s1, k, hk, hk2⟩ := tmod_nat n0 60 (by omega) (by omega)
 have HK2 := Lib.hid hk2
 have hk64 : in64 (k : Int) := by unfold in64; omega
 have HVF : Hid (Vf (linkP k true) (linkP k true).looks) := linkP_ok hk64
 have HRUN := Lib.hid (link_run (n := k) true (by omega))
 have HCW := Lib.hid (fun w1 => lnkWorld w1 k 3 true rfl (by omega) hk64)
 clear hS hk2 hk64
 go_enter Tryz.func10, Tryz.ntmps10
 go_wp2_with fail
 refine HF.out.mono ?_
 rintro e w0 ⟨rfl, hu0⟩
 have HU0 := Lib.hid hu0
 clear hu0 HF
 have HLB : Hid ((w0.alloc (.cells #[.int .i64 3, .int .i64 0, .int .i64 0, .int .i64 0] 46)).heap[w0.heap.size]? = some (.cells #[.int .i64 3, .int .i64 0, .int .i64 0, .int .i64 0] 46)) := heap_alloc_new w0 _
 have HUL : Hid (Upd [] w0 (w0.alloc (.cells #[.int .i64 3, .int .i64 0, .int .i64 0, .int .i64 0] 46))) := (Upd.refl [] w0).alloc _
 go_upto_region 6 with fail
 generalize (w0.alloc (.cells #[.int .i64 3, .int .i64 0, .int .i64 0, .int .i64 0] 46)) = w1 at HLB HUL ⊢
 obtain ⟨lb, hlb⟩ : ∃ lb, w0.heap.size = lb := ⟨_, rfl⟩
 rw [hlb] at HLB ⊢
 clear hlb
 have HU1 := Lib.hid (HU0.out.trans HUL.out)
 obtain ⟨W, hW, hCl, hM, hB, hu⟩ := HCW.out w1
 have HCL := Lib.hid hCl
 have HM := Lib.hid hM
 have HB := Lib.hid hB
 have HUW := Lib.hid (HU1.out.trans hu)
 have l0 : (w1.alloc (.cells #[.string ⟨#[82]⟩] 89)).cell? ⟨lb, 0, none⟩ = some (.int .i64 3) := by rw [cell_of (((Upd.refl [] w1).alloc _).heap HLB.out (by simp))]; rfl
 have l1 : (w1.alloc (.cells #[.string ⟨#[82]⟩] 89)).cell? ⟨lb, 1, none⟩ = some (.int .i64 0) := by rw [cell_of (((Upd.refl [] w1).alloc _).heap HLB.out (by simp))]; rfl
 have l2 : (w1.alloc (.cells #[.string ⟨#[82]⟩] 89)).cell? ⟨lb, 2, none⟩ = some (.int .i64 0) := by rw [cell_of (((Upd.refl [] w1).alloc _).heap HLB.out (by simp))]; rfl
 have l3 : (w1.alloc (.cells #[.string ⟨#[82]⟩] 89)).cell? ⟨lb, 3, none⟩ = some (.int .i64 0) := by rw [cell_of (((Upd.refl [] w1).alloc _).heap HLB.out (by simp))]; rfl
 clear hCl hM hB hu HCW
 go_upto_region 7 with fail
 (try rw [hW])
 clear hW l0 l1 l2 l3
 have p0 : W.cell? ⟨w1.heap.size + 1 + 1 + 1, 0, none⟩ = some (.slice (some ⟨w1.heap.size, 0, none⟩) 1 1) := by rw [cell_of HB.out]; rfl
 have p1 : W.cell? ⟨w1.heap.size + 1 + 1 + 1, 1, none⟩ = some (.slice (some ⟨w1.heap.size + 1 + 1, 0, none⟩) 1 1) := by rw [cell_of HB.out]; rfl
 have HOV := Lib.hid (ofV_any (linkP k true) (.slice (some ⟨w1.heap.size, 0, none⟩) 1 1) (.slice (some ⟨w1.heap.size + 1 + 1, 0, none⟩) 1 1) E W (HS.out.upd HUW.out) HCL.out HM.out)
 clear s1 hk
 go_wp2_with fail
 refine HOV.out.mono ?_
 rintro e w2 ⟨v, rfl, hend⟩
 obtain ⟨ib, ss, hl, hlk, rfl, hinfo, hib, hu2⟩ := hend.good HVF.out.ok (fun j hj => ⟨_, HVF.out.look.look j hj⟩)
 obtain rfl := looks_uniq ⟨hl, hlk⟩ HVF.out.look
 obtain ⟨p, hp⟩ : ∃ p, linkP k true = p := ⟨_, rfl⟩
 have hrun := HRUN.out
 simp only [hp] at hrun
 rw [hp] at hinfo HVF
 obtain ⟨hout, hfin, kk, hkk, hpk⟩ := hrun
 have HINF := Lib.hid hinfo
 have HU2 := Lib.hid (HUW.out.trans hu2)
 have HIB : Hid (w.heap.size ≤ ib) := Nat.le_trans HUW.out.size hib
 have HOUT := Lib.hid hout
 have HFIN := Lib.hid hfin
 have HPK := Lib.hid (And.intro hkk hpk)
 have HGO := Lib.hid (mgo_any hinfo HVF.out none 0 0 0 [] (lng_nil w2) (fun _ => rfl) (by simp) (by simp) 100 (by omega))
 clear hp hl hlk hinfo hib hu2 hend hout hfin hkk hpk HOV p0 p1 HRUN
 obtain ⟨TA, hTA⟩ : ∃ T, (Mc.new p [] 100).run p = T := ⟨_, rfl⟩
 rw [hTA] at HGO HOUT HFIN
 clear hTA
 obtain ⟨fk, ft, fm, fp, fv, hF9⟩ : ∃ fk ft fm fp fv, TA.fin.getD ⟨0, 0, 0, 0, 0⟩ = ⟨fk, ft, fm, fp, fv⟩ := ⟨_, _, _, _, _, rfl⟩
 have HF9 := Lib.hid hF9
 clear hF9
 go_wp2_with fail
 refine HGO.out.mono ?_
 rintro e w3 ⟨q, vc, he, ho3, hu3⟩
 unfold outcells at he
 rw [HF9.out, HOUT.out] at he
 have he2 : e = .returned (.tuple #[.agg #[.int .i64 fk, .int .i64 ft, .int .i64 fm, .int .i64 fp, .int .i64 fv, .slice q 0 vc], .nilIface]) := he
 subst he2
 clear he
 rw [HOUT.out] at ho3
 obtain ⟨qb, hq, _⟩ := OwnI.ints ho3
 have hu4 := (Upd.refl [] w3).alloc (.cells #[.int .i64 fk, .int .i64 ft, .int .i64 fm, .int .i64 fp, .int .i64 fv, .slice q 0 vc] 37)
 have HO4 := Lib.hid (heap_alloc_new w3 (.cells #[.int .i64 fk, .int .i64 ft, .int .i64 fm, .int .i64 fp, .int .i64 fv, .slice q 0 vc] 37))
 have HQ4 := Lib.hid (hq.upd hu4 (by simp))
 have HI4 := Lib.hid (HINF.out.upd (hu3.trans hu4))
 have HU4 := Lib.hid (HU2.out.trans (hu3.trans hu4))
 clear ho3 hu3 hu4 hq HGO HINF
 go_upto_region 11 with fail
 generalize w3.alloc (.cells #[.int .i64 fk, .int .i64 ft, .int .i64 fm, .int .i64 fp, .int .i64 fv, .slice q 0 vc] 37) = w4 at HO4 HQ4 HI4 HU4 ⊢
 obtain ⟨ab, hab⟩ : ∃ ab, w3.heap.size = ab := ⟨_, rfl⟩
 rw [hab] at HO4 ⊢
 clear hab
 have HPE := Lib.hid (mpeak_any HI4.out (by omega) HVF.out none 0 0 0 [] (lng_nil w4) (fun _ => rfl) (by simp) (by simp) 100 (by omega))
 go_wp2_with fail
 refine HPE.out.mono ?_
 rintro e w5 ⟨k5, n5, hk5, rfl, hik5, hn5, hn6⟩
 obtain ⟨pw, hpw⟩ : ∃ pw, Mc.pkF p p.looks k5 (Mc.new p [] 100) = pw := ⟨_, rfl⟩
 obtain ⟨po, hpo⟩ : ∃ po, Mc.pkO p k5 (Mc.new p [] 100) = po := ⟨_, rfl⟩
 rw [hpw, hpo]
 have hpov : po = 3 * (k : Int) := by
  rw [← hpo, pkO_end hk5 HPK.out.1, HPK.out.2]
  rfl
 have HIK := Lib.hid hik5
 clear hk5 hpw hpo hik5 hn5 hn6 HPE HPK
 have hne : ab ≠ ib := by
  obtain ⟨_, _, _, hbx, _⟩ := HI4.out
  rintro rfl
  exact absurd (typ_ne HO4.out hbx) (by decide)
 have HO7 := Lib.hid (HIK.out.upd.heap HO4.out (by simpa using hne))
 have HQ7 : Hid (IntsV w5 (.slice q 0 vc) qb []) := Lib.hid ⟨HQ4.out.1, by simp⟩
 have HU7 : Hid (Upd [] w w5) := HU4.out.trans' HIK.out.upd (fun i hi _ => by rw [List.mem_singleton] at hi; have := HIB.out; omega)
 have c0 : w5.cell? ⟨ab, 0, none⟩ = some (.int .i64 fk) := by rw [cell_of HO7.out]; rfl
 have c1 : w5.cell? ⟨ab, 1, none⟩ = some (.int .i64 ft) := by rw [cell_of HO7.out]; rfl
 have c2 : w5.cell? ⟨ab, 2, none⟩ = some (.int .i64 fm) := by rw [cell_of HO7.out]; rfl
 have c3 : w5.cell? ⟨ab, 3, none⟩ = some (.int .i64 fp) := by rw [cell_of HO7.out]; rfl
 have c4 : w5.cell? ⟨ab, 4, none⟩ = some (.int .i64 fv) := by rw [cell_of HO7.out]; rfl
 have c5 : w5.cell? ⟨ab, 5, none⟩ = some (.slice q 0 vc) := by rw [cell_of HO7.out]; rfl
 have hff := HF9.out
 rw [HFIN.out] at hff
 have hff2 : (⟨1, 0, 0, 0, k⟩ : Fend) = ⟨fk, ft, fm, fp, fv⟩ := hff
 injection hff2 with e1 e2 e3 e4 e5
 have HS1 : Hid (Calls Tryz.prog 17 #[.agg #[.int .i64 fk, .int .i64 ft, .int .i64 fm, .int .i64 fp, .int .i64 fv, .slice q 0 vc], .agg #[.int .i64 1, .int .i64 0, .int .i64 0, .int .i64 0, .int .i64 k, .slice none 0 0]] w5 fun e w' => e = .returned (.bool true) ∧ Upd [] w5 w') := by
  have h2 : IntsV w5 (.slice none 0 0) 0 [] := ⟨.inl ⟨rfl, rfl⟩, by simp⟩
  have h3 := souts_any HQ7.out h2 (by simp) fk ft fm fp fv 1 0 0 0 k
  rw [decide_eq_true (p := fk = 1 ∧ ft = 0 ∧ fm = 0 ∧ fp = 0 ∧ fv = k ∧ ([] : List Int) = []) ⟨e1.symm, e2.symm, e3.symm, e4.symm, e5.symm, rfl⟩] at h3
  exact h3
 have hk60 := HK2.out
 have s5 : IntKind.i64.wrap (3 * (k : Int)) = 3 * (k : Int) := IntWalk.i64_in _ (by omega)
 have hmin : min (k : Int) 2 = ((min k 2 : Nat) : Int) := by omega
 have s7 : IntKind.i64.wrap (3 * ((min k 2 : Nat) : Int)) = 3 * ((min k 2 : Nat) : Int) := IntWalk.i64_in _ (by omega)
 have s8 : IntKind.i64.wrap (3 * min (k : Int) 2) = 3 * ((min k 2 : Nat) : Int) := by rw [hmin]; exact s7
 subst hpov
 clear e1 e2 e3 e4 e5 hff hk60 hne
 go_wp2_with fail
 refine HS1.out.mono ?_
 rintro e w8 ⟨rfl, hu8⟩
 have HU8 := Lib.hid (HU7.out.trans hu8)
 clear hu8
 go_wp2_with fail
 go_ret
 exact ⟨by simp, HU8.out⟩

set_option maxRecDepth 100000 in
set_option maxHeartbeats 8000000 in
theorem lnk_false (E : Nat → Addr) (n0 : Int) (w : World) (hS : SentAt w E) :
  Calls Tryz.prog 10 #[.int .i64 n0, .bool false] w fun e w' => e = .returned (.bool true) ∧ Upd [] w w' := by
 have HF := Lib.hid (first9_any E w hS)
 have HS := Lib.hid hS
 obtain ⟨s1, k, hk, hk2⟩ := tmod_nat n0 60 (by omega) (by omega)
 have HK2 := Lib.hid hk2
 have hk64 : in64 (k : Int) := by unfold in64; omega
 have HVF : Hid (Vf (linkP k false) (linkP k false).looks) := linkP_ok hk64
 have HRUN := Lib.hid (link_run (n := k) false (by omega))
 have HCW := Lib.hid (fun w1 => lnkWorld w1 k 2 false rfl (by omega) hk64)
 clear hS hk2 hk64
 go_enter Tryz.func10, Tryz.ntmps10
 go_wp2_with fail
 refine HF.out.mono ?_
 rintro e w0 ⟨rfl, hu0⟩
 have HU0 := Lib.hid hu0
 clear hu0 HF
 have HLB : Hid ((w0.alloc (.cells #[.int .i64 2, .int .i64 0, .int .i64 0, .int .i64 0] 46)).heap[w0.heap.size]? = some (.cells #[.int .i64 2, .int .i64 0, .int .i64 0, .int .i64 0] 46)) := heap_alloc_new w0 _
 have HUL : Hid (Upd [] w0 (w0.alloc (.cells #[.int .i64 2, .int .i64 0, .int .i64 0, .int .i64 0] 46))) := (Upd.refl [] w0).alloc _
 go_upto_region 6 with fail
 generalize (w0.alloc (.cells #[.int .i64 2, .int .i64 0, .int .i64 0, .int .i64 0] 46)) = w1 at HLB HUL ⊢
 obtain ⟨lb, hlb⟩ : ∃ lb, w0.heap.size = lb := ⟨_, rfl⟩
 rw [hlb] at HLB ⊢
 clear hlb
 have HU1 := Lib.hid (HU0.out.trans HUL.out)
 obtain ⟨W, hW, hCl, hM, hB, hu⟩ := HCW.out w1
 have HCL := Lib.hid hCl
 have HM := Lib.hid hM
 have HB := Lib.hid hB
 have HUW := Lib.hid (HU1.out.trans hu)
 have l0 : (w1.alloc (.cells #[.string ⟨#[82]⟩] 89)).cell? ⟨lb, 0, none⟩ = some (.int .i64 2) := by rw [cell_of (((Upd.refl [] w1).alloc _).heap HLB.out (by simp))]; rfl
 have l1 : (w1.alloc (.cells #[.string ⟨#[82]⟩] 89)).cell? ⟨lb, 1, none⟩ = some (.int .i64 0) := by rw [cell_of (((Upd.refl [] w1).alloc _).heap HLB.out (by simp))]; rfl
 have l2 : (w1.alloc (.cells #[.string ⟨#[82]⟩] 89)).cell? ⟨lb, 2, none⟩ = some (.int .i64 0) := by rw [cell_of (((Upd.refl [] w1).alloc _).heap HLB.out (by simp))]; rfl
 have l3 : (w1.alloc (.cells #[.string ⟨#[82]⟩] 89)).cell? ⟨lb, 3, none⟩ = some (.int .i64 0) := by rw [cell_of (((Upd.refl [] w1).alloc _).heap HLB.out (by simp))]; rfl
 clear hCl hM hB hu HCW
 go_upto_region 7 with fail
 (try rw [hW])
 clear hW l0 l1 l2 l3
 have p0 : W.cell? ⟨w1.heap.size + 1 + 1 + 1, 0, none⟩ = some (.slice (some ⟨w1.heap.size, 0, none⟩) 1 1) := by rw [cell_of HB.out]; rfl
 have p1 : W.cell? ⟨w1.heap.size + 1 + 1 + 1, 1, none⟩ = some (.slice (some ⟨w1.heap.size + 1 + 1, 0, none⟩) 1 1) := by rw [cell_of HB.out]; rfl
 have HOV := Lib.hid (ofV_any (linkP k false) (.slice (some ⟨w1.heap.size, 0, none⟩) 1 1) (.slice (some ⟨w1.heap.size + 1 + 1, 0, none⟩) 1 1) E W (HS.out.upd HUW.out) HCL.out HM.out)
 clear s1 hk
 go_wp2_with fail
 refine HOV.out.mono ?_
 rintro e w2 ⟨v, rfl, hend⟩
 obtain ⟨ib, ss, hl, hlk, rfl, hinfo, hib, hu2⟩ := hend.good HVF.out.ok (fun j hj => ⟨_, HVF.out.look.look j hj⟩)
 obtain rfl := looks_uniq ⟨hl, hlk⟩ HVF.out.look
 obtain ⟨p, hp⟩ : ∃ p, linkP k false = p := ⟨_, rfl⟩
 have hrun := HRUN.out
 simp only [hp] at hrun
 rw [hp] at hinfo HVF
 obtain ⟨hout, hfin, kk, hkk, hpk⟩ := hrun
 have HINF := Lib.hid hinfo
 have HU2 := Lib.hid (HUW.out.trans hu2)
 have HIB : Hid (w.heap.size ≤ ib) := Nat.le_trans HUW.out.size hib
 have HOUT := Lib.hid hout
 have HFIN := Lib.hid hfin
 have HPK := Lib.hid (And.intro hkk hpk)
 have HGO := Lib.hid (mgo_any hinfo HVF.out none 0 0 0 [] (lng_nil w2) (fun _ => rfl) (by simp) (by simp) 100 (by omega))
 clear hp hl hlk hinfo hib hu2 hend hout hfin hkk hpk HOV p0 p1 HRUN
 obtain ⟨TA, hTA⟩ : ∃ T, (Mc.new p [] 100).run p = T := ⟨_, rfl⟩
 rw [hTA] at HGO HOUT HFIN
 clear hTA
 obtain ⟨fk, ft, fm, fp, fv, hF9⟩ : ∃ fk ft fm fp fv, TA.fin.getD ⟨0, 0, 0, 0, 0⟩ = ⟨fk, ft, fm, fp, fv⟩ := ⟨_, _, _, _, _, rfl⟩
 have HF9 := Lib.hid hF9
 clear hF9
 go_wp2_with fail
 refine HGO.out.mono ?_
 rintro e w3 ⟨q, vc, he, ho3, hu3⟩
 unfold outcells at he
 rw [HF9.out, HOUT.out] at he
 have he2 : e = .returned (.tuple #[.agg #[.int .i64 fk, .int .i64 ft, .int .i64 fm, .int .i64 fp, .int .i64 fv, .slice q 0 vc], .nilIface]) := he
 subst he2
 clear he
 rw [HOUT.out] at ho3
 obtain ⟨qb, hq, _⟩ := OwnI.ints ho3
 have hu4 := (Upd.refl [] w3).alloc (.cells #[.int .i64 fk, .int .i64 ft, .int .i64 fm, .int .i64 fp, .int .i64 fv, .slice q 0 vc] 37)
 have HO4 := Lib.hid (heap_alloc_new w3 (.cells #[.int .i64 fk, .int .i64 ft, .int .i64 fm, .int .i64 fp, .int .i64 fv, .slice q 0 vc] 37))
 have HQ4 := Lib.hid (hq.upd hu4 (by simp))
 have HI4 := Lib.hid (HINF.out.upd (hu3.trans hu4))
 have HU4 := Lib.hid (HU2.out.trans (hu3.trans hu4))
 clear ho3 hu3 hu4 hq HGO HINF
 go_upto_region 11 with fail
 generalize w3.alloc (.cells #[.int .i64 fk, .int .i64 ft, .int .i64 fm, .int .i64 fp, .int .i64 fv, .slice q 0 vc] 37) = w4 at HO4 HQ4 HI4 HU4 ⊢
 obtain ⟨ab, hab⟩ : ∃ ab, w3.heap.size = ab := ⟨_, rfl⟩
 rw [hab] at HO4 ⊢
 clear hab
 have HPE := Lib.hid (mpeak_any HI4.out (by omega) HVF.out none 0 0 0 [] (lng_nil w4) (fun _ => rfl) (by simp) (by simp) 100 (by omega))
 go_wp2_with fail
 refine HPE.out.mono ?_
 rintro e w5 ⟨k5, n5, hk5, rfl, hik5, hn5, hn6⟩
 obtain ⟨pw, hpw⟩ : ∃ pw, Mc.pkF p p.looks k5 (Mc.new p [] 100) = pw := ⟨_, rfl⟩
 obtain ⟨po, hpo⟩ : ∃ po, Mc.pkO p k5 (Mc.new p [] 100) = po := ⟨_, rfl⟩
 rw [hpw, hpo]
 have hpov : po = 3 * ((min k 2 : Nat) : Int) := by
  rw [← hpo, pkO_end hk5 HPK.out.1, HPK.out.2]
  rfl
 have HIK := Lib.hid hik5
 clear hk5 hpw hpo hik5 hn5 hn6 HPE HPK
 have hne : ab ≠ ib := by
  obtain ⟨_, _, _, hbx, _⟩ := HI4.out
  rintro rfl
  exact absurd (typ_ne HO4.out hbx) (by decide)
 have HO7 := Lib.hid (HIK.out.upd.heap HO4.out (by simpa using hne))
 have HQ7 : Hid (IntsV w5 (.slice q 0 vc) qb []) := Lib.hid ⟨HQ4.out.1, by simp⟩
 have HU7 : Hid (Upd [] w w5) := HU4.out.trans' HIK.out.upd (fun i hi _ => by rw [List.mem_singleton] at hi; have := HIB.out; omega)
 have c0 : w5.cell? ⟨ab, 0, none⟩ = some (.int .i64 fk) := by rw [cell_of HO7.out]; rfl
 have c1 : w5.cell? ⟨ab, 1, none⟩ = some (.int .i64 ft) := by rw [cell_of HO7.out]; rfl
 have c2 : w5.cell? ⟨ab, 2, none⟩ = some (.int .i64 fm) := by rw [cell_of HO7.out]; rfl
 have c3 : w5.cell? ⟨ab, 3, none⟩ = some (.int .i64 fp) := by rw [cell_of HO7.out]; rfl
 have c4 : w5.cell? ⟨ab, 4, none⟩ = some (.int .i64 fv) := by rw [cell_of HO7.out]; rfl
 have c5 : w5.cell? ⟨ab, 5, none⟩ = some (.slice q 0 vc) := by rw [cell_of HO7.out]; rfl
 have hff := HF9.out
 rw [HFIN.out] at hff
 have hff2 : (⟨1, 0, 0, 0, k⟩ : Fend) = ⟨fk, ft, fm, fp, fv⟩ := hff
 injection hff2 with e1 e2 e3 e4 e5
 have HS1 : Hid (Calls Tryz.prog 17 #[.agg #[.int .i64 fk, .int .i64 ft, .int .i64 fm, .int .i64 fp, .int .i64 fv, .slice q 0 vc], .agg #[.int .i64 1, .int .i64 0, .int .i64 0, .int .i64 0, .int .i64 k, .slice none 0 0]] w5 fun e w' => e = .returned (.bool true) ∧ Upd [] w5 w') := by
  have h2 : IntsV w5 (.slice none 0 0) 0 [] := ⟨.inl ⟨rfl, rfl⟩, by simp⟩
  have h3 := souts_any HQ7.out h2 (by simp) fk ft fm fp fv 1 0 0 0 k
  rw [decide_eq_true (p := fk = 1 ∧ ft = 0 ∧ fm = 0 ∧ fp = 0 ∧ fv = k ∧ ([] : List Int) = []) ⟨e1.symm, e2.symm, e3.symm, e4.symm, e5.symm, rfl⟩] at h3
  exact h3
 have hk60 := HK2.out
 have s5 : IntKind.i64.wrap (3 * (k : Int)) = 3 * (k : Int) := IntWalk.i64_in _ (by omega)
 have hmin : min (k : Int) 2 = ((min k 2 : Nat) : Int) := by omega
 have s7 : IntKind.i64.wrap (3 * ((min k 2 : Nat) : Int)) = 3 * ((min k 2 : Nat) : Int) := IntWalk.i64_in _ (by omega)
 have s8 : IntKind.i64.wrap (3 * min (k : Int) 2) = 3 * ((min k 2 : Nat) : Int) := by rw [hmin]; exact s7
 subst hpov
 clear e1 e2 e3 e4 e5 hff hk60 hne
 go_wp2_with fail
 refine HS1.out.mono ?_
 rintro e w8 ⟨rfl, hu8⟩
 have HU8 := Lib.hid (HU7.out.trans hu8)
 clear hu8
 go_wp2_with fail
 go_ret
 exact ⟨by simp, HU8.out⟩

theorem lnkW_any (E : Nat → Addr) (n0 : Int) (whole : Bool) (w : World) (hS : SentAt w E) :
  Calls Tryz.prog 10 #[.int .i64 n0, .bool whole] w fun e w' => e = .returned (.bool true) ∧ Upd [] w w' := by
 cases whole
 ·exact lnk_false E n0 w hS
 ·exact lnk_true E n0 w hS
end Go.Proofs.YtojobkhidlfeoaaGreatDoor
