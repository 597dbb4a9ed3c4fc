/- ModelFuel: the law. -/
import Derived.Test.YtojobkhidlfeoaaGreatDoorFuA
import Derived.Test.YtojobkhidlfeoaaGreatDoorNumA
import Derived.Test.YtojobkhidlfeoaaGreatDoorMdS
import Derived.Test.YtojobkhidlfeoaaGreatDoorFirst9
import Derived.Test.YtojobkhidlfeoaaGreatDoorOpenG
namespace Go.Proofs.YtojobkhidlfeoaaGreatDoor
open Go.RowKit

/-- With more fuel. -/
theorem fuel_ends {p : Prg} {ss : List Lk} (v : Vf p ss) {inp : List Int} (hi : ∀ x ∈ inp, in64 x) {F k : Nat} (h : F + k ≤ 2000) :
  (∃ l, ((Mc.new p inp (F + k)).run p).out = ((Mc.new p inp F).run p).out ++ l) ∧
  ∃ K T m q V, ((Mc.new p inp F).run p).fin.getD ⟨0, 0, 0, 0, 0⟩ = ⟨K, T, m, q, V⟩ ∧ (K ≠ 3 → ((Mc.new p inp (F + k)).run p).fin.getD ⟨0, 0, 0, 0, 0⟩ = ⟨K, T, m, q, V⟩ ∧ ((Mc.new p inp (F + k)).run p).out = ((Mc.new p inp F).run p).out) ∧ (K = 3 → T = 0 ∧ V = 0 ∧ 0 ≤ m ∧ m < p.ms.length) := by
 have h1 := Mc.Ok.new v (inp := inp) (fuel := F) hi (by omega)
 have h2 : ((Mc.new p inp F).fuelled k).Ok p ss := Mc.Ok.new v (inp := inp) (fuel := F + k) hi h
 have e : Mc.new p inp (F + k) = (Mc.new p inp F).fuelled k := rfl
 obtain ⟨G, hG, hok⟩ := run_end v ((Mc.new p inp F).mu p + 1) h1 (Nat.lt_succ_self _) rfl
 have hr := run_fuel v k ((Mc.new p inp F).mu p + 1) h1 h2 (Nat.lt_succ_self _)
 rw [e]
 refine ⟨?_, G.kind, G.trap, G.meth, G.pc, G.value, by rw [hG]; rfl, fun hne => ?_, fun hk => ?_⟩
 ·rcases hr with e1 | ⟨_, l, e1⟩
  ·exact ⟨[], by rw [e1, List.append_nil]; rfl⟩
  ·exact ⟨l, e1⟩
 ·rcases hr with e1 | ⟨⟨m, _, pc, e1⟩, _⟩
  ·rw [e1]
   refine ⟨?_, rfl⟩
   show ((Mc.new p inp F).run p).fin.getD _ = _
   rw [hG]
   rfl
  ·rw [hG] at e1
   injection e1 with e1
   rw [e1] at hne
   exact absurd rfl hne
 ·rcases hok with ⟨h1, _⟩ | ⟨m, pc, h1, h2, h3, h4, h5, h6, h7⟩
  ·omega
  ·rcases h7 with ⟨_, h8, _⟩ | ⟨h8, _⟩
   ·exact ⟨h8, h6, by omega, by omega⟩
   ·omega

set_option maxRecDepth 100000 in
set_option maxHeartbeats 4000000 in
theorem fuelW_any (E : Nat → Addr) (p : Prg) (cv mv iv : Value) (xs : List Int) (n0 m0 : Int) (w : World) (hS : SentAt w E) (hc : ClassAt w cv p.cs) (hm : MethsAt w mv p.ms) (hx : LongsAt w iv xs) :
  Calls Tryz.prog 3 #[.agg #[cv, mv], iv, .int .i64 n0, .int .i64 m0] w fun e w' => e = .returned (.bool true) ∧ Upd [] w w' := by
 have HF := Lib.hid (fun w' (hu : Upd [] w w') => first9_any E w' (hS.upd hu))
 have HMD := Lib.hid (fun w' (hu : Upd [] w w') => made_any p cv mv E w' (hS.upd hu) (hc.upd hu) (hm.upd hu))
 obtain ⟨ca, cc, rfl, _⟩ := hc
 obtain ⟨ma, mc, rfl, _⟩ := hm
 obtain ⟨ip, ic, rfl, hip, hin2, ib0, io, hlng⟩ := hx
 have HIP := Lib.hid hip
 have HIN2 := Lib.hid hin2
 have HLNG := Lib.hid hlng
 have hu0 := (Upd.refl [] w).alloc (.cells #[.slice ca p.cs.length cc, .slice ma p.ms.length mc] 25)
 have hb0 := heap_alloc_new w (.cells #[.slice ca p.cs.length cc, .slice ma p.ms.length mc] 25)
 clear hS hip hin2 hlng
 go_enter Tryz.func3, Tryz.ntmps3
 go_upto_region 1 with fail
 generalize w.alloc (.cells #[.slice ca p.cs.length cc, .slice ma p.ms.length mc] 25) = w0 at hu0 hb0 ⊢
 go_wp2_with fail
 refine (HF.out w0 hu0).mono ?_
 rintro e w1 ⟨rfl, hu1⟩
 have hb1 := hu1.heap hb0 (by simp)
 have hU1 := hu0.trans hu1
 have p0 : w1.cell? ⟨w.heap.size, 0, none⟩ = some (.slice ca p.cs.length cc) := by rw [cell_of hb1]; rfl
 have p1 : w1.cell? ⟨w.heap.size, 1, none⟩ = some (.slice ma p.ms.length mc) := by rw [cell_of hb1]; rfl
 go_wp2_with fail
 refine (HMD.out w1 hU1).mono ?_
 rintro e w2 ⟨v0, a0, n0', c0, a1, n1, c1, a2, n2, c2, b, rfl, hmade, hu2⟩
 have hu3 := (Upd.refl [] w2).alloc (.cells #[.slice a0 n0' c0, .slice a1 n1 c1, .slice a2 n2 c2] 31)
 have HU3 := Lib.hid ((hU1.trans hu2).trans hu3)
 have HB3 := Lib.hid (hu3.heap (hu2.heap hb1 (by simp)) (by simp))
 have HMA := Lib.hid hmade
 have HU23 := Lib.hid hu3
 clear hu0 hb0 hu1 hb1 hU1 p0 p1 hu2 hu3 hmade HF HMD
 go_upto_region 3 with fail
 generalize w2.alloc (.cells #[.slice a0 n0' c0, .slice a1 n1 c1, .slice a2 n2 c2] 31) = w3 at HU3 HB3 HU23 ⊢
 obtain ⟨xb, hxb⟩ : ∃ xb, w2.heap.size = xb := ⟨_, rfl⟩
 rw [hxb] at ⊢
 clear hxb
 cases b with
 | false =>
  go_wp2_with fail
  go_ret
  exact ⟨rfl, HU3.out⟩
 | true =>
  obtain ⟨h1, h2, ib, ss, rfl, hvf, hinf, _, _⟩ := HMA.out rfl
  have HVF := Lib.hid hvf
  have HINF := Lib.hid (hinf.upd HU23.out)
  clear h1 h2 hvf hinf HMA HU23
  have HL3 := Lib.hid (HLNG.out.upd HU3.out (.inr (by simp)))
  by_cases hfew : xs.length ≤ 200
  ·have e1 : decide ((xs.length : Int) ≤ 200) = true := decide_eq_true (by omega)
   go_wp2_with fail
   refine (few_any ip xs.length ic w3).mono ?_
   rintro e w' ⟨rfl, rfl⟩
   rw [e1]
   go_wp2_with fail
   refine (number_any n0 2001 w3 (by omega) (by omega)).mono ?_
   rintro e w' ⟨rfl, rfl⟩
   obtain ⟨F, hF⟩ : ∃ F : Nat, n0 % 2001 = (F : Int) := ⟨(n0 % 2001).toNat, by omega⟩
   have hF2 : F ≤ 2000 := by omega
   rw [hF]
   clear hF
   have s1 : IntKind.i64.wrap (2001 - (F : Int)) = 2001 - (F : Int) := IntWalk.i64_in _ (by omega)
   go_wp2_with fail
   refine (number_any m0 (2001 - (F : Int)) w3 (by omega) (by omega)).mono ?_
   rintro e w' ⟨rfl, rfl⟩
   obtain ⟨k, hk⟩ : ∃ k : Nat, m0 % (2001 - (F : Int)) = (k : Int) := ⟨(m0 % (2001 - (F : Int))).toNat, by have := Int.emod_nonneg m0 (show 2001 - (F : Int) ≠ 0 by omega); omega⟩
   have hk2 : F + k ≤ 2000 := by
    have := Int.emod_lt_of_pos m0 (show 0 < 2001 - (F : Int) by omega)
    omega
   rw [hk]
   clear hk s1
   have s2 : IntKind.i64.wrap ((F : Int) + (k : Int)) = ((F + k : Nat) : Int) := by
    rw [IntWalk.i64_in _ (by omega)]
    omega
   have hends := fuel_ends HVF.out HIN2.out hk2
   obtain ⟨⟨l, hl⟩, fk, ft, fm, fp, fv, hfin, hne3, heq3⟩ := hends
   have HR1 := Lib.hid (mgo_any HINF.out HVF.out ip ic ib0 io xs HL3.out HIP.out (by omega) HIN2.out F (by omega))
   have HR2 := Lib.hid (fun w' (hu : Upd [] w3 w') => mgo_any (HINF.out.upd hu) HVF.out ip ic ib0 io xs (HL3.out.upd hu (.inr (by simp))) HIP.out (by omega) HIN2.out (F + k) (by omega))
   obtain ⟨TA, hTA⟩ : ∃ T, (Mc.new p xs F).run p = T := ⟨_, rfl⟩
   obtain ⟨TB, hTB⟩ : ∃ T, (Mc.new p xs (F + k)).run p = T := ⟨_, rfl⟩
   obtain ⟨gk, gt, gm, gp, gv, hgin⟩ : ∃ gk gt gm gp gv, TB.fin.getD ⟨0, 0, 0, 0, 0⟩ = ⟨gk, gt, gm, gp, gv⟩ := ⟨_, _, _, _, _, rfl⟩
   have HROOM : Hid (TA.out.length ≤ 1000000) := by
    have h := ((Mc.Ok.new HVF.out (inp := xs) (fuel := F) HIN2.out hF2).run_ok HVF.out).room
    rw [hTA] at h
    show _ ≤ _
    omega
   rw [hTA] at HR1 hl hfin hne3
   rw [hTB] at HR2 hl hne3
   have HFA := Lib.hid hfin
   have HFB := Lib.hid hgin
   have HL := Lib.hid hl
   have HNE := Lib.hid hne3
   have HEQ := Lib.hid heq3
   have HK2 := Lib.hid hk2
   clear hTA hTB hl hfin hne3 heq3 hgin hF2 hk2
   go_upto_region 7 with fail
   go_wp2_with fail
   refine HR1.out.mono ?_
   rintro e w4 ⟨qa, va, he, hoa, hu4⟩
   unfold outcells at he
   rw [HFA.out] at he
   have he2 : e = .returned (.tuple #[.agg #[.int .i64 fk, .int .i64 ft, .int .i64 fm, .int .i64 fp, .int .i64 fv, .slice qa TA.out.length va], .nilIface]) := he
   subst he2
   clear he
   have hA5 := (Upd.refl [] w4).alloc (.cells #[.int .i64 fk, .int .i64 ft, .int .i64 fm, .int .i64 fp, .int .i64 fv, .slice qa TA.out.length va] 37)
   have HO5 := Lib.hid (heap_alloc_new w4 (.cells #[.int .i64 fk, .int .i64 ft, .int .i64 fm, .int .i64 fp, .int .i64 fv, .slice qa TA.out.length va] 37))
   obtain ⟨ba, hba, _⟩ := hoa.ints
   have HIA := Lib.hid (hba.upd hA5 (by simp))
   have HU35 := Lib.hid (hu4.trans hA5)
   have HB5 := Lib.hid ((hu4.trans hA5).heap HB3.out (by simp))
   clear hoa hu4 hA5 hba HR1
   go_upto_region 8 with fail
   generalize w4.alloc (.cells #[.int .i64 fk, .int .i64 ft, .int .i64 fm, .int .i64 fp, .int .i64 fv, .slice qa TA.out.length va] 37) = w5 at HO5 HIA HU35 HB5 ⊢
   obtain ⟨ab, hab⟩ : ∃ ab, w4.heap.size = ab := ⟨_, rfl⟩
   rw [hab] at HO5 ⊢
   clear hab
   go_wp2_with fail
   refine (HR2.out w5 HU35.out).mono ?_
   rintro e w6 ⟨qb, vb, he, hob, hu6⟩
   unfold outcells at he
   rw [HFB.out] at he
   have he2 : e = .returned (.tuple #[.agg #[.int .i64 gk, .int .i64 gt, .int .i64 gm, .int .i64 gp, .int .i64 gv, .slice qb TB.out.length vb], .nilIface]) := he
   subst he2
   clear he
   have hA7 := (Upd.refl [] w6).alloc (.cells #[.int .i64 gk, .int .i64 gt, .int .i64 gm, .int .i64 gp, .int .i64 gv, .slice qb TB.out.length vb] 37)
   have HO7 := Lib.hid (heap_alloc_new w6 (.cells #[.int .i64 gk, .int .i64 gt, .int .i64 gm, .int .i64 gp, .int .i64 gv, .slice qb TB.out.length vb] 37))
   obtain ⟨bb, hbb, _⟩ := hob.ints
   have HIB := Lib.hid (hbb.upd hA7 (by simp))
   have HIA7 := Lib.hid (HIA.out.upd (hu6.trans hA7) (by simp))
   have HU7 := Lib.hid ((HU3.out.trans HU35.out).trans (hu6.trans hA7))
   have hOA7 := (hu6.trans hA7).heap HO5.out (by simp)
   have hB7 := (hu6.trans hA7).heap HB5.out (by simp)
   have hvb : TB.out.length ≤ vb ∧ vb ≤ maxLen := by
    obtain ⟨_, ⟨⟨_, _, h1, h2, h3, _⟩, _⟩, _⟩ := hob.lng
    injection h1 with _ _ e3
    rw [e3]
    exact ⟨h2, h3⟩
   clear hob hu6 hA7 hbb HR2 HIA HU35 HB5 HO5
   go_upto_region 9 with fail
   generalize w6.alloc (.cells #[.int .i64 gk, .int .i64 gt, .int .i64 gm, .int .i64 gp, .int .i64 gv, .slice qb TB.out.length vb] 37) = w7 at HO7 HIB HIA7 HU7 hOA7 hB7 ⊢
   obtain ⟨bb2, hab⟩ : ∃ ab, w6.heap.size = ab := ⟨_, rfl⟩
   rw [hab] at HO7 ⊢
   clear hab
   have a5 : w7.cell? ⟨ab, 5, none⟩ = some (.slice qa TA.out.length va) := by rw [cell_of hOA7]; rfl
   have b5 : w7.cell? ⟨bb2, 5, none⟩ = some (.slice qb TB.out.length vb) := by rw [cell_of HO7.out]; rfl
   have HBG := Lib.hid (begins_any HIA7.out HIB.out HROOM.out hvb.1 hvb.2 HL.out)
   have HOA7 := Lib.hid hOA7
   have HB7 := Lib.hid hB7
   have HX7 := Lib.hid hvb
   clear hOA7 hB7 hvb s2
   go_wp2_with fail
   refine HBG.out.mono ?_
   rintro e w8 ⟨rfl, hu8⟩
   have HOA8 := Lib.hid (hu8.heap HOA7.out (by simp))
   have HOB8 := Lib.hid (hu8.heap HO7.out (by simp))
   have HB8 := Lib.hid (hu8.heap HB7.out (by simp))
   have HU8 := Lib.hid (HU7.out.trans hu8)
   have HIA8 := Lib.hid (HIA7.out.upd hu8 (by simp))
   have HIB8 := Lib.hid (HIB.out.upd hu8 (by simp))
   clear a5 b5 hu8 HBG
   have a0 : w8.cell? ⟨ab, 0, none⟩ = some (.int .i64 fk) := by rw [cell_of HOA8.out]; rfl
   by_cases h3 : fk = 3
   ·obtain ⟨rfl, rfl, hm0, hm1⟩ := HEQ.out h3
    subst h3
    have a1 : w8.cell? ⟨ab, 1, none⟩ = some (.int .i64 0) := by rw [cell_of HOA8.out]; rfl
    have a2 : w8.cell? ⟨ab, 2, none⟩ = some (.int .i64 fm) := by rw [cell_of HOA8.out]; rfl
    have a4 : w8.cell? ⟨ab, 4, none⟩ = some (.int .i64 0) := by rw [cell_of HOA8.out]; rfl
    have q1 : w8.cell? ⟨w.heap.size, 1, none⟩ = some (.slice ma p.ms.length mc) := by rw [cell_of HB8.out]; rfl
    have d1 : decide (fm ≥ 0) = true := decide_eq_true hm0
    have d2 : decide (0 ≤ fm) = true := decide_eq_true hm0
    have d3 : decide (fm < (p.ms.length : Int)) = true := decide_eq_true hm1
    go_wp2_with fail
    go_ret
    exact ⟨rfl, HU8.out⟩
   ·have hb3 : (fk == 3) = false := by simpa using h3
    obtain ⟨e1, e2⟩ := HNE.out h3
    rw [HFB.out] at e1
    injection e1 with e11 e12 e13 e14 e15
    have HE := Lib.hid (And.intro e11 (And.intro e12 (And.intro e13 (And.intro e14 e15))))
    have HE2 := Lib.hid e2
    clear e11 e12 e13 e14 e15 e2
    have a1 : w8.cell? ⟨ab, 1, none⟩ = some (.int .i64 ft) := by rw [cell_of HOA8.out]; rfl
    have a2 : w8.cell? ⟨ab, 2, none⟩ = some (.int .i64 fm) := by rw [cell_of HOA8.out]; rfl
    have a3 : w8.cell? ⟨ab, 3, none⟩ = some (.int .i64 fp) := by rw [cell_of HOA8.out]; rfl
    have a4 : w8.cell? ⟨ab, 4, none⟩ = some (.int .i64 fv) := by rw [cell_of HOA8.out]; rfl
    have a5 : w8.cell? ⟨ab, 5, none⟩ = some (.slice qa TA.out.length va) := by rw [cell_of HOA8.out]; rfl
    have b0 : w8.cell? ⟨bb2, 0, none⟩ = some (.int .i64 gk) := by rw [cell_of HOB8.out]; rfl
    have b1 : w8.cell? ⟨bb2, 1, none⟩ = some (.int .i64 gt) := by rw [cell_of HOB8.out]; rfl
    have b2 : w8.cell? ⟨bb2, 2, none⟩ = some (.int .i64 gm) := by rw [cell_of HOB8.out]; rfl
    have b3 : w8.cell? ⟨bb2, 3, none⟩ = some (.int .i64 gp) := by rw [cell_of HOB8.out]; rfl
    have b4 : w8.cell? ⟨bb2, 4, none⟩ = some (.int .i64 gv) := by rw [cell_of HOB8.out]; rfl
    have b5 : w8.cell? ⟨bb2, 5, none⟩ = some (.slice qb TB.out.length vb) := by rw [cell_of HOB8.out]; rfl
    have HSO : Hid (Calls Tryz.prog 17 #[.agg #[.int .i64 fk, .int .i64 ft, .int .i64 fm, .int .i64 fp, .int .i64 fv, .slice qa TA.out.length va], .agg #[.int .i64 gk, .int .i64 gt, .int .i64 gm, .int .i64 gp, .int .i64 gv, .slice qb TB.out.length vb]] w8 fun e w' => e = .returned (.bool true) ∧ Upd [] w8 w') := by
     have h := souts_any HIA8.out HIB8.out HROOM.out fk ft fm fp fv gk gt gm gp gv
     obtain ⟨q1, q2, q3, q4, q5⟩ := HE.out
     rw [decide_eq_true (p := fk = gk ∧ ft = gt ∧ fm = gm ∧ fp = gp ∧ fv = gv ∧ TA.out = TB.out) ⟨q1.symm, q2.symm, q3.symm, q4.symm, q5.symm, HE2.out.symm⟩] at h
     exact h
    go_wp2_with fail
    refine HSO.out.mono ?_
    rintro e w9 ⟨rfl, hu9⟩
    go_wp2_with fail
    go_ret
    exact ⟨rfl, HU8.out.trans hu9⟩
  ·have e1 : decide ((xs.length : Int) ≤ 200) = false := decide_eq_false (by omega)
   go_wp2_with fail
   refine (few_any ip xs.length ic w3).mono ?_
   rintro e w' ⟨rfl, rfl⟩
   rw [e1]
   go_wp2_with fail
   go_ret
   exact ⟨rfl, HU3.out⟩
end Go.Proofs.YtojobkhidlfeoaaGreatDoor
