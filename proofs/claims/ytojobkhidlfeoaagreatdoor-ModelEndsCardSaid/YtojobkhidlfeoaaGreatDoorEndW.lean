/- overdriveref.Longs, wherever the integers lie; where a run may end, with inputs behind. ModelEnds: the law. -/
import Derived.Test.YtojobkhidlfeoaaGreatDoorFuA
import Derived.Test.YtojobkhidlfeoaaGreatDoorOpenG
import Derived.Test.YtojobkhidlfeoaaGreatDoorAtW
import Derived.Test.YtojobkhidlfeoaaGreatDoorNumA
import Derived.Test.YtojobkhidlfeoaaGreatDoorFirst9
/-! overdriveref.Longs, wherever the integers lie; where a run may end, with inputs behind. -/
namespace Go.Proofs.YtojobkhidlfeoaaGreatDoor
open Go.RowKit

theorem LongsAt.wide {w : World} {v : Value} {xs : List Int} (h : LongsAt w v xs) : IntsW w v xs := by
 obtain ⟨a, cap, rfl, _, _, b, o, h4⟩ := h
 exact h4.wide
theorem LngV.src2 {w : World} {v : Value} {b o : Nat} {xs : List Int} (h : LngV w v b o xs) : SrcV w v xs.length (xs.map (.int .i64)) := by
 obtain ⟨⟨p, c, rfl, _, _, hp⟩, hc⟩ := id h
 cases xs with
 | nil =>
  cases p with
  | none => exact .inl ⟨c, rfl, rfl, rfl⟩
  | some a => exact .inr ⟨a, c, rfl, fun j u hj => by simp at hj⟩
 | cons x xs =>
  have e := hp (by simp)
  subst e
  exact .inr ⟨_, c, rfl, fun j u hj => by rw [Addr.add_lit]; exact h.src j u hj⟩
theorem take_snocD (xs : List Int) (k : Nat) (h : k < xs.length) : xs.take (k + 1) = xs.take k ++ [xs.getD k 0] := by
 rw [List.take_succ_eq_append_getElem h]
 simp [List.getD_eq_getElem?_getD, List.getElem?_eq_getElem h]

set_option maxRecDepth 100000 in
set_option maxHeartbeats 1000000 in
theorem longsW (p : Option Addr) (cap : Nat) (xs : List Int) (w : World) (hn : xs.length ≤ 1000000) (h : IntsW w (.slice p xs.length cap) xs) :
  Calls Tryz.prog 20 #[.slice p xs.length cap] w fun e w' => ∃ v, e = .returned v ∧ OwnI w' w.heap.size 2 v xs ∧ Upd [] w w' := by
 obtain ⟨i0, hi, hz0, hz1, hz2⟩ := info_parts Tryz.infoLong
 have HI := Lib.hid hi
 have HZ0 := Lib.hid hz0
 have HZ1 := Lib.hid hz1
 have HZ2 := Lib.hid hz2
 have hmk := fun w => run_make (P := Tryz.prog) w 26 2 i0 (.int .i64 0) Tryz.underlying26 hi hz0 .i64 .i64 0 (xs.length : Int) (by omega) (by omega) (by rw [hz2]; omega) (by omega)
 rw [hz1, Nat.mul_one] at hmk
 simp only [madeCells_zero, Int.toNat_natCast, Int.toNat_zero] at hmk
 clear hi hz0 hz1 hz2
 have H := Lib.hid h
 clear h
 go_enter Tryz.func20, Tryz.ntmps20
 go_wp2_with fail
 clear hmk
 go_loopw [3, 4] (fun s i wr => ∃ k : Nat, k ≤ xs.length ∧ i = .int .i64 k ∧ wr.ownsRow w.heap.size 2 1 s k ((xs.take k).map (Value.int .i64)) ∧ Upd [] w wr) (fun _ i _ => xs.length - (intOf i).toNat)
 case atStart =>
  refine ⟨0, by omega, rfl, ?_, (Upd.refl _ _).alloc _⟩
  simpa using World.ownsRow_made w (icells (List.replicate xs.length 0)) xs.length (Nat.le_refl _) (by unfold maxLen; omega) (by simp [icells])
 case round =>
  obtain ⟨k, hk, rfl, hown, hU⟩ := hrel
  by_cases hlt : k < xs.length
  ·obtain ⟨b, o, hpe, hx0⟩ := H.out.nth k hlt
   subst hpe
   have hx := hU.cell hx0 (by simp)
   have HSN := Lib.hid (take_snocD xs k hlt)
   clear hx0
   generalize xs.getD k 0 = x at hx HSN
   generalize xs.take k = L at hown HSN
   go_wp2_with (at_builtin; refine stop_here ?_)
   refine Hid.mk ?_
   refine (wpList_append_own _ rfl _ _ 26 rfl w.heap.size 2 i0 (.int .i64 0) 1 8 Tryz.underlying26 HI.out HZ0.out HZ1.out HZ2.out rfl (by decide) _ _ _ rfl (hown.alloc _) ⟨wr.heap.size, 0, none⟩ 1 1 [.int .i64 x] rfl rfl ?c1 ?c2 ?c3 ?c4 ?c5 ?c6)
   case c1 => exact cell_one_new _ _ _
   case c2 => simp [Value.oneCell']
   case c3 => unfold maxLen; omega
   case c4 => omega
   case c5 => have := hU.size; simp; omega
   case c6 =>
    intro v' w6 hown' hgrow _
    have hrow : ∀ q, u3.ownBlock = some q → w.heap.size ≤ q := fun q hq => (hown.lt q hq).1
    have HO := Lib.hid hown'
    clear hown'
    have hU6 : Upd [] w w6 := (hU.alloc _).grown hgrow (fun q hq => Or.inr (hrow q hq))
    clear hgrow
    go_wp2_with fail
    go_roundw
    case rel =>
     refine ⟨k + 1, by omega, by go_num, ?_, hU6⟩
     rw [HSN.out]
     have := HO.out
     simpa using this
    case measure => simp [intOf]; omega
  ·obtain rfl : k = xs.length := by omega
   go_wp2_with fail
   go_ret
   refine ⟨_, rfl, ?_, hU⟩
   rw [List.take_length] at hown
   exact hown

/-- Where a run ends, and with inputs behind those that it was asked for. -/
theorem ends_law {p : Prg} {ss : List Lk} (v : Vf p ss) {xs ys : List Int} (hi : ∀ x ∈ xs, in64 x) (hj : ∀ x ∈ ys, in64 x) {F : Nat} (h : F ≤ 2000) :
  ∃ K T m q V, ((Mc.new p xs F).run p).fin.getD ⟨0, 0, 0, 0, 0⟩ = ⟨K, T, m, q, V⟩ ∧ (T ≠ 6 → ((Mc.new p (xs ++ ys) F).run p).fin.getD ⟨0, 0, 0, 0, 0⟩ = ⟨K, T, m, q, V⟩ ∧ ((Mc.new p (xs ++ ys) F).run p).out = ((Mc.new p xs F).run p).out) ∧
   ((K = 1 ∧ T = 0 ∧ m = 0 ∧ q = 0) ∨ ∃ m' q' : Nat, m = (m' : Int) ∧ q = (q' : Int) ∧ m' < p.ms.length ∧ q' < (p.ms.getD m' default).code.length ∧ (ss.getD m' default).seen.getD q' false = true ∧
    ((K = 3 ∧ T = 0 ∧ ((p.at_ m' q').op = 22 ∨ (p.at_ m' q').op = 23 ∨ (p.at_ m' q').op = 32)) ∨ (K = 2 ∧ TrapOk (p.at_ m' q').op T))) := by
 have h1 := Mc.Ok.new v (inp := xs) (fuel := F) hi h
 have h2 : ((Mc.new p xs F).more ys).Ok p ss := Mc.Ok.new v (inp := xs ++ ys) (fuel := F) (fun x hx => (List.mem_append.1 hx).elim (hi x) (hj x)) h
 have e : Mc.new p (xs ++ ys) F = (Mc.new p xs F).more ys := rfl
 obtain ⟨G, hG, hok⟩ := run_end v ((Mc.new p xs F).mu p + 1) h1 (Nat.lt_succ_self _) rfl
 have hr := run_more v ys ((Mc.new p xs F).mu p + 1) h1 h2 (Nat.lt_succ_self _)
 rw [e]
 refine ⟨G.kind, G.trap, G.meth, G.pc, G.value, by rw [hG]; rfl, fun hne => ?_, ?_⟩
 ·rcases hr with e1 | ⟨F', e1, e2⟩
  ·rw [e1]
   refine ⟨?_, rfl⟩
   show ((Mc.new p xs F).run p).fin.getD _ = _
   rw [hG]
   rfl
  ·rw [hG] at e1
   injection e1 with e1
   rw [e1] at hne
   exact absurd e2 hne
 ·rcases hok with ⟨a1, a2, a3, a4⟩ | ⟨m, pc, a1, a2, a3, a4, a5, a6, a7⟩
  ·exact .inl ⟨a1, a2, a3, a4⟩
  ·exact .inr ⟨m, pc, a1, a2, a3, a4, a5, a7⟩
end Go.Proofs.YtojobkhidlfeoaaGreatDoor

/-! ModelEnds: the law. -/
namespace Go.Proofs.YtojobkhidlfeoaaGreatDoor
open Go.RowKit

set_option maxRecDepth 100000 in
set_option maxHeartbeats 4000000 in
theorem endW_any (E : Nat → Addr) (p : Prg) (cv mv iv jv : Value) (xs ys : List Int) (n0 : Int) (w : World) (hS : SentAt w E) (hc : ClassAt w cv p.cs) (hm : MethsAt w mv p.ms) (hx : LongsAt w iv xs) (hy : LongsAt w jv ys) :
  Calls Tryz.prog 7 #[.agg #[cv, mv], iv, jv, .int .i64 n0] w fun e w' => e = .returned (.bool true) ∧ Upd [] w w' := by
 have HF := Lib.hid (fun w' (hu : Upd [] w w') => first9_any E w' (hS.upd hu))
 have HMD := Lib.hid (fun w' (hu : Upd [] w w') => made_any p cv mv E w' (hS.upd hu) (hc.upd hu) (hm.upd hu))
 have HM := Lib.hid hm
 obtain ⟨ca, cc, rfl, _⟩ := hc
 obtain ⟨ma, mc, rfl, _⟩ := hm
 obtain ⟨ip, ic, rfl, hip, hin2, ib0, io, hlng⟩ := hx
 obtain ⟨jp, jc, rfl, hjp, hjn2, jb0, jo, hjlng⟩ := hy
 have HJN2 := Lib.hid hjn2
 have HJL := Lib.hid hjlng
 have HIP := Lib.hid hip
 have HIN2 := Lib.hid hin2
 have HLNG := Lib.hid hlng
 have hu0 := (Upd.refl [] w).alloc (.cells #[.slice ca p.cs.length cc, .slice ma p.ms.length mc] 25)
 have hb0 := heap_alloc_new w (.cells #[.slice ca p.cs.length cc, .slice ma p.ms.length mc] 25)
 clear hS hip hin2 hlng hjp hjn2 hjlng
 go_enter Tryz.func7, Tryz.ntmps7
 go_upto_region 1 with fail
 generalize w.alloc (.cells #[.slice ca p.cs.length cc, .slice ma p.ms.length mc] 25) = w0 at hu0 hb0 ⊢
 go_wp2_with fail
 refine (HF.out w0 hu0).mono ?_
 rintro e w1 ⟨rfl, hu1⟩
 have hb1 := hu1.heap hb0 (by simp)
 have hU1 := hu0.trans hu1
 have p0 : w1.cell? ⟨w.heap.size, 0, none⟩ = some (.slice ca p.cs.length cc) := by rw [cell_of hb1]; rfl
 have p1 : w1.cell? ⟨w.heap.size, 1, none⟩ = some (.slice ma p.ms.length mc) := by rw [cell_of hb1]; rfl
 go_wp2_with fail
 refine (HMD.out w1 hU1).mono ?_
 rintro e w2 ⟨v0, a0, n0', c0, a1, n1, c1, a2, n2, c2, b, rfl, hmade, hu2⟩
 have hu3 := (Upd.refl [] w2).alloc (.cells #[.slice a0 n0' c0, .slice a1 n1 c1, .slice a2 n2 c2] 31)
 have HU3 := Lib.hid ((hU1.trans hu2).trans hu3)
 have HB3 := Lib.hid (hu3.heap (hu2.heap hb1 (by simp)) (by simp))
 have HMA := Lib.hid hmade
 have HW1 := Lib.hid hU1.size
 have HU23 := Lib.hid hu3
 clear hu0 hb0 hu1 hb1 hU1 p0 p1 hu2 hu3 hmade HF HMD
 go_upto_region 3 with fail
 generalize w2.alloc (.cells #[.slice a0 n0' c0, .slice a1 n1 c1, .slice a2 n2 c2] 31) = w3 at HU3 HB3 HU23 ⊢
 obtain ⟨xb, hxb⟩ : ∃ xb, w2.heap.size = xb := ⟨_, rfl⟩
 rw [hxb] at ⊢
 clear hxb
 cases b with
 | false =>
  go_wp2_with fail
  go_ret
  exact ⟨rfl, HU3.out⟩
 | true =>
  obtain ⟨h1, h2, ib, ss, rfl, hvf, hinf, hib, _⟩ := HMA.out rfl
  have HIB : Hid (w.heap.size ≤ ib) := Nat.le_trans HW1.out hib
  have HVF := Lib.hid hvf
  have HINF := Lib.hid (hinf.upd HU23.out)
  clear h1 h2 hvf hinf hib HMA HU23
  have HL3 := Lib.hid (HLNG.out.upd HU3.out (.inr (by simp)))
  have HJ3 := Lib.hid (HJL.out.upd HU3.out (.inr (by simp)))
  have HFW : ∀ (q : Option Addr) (l c : Nat), l ≤ 200 → Calls Tryz.prog 13 #[.slice q l c] w3 fun e w' => e = .returned (.bool true) ∧ w3 = w' := fun q l c h => by
   have := few_any q l c w3
   rw [decide_eq_true (p := (l : Int) ≤ 200) (by omega)] at this
   exact this
  have HFN : ∀ (q : Option Addr) (l c : Nat), ¬ l ≤ 200 → Calls Tryz.prog 13 #[.slice q l c] w3 fun e w' => e = .returned (.bool false) ∧ w3 = w' := fun q l c h => by
   have := few_any q l c w3
   rw [decide_eq_false (p := (l : Int) ≤ 200) (by omega)] at this
   exact this
  by_cases hfx : xs.length ≤ 200
  case neg =>
   go_wp2_with fail
   refine (HFN ip xs.length ic hfx).mono ?_
   rintro e w' ⟨rfl, rfl⟩
   go_wp2_with fail
   go_ret
   exact ⟨rfl, HU3.out⟩
  by_cases hfy : ys.length ≤ 200
  case neg =>
   go_wp2_with fail
   refine (HFW ip xs.length ic hfx).mono ?_
   rintro e w' ⟨rfl, rfl⟩
   go_wp2_with fail
   refine (HFN jp ys.length jc hfy).mono ?_
   rintro e w' ⟨rfl, rfl⟩
   go_wp2_with fail
   go_ret
   exact ⟨rfl, HU3.out⟩
  go_wp2_with fail
  refine (HFW ip xs.length ic hfx).mono ?_
  rintro e w' ⟨rfl, rfl⟩
  go_wp2_with fail
  refine (HFW jp ys.length jc hfy).mono ?_
  rintro e w' ⟨rfl, rfl⟩
  go_wp2_with fail
  refine (number_any n0 2001 w3 (by omega) (by omega)).mono ?_
  rintro e w' ⟨rfl, rfl⟩
  obtain ⟨F, hF⟩ : ∃ F : Nat, n0 % 2001 = (F : Int) := ⟨(n0 % 2001).toNat, by omega⟩
  have hF2 : F ≤ 2000 := by omega
  rw [hF]
  clear hF HFW HFN
  obtain ⟨fk, ft, fm, fp, fv, hfin, hmore, hend⟩ := ends_law HVF.out HIN2.out HJN2.out hF2
  have HR1 := Lib.hid (mgo_any HINF.out HVF.out ip ic ib0 io xs HL3.out HIP.out (by omega) HIN2.out F (by omega))
  obtain ⟨zs, hzs⟩ : ∃ zs, xs ++ ys = zs := ⟨_, rfl⟩
  have HZL : Hid (zs.length ≤ 400) := by
   show _ ≤ _
   rw [← hzs]
   simp
   omega
  have HZ64 : Hid (∀ x ∈ zs, in64 x) := by
   show ∀ x ∈ zs, in64 x
   rw [← hzs]
   exact fun x hx => (List.mem_append.1 hx).elim (HIN2.out x) (HJN2.out x)
  have HZS := Lib.hid hzs
  rw [hzs] at hmore
  clear hzs
  have HR2 := Lib.hid (fun w' (hu : Upd [] w3 w') (q : Option Addr) (c b o : Nat) (hl : LngV w' (.slice q zs.length c) b o zs) (hq : q = none → c = 0) => mgo_any (HINF.out.upd hu) HVF.out q c b o zs hl hq (by have := HZL.out; omega) HZ64.out F (by omega))
  obtain ⟨TA, hTA⟩ : ∃ T, (Mc.new p xs F).run p = T := ⟨_, rfl⟩
  obtain ⟨TB, hTB⟩ : ∃ T, (Mc.new p zs F).run p = T := ⟨_, rfl⟩
  obtain ⟨gk, gt, gm, gp, gv, hgin⟩ : ∃ gk gt gm gp gv, TB.fin.getD ⟨0, 0, 0, 0, 0⟩ = ⟨gk, gt, gm, gp, gv⟩ := ⟨_, _, _, _, _, rfl⟩
  have HROOM : Hid (TA.out.length ≤ 1000000) := by
   have h := ((Mc.Ok.new HVF.out (inp := xs) (fuel := F) HIN2.out hF2).run_ok HVF.out).room
   rw [hTA] at h
   show _ ≤ _
   omega
  rw [hTA] at HR1 hfin hmore
  rw [hTB] at HR2 hmore
  have HFA := Lib.hid hfin
  have HFB := Lib.hid hgin
  have HNE := Lib.hid hmore
  have HEND := Lib.hid hend
  clear hTA hTB hfin hmore hend hgin hF2
  go_upto_region 6 with fail
  go_wp2_with fail
  refine HR1.out.mono ?_
  rintro e w4 ⟨qa, va, he, hoa, hu4⟩
  unfold outcells at he
  rw [HFA.out] at he
  have he2 : e = .returned (.tuple #[.agg #[.int .i64 fk, .int .i64 ft, .int .i64 fm, .int .i64 fp, .int .i64 fv, .slice qa TA.out.length va], .nilIface]) := he
  subst he2
  clear he
  have hA5 := (Upd.refl [] w4).alloc (.cells #[.int .i64 fk, .int .i64 ft, .int .i64 fm, .int .i64 fp, .int .i64 fv, .slice qa TA.out.length va] 37)
  have HO5 := Lib.hid (heap_alloc_new w4 (.cells #[.int .i64 fk, .int .i64 ft, .int .i64 fm, .int .i64 fp, .int .i64 fv, .slice qa TA.out.length va] 37))
  obtain ⟨ba, hba, _⟩ := hoa.ints
  have HIA := Lib.hid (hba.upd hA5 (by simp))
  have HU35 := Lib.hid (hu4.trans hA5)
  have HB5 := Lib.hid ((hu4.trans hA5).heap HB3.out (by simp))
  clear hoa hu4 hA5 hba HR1
  go_upto_region 7 with fail
  generalize w4.alloc (.cells #[.int .i64 fk, .int .i64 ft, .int .i64 fm, .int .i64 fp, .int .i64 fv, .slice qa TA.out.length va] 37) = w5 at HO5 HIA HU35 HB5 ⊢
  obtain ⟨ab, hab⟩ : ∃ ab, w4.heap.size = ab := ⟨_, rfl⟩
  rw [hab] at HO5 ⊢
  clear hab
  obtain ⟨i0, hi, hz0, hz1, hz2⟩ := info_parts Tryz.infoLong
  have HI := Lib.hid hi
  have HZ0 := Lib.hid hz0
  have HZ1 := Lib.hid hz1
  have HZ2 := Lib.hid hz2
  clear hi hz0 hz1 hz2
  have HLW := Lib.hid (longsW ip ic xs w5 (by omega) (HL3.out.upd HU35.out (.inr (by simp))).wide)
  go_wp2_with fail
  refine HLW.out.mono ?_
  rintro e w6 ⟨v6, rfl, hrow, hu6⟩
  have hsrc := (HJ3.out.upd (HU35.out.trans hu6) (.inr (by simp))).src2
  have hsz6 := hu6.size
  have HROW := Lib.hid hrow
  have HU6 := Lib.hid hu6
  clear hu6
  go_wp2_with (at_builtin; refine stop_here ?_)
  refine Hid.mk ?_
  refine (wpList_append_src rfl _ _ 26 rfl w5.heap.size 2 i0 (.int .i64 0) 1 8 Tryz.underlying26 HI.out HZ0.out HZ1.out HZ2.out rfl (by decide) _ _ _ rfl hrow _ ys.length (ys.map (Value.int .i64)) rfl hsrc (by simp) (by intro u hu; simp at hu; obtain ⟨a, _, rfl⟩ := hu; rfl) (by unfold maxLen; omega) (by omega) hsz6 ?_)
  intro v7 w7 hown7 hgr7 _
  have HU7 : Hid (Upd [] w5 w7) := HU6.out.grown hgr7 (fun q hq => .inr (HROW.out.lt q hq).1)
  have hown8 : OwnI w7 w5.heap.size 2 v7 zs := by
   rw [← HZS.out]
   unfold OwnI
   rw [List.length_append, List.map_append]
   exact hown7
  obtain ⟨b7, hl7, _⟩ := hown8.lng
  obtain ⟨q7, c7, rfl, hq7⟩ : ∃ q c, v7 = .slice q zs.length c ∧ (q = none → c = 0) := by
   rcases hown8.form with ⟨h1, h2⟩ | ⟨g, c, h1, _⟩
   ·exact ⟨none, 0, by rw [h1, h2]; rfl, fun _ => rfl⟩
   ·exact ⟨_, c, h1, fun h => nomatch h⟩
  have HRB := Lib.hid (HR2.out w7 (HU35.out.trans HU7.out) q7 c7 b7 0 hl7 hq7)
  clear hrow hsrc hsz6 hown7 hgr7 hown8 hl7 hq7 HR2 HROW HU6
  go_wp2_with fail
  refine HRB.out.mono ?_
  rintro e w8 ⟨qb, vb, he, hob, hu8⟩
  unfold outcells at he
  rw [HFB.out] at he
  have he2 : e = .returned (.tuple #[.agg #[.int .i64 gk, .int .i64 gt, .int .i64 gm, .int .i64 gp, .int .i64 gv, .slice qb TB.out.length vb], .nilIface]) := he
  subst he2
  clear he
  have hA9 := (Upd.refl [] w8).alloc (.cells #[.int .i64 gk, .int .i64 gt, .int .i64 gm, .int .i64 gp, .int .i64 gv, .slice qb TB.out.length vb] 37)
  have HO9 := Lib.hid (heap_alloc_new w8 (.cells #[.int .i64 gk, .int .i64 gt, .int .i64 gm, .int .i64 gp, .int .i64 gv, .slice qb TB.out.length vb] 37))
  obtain ⟨bb, hbb, _⟩ := hob.ints
  have HIB9 := Lib.hid (hbb.upd hA9 (by simp))
  have h59 := HU7.out.trans (hu8.trans hA9)
  have HIA9 := Lib.hid (HIA.out.upd h59 (by simp))
  have HU9 := Lib.hid ((HU3.out.trans HU35.out).trans h59)
  have HU39 := Lib.hid (HU35.out.trans h59)
  have HOA9 := Lib.hid (h59.heap HO5.out (by simp))
  have HB9 := Lib.hid (h59.heap HB5.out (by simp))
  clear hob hu8 hA9 hbb HRB HIA HU35 HB5 HO5 HU7 h59
  go_upto_region 8 with fail
  generalize w8.alloc (.cells #[.int .i64 gk, .int .i64 gt, .int .i64 gm, .int .i64 gp, .int .i64 gv, .slice qb TB.out.length vb] 37) = w9 at HO9 HIB9 HIA9 HU9 HU39 HOA9 HB9 ⊢
  obtain ⟨bb2, hab⟩ : ∃ ab, w8.heap.size = ab := ⟨_, rfl⟩
  rw [hab] at HO9 ⊢
  clear hab
  have HSO : Hid (ft ≠ 6 → Calls Tryz.prog 17 #[.agg #[.int .i64 fk, .int .i64 ft, .int .i64 fm, .int .i64 fp, .int .i64 fv, .slice qa TA.out.length va], .agg #[.int .i64 gk, .int .i64 gt, .int .i64 gm, .int .i64 gp, .int .i64 gv, .slice qb TB.out.length vb]] w9 fun e w' => e = .returned (.bool true) ∧ Upd [] w9 w') := fun hne => by
   obtain ⟨e1, e2⟩ := HNE.out hne
   rw [HFB.out] at e1
   injection e1 with q1 q2 q3 q4 q5
   have h := souts_any HIA9.out HIB9.out HROOM.out fk ft fm fp fv gk gt gm gp gv
   rw [decide_eq_true (p := fk = gk ∧ ft = gt ∧ fm = gm ∧ fp = gp ∧ fv = gv ∧ TA.out = TB.out) ⟨q1.symm, q2.symm, q3.symm, q4.symm, q5.symm, e2.symm⟩] at h
   exact h
  rcases HEND.out with ⟨h1, h2, h3, h4⟩ | ⟨m', q', h1, h2, hm', hq', hseen, hkind⟩
  ·subst h1 h2 h3 h4
   have HSC := Lib.hid (HSO.out (by omega))
   have a0 : w9.cell? ⟨ab, 0, none⟩ = some (.int .i64 1) := by rw [cell_of HOA9.out]; rfl
   have a1 : w9.cell? ⟨ab, 1, none⟩ = some (.int .i64 0) := by rw [cell_of HOA9.out]; rfl
   have a2 : w9.cell? ⟨ab, 2, none⟩ = some (.int .i64 0) := by rw [cell_of HOA9.out]; rfl
   have a3 : w9.cell? ⟨ab, 3, none⟩ = some (.int .i64 0) := by rw [cell_of HOA9.out]; rfl
   have a4 : w9.cell? ⟨ab, 4, none⟩ = some (.int .i64 fv) := by rw [cell_of HOA9.out]; rfl
   have a5 : w9.cell? ⟨ab, 5, none⟩ = some (.slice qa TA.out.length va) := by rw [cell_of HOA9.out]; rfl
   have b0 : w9.cell? ⟨bb2, 0, none⟩ = some (.int .i64 gk) := by rw [cell_of HO9.out]; rfl
   have b1 : w9.cell? ⟨bb2, 1, none⟩ = some (.int .i64 gt) := by rw [cell_of HO9.out]; rfl
   have b2 : w9.cell? ⟨bb2, 2, none⟩ = some (.int .i64 gm) := by rw [cell_of HO9.out]; rfl
   have b3 : w9.cell? ⟨bb2, 3, none⟩ = some (.int .i64 gp) := by rw [cell_of HO9.out]; rfl
   have b4 : w9.cell? ⟨bb2, 4, none⟩ = some (.int .i64 gv) := by rw [cell_of HO9.out]; rfl
   have b5 : w9.cell? ⟨bb2, 5, none⟩ = some (.slice qb TB.out.length vb) := by rw [cell_of HO9.out]; rfl
   go_wp2_with fail
   refine HSC.out.mono ?_
   rintro e w10 ⟨rfl, hu10⟩
   have HO10 := Lib.hid (hu10.heap HOA9.out (by simp))
   clear a0 a1 a2 a3 a4 a5 b0 b1 b2 b3 b4 b5
   have a0 : w10.cell? ⟨ab, 0, none⟩ = some (.int .i64 1) := by rw [cell_of HO10.out]; rfl
   have a1 : w10.cell? ⟨ab, 1, none⟩ = some (.int .i64 0) := by rw [cell_of HO10.out]; rfl
   have a2 : w10.cell? ⟨ab, 2, none⟩ = some (.int .i64 0) := by rw [cell_of HO10.out]; rfl
   have a3 : w10.cell? ⟨ab, 3, none⟩ = some (.int .i64 0) := by rw [cell_of HO10.out]; rfl
   go_wp2_with fail
   go_ret
   exact ⟨rfl, HU9.out.trans hu10⟩
  ·subst h1 h2
   have HKD := Lib.hid hkind
   have HSEEN := Lib.hid hseen
   have hk1 : (fk == 1) = false := by
    rcases hkind with ⟨h, _⟩ | ⟨h, _⟩ <;> rw [h] <;> rfl
   clear hkind hseen HEND
   go_upto_region 10 with fail
   by_cases h6 : ft = 6
   case' pos =>
    subst h6
    obtain ⟨w10, hw10, hu10⟩ : ∃ w10, w9 = w10 ∧ Upd [] w9 w10 := ⟨w9, rfl, Upd.refl _ _⟩
    have HU10 := Lib.hid hu10
    rw [hw10]
    clear hw10 hu10
    have a1 : w10.cell? ⟨ab, 1, none⟩ = some (.int .i64 6) := by rw [cell_of (HU10.out.heap HOA9.out (by simp))]; rfl
   case' neg =>
    have HSC := Lib.hid (HSO.out h6)
    have hb6 : (ft == 6) = false := by simpa using h6
    have a0 : w9.cell? ⟨ab, 0, none⟩ = some (.int .i64 fk) := by rw [cell_of HOA9.out]; rfl
    have a1 : w9.cell? ⟨ab, 1, none⟩ = some (.int .i64 ft) := by rw [cell_of HOA9.out]; rfl
    have a2 : w9.cell? ⟨ab, 2, none⟩ = some (.int .i64 m') := by rw [cell_of HOA9.out]; rfl
    have a3 : w9.cell? ⟨ab, 3, none⟩ = some (.int .i64 q') := by rw [cell_of HOA9.out]; rfl
    have a4 : w9.cell? ⟨ab, 4, none⟩ = some (.int .i64 fv) := by rw [cell_of HOA9.out]; rfl
    have a5 : w9.cell? ⟨ab, 5, none⟩ = some (.slice qa TA.out.length va) := by rw [cell_of HOA9.out]; rfl
    have b0 : w9.cell? ⟨bb2, 0, none⟩ = some (.int .i64 gk) := by rw [cell_of HO9.out]; rfl
    have b1 : w9.cell? ⟨bb2, 1, none⟩ = some (.int .i64 gt) := by rw [cell_of HO9.out]; rfl
    have b2 : w9.cell? ⟨bb2, 2, none⟩ = some (.int .i64 gm) := by rw [cell_of HO9.out]; rfl
    have b3 : w9.cell? ⟨bb2, 3, none⟩ = some (.int .i64 gp) := by rw [cell_of HO9.out]; rfl
    have b4 : w9.cell? ⟨bb2, 4, none⟩ = some (.int .i64 gv) := by rw [cell_of HO9.out]; rfl
    have b5 : w9.cell? ⟨bb2, 5, none⟩ = some (.slice qb TB.out.length vb) := by rw [cell_of HO9.out]; rfl
    go_wp2_with fail
    refine HSC.out.mono ?_
    rintro e w10 ⟨rfl, hu10⟩
    have HU10 := Lib.hid hu10
    clear a0 a1 a2 a3 a4 a5 b0 b1 b2 b3 b4 b5 hu10 HSC
    have a1 : w10.cell? ⟨ab, 1, none⟩ = some (.int .i64 ft) := by rw [cell_of (HU10.out.heap HOA9.out (by simp))]; rfl
   all_goals
    have hOA := HU10.out.heap HOA9.out (by simp)
    have hB := HU10.out.heap HB9.out (by simp)
    have a0 : w10.cell? ⟨ab, 0, none⟩ = some (.int .i64 fk) := by rw [cell_of hOA]; rfl
    have a2 : w10.cell? ⟨ab, 2, none⟩ = some (.int .i64 m') := by rw [cell_of hOA]; rfl
    have a3 : w10.cell? ⟨ab, 3, none⟩ = some (.int .i64 q') := by rw [cell_of hOA]; rfl
    have p1 : w10.cell? ⟨w.heap.size, 1, none⟩ = some (.slice ma p.ms.length mc) := by rw [cell_of hB]; rfl
    obtain ⟨ma2, mc2, hmv, _, _, hmx⟩ := HM.out.upd (HU9.out.trans HU10.out)
    injection hmv with e1 _ e3
    subst e1 e3
    obtain ⟨b, o, rfl, _, _, _, _, cvv, hc3, cp2, cc2, rfl, _, _, hcx⟩ := hmx m' hm'
    obtain ⟨b2, o2, rfl, _, hins⟩ := hcx q' hq'
    obtain ⟨x0, _⟩ := hins
    obtain ⟨xop, hxop⟩ : ∃ xop, (p.at_ m' q').op = xop := ⟨_, rfl⟩
    have HX := Lib.hid hxop
    have hxop2 : ((p.ms.getD m' default).code.getD q' default).op = xop := hxop
    rw [hxop2] at x0
    clear hxop hxop2 hmx hcx hOA hB
    obtain ⟨cl, hcl⟩ : ∃ cl, (p.ms.getD m' default).code.length = cl := ⟨_, rfl⟩
    rw [hcl] at hc3 hq'
    have HCL := Lib.hid hcl
    clear hcl
    have d1 : decide ((m' : Int) < 0) = false := decide_eq_false (by omega)
    have d2 : decide ((p.ms.length : Int) ≤ (m' : Int)) = false := decide_eq_false (by omega)
    have d2n : decide (p.ms.length ≤ m') = false := decide_eq_false (by omega)
    have d3 : decide ((q' : Int) < 0) = false := decide_eq_false (by omega)
    have d4 : decide ((cl : Int) ≤ (q' : Int)) = false := decide_eq_false (by omega)
    have d4n : decide (cl ≤ q') = false := decide_eq_false (by omega)
    go_upto_region 14 with fail
    go_quiet (fail)
    go_upto_region 16 with fail
    go_quiet (fail)
    have hcode : (p.ms.getD m' default).code.length ≤ 1000 := by
     have h1 := HVF.out.ok.meth m' hm'
     unfold headCode at h1
     split at h1
     ·cases h1
     ·omega
    have HAT : Hid (atV (ss.getD m' default) (p.ms.getD m' default).code.length (q' : Int) = .tuple #[.string (bs ((ss.getD m' default).stk.getD q' [])), .bool true]) := by
     show _ = _
     unfold atV
     rw [Int.toNat_natCast, if_pos ⟨by omega, by rw [HCL.out]; omega, HSEEN.out⟩]
    have HI10 := Lib.hid (HINF.out.upd (HU39.out.trans HU10.out))
    have HOA10 := Lib.hid (HU10.out.heap HOA9.out (by simp))
    clear d1 d2 d2n d3 d4 d4n x0 hc3 p1
    go_wp2_with fail
    refine (stack_in2 ib p ss 0 m' q' _ (by first | exact HI10.out | exact HI10.out.upd (Upd.refl [] _).drew | exact HI10.out.upd ((Upd.refl [] _).drewN _)) HVF.out.look.len hm' hcode (by omega) (by omega)).mono ?_
    rintro e w11 ⟨he, _, hu11, _⟩
    rw [HAT.out] at he
    subst he
    have HU11 : Hid (Upd [ib] w10 w11) := by first | exact hu11 | exact ((Upd.refl _ _).drew).trans hu11 | exact ((Upd.refl _ _).drewN _).trans hu11
    have HUE : Hid (Upd [] w w11) := (HU9.out.trans HU10.out).trans' HU11.out (fun i hi hl => by rw [List.mem_singleton] at hi; have := HIB.out; omega)
    have hne : ab ≠ ib := by
     obtain ⟨_, _, _, hbx, _⟩ := HI10.out
     rintro rfl
     exact absurd (typ_ne HOA10.out hbx) (by decide)
    have hOA := HU11.out.heap HOA10.out (by simpa using hne)
    clear a0 a1 a2 a3 hu11 HI10 HOA10 hne
    have a0 : w11.cell? ⟨ab, 0, none⟩ = some (.int .i64 fk) := by rw [cell_of hOA]; rfl
   ·have a1 : w11.cell? ⟨ab, 1, none⟩ = some (.int .i64 ft) := by rw [cell_of hOA]; rfl
    have hkd := HKD.out
    rw [HX.out] at hkd
    unfold TrapOk at hkd
    clear hOA
    have h6 := hb6
    rcases hkd with ⟨rfl, rfl, rfl | rfl | rfl⟩ | ⟨rfl, ⟨rfl, rfl | rfl⟩ | ⟨rfl, rfl⟩ | ⟨rfl, rfl⟩ | ⟨rfl, rfl | rfl⟩ | ⟨rfl | rfl, rfl | rfl | rfl | rfl | rfl⟩⟩
    all_goals first | (exfalso; revert h6; decide) | (clear h6 hb6 hk1; as_aux_lemma => go_wp2_with fail; go_ret; exact ⟨rfl, HUE.out⟩)
   ·have a1 : w11.cell? ⟨ab, 1, none⟩ = some (.int .i64 6) := by rw [cell_of hOA]; rfl
    rcases HKD.out with ⟨_, h, _⟩ | ⟨rfl, h⟩
    ·omega
    rw [HX.out] at h
    have h34 : xop = 34 := by
     unfold TrapOk at h
     omega
    subst h34
    clear hOA h
    go_wp2_with fail
    go_ret
    exact ⟨rfl, HUE.out⟩
end Go.Proofs.YtojobkhidlfeoaaGreatDoor
