/- GcOwn, plain: one object, and what is no object. overdriveref.Ints: a copy. Two rows of integers that are the same, wherever they begin. GcOwn: the walk. -/
import Derived.Test.YtneeljhjfmcdoaaDoorMake
import Derived.Test.YtneeljhjfmcdoaaDoorSame
import Derived.Deep.QuietTactic
import Derived.BigQuiet
import Derived.Test.YtneeljhjfmcdoaaDoorFrame
/-! GcOwn, plain: one object, and what is no object. -/
namespace Go.Proofs.YtneeljhjfmcdoaaDoor

def O1 (n : Int) : Hp := R1.put 1 0 n
theorem o0_facts : R1.is 1 = true ∧ R1.num 1 = 2 ∧ R1.refB 1 0 = false ∧ R1.inY 1 = true := by decide +kernel
theorem o0_y : R1.y = ⟨0, 20, 4⟩ ∧ R1.h0 = ⟨20, 110, 20⟩ ∧ R1.h1 = ⟨110, 200, 110⟩ ∧ R1.now = 0 := ⟨rfl, rfl, rfl, rfl⟩
theorem o0_may (n : Int) : R1.mayRaw 1 0 n = true := by
  obtain ⟨h1, h2, h3, _⟩ := o0_facts
  unfold Hp.mayRaw
  rw [h1, h2, h3]
  rfl
theorem o0_only {q : Int} (h : R1.is q = true) : q = 1 := by
  unfold Hp.is at h
  rw [Bool.and_eq_true, decide_eq_true_eq] at h
  have hb : ∀ x : Nat, x < 256 → bhas R1.bg x = true → x = 0 := by decide +kernel
  have hl : R1.bg.length = 4 := rfl
  have := bhas_lt _ _ h.2
  have := hb _ (by omega) h.2
  omega

section
variable {n : Int}
theorem o1_y : (O1 n).y = ⟨0, 20, 4⟩ ∧ (O1 n).h0 = ⟨20, 110, 20⟩ ∧ (O1 n).h1 = ⟨110, 200, 110⟩ ∧ (O1 n).now = 0 := by
  unfold O1
  rw [put_y, put_h0, put_h1, put_now]
  exact o0_y
theorem o1_is (q : Int) : (O1 n).is q = R1.is q := put_is _ _ _ _ _
theorem o1_oldK : (O1 n).oldK = 1 := by unfold Hp.oldK; rw [o1_y.2.2.2]; rfl
theorem o1_facts (hS : R1.Ok) : (O1 n).is 1 = true ∧ (O1 n).num 1 = 2 ∧ (O1 n).refB 1 0 = false ∧ (O1 n).inY 1 = true ∧ (O1 n).get 1 0 = n := by
  obtain ⟨h1, h2, h3, h4⟩ := o0_facts
  have hm := o0_may n
  refine ⟨by rw [o1_is]; exact h1, ?_, ?_, ?_, ?_⟩
  · rw [← h2]; exact (put_cls hS hm 1 h1).2
  · rw [← h3]; exact put_refB hS hm 1 0
  · rw [← h4]; exact put_inY _ _ _ _ _
  · have := put_get hS hm 1 0 h1 (by omega) (by omega)
    rw [if_pos ⟨rfl, rfl⟩] at this
    exact this
/-- A heap with one young object, and what it holds. -/
structure One (S : Hp) (n : Int) : Prop where
  is1 : S.is 1 = true
  num : S.num 1 = 2
  ref : S.refB 1 0 = false
  inY : S.inY 1 = true
  get : S.get 1 0 = n
  only : ∀ q, S.is q = true → q = 1
  y : S.y = ⟨0, 20, 4⟩
  h0 : S.h0 = ⟨20, 110, 20⟩
  h1 : S.h1 = ⟨110, 200, 110⟩
  oldK : S.oldK = 1
theorem o1_one (hS : R1.Ok) : One (O1 n) n :=
  ⟨(o1_facts hS).1, (o1_facts hS).2.1, (o1_facts hS).2.2.1, (o1_facts hS).2.2.2.1, (o1_facts hS).2.2.2.2, fun q hq => o0_only (by rw [← o1_is (n := n)]; exact hq), o1_y.1, o1_y.2.1, o1_y.2.2.1, o1_oldK⟩
end

section
variable {S : Hp} {n : Int}
theorem o1_room (hS : One S n) (hO : S.Ok) (all : Bool) (rs : List Int) : S.asks all rs ≤ S.gives all := by
  have y := hS.y; have h0 := hS.h0; have h1 := hS.h1; have ho1 := hS.oldK
  unfold Hp.asks Hp.gives
  rw [ho1]
  cases all with
  | false =>
    show S.y.top - S.y.fr ≤ S.h0.to - S.h0.top
    rw [y, h0]; decide
  | true =>
    show sumW S (S.reach rs) ≤ S.h1.to - S.h1.fr
    rw [h1]
    have hall : ∀ a ∈ S.reach rs, a = 1 := reach_all (P := fun a => a = 1) (fun r _ hi => hS.only _ hi) (fun a _ j _ _ hi => hS.only _ hi)
    have hnd := (reach_inN hO rs).1
    generalize S.reach rs = l at hall hnd
    have hw : S.wd 1 = 4 := by unfold Hp.wd; rw [hS.num]; rfl
    match l, hall, hnd with
    | [], _, _ => simp [sumW]
    | [a], hall, _ =>
      obtain rfl := hall a (by simp)
      simp only [sumW, hw]; omega
    | a :: b :: t, hall, hnd =>
      have e1 := hall a (by simp)
      have e2 := hall b (by simp)
      rw [List.nodup_cons] at hnd
      exact absurd (by rw [e1, e2]; simp) hnd.1

theorem o1_done (hS : One S n) {all : Bool} {rs : List Int} {sc : Int → Nat → Bool} {M : Mv} {bg mr : List Nat} (hd : Done S all rs sc M bg) (h1 : (1 : Int) ∈ rs) :
    (∀ v, v ≠ 1 → fwL M.mv v = v) ∧ ((S.cx all).after M bg mr).is 1 = false ∧ ((S.cx all).after M bg mr).hasV (fwL M.mv 1) 0 = true ∧ ((S.cx all).after M bg mr).getV (fwL M.mv 1) 0 = n ∧ ((S.cx all).after M bg mr).is (fwL M.mv 1) = true := by
  have f1 := hS.is1; have f2 := hS.num; have f3 := hS.ref; have f4 := hS.inY; have f5 := hS.get
  have hfrm : (S.cx all).frm 1 = true := by
    unfold Cx.frm
    show (S.is 1 && (all || S.inY 1)) = true
    rw [f1, f4]; cases all <;> rfl
  have hmem := hd.roots 1 h1 hfrm
  have hin := fwL_some hmem
  have hi : M.Img (S.cx all) 1 (fwL M.mv 1) := .inl hin
  have hg := after_get (mr := mr) hd.fin hi 0 (by show (0 : Int) < S.num 1; omega)
  have hh := after_head (mr := mr) hd.fin hi
  have his := (after_is (mr := mr) hd.fin (fwL M.mv 1)).2 ⟨1, hi⟩
  have e2 : ((S.cx all).after M bg mr).num (fwL M.mv 1) = 2 := hh.2.trans f2
  have eh : ((S.cx all).after M bg mr).hasV (fwL M.mv 1) 0 = true := by unfold Hp.hasV; rw [his, e2]; rfl
  refine ⟨fun v hv => fwL_not (fun hm => ?_), ?_, eh, ?_, his⟩
  · obtain ⟨p, hp, e⟩ := List.mem_map.1 hm
    have := (hd.fin.m.frm p.1 p.2 hp).1
    have := hS.only _ (Cx.is this)
    omega
  · cases hq : ((S.cx all).after M bg mr).is 1 with
    | false => rfl
    | true =>
      obtain ⟨a, ha⟩ := (after_is (mr := mr) hd.fin 1).1 hq
      rcases ha with ha | ⟨_, h2, rfl⟩
      · have hb := (hd.fin.m.bd a 1 ha).1
        have ht := tk_cases hd.fin
        have h0 := hS.h0; have h1 := hS.h1
        have e3 : (S.cx all).S = S := rfl
        unfold Cx.T0 at hb
        rw [e3] at hb
        rcases ht with e | e
        · rw [e, show S.sp 1 = S.h0 from rfl, h0] at hb
          exact absurd hb (by decide)
        · rw [e, show S.sp 2 = S.h1 from rfl, h1] at hb
          exact absurd hb (by decide)
      · rw [hfrm] at h2; cases h2
  · unfold Hp.getV
    rw [eh, if_pos rfl]
    have e4 : ((S.cx all).S).refB 1 0 = false := f3
    have e5 : ((S.cx all).S).get 1 0 = n := f5
    have hg' : ((S.cx all).after M bg mr).get (fwL M.mv 1) ((0 : Nat) : Int) = if (sc (fwL M.mv 1) 0 && ((S.cx all).S).refB 1 ((0 : Nat) : Int)) = true then fwL M.mv (((S.cx all).S).get 1 ((0 : Nat) : Int)) else ((S.cx all).S).get 1 ((0 : Nat) : Int) := hg
    have e0 : ((0 : Nat) : Int) = 0 := by omega
    rw [e0] at hg'
    rw [hg', e4, e5, Bool.and_false, if_neg (by simp)]
end
end Go.Proofs.YtneeljhjfmcdoaaDoor

/-! overdriveref.Ints: a copy. -/
namespace Go.Proofs.YtneeljhjfmcdoaaDoor
open Go.RowKit

set_option maxRecDepth 100000 in
set_option maxHeartbeats 4000000 in
theorem rints_any (p : Option Addr) (cap rb : Nat) (xs : List Int) (w : World) (hn : xs.length ≤ 100000) (hp : xs = [] ∨ p = some ⟨rb, 0, none⟩) (hr : ∀ i, i < xs.length → w.cell? ⟨rb, i, none⟩ = some (.int .i64 (xs.getD i 0))) :
    Calls Tryd.prog 13 #[.slice p xs.length cap] w fun e w' => ∃ u, e = .returned u ∧ OwnI w' w.heap.size 3 u xs ∧ Upd [] w w' := by
  obtain ⟨i0, hi, hz0, hz1, hz2⟩ := info_parts Tryd.infoInt
  have HI := Lib.hid hi
  have HZ0 := Lib.hid hz0
  have HZ1 := Lib.hid hz1
  have HZ2 := Lib.hid hz2
  have HP := Lib.hid hp
  have HR := Lib.hid hr
  have hmk := make_ints w xs.length xs.length rfl (by omega)
  have HU := Lib.hid ((Upd.refl [] w).alloc (.cells (icells (List.replicate xs.length 0)) 3))
  have hO : OwnI (w.alloc (.cells (icells (List.replicate xs.length 0)) 3)) w.heap.size 3 (.slice (some ⟨w.heap.size, 0, none⟩) 0 xs.length) [] := made_row w w.heap.size xs.length (Nat.le_refl _) (by omega)
  have HO := Lib.hid hO
  clear hi hz0 hz1 hz2 hp hr hO
  go_enter Tryd.func13, Tryd.ntmps13
  go_wp2_with fail
  generalize w.alloc (.cells (icells (List.replicate xs.length 0)) 3) = w1 at HU HO ⊢
  go_loopw [3, 4] (fun uv iv wr => ∃ i : Nat, i ≤ xs.length ∧ iv = .int .i64 i ∧ Hid (OwnI wr w.heap.size 3 uv (xs.take i)) ∧ Hid (Upd [] w wr)) (fun _ iv _ => xs.length - (intOf iv).toNat)
  case atStart => exact ⟨0, by omega, rfl, HO.out, HU.out⟩
  case round =>
    obtain ⟨i, hi, rfl, HO, HV⟩ := hrel
    obtain ⟨wo, rfl⟩ : ∃ wo : World, wo = wr := ⟨_, rfl⟩
    have hlen : (xs.take i).length = i := by rw [List.length_take]; omega
    obtain ⟨p2, c2, rfl⟩ := ownI_shape HO.out
    by_cases hlt : i < xs.length
    · have e1 : decide ((i : Int) < (xs.length : Int)) = true := decide_eq_true (by omega)
      obtain rfl : p = some ⟨rb, 0, none⟩ := by
        rcases HP.out with h | h
        · rw [h] at hlt; cases hlt
        · exact h
      have hc := HV.out.cell (HR.out i hlt) (by simp)
      have HS : Hid (xs.take (i + 1) = xs.take i ++ [xs.getD i 0]) := by
        show _ = _
        rw [List.take_succ_eq_append_getElem hlt, List.getD_eq_getElem?_getD, List.getElem?_eq_getElem hlt]; rfl
      generalize xs.getD i 0 = x at hc HS
      generalize xs.take i = ys at HO HS hlen ⊢
      subst hlen
      go_wp2_with (at_builtin; refine stop_here ?_)
      refine Hid.mk ?_
      have hcn := cell_of (heap_alloc_new wo (.cells #[.int .i64 x] 3))
      have hsz := HV.out.size
      refine (wpList_append_own _ rfl _ _ 22 rfl w.heap.size 3 i0 (.int .i64 0) 1 8 Tryd.underlying22 HI.out HZ0.out HZ1.out HZ2.out rfl (by decide) _ _ _ rfl (HO.out.alloc (.cells #[.int .i64 x] 3)) ⟨wo.heap.size, 0, none⟩ 1 1 [.int .i64 x] rfl rfl ?c1 ?c2 ?c3 ?c4 ?c5 ?c6)
      case c1 =>
        intro jj uu hjj
        rw [Addr.add_lit, Nat.zero_add, hcn]
        simpa using hjj
      case c2 => simp [Value.oneCell']
      case c3 => unfold maxLen; omega
      case c4 => omega
      case c5 => simp; omega
      case c6 =>
        intro v' w6 hown hgr _
        have HU6 := Lib.hid ((HV.out.alloc (.cells #[.int .i64 x] 3)).grown hgr (fun q hq => .inr (HO.out.lt q hq).1))
        have hO6 := OwnI.snoc hown
        rw [← HS.out] at hO6
        have HO6 := Lib.hid hO6
        obtain ⟨g', cap', rfl⟩ := ownsRow_succ hown
        clear hown hgr hO6 hcn
        go_wp2_with fail
        go_roundw
        case rel => exact ⟨ys.length + 1, by omega, by go_num, HO6, HU6⟩
        case measure => simp [intOf]; omega
    · obtain rfl : i = xs.length := by omega
      rw [List.take_length] at HO
      have e1 : decide ((xs.length : Int) < (xs.length : Int)) = false := decide_eq_false (by omega)
      rw [hlen]
      go_wp2_with fail
      go_ret
      exact ⟨_, rfl, HO.out, HV.out⟩
end Go.Proofs.YtneeljhjfmcdoaaDoor

/-! Two rows of integers that are the same, wherever they begin. -/
namespace Go.Proofs.YtneeljhjfmcdoaaDoor
open Go.RowKit

theorem drewN_two (w : World) (a b : Nat) : (w.drewN a).drewN b = w.drewN (a + b) := by
  unfold World.drewN
  simp [Nat.add_assoc]

set_option maxHeartbeats 800000 in
theorem sameq (pa pb : Option Addr) (a b oa ob ca cb n : Nat) (x : Nat → Int) (w : World) (hpa : n = 0 ∨ pa = some ⟨a, oa, none⟩) (hpb : n = 0 ∨ pb = some ⟨b, ob, none⟩)
    (ha : ∀ i, i < n → w.cell? ⟨a, oa + i, none⟩ = some (.int .i64 (x i))) (hb : ∀ i, i < n → w.cell? ⟨b, ob + i, none⟩ = some (.int .i64 (x i))) (hn : n ≤ 1000000) :
    Calls Tryd.prog 16 #[.slice pa n ca, .slice pb n cb] w fun e w' => e = .returned (.bool true) ∧ ∃ k, w' = w.drewN k := by
  have HA := Lib.hid ha
  have HB := Lib.hid hb
  have HPA := Lib.hid hpa
  have HPB := Lib.hid hpb
  clear ha hb hpa hpb
  go_enter Tryd.func16, Tryd.ntmps16
  go_wp2_with fail
  go_loopw [5] (fun i wr => ∃ k : Nat, k ≤ n ∧ i = .int .i64 k ∧ ∃ m, wr = w.drewN m) (fun i _ => n - (intOf i).toNat)
  case atStart => exact ⟨0, by omega, rfl, 0, rfl⟩
  case round =>
    obtain ⟨k, hk, rfl, m, hm⟩ := hrel
    have hu := (Upd.refl [] w).drewN m
    rw [← hm] at hu
    have HM := Lib.hid hm
    clear hm
    obtain ⟨wo, rfl⟩ : ∃ wo : World, wo = wr := ⟨_, rfl⟩
    by_cases hlt : k < n
    · have e1 : decide ((k : Int) < (n : Int)) = true := decide_eq_true (by omega)
      obtain rfl : pa = some ⟨a, oa, none⟩ := by
        rcases HPA.out with h | h
        · omega
        · exact h
      obtain rfl : pb = some ⟨b, ob, none⟩ := by
        rcases HPB.out with h | h
        · omega
        · exact h
      have hx := hu.cell (HA.out k hlt) (by simp)
      have hy := hu.cell (HB.out k hlt) (by simp)
      generalize x k = v at hx hy
      clear hu
      go_wp2_with fail
      go_quiet (fail)
      go_wp2_with fail
      go_roundw
      case rel =>
        refine ⟨k + 1, by omega, by go_num, ?_⟩
        have hm := HM.out
        subst hm
        exact ⟨_, drewN_two w _ _⟩
      case measure => simp [intOf]; omega
    · have e1 : decide ((k : Int) < (n : Int)) = false := decide_eq_false (by omega)
      go_wp2_with fail
      go_ret
      exact ⟨rfl, m, HM.out⟩
end Go.Proofs.YtneeljhjfmcdoaaDoor

/-! GcOwn: the walk. -/
namespace Go.Proofs.YtneeljhjfmcdoaaDoor
open Go.RowKit

set_option maxRecDepth 100000 in
set_option maxHeartbeats 8000000 in
theorem ownW_any (n : Int) (vb : Value) (xs : List Int) (major : Bool) (w : World) (hb0 : -9223372036854775808 ≤ n ∧ n ≤ 9223372036854775807) (h : IntsAt w vb xs) (hT : TzAt w) :
    Calls Tryd.prog 3 #[.int .i64 n, vb, .bool major] w fun e w' => e = .returned (.bool true) ∧ Upd [] w w' := by
  obtain ⟨i0, hi, hz0, hz1, hz2⟩ := info_parts Tryd.infoInt
  have HI := Lib.hid hi
  have HZ0 := Lib.hid hz0
  have HZ1 := Lib.hid hz1
  have HZ2 := Lib.hid hz2
  clear hi hz0 hz1 hz2
  obtain ⟨a, cap, rfl, hlc, hcm, hbd, hcells⟩ := h
  unfold maxLen at hcm
  have HX : Hid (∀ i, i < xs.length → ∃ b o, a = some ⟨b, o, none⟩ ∧ w.cell? ⟨b, o + i, none⟩ = some (.int .i64 (xs.getD i 0))) := fun i hi => by
    rcases hcells with e | ⟨b, o, e, hc⟩
    · rw [e] at hi; simp at hi
    · exact ⟨b, o, e, hc i hi⟩
  have HBD := Lib.hid hbd
  have HF := Lib.hid (first12_any w hT)
  have HT := Lib.hid hT
  clear hcells hbd hT
  go_enter Tryd.func3, Tryd.ntmps3
  go_wp2_with fail
  refine HF.out.mono ?_
  rintro e wz ⟨rfl, huz⟩
  have HUZ := Lib.hid huz
  have HRA := Lib.hid (ring_any wz (HT.out.upd huz (by simp)))
  have HTZ := Lib.hid (HT.out.upd huz (by simp))
  clear huz HF
  go_wp2_with fail
  refine HRA.out.mono ?_
  rintro e w1 ⟨L, cv, mv, pa, pm, rfl, hnew⟩
  have HG := Lib.hid (hnew.gc HTZ.out)
  clear hnew HRA
  have HG1 := Lib.hid (HG.out.upd ((Upd.refl [] w1).alloc (.cells #[.slice pa 1 1, .slice pm 1 1] 28)))
  by_cases hx10 : xs.length > 10
  · have d0 : decide ((xs.length : Int) > 10) = true := by simp; omega
    go_wp2_with fail
    go_ret
    exact ⟨rfl, HUZ.out.trans HG1.out.up⟩
  · have d0 : decide ((xs.length : Int) > 10) = false := by simp; omega
    go_wp2_with fail
    generalize w1.alloc (.cells #[.slice pa 1 1, .slice pm 1 1] 28) = w2 at HG1 ⊢
    have HC := Lib.hid (gyoung HG1.out 0 0)
    rw [show (Hp.new [IR] 200 20).layR 0 0 0 = 1 from r0_lay.1, show (Hp.new [IR] 200 20).room 0 0 0 = true from r0_lay.2] at HC
    refine HC.out.mono ?_
    rintro e w3 ⟨rfl, hg, hu3⟩
    have HG2 : Hid (GcAt wz w3 L cv mv R1) := hg
    have hR1 := HG2.out.hp.ok
    clear hg HG HG1 HC hu3
    go_wp2_with fail
    have HC := Lib.hid (gput HG2.out 1 0 n (by omega) hb0)
    rw [o0_may, if_pos rfl] at HC
    refine HC.out.mono ?_
    rintro e w4 ⟨rfl, hg, _⟩
    have HG4 : Hid (GcAt wz w4 L cv mv (O1 n)) := hg
    have HONE := Lib.hid (o1_one (n := n) hR1)
    clear hg HG2 HC hR1
    generalize O1 n = S at HG4 HONE
    obtain ⟨m40, hm40⟩ : ∃ m : Nat, m = 40 := ⟨_, rfl⟩
    have hmk := make_ints w4 m40 40 (by omega) (by omega)
    have HG5 := Lib.hid (HG4.out.upd ((Upd.refl [] w4).alloc (.cells (icells (List.replicate m40 0)) 3)))
    have hO : OwnI (w4.alloc (.cells (icells (List.replicate m40 0)) 3)) w4.heap.size 3 (.slice (some ⟨w4.heap.size, 0, none⟩) 0 m40) [] := made_row w4 w4.heap.size m40 (Nat.le_refl _) (by omega)
    have HO := Lib.hid hO
    have HSZ := Lib.hid (World.size_alloc w4 (.cells (icells (List.replicate m40 0)) 3))
    have HLN : Hid (∀ i ∈ L.all, i < w4.heap.size) := HG4.out.hi
    have HM40 := Lib.hid hm40
    clear hO hm40
    go_wp2_with (at_builtin; refine stop_here ?_)
    refine Hid.mk ?_
    clear hmk
    generalize w4.alloc (.cells (icells (List.replicate m40 0)) 3) = w5 at HG5 HO HSZ ⊢
    have hcn := cell_of (heap_alloc_new w5 (.cells #[.int .i64 1, .int .i64 0] 3))
    have hsz5 := HSZ.out
    rw [hsz5] at hcn
    refine (wpList_append_own _ rfl _ _ 22 rfl w4.heap.size 3 i0 (.int .i64 0) 1 8 Tryd.underlying22 HI.out HZ0.out HZ1.out HZ2.out rfl (by decide) _ _ _ rfl (HO.out.alloc (.cells #[.int .i64 1, .int .i64 0] 3)) ⟨w4.heap.size + 1, 0, none⟩ 2 2 [.int .i64 1, .int .i64 0] rfl rfl ?c1 ?c2 ?c3 ?c4 ?c5 ?c6)
    case c1 =>
      intro jj uu hjj
      rw [Addr.add_lit, Nat.zero_add, hcn]
      simpa using hjj
    case c2 => simp [Value.oneCell']
    case c3 => unfold maxLen; simp
    case c4 => simp
    case c5 => simp; omega
    case c6 =>
      intro v' w6 hown hgr _
      have HU6 : Hid (Upd [w4.heap.size] w5 w6) := (((Upd.refl [w4.heap.size] w5).alloc (.cells #[.int .i64 1, .int .i64 0] 3)).grown hgr (fun q hq => .inl (by
        have hq : some w4.heap.size = some q := hq
        injection hq with hq
        simp [hq])))
      have hO6 : OwnI w6 w4.heap.size 3 v' ([1, 0] ++ xs.take 0) := by
        have h9 := hown
        simpa [OwnI] using h9
      have HO6 := Lib.hid hO6
      have hnin : w4.heap.size ∉ L.all := fun hm => by have := HLN.out _ hm; omega
      have htl := HTZ.out.lt
      have HG6 := Lib.hid (HG5.out.updT HU6.out (fun i hi => by
        simp at hi; subst hi
        have := HG4.out.up.size
        exact ⟨hnin, this, by omega⟩))
      obtain ⟨p6, c6, rfl⟩ := ownI_shape hO6
      have HU46 : Hid (Upd [] wz w6) := HG6.out.up
      have hwz : wz.heap.size ≤ w4.heap.size := HG4.out.up.size
      clear hown hgr hO6 hcn HG5 HU6 HO hnin htl
      go_wp2_with fail
      have htz := HTZ.out.lt
      go_loopw [13, 14] (fun uv iv wr => ∃ i : Nat, i ≤ xs.length ∧ iv = .int .i64 i ∧ Hid (OwnI wr w4.heap.size 3 uv ([1, 0] ++ xs.take i)) ∧ Hid (∀ x ∈ xs.take i, x ≠ 1) ∧ Hid (GcAt wz wr L cv mv S)) (fun _ iv _ => xs.length - (intOf iv).toNat)
      case atStart => exact ⟨0, by omega, rfl, HO6.out, (fun x hx => absurd hx (by simp) : ∀ x ∈ xs.take 0, x ≠ 1), HG6.out⟩
      case round =>
        clear HO6 HG6 HU46
        obtain ⟨i, hi, rfl, HO, HNE, HG⟩ := hrel
        obtain ⟨wo, rfl⟩ : ∃ wo : World, wo = wr := ⟨_, rfl⟩
        have hlen : ([1, 0] ++ xs.take i).length = i + 2 := by
          rw [List.length_append, List.length_take]
          show 2 + min i xs.length = i + 2
          omega
        obtain ⟨p8, c8, rfl⟩ := ownI_shape HO.out
        rw [hlen]
        by_cases hlt : i < xs.length
        · have e1 : decide ((i : Int) < (xs.length : Int)) = true := decide_eq_true (by omega)
          obtain ⟨bb, bo, rfl, hc⟩ := HX.out i hlt
          have hc := HG.out.up.cell (HUZ.out.cell hc (by simp)) (by simp)
          have HS : Hid (xs.take (i + 1) = xs.take i ++ [xs.getD i 0]) := by
            show _ = _
            rw [List.take_succ_eq_append_getElem hlt, List.getD_eq_getElem?_getD, List.getElem?_eq_getElem hlt]; rfl
          generalize xs.getD i 0 = x at hc HS
          by_cases hx1 : x = 1
          · have d1 : (x == 1) = true := by simpa using hx1
            go_wp2_with fail
            go_ret
            exact ⟨rfl, HUZ.out.trans HG.out.up⟩
          · have d1 : (x == 1) = false := by simpa using hx1
            have HNX : Hid (∀ y ∈ xs.take (i + 1), y ≠ 1) := fun y hy => by
              rw [HS.out] at hy
              rcases List.mem_append.1 hy with hy | hy
              · exact HNE.out y hy
              · rw [List.mem_singleton.1 hy]; exact hx1
            clear hx1
            generalize xs.take i = ys at HO HS hlen HNE
            go_wp2_with (at_builtin; refine stop_here ?_)
            refine Hid.mk ?_
            have hcn := cell_of (heap_alloc_new wo (.cells #[.int .i64 x] 3))
            have hsz := HG.out.up.size
            have hO8 := HO.out
            rw [OwnI, hlen] at hO8
            have hwo : w4.heap.size ≤ wo.heap.size := by
              rcases HO.out.form with ⟨_, h2⟩ | ⟨g, c, h1, h2, h3, h4, h5⟩
              · rw [h2] at hlen; simp at hlen
              · omega
            refine (wpList_append_own _ rfl _ _ 22 rfl w4.heap.size 3 i0 (.int .i64 0) 1 8 Tryd.underlying22 HI.out HZ0.out HZ1.out HZ2.out rfl (by decide) _ _ _ rfl (hO8.alloc (.cells #[.int .i64 x] 3)) ⟨wo.heap.size, 0, none⟩ 1 1 [.int .i64 x] rfl rfl ?c1 ?c2 ?c3 ?c4 ?c5 ?c6)
            case c1 =>
              intro jj uu hjj
              rw [Addr.add_lit, Nat.zero_add, hcn]
              simpa using hjj
            case c2 => simp [Value.oneCell']
            case c3 => unfold maxLen; omega
            case c4 => omega
            case c5 => simp; omega
            case c6 =>
              intro v' w6' hown hgr _
              have hu6 : Upd (Value.slice p8 ([1, 0] ++ ys).length c8).ownBlock.toList wo w6' := ((Upd.refl _ wo).alloc (.cells #[.int .i64 x] 3)).grown hgr (fun q hq => .inl (Option.mem_toList.2 (by rw [hlen]; exact hq)))
              have hO6 : OwnI w6' w4.heap.size 3 v' ([1, 0] ++ xs.take (i + 1)) := by
                rw [HS.out, ← List.append_assoc]
                refine OwnI.snoc ?_
                rw [hlen]
                exact hown
              have HG6 := Lib.hid (HG.out.updT hu6 (fun k hk => by
                have hk := (HO.out.lt k (Option.mem_toList.1 hk)).1
                exact ⟨fun hm => by have := HLN.out _ hm; omega, by omega, by omega⟩))
              have HO6 := Lib.hid hO6
              obtain ⟨p9, c9, rfl⟩ := ownI_shape hO6
              have hlen6 : ([1, 0] ++ xs.take (i + 1)).length = i + 3 := by
                rw [List.length_append, List.length_take]
                show 2 + min (i + 1) xs.length = i + 3
                omega
              rw [hlen6] at HO6 ⊢
              clear hown hgr hO6 hcn hO8 hu6 HO HG hlen6
              go_wp2_with fail
              go_roundw
              case rel => exact ⟨i + 1, by omega, by go_num, HO6, HNX, HG6⟩
              case measure => simp [intOf]; omega
        · obtain rfl : i = xs.length := by omega
          rw [List.take_length] at HO hlen HNE
          have e1 : decide ((xs.length : Int) < (xs.length : Int)) = false := decide_eq_false (by omega)
          have hlen2 : ([1, 0] ++ xs).length = xs.length + 2 := hlen
          obtain ⟨pr, cr, rbr, hre, hpr, hcr, hrbr, _⟩ := own_arg HO.out
          injection hre with hre1 hre2 hre3
          subst hre1 hre3
          have HRI := Lib.hid (rints_any p8 c8 rbr ([1, 0] ++ xs) wo (by omega) hpr hcr)
          rw [hlen] at HRI
          go_wp2_with fail
          refine HRI.out.mono ?_
          rintro e w9 ⟨u9, rfl, ho9, hu9⟩
          have HO9 := Lib.hid ho9
          have HG9 := Lib.hid (HG.out.upd hu9)
          have HOR := Lib.hid (HO.out.upd hu9 (by simp))
          obtain ⟨p9, c9, rfl⟩ := ownI_shape ho9
          rw [hlen]
          clear ho9 HRI HO HG
          have HCR : Hid (∀ i, i < ([1, 0] ++ xs).length → w9.cell? ⟨rbr, i, none⟩ = some (.int .i64 (([1, 0] ++ xs).getD i 0))) := fun i hi => hu9.cell (hcr i hi) (by simp)
          have HBR : Hid (∀ r ∈ [1, 0] ++ xs, -9223372036854775808 ≤ r ∧ r ≤ 9223372036854775807) := fun r hr => by
            rcases List.mem_append.1 hr with hr | hr
            · simp at hr; omega
            · exact HBD.out r hr
          have HRBN : Hid (rbr ∉ L.all) := fun hm => by have := HLN.out _ hm; omega
          clear hcr hu9
          cases major with
          | true =>
            have HMC := Lib.hid (gmajor HG9.out p8 c8 rbr ([1, 0] ++ xs) (by omega) hpr HCR.out HBR.out HRBN.out)
            rw [hlen] at HMC
            go_wp2_with fail
            refine HMC.out.mono ?_
            rintro e wa ⟨va, rfl, hend, hua⟩
            rcases hend with ⟨h9, _⟩ | ⟨_, sc, M, bg, L', ua, hd, rfl, hoa, hga, hba, _⟩
            · have := o1_room HONE.out HG9.out.hp.ok true ([1, 0] ++ xs)
              omega
            · have hdn := o1_done (mr := List.replicate ((S.A.length + 63) / 64) 0) HONE.out hd (by simp)
              have HDN := Lib.hid hdn
              have hmap : ([1, 0] ++ xs).map (fwL M.mv) = fwL M.mv 1 :: 0 :: xs := by
                have h2 : xs.map (fwL M.mv) = xs := by
                  conv => rhs; rw [← List.map_id xs]
                  exact List.map_congr_left (fun y hy => HDN.out.1 y (HNE.out y hy))
                show fwL M.mv 1 :: fwL M.mv 0 :: xs.map (fwL M.mv) = _
                rw [h2, HDN.out.1 0 (by omega)]
              rw [hmap] at hoa
              clear hd hdn hmap
              generalize (S.cx true).after M bg (List.replicate ((S.A.length + 63) / 64) 0) = S' at HDN hga
              generalize fwL M.mv 1 = b at HDN hoa
              have HGA := Lib.hid hga
              have HUA := Lib.hid hua
              have HBA := Lib.hid hba
              rcases hoa.form with ⟨_, h2⟩ | ⟨g, c, rfl, hlc2, _, _, hcel⟩
              · cases h2
              have hl7 : (b :: 0 :: xs).length = xs.length + 2 := rfl
              rw [hl7] at hlc2 hcel ⊢
              have hb1 := HDN.out.2.2.2.2
              have hcut : ∀ W, (Instr.slice 22 (.slice (some ⟨g, 0, none⟩) (xs.length + 2) c) (some (.int .i64 1)) none none).run Tryd.prog W = .ok (.slice (some ⟨g, 1, none⟩) (xs.length + 1) (c - 1)) W := fun W => by
                have := cut_lo W g (xs.length + 2) c 1 (by omega)
                rw [if_neg (by omega)] at this
                exact this
              rcases HO9.out.form with ⟨_, h2⟩ | ⟨k9, ck, h1, hck, _, _, hk9⟩
              · cases h2
              injection h1 with e7 e8 e9
              subst e7 e9
              obtain rfl : p8 = some ⟨rbr, 0, none⟩ := by
                rcases hpr with h | h
                · cases h
                · exact h
              rw [hlen] at hck
              have hcut2 : ∀ W, (Instr.slice 22 (.slice (some ⟨k9, 0, none⟩) (xs.length + 2) c9) (some (.int .i64 1)) none none).run Tryd.prog W = .ok (.slice (some ⟨k9, 1, none⟩) (xs.length + 1) (c9 - 1)) W := fun W => by
                have := cut_lo W k9 (xs.length + 2) c9 1 (by omega)
                rw [if_neg (by omega)] at this
                exact this
              have hkn : k9 ∉ L.own := HG9.out.free HO9.out k9 rfl
              have HK9 : Hid (∀ i, i < xs.length + 2 → wa.cell? ⟨k9, i, none⟩ = some (.int .i64 (([1, 0] ++ xs).getD i 0))) := fun i hi => HUA.out.cell (hk9 i (by rw [hlen]; exact hi)) hkn
              have HR9 : Hid (∀ i, i < xs.length + 2 → wa.cell? ⟨rbr, i, none⟩ = some (.int .i64 (([1, 0] ++ xs).getD i 0))) := fun i hi => HUA.out.cell (HCR.out i (by rw [hlen]; exact hi)) (fun hm => HRBN.out (HL.sub hm))
              have HL9 : Hid (∀ i, i < xs.length + 1 → wa.cell? ⟨g, 1 + i, none⟩ = some (.int .i64 ((0 :: xs).getD i 0))) := fun i hi => by
                have := hcel (1 + i) (by omega)
                rw [show 1 + i = i + 1 by omega] at this ⊢
                exact this
              have HK1 : Hid (∀ i, i < xs.length + 1 → wa.cell? ⟨k9, 1 + i, none⟩ = some (.int .i64 ((0 :: xs).getD i 0))) := fun i hi => by
                have := HK9.out (1 + i) (by omega)
                rw [show 1 + i = i + 1 by omega] at this ⊢
                exact this
              have HQ : Hid (∀ va vb m, ((va = Value.slice (some ⟨rbr, 0, none⟩) (xs.length + 2) c8 ∧ vb = Value.slice (some ⟨k9, 0, none⟩) (xs.length + 2) c9) ∨ (va = Value.slice (some ⟨g, 1, none⟩) (xs.length + 1) (c - 1) ∧ vb = Value.slice (some ⟨k9, 1, none⟩) (xs.length + 1) (c9 - 1))) →
                  Calls Tryd.prog 16 #[va, vb] (wa.drewN m) fun e w' => e = .returned (.bool true) ∧ ∃ k, w' = wa.drewN k) := fun va vb m hv => by
                have hu := (Upd.refl [] wa).drewN m
                rcases hv with ⟨rfl, rfl⟩ | ⟨rfl, rfl⟩
                · refine (sameq _ _ rbr k9 0 0 c8 c9 (xs.length + 2) (fun i => ([1, 0] ++ xs).getD i 0) _ (.inr rfl) (.inr rfl) (fun i hi => by rw [Nat.zero_add]; exact hu.cell (HR9.out i hi) (by simp)) (fun i hi => by rw [Nat.zero_add]; exact hu.cell (HK9.out i hi) (by simp)) (by omega)).mono ?_
                  rintro e w' ⟨rfl, k, rfl⟩
                  exact ⟨rfl, _, drewN_two wa _ _⟩
                · refine (sameq _ _ g k9 1 1 (c - 1) (c9 - 1) (xs.length + 1) (fun i => (0 :: xs).getD i 0) _ (.inr rfl) (.inr rfl) (fun i hi => hu.cell (HL9.out i hi) (by simp)) (fun i hi => hu.cell (HK1.out i hi) (by simp)) (by omega)).mono ?_
                  rintro e w' ⟨rfl, k, rfl⟩
                  exact ⟨rfl, _, drewN_two wa _ _⟩
              have hc0 : wa.cell? ⟨g, 0, none⟩ = some (.int .i64 b) := hcel 0 (by omega)
              have hw2 : IntKind.i64.wrap ((xs.length : Int) + 2) = (xs.length : Int) + 2 := IntWalk.i64_in _ (by omega)
              clear hk9 hcel hua hoa hga hba hpr
              go_wp2_with fail
              go_quiet ((go_at_call 16; exact HQ.out _ _ _ (by first | exact .inl ⟨rfl, rfl⟩ | exact .inr ⟨rfl, rfl⟩)))
              go_wp2_with fail
              have hbl : b ≤ 9223372036854775807 := by
                have h1 := HGA.out.hp.ok.le hb1
                have h2 := HGA.out.hp.ok.len
                omega
              clear hb1
              have HGET : Hid (∀ k, Calls Tryd.prog 17 #[.pointer (some ⟨L.hb, 0, none⟩), .int .i64 b, .int .i64 0] (wa.drewN k) fun e w' => e = .returned (.tuple #[.int .i64 n, .bool true]) ∧ wa.drewN k = w') := fun k => by
                have := get_any L' cv mv S' b 0 (wa.drewN k) (HGA.out.upd ((Upd.refl [] wa).drewN k)).hp hbl
                rw [HBA.out, HDN.out.2.2.1, HDN.out.2.2.2.1] at this
                exact this
              have HISW : Hid (∀ k, Calls Tryd.prog 18 #[.pointer (some ⟨L.hb, 0, none⟩), .int .i64 1] (wa.drewN k) fun e w' => e = .returned (.tuple #[.int .i64 0, .int .i64 0, .bool false]) ∧ wa.drewN k = w') := fun k => by
                have := is_any L' cv mv S' 1 (wa.drewN k) (HGA.out.upd ((Upd.refl [] wa).drewN k)).hp (by omega)
                rw [HBA.out, HDN.out.2.1, if_neg (by simp), if_neg (by simp)] at this
                exact this
              have hc0k : ∀ k, (wa.drewN k).cell? ⟨g, 0, none⟩ = some (.int .i64 b) := fun k => ((Upd.refl [] wa).drewN k).cell hc0 (by simp)
              refine (HGET.out _).mono ?_
              rintro e wb ⟨rfl, rfl⟩
              go_wp2_with fail
              refine (HISW.out _).mono ?_
              rintro e wb ⟨rfl, rfl⟩
              have HEND : Hid (∀ k, Upd [] w (wa.drewN k)) := fun k => (HUZ.out.trans HGA.out.up).drewN k
              go_wp2_with fail
              go_ret
              exact ⟨rfl, HEND.out _⟩
          | false =>
            have HMC := Lib.hid (gminor HG9.out p8 c8 rbr ([1, 0] ++ xs) (by omega) hpr HCR.out HBR.out HRBN.out)
            rw [hlen] at HMC
            go_wp2_with fail
            refine HMC.out.mono ?_
            rintro e wa ⟨va, rfl, hend, hua⟩
            rcases hend with ⟨h9, _⟩ | ⟨_, sc, M, bg, L', ua, hd, rfl, hoa, hga, hba, _⟩
            · have := o1_room HONE.out HG9.out.hp.ok false ([1, 0] ++ xs)
              omega
            · have hdn := o1_done (mr := List.replicate ((S.A.length + 63) / 64) 0) HONE.out hd (by simp)
              have HDN := Lib.hid hdn
              have hmap : ([1, 0] ++ xs).map (fwL M.mv) = fwL M.mv 1 :: 0 :: xs := by
                have h2 : xs.map (fwL M.mv) = xs := by
                  conv => rhs; rw [← List.map_id xs]
                  exact List.map_congr_left (fun y hy => HDN.out.1 y (HNE.out y hy))
                show fwL M.mv 1 :: fwL M.mv 0 :: xs.map (fwL M.mv) = _
                rw [h2, HDN.out.1 0 (by omega)]
              rw [hmap] at hoa
              clear hd hdn hmap
              generalize (S.cx false).after M bg (List.replicate ((S.A.length + 63) / 64) 0) = S' at HDN hga
              generalize fwL M.mv 1 = b at HDN hoa
              have HGA := Lib.hid hga
              have HUA := Lib.hid hua
              have HBA := Lib.hid hba
              rcases hoa.form with ⟨_, h2⟩ | ⟨g, c, rfl, hlc2, _, _, hcel⟩
              · cases h2
              have hl7 : (b :: 0 :: xs).length = xs.length + 2 := rfl
              rw [hl7] at hlc2 hcel ⊢
              have hb1 := HDN.out.2.2.2.2
              have hcut : ∀ W, (Instr.slice 22 (.slice (some ⟨g, 0, none⟩) (xs.length + 2) c) (some (.int .i64 1)) none none).run Tryd.prog W = .ok (.slice (some ⟨g, 1, none⟩) (xs.length + 1) (c - 1)) W := fun W => by
                have := cut_lo W g (xs.length + 2) c 1 (by omega)
                rw [if_neg (by omega)] at this
                exact this
              rcases HO9.out.form with ⟨_, h2⟩ | ⟨k9, ck, h1, hck, _, _, hk9⟩
              · cases h2
              injection h1 with e7 e8 e9
              subst e7 e9
              obtain rfl : p8 = some ⟨rbr, 0, none⟩ := by
                rcases hpr with h | h
                · cases h
                · exact h
              rw [hlen] at hck
              have hcut2 : ∀ W, (Instr.slice 22 (.slice (some ⟨k9, 0, none⟩) (xs.length + 2) c9) (some (.int .i64 1)) none none).run Tryd.prog W = .ok (.slice (some ⟨k9, 1, none⟩) (xs.length + 1) (c9 - 1)) W := fun W => by
                have := cut_lo W k9 (xs.length + 2) c9 1 (by omega)
                rw [if_neg (by omega)] at this
                exact this
              have hkn : k9 ∉ L.own := HG9.out.free HO9.out k9 rfl
              have HK9 : Hid (∀ i, i < xs.length + 2 → wa.cell? ⟨k9, i, none⟩ = some (.int .i64 (([1, 0] ++ xs).getD i 0))) := fun i hi => HUA.out.cell (hk9 i (by rw [hlen]; exact hi)) hkn
              have HR9 : Hid (∀ i, i < xs.length + 2 → wa.cell? ⟨rbr, i, none⟩ = some (.int .i64 (([1, 0] ++ xs).getD i 0))) := fun i hi => HUA.out.cell (HCR.out i (by rw [hlen]; exact hi)) (fun hm => HRBN.out (HL.sub hm))
              have HL9 : Hid (∀ i, i < xs.length + 1 → wa.cell? ⟨g, 1 + i, none⟩ = some (.int .i64 ((0 :: xs).getD i 0))) := fun i hi => by
                have := hcel (1 + i) (by omega)
                rw [show 1 + i = i + 1 by omega] at this ⊢
                exact this
              have HK1 : Hid (∀ i, i < xs.length + 1 → wa.cell? ⟨k9, 1 + i, none⟩ = some (.int .i64 ((0 :: xs).getD i 0))) := fun i hi => by
                have := HK9.out (1 + i) (by omega)
                rw [show 1 + i = i + 1 by omega] at this ⊢
                exact this
              have HQ : Hid (∀ va vb m, ((va = Value.slice (some ⟨rbr, 0, none⟩) (xs.length + 2) c8 ∧ vb = Value.slice (some ⟨k9, 0, none⟩) (xs.length + 2) c9) ∨ (va = Value.slice (some ⟨g, 1, none⟩) (xs.length + 1) (c - 1) ∧ vb = Value.slice (some ⟨k9, 1, none⟩) (xs.length + 1) (c9 - 1))) →
                  Calls Tryd.prog 16 #[va, vb] (wa.drewN m) fun e w' => e = .returned (.bool true) ∧ ∃ k, w' = wa.drewN k) := fun va vb m hv => by
                have hu := (Upd.refl [] wa).drewN m
                rcases hv with ⟨rfl, rfl⟩ | ⟨rfl, rfl⟩
                · refine (sameq _ _ rbr k9 0 0 c8 c9 (xs.length + 2) (fun i => ([1, 0] ++ xs).getD i 0) _ (.inr rfl) (.inr rfl) (fun i hi => by rw [Nat.zero_add]; exact hu.cell (HR9.out i hi) (by simp)) (fun i hi => by rw [Nat.zero_add]; exact hu.cell (HK9.out i hi) (by simp)) (by omega)).mono ?_
                  rintro e w' ⟨rfl, k, rfl⟩
                  exact ⟨rfl, _, drewN_two wa _ _⟩
                · refine (sameq _ _ g k9 1 1 (c - 1) (c9 - 1) (xs.length + 1) (fun i => (0 :: xs).getD i 0) _ (.inr rfl) (.inr rfl) (fun i hi => hu.cell (HL9.out i hi) (by simp)) (fun i hi => hu.cell (HK1.out i hi) (by simp)) (by omega)).mono ?_
                  rintro e w' ⟨rfl, k, rfl⟩
                  exact ⟨rfl, _, drewN_two wa _ _⟩
              have hc0 : wa.cell? ⟨g, 0, none⟩ = some (.int .i64 b) := hcel 0 (by omega)
              have hw2 : IntKind.i64.wrap ((xs.length : Int) + 2) = (xs.length : Int) + 2 := IntWalk.i64_in _ (by omega)
              clear hk9 hcel hua hoa hga hba hpr
              go_wp2_with fail
              go_quiet ((go_at_call 16; exact HQ.out _ _ _ (by first | exact .inl ⟨rfl, rfl⟩ | exact .inr ⟨rfl, rfl⟩)))
              go_wp2_with fail
              have hbl : b ≤ 9223372036854775807 := by
                have h1 := HGA.out.hp.ok.le hb1
                have h2 := HGA.out.hp.ok.len
                omega
              clear hb1
              have HGET : Hid (∀ k, Calls Tryd.prog 17 #[.pointer (some ⟨L.hb, 0, none⟩), .int .i64 b, .int .i64 0] (wa.drewN k) fun e w' => e = .returned (.tuple #[.int .i64 n, .bool true]) ∧ wa.drewN k = w') := fun k => by
                have := get_any L' cv mv S' b 0 (wa.drewN k) (HGA.out.upd ((Upd.refl [] wa).drewN k)).hp hbl
                rw [HBA.out, HDN.out.2.2.1, HDN.out.2.2.2.1] at this
                exact this
              have HISW : Hid (∀ k, Calls Tryd.prog 18 #[.pointer (some ⟨L.hb, 0, none⟩), .int .i64 1] (wa.drewN k) fun e w' => e = .returned (.tuple #[.int .i64 0, .int .i64 0, .bool false]) ∧ wa.drewN k = w') := fun k => by
                have := is_any L' cv mv S' 1 (wa.drewN k) (HGA.out.upd ((Upd.refl [] wa).drewN k)).hp (by omega)
                rw [HBA.out, HDN.out.2.1, if_neg (by simp), if_neg (by simp)] at this
                exact this
              have hc0k : ∀ k, (wa.drewN k).cell? ⟨g, 0, none⟩ = some (.int .i64 b) := fun k => ((Upd.refl [] wa).drewN k).cell hc0 (by simp)
              refine (HGET.out _).mono ?_
              rintro e wb ⟨rfl, rfl⟩
              go_wp2_with fail
              refine (HISW.out _).mono ?_
              rintro e wb ⟨rfl, rfl⟩
              have HEND : Hid (∀ k, Upd [] w (wa.drewN k)) := fun k => (HUZ.out.trans HGA.out.up).drewN k
              go_wp2_with fail
              go_ret
              exact ⟨rfl, HEND.out _⟩
end Go.Proofs.YtneeljhjfmcdoaaDoor
